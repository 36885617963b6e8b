/-
  No cell of these rows narrows 'for every input' (looked for: loops, veiled, ifaces, maps, wideKeys, modest, calm, conditions, laid).
  DERIVED. THE GIVEN ROWS OF THIS SEAT. 3 by the template 'for every input the law returns true; each argument reads behind the call as it read before'; 0 by the template 'total and deterministic' (their statements: YtjojclbfnnkajaaGreatTotals.lean).
  GIVEN WITH THE SEED: the statements are not yours to turn. If you find one false, say at which input.
  Laid BY PROGRAM, IN A SANDBOX (cutbox-rows.mjs): the forced cells as the released guide's own fill.sh prints them over the translation 1391b3a265352934… (all of the seat's roots in one cut). By AI agents, Wed Nov 11 2026. No macro, syntax, notation, axiom, sorry.
-/
import Derived.Test.YtjojclbfnnkajaaGreatChecked
import GoSem.Claim
import GoSem.ClaimJoined
import GoSem.ClaimMapViews
import Derived.JoinedTies
import Derived.KernelRfl
namespace Go.Proofs.YtjojclbfnnkajaaGreat
/- THE CELL 'sum', in the pinned program and in every row, IS THE sha256 OF THE DUMP (.gsa) THAT YtjojclbfnnkajaaGreatProg.lean LOADS. Nothing in Lean hashes anything: it is a label: what it is worth is what the hold of that sum in a sandbox is worth. -/
noncomputable def Tryz.pinned : Pinned := { name := "ytjojclbfnnkajaagreat", sum := "1391b3a26535293461107762f523f5f34f95a1a780ee152fd7eba4b2bdde910c", checked := Tryz.checked }
namespace Rows
def none {H : Type} : Left H := { results := [], args := [] }

/-- 'pigeonholelaw18.DboxOpens': WHATEVER THE INPUT: true; the input reads as it did. -/
def dboxOpensSpec : ChangeSpec := { name := "dboxOpens", fn := fun _ => fun
  | [d1, d2, d3] => { results := [.lit (.bool true)], args := [d1, d2, d3] }
  | _ => none }
def dboxOpensRow : OpenClaim := { program := "ytjojclbfnnkajaagreat", sum := "1391b3a26535293461107762f523f5f34f95a1a780ee152fd7eba4b2bdde910c", func := "pigeonhole/pigeonholelaw18.DboxOpens", spec := "dboxOpens", inPlace := ["internal/bytealg.IndexByteString", "maps.clone", "internal/bytealg.MakeNoZero"], unfollowed := true, recurses := true, apart := false }
def DboxOpensSaid : Prop := dboxOpensRow.holds Tryz.pinned (OpenSpec.ofChange dboxOpensSpec)

/-- ITS FALSE NEIGHBOUR: 'it returns false'. Refute it at one input. -/
def dboxOpensWrong : ChangeSpec := { name := "dboxOpens", fn := fun _ => fun
  | [d1, d2, d3] => { results := [.lit (.bool false)], args := [d1, d2, d3] }
  | _ => none }
def DboxOpensWrongFalsely : Prop := dboxOpensRow.holds Tryz.pinned (OpenSpec.ofChange dboxOpensWrong)

/-- 'pigeonholelaw18.DboxSure': WHATEVER THE INPUT: true; the input reads as it did. -/
def dboxSureSpec : ChangeSpec := { name := "dboxSure", fn := fun _ => fun
  | [d1, d2, d3, d4, d5] => { results := [.lit (.bool true)], args := [d1, d2, d3, d4, d5] }
  | _ => none }
def dboxSureRow : OpenClaim := { program := "ytjojclbfnnkajaagreat", sum := "1391b3a26535293461107762f523f5f34f95a1a780ee152fd7eba4b2bdde910c", func := "pigeonhole/pigeonholelaw18.DboxSure", spec := "dboxSure", inPlace := ["internal/bytealg.IndexByteString", "maps.clone", "internal/bytealg.MakeNoZero"], unfollowed := true, recurses := true, apart := false }
def DboxSureSaid : Prop := dboxSureRow.holds Tryz.pinned (OpenSpec.ofChange dboxSureSpec)

/-- ITS FALSE NEIGHBOUR: 'it returns false'. Refute it at one input. -/
def dboxSureWrong : ChangeSpec := { name := "dboxSure", fn := fun _ => fun
  | [d1, d2, d3, d4, d5] => { results := [.lit (.bool false)], args := [d1, d2, d3, d4, d5] }
  | _ => none }
def DboxSureWrongFalsely : Prop := dboxSureRow.holds Tryz.pinned (OpenSpec.ofChange dboxSureWrong)

/-- 'pigeonholelaw18.DboxCompacts': WHATEVER THE INPUT: true; the input reads as it did. -/
def dboxCompactsSpec : ChangeSpec := { name := "dboxCompacts", fn := fun _ => fun
  | [d1, d2, d3, d4, d5, d6] => { results := [.lit (.bool true)], args := [d1, d2, d3, d4, d5, d6] }
  | _ => none }
def dboxCompactsRow : OpenClaim := { program := "ytjojclbfnnkajaagreat", sum := "1391b3a26535293461107762f523f5f34f95a1a780ee152fd7eba4b2bdde910c", func := "pigeonhole/pigeonholelaw18.DboxCompacts", spec := "dboxCompacts", inPlace := ["internal/bytealg.IndexByteString", "maps.clone", "internal/bytealg.MakeNoZero"], unfollowed := true, recurses := true, apart := false }
def DboxCompactsSaid : Prop := dboxCompactsRow.holds Tryz.pinned (OpenSpec.ofChange dboxCompactsSpec)

/-- ITS FALSE NEIGHBOUR: 'it returns false'. Refute it at one input. -/
def dboxCompactsWrong : ChangeSpec := { name := "dboxCompacts", fn := fun _ => fun
  | [d1, d2, d3, d4, d5, d6] => { results := [.lit (.bool false)], args := [d1, d2, d3, d4, d5, d6] }
  | _ => none }
def DboxCompactsWrongFalsely : Prop := dboxCompactsRow.holds Tryz.pinned (OpenSpec.ofChange dboxCompactsWrong)

/- THE SECOND FORM. 'bulk': how many values and letters a reading holds, each counted each time it is reached (what is shared counts as often as it is met; a slice's spare places count too). A statement '..UptoSaid' is the law's where the arguments, and the package variables that the reading takes, are together of bulk at most 1048576: NARROWER than '..Said'. Prove '..Said' where nothing that the law and all that it calls make is longer than what came in: it says more and counts as full. Else prove '..UptoSaid'. A law counts once. -/
mutual
def uptoBulk {H : Type} : DataW H → Nat
  | .lit (.string bytes) => bytes.length + 1
  | .lit _ => 1
  | .nil => 1
  | .ptr d => uptoBulk d + 1
  | .slice elems spare => uptoBulkAll elems + uptoBulkAll spare + 1
  | .agg parts => uptoBulkAll parts + 1
  | .iface _ d => uptoBulk d + 1
  | .map entries => uptoBulkEntries entries + 1
  | .held _ => 1
def uptoBulkAll {H : Type} : List (DataW H) → Nat
  | [] => 0
  | d :: r => uptoBulk d + uptoBulkAll r
def uptoBulkEntries {H : Type} : List (Lit × DataW H) → Nat
  | [] => 0
  | x :: r => uptoBulkEntry x + uptoBulkEntries r
def uptoBulkEntry {H : Type} : Lit × DataW H → Nat
  | (.string bytes, d) => bytes.length + uptoBulk d + 1
  | (_, d) => uptoBulk d + 1
 end
def uptoSmall : (H : Type) → List (DataW H) → Bool := fun _ ds => decide (uptoBulkAll ds ≤ 1048576)
def OpenSpec.upto (s : _root_.Go.ChangeSpec) : _root_.Go.OpenSpec := { _root_.Go.OpenSpec.ofChange s with cond := some uptoSmall }

/-- 'pigeonholelaw18.DboxOpens', WHERE WHAT IT READS IS OF BULK AT MOST 1048576: true; the input reads as it did. -/
def dboxOpensUptoRow : OpenClaim := { program := "ytjojclbfnnkajaagreat", sum := "1391b3a26535293461107762f523f5f34f95a1a780ee152fd7eba4b2bdde910c", func := "pigeonhole/pigeonholelaw18.DboxOpens", spec := "dboxOpens", inPlace := ["internal/bytealg.IndexByteString", "maps.clone", "internal/bytealg.MakeNoZero"], unfollowed := true, recurses := true, apart := false, narrowed := true }
def DboxOpensUptoSaid : Prop := dboxOpensUptoRow.holds Tryz.pinned (OpenSpec.upto dboxOpensSpec)

/-- 'pigeonholelaw18.DboxSure', WHERE WHAT IT READS IS OF BULK AT MOST 1048576: true; the input reads as it did. -/
def dboxSureUptoRow : OpenClaim := { program := "ytjojclbfnnkajaagreat", sum := "1391b3a26535293461107762f523f5f34f95a1a780ee152fd7eba4b2bdde910c", func := "pigeonhole/pigeonholelaw18.DboxSure", spec := "dboxSure", inPlace := ["internal/bytealg.IndexByteString", "maps.clone", "internal/bytealg.MakeNoZero"], unfollowed := true, recurses := true, apart := false, narrowed := true }
def DboxSureUptoSaid : Prop := dboxSureUptoRow.holds Tryz.pinned (OpenSpec.upto dboxSureSpec)

/-- 'pigeonholelaw18.DboxCompacts', WHERE WHAT IT READS IS OF BULK AT MOST 1048576: true; the input reads as it did. -/
def dboxCompactsUptoRow : OpenClaim := { program := "ytjojclbfnnkajaagreat", sum := "1391b3a26535293461107762f523f5f34f95a1a780ee152fd7eba4b2bdde910c", func := "pigeonhole/pigeonholelaw18.DboxCompacts", spec := "dboxCompacts", inPlace := ["internal/bytealg.IndexByteString", "maps.clone", "internal/bytealg.MakeNoZero"], unfollowed := true, recurses := true, apart := false, narrowed := true }
def DboxCompactsUptoSaid : Prop := dboxCompactsUptoRow.holds Tryz.pinned (OpenSpec.upto dboxCompactsSpec)

end Rows
end Go.Proofs.YtjojclbfnnkajaaGreat

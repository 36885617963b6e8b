/- Parts of the proof that pigeonholelaw18.DboxSure returns true at every input and leaves the input as it was: what the words of a walk mean over the model, and that a walk which is read so is a run. -/
import Derived.Calls
import Derived.Laws.Append
import Derived.Laws.BytesString
import Derived.Laws.Cells
import Derived.Laws.Sem
import Derived.Laws.Strings
import Derived.LoopN
import Derived.Orders
import Derived.WalkKit
import Derived.Laws.Tables
import Derived.Laws.StructEq
import Derived.Laws.Externs
section
namespace Go.Ph
abbrev Heap := Array Obj
abbrev HP := Heap → Prop
def cell (H : Heap) (a : Addr) : Option Value :=
  match H[a.block]? with
  | some (.cells c _ _) => if a.spot.isSome then none else c[a.off]?
  | _ => none
def frz (H : Heap) (a : Addr) : Bool :=
  match H[a.block]? with
  | some (.cells _ _ (lo, hi)) => lo ≤ a.off && a.off < hi
  | _ => false
def setc (H : Heap) (a : Addr) (v : Value) : Heap :=
  H.modify a.block fun
    | .cells c e f => .cells (if a.spot.isSome then c else c.setIfInBounds a.off v) e f
    | o => o
/-- A slice's value. -/
structure Sl where
  a : Option Addr
  len : Nat
  cap : Nat
abbrev Sl.v (s : Sl) : Value := .slice s.a s.len s.cap
/-- A function's value. -/
structure FV where
  fn : Fn
  first : Array Value
  cap : Array Value
abbrev FV.v (f : FV) : Value := .func f.fn f.first f.cap
abbrev w64 (n : Int) : Int := IntKind.wrap .i64 n
abbrev wr (k : IntKind) (n : Int) : Int := IntKind.wrap k n
abbrev at0 (b : Nat) : Addr := ⟨b, 0, none⟩
/-! typed loads -/
def ldI (k : IntKind) (a : Addr) (K : Int → HP) : HP := fun H => ∃ n, cell H a = some (.int k n) ∧ K n H
def ldB (a : Addr) (K : Bool → HP) : HP := fun H => ∃ b, cell H a = some (.bool b) ∧ K b H
def ldS (a : Addr) (K : ByteArray → HP) : HP := fun H => ∃ s, cell H a = some (.string s) ∧ K s H
def ldP (a : Addr) (K : Option Addr → HP) : HP := fun H => ∃ p, cell H a = some (.pointer p) ∧ K p H
def ldL (a : Addr) (K : Sl → HP) : HP := fun H => ∃ s : Sl, cell H a = some s.v ∧ K s H
def ldM (a : Addr) (K : Option Nat → HP) : HP := fun H => ∃ r, cell H a = some (.map r) ∧ K r H
def ldF (a : Addr) (K : FV → HP) : HP := fun H => ∃ f : FV, cell H a = some f.v ∧ K f H
/-! the same of a value at hand -/
def inI (k : IntKind) (v : Value) (K : Int → HP) : HP := fun H => ∃ n, v = .int k n ∧ K n H
def inB (v : Value) (K : Bool → HP) : HP := fun H => ∃ b, v = .bool b ∧ K b H
def inS (v : Value) (K : ByteArray → HP) : HP := fun H => ∃ s, v = .string s ∧ K s H
def inP (v : Value) (K : Option Addr → HP) : HP := fun H => ∃ p, v = .pointer p ∧ K p H
def inL (v : Value) (K : Sl → HP) : HP := fun H => ∃ s : Sl, v = s.v ∧ K s H
def inM (v : Value) (K : Option Nat → HP) : HP := fun H => ∃ r, v = .map r ∧ K r H
def inF (v : Value) (K : FV → HP) : HP := fun H => ∃ f : FV, v = f.v ∧ K f H
/-! stores, new blocks -/
def one (v : Value) : Bool := match v with | .agg _ | .tuple _ => false | _ => true
def st (a : Addr) (v : Value) (K : HP) : HP := fun H => one v = true ∧ (cell H a).isSome = true ∧ frz H a = false ∧ K (setc H a v)
def sts (a : Addr) (i : Nat) : List Value → HP → HP
  | [], K => K
  | v :: r, K => st (a.add i) v (sts a (i + 1) r K)
def newc (cs : Array Value) (K : Nat → HP) : HP := fun H => ∀ t, K H.size (H.push (.cells cs t (0, 0)))
def newo (o : Obj) (K : Nat → HP) : HP := fun H => K H.size (H.push o)
/-! pointers, places -/
def nn (p : Option Addr) (K : Addr → HP) : HP := fun H => ∃ a, p = some a ∧ K a H
def ixL (s : Sl) (size : Nat) (i : Int) (K : Addr → HP) : HP := fun H => ∃ a, s.a = some a ∧ 0 ≤ i ∧ i < s.len ∧ K (a.add (i.toNat * size)) H
def ixA (a : Addr) (len size : Nat) (i : Int) (K : Addr → HP) : HP := fun H => 0 ≤ i ∧ i < len ∧ K (a.add (i.toNat * size)) H
def ixS (s : ByteArray) (i : Int) (K : Int → HP) : HP := fun H => 0 ≤ i ∧ ∃ h : i.toNat < s.size, K (s[i.toNat]'h).toNat H
def slS (s : ByteArray) (lo hi : Int) (K : ByteArray → HP) : HP := fun H => (0 ≤ lo ∧ lo ≤ hi ∧ hi ≤ s.size) ∧ K (s.extract lo.toNat hi.toNat) H
def slL (s : Sl) (size : Nat) (lo hi mx : Int) (K : Sl → HP) : HP := fun H =>
  (0 ≤ lo ∧ lo ≤ hi ∧ hi ≤ mx ∧ mx ≤ s.cap) ∧ K ⟨if mx.toNat = lo.toNat then s.a else s.a.map (·.add (lo.toNat * size)), hi.toNat - lo.toNat, mx.toNat - lo.toNat⟩ H
def slA (a : Addr) (n size : Nat) (lo hi mx : Int) (K : Sl → HP) : HP := fun H =>
  (0 ≤ lo ∧ lo ≤ hi ∧ hi ≤ mx ∧ mx ≤ n) ∧ K ⟨some (if mx.toNat = lo.toNat then a else a.add (lo.toNat * size)), hi.toNat - lo.toNat, mx.toNat - lo.toNat⟩ H
/-! numbers -/
def nz (y : Int) (K : HP) : HP := fun H => y ≠ 0 ∧ K H
def ng (y : Int) (K : HP) : HP := fun H => 0 ≤ y ∧ K H
def iand (k : IntKind) (x y : Int) : Int := k.wrap (BitVec.ofInt k.bits x &&& BitVec.ofInt k.bits y).toNat
def ior (k : IntKind) (x y : Int) : Int := k.wrap (BitVec.ofInt k.bits x ||| BitVec.ofInt k.bits y).toNat
def ixor (k : IntKind) (x y : Int) : Int := k.wrap (BitVec.ofInt k.bits x ^^^ BitVec.ofInt k.bits y).toNat
def iandn (k : IntKind) (x y : Int) : Int := k.wrap (BitVec.ofInt k.bits x &&& ~~~BitVec.ofInt k.bits y).toNat
def ishl (k : IntKind) (x y : Int) : Int := k.wrap (x * 2 ^ (min y.toNat k.bits))
def ishr (k : IntKind) (x y : Int) : Int := x.fdiv (2 ^ (min y.toNat k.bits))
/-! strings -/
def cat (x y : ByteArray) (K : ByteArray → HP) : HP := fun H => x.size + y.size ≤ 9223372036854775807 ∧ K (x ++ y) H
def slt (x y : ByteArray) : Bool := Op.bytesLess x.toList y.toList
/-! rows of cells -/
/-- The first n cells behind a slice's head. -/
def Row (H : Heap) (a : Option Addr) (n : Nat) (cs : List Value) : Prop :=
  match a with
  | none => cs = []
  | some a => cs.length = n ∧ ∀ j v, cs[j]? = some v → cell H (a.add j) = some v
def bcells (s : ByteArray) : List Value := s.data.toList.map fun b => Value.int .u8 b.toNat
/-- bytes, as a text -/
def ldBy (s : Sl) (K : ByteArray → HP) : HP := fun H => ∃ bs : ByteArray, Row H s.a s.len (bcells bs) ∧ K bs H
def s2b (s : ByteArray) (K : Sl → HP) : HP := fun H => ∀ cap t, s.size ≤ cap →
  K ⟨some ⟨H.size, 0, none⟩, s.size, cap⟩ (H.push (.cells (bcells s ++ List.replicate (cap - s.size) (Value.int .u8 0)).toArray t (cap, cap + 1)))
def zrow (zero : Array Value) : Nat → List Value
  | 0 => []
  | n + 1 => zero.toList ++ zrow zero n
/-- append of cells that were read -/
def appC (size bytes : Nat) (zero : Array Value) (s : Sl) (n : Nat) (new : List Value) (K : Sl → HP) : HP := fun H =>
  (s.len + n ≤ s.cap →
    match s.a with
    | none => K ⟨none, s.len + n, s.cap⟩ H
    | some a => sts (a.add (s.len * size)) 0 new (K ⟨some a, s.len + n, s.cap⟩) H) ∧
  (s.cap < s.len + n → Builtin.nextslicecap (s.len + n) s.cap * bytes ≤ 281474976710656 ∧ (s.len + n : Int) ≤ 9223372036854775807 ∧
    ∃ old, Row H s.a (s.len * size) old ∧
    ∀ t c, s.len + n ≤ c → K ⟨some ⟨H.size, 0, none⟩, s.len + n, c⟩ (H.push (.cells (old ++ new ++ zrow zero (c - (s.len + n))).toArray t (0, 0))))
def app (size bytes : Nat) (zero : Array Value) (s x : Sl) (K : Sl → HP) : HP := fun H => ∃ new, Row H x.a (x.len * size) new ∧ appC size bytes zero s x.len new K H
def appS (s : Sl) (x : ByteArray) (K : Sl → HP) : HP := appC 1 1 #[.int .u8 0] s x.size (bcells x) K
def cpyC (d : Sl) (n : Nat) (new : List Value) (K : Int → HP) : HP := fun H =>
  match d.a with
  | none => K n H
  | some a => sts a 0 new (K n) H
def cpy (size : Nat) (d x : Sl) (K : Int → HP) : HP := fun H => ∃ new, Row H x.a (min x.len d.len * size) new ∧ cpyC d (min x.len d.len) new K H
def cpyS (d : Sl) (x : ByteArray) (K : Int → HP) : HP := cpyC d (min x.size d.len) (bcells (x.extract 0 (min x.size d.len))) K
def mkSl (bytes : Nat) (zero : Array Value) (len cap : Int) (K : Sl → HP) : HP := fun H =>
  (0 ≤ len ∧ len ≤ cap ∧ bytes * cap ≤ 281474976710656 ∧ cap ≤ 9223372036854775807) ∧ ∀ t, K ⟨some ⟨H.size, 0, none⟩, len.toNat, cap.toNat⟩ (H.push (.cells (zrow zero cap.toNat).toArray t (0, 0)))
/-! maps: whole numbers or texts as keys -/
def mget (kd : TypeDesc) (r : Option Nat) (key : Value) (K0 : HP) (K1 : Value → HP) : HP := fun H =>
  match r with
  | none => K0 H
  | some r => ∃ es cl res, H[r]? = some (.map es cl) ∧ Instr.findNow kd key es.toList 0 = some res ∧ match res with | none => K0 H | some (_, v) => K1 v H
def mlen (r : Option Nat) (K : Int → HP) : HP := fun H =>
  match r with
  | none => K 0 H
  | some r => ∃ es cl, H[r]? = some (.map es cl) ∧ K (es.size : Nat) H
def mput (kd : TypeDesc) (r : Option Nat) (key v : Value) (K : HP) : HP := fun H => ∃ b es cl res, r = some b ∧ H[b]? = some (.map es cl) ∧ Instr.findNow kd key es.toList 0 = some res ∧
  K (H.setIfInBounds b (match res with | some (i, _) => .map (es.modify i fun e => { e with key, val := v }) cl | none => .map (es.push { key, val := v, born := cl }) (cl + 1)))
def mdel (kd : TypeDesc) (r : Option Nat) (key : Value) (K : HP) : HP := fun H => ∃ b es cl res, r = some b ∧ H[b]? = some (.map es cl) ∧ Instr.findNow kd key es.toList 0 = some res ∧
  K (H.setIfInBounds b (match res with | some (i, _) => .map (es.eraseIdxIfInBounds i) cl | none => .map es cl))
/-- an iterator over a map -/
def mrng (r : Option Nat) (K : Nat → HP) : HP := fun H =>
  match r with
  | none => K H.size (H.push (.mapIter none 0 #[] 0))
  | some m => ∃ es cl, H[m]? = some (.map es cl) ∧ K H.size (H.push (.mapIter (some m) cl #[] cl))
/-- the next entry, whichever it is -/
def mnext (it : Nat) (K0 : HP) (K1 : Value → Value → HP) : HP := fun H =>
  match H[it]? with
  | some (.mapIter none _ _ _) => K0 H
  | some (.mapIter (some m) since seen last) => ∃ es cl, H[m]? = some (.map es cl) ∧ (!seen.isEmpty && !es.isEmpty && es.all (·.born ≥ last)) = false ∧
    ((((es.filter fun e => !seen.contains e.born).filter (·.born < since)).isEmpty = true) → K0 H) ∧
    ∀ e, e ∈ es → seen.contains e.born = false → K1 e.key e.val (H.setIfInBounds it (.mapIter (some m) since (seen.push e.born) cl))
  | _ => False
def ment (it : Nat) (K : Value → Value → HP) : HP := fun H => ∃ m since seen stepped stamp es e, H[it]? = some (.mapIter (some m) since seen stepped) ∧ seen.back? = some stamp ∧
  H[m]? = some (.map es stepped) ∧ es.find? (·.born == stamp) = some e ∧ K e.key e.val H
/-! functions as values -/
structure Cx where
  ap : FV → List Value → (Value → HP) → HP
  fn : String → Fn
def clo (C : Cx) (run : List Value → (Value → HP) → HP) (K : FV → HP) : HP := fun H => ∀ f : FV, (∀ args K' H', run args K' H' → C.ap f args K' H') → K f H
def mclone (r : Option Nat) (K : Nat → HP) : HP := fun H => ∃ b es cl, r = some b ∧ H[b]? = some (.map es cl) ∧ K H.size (H.push (.map es cl))
/-! what was read stays; either order -/
def held (A K : HP) : HP := fun H => A H ∧ K H
def both (A B : HP) : HP := fun H => A H ∧ B H
/-! a value's kind, asked -/
abbrev no : HP := fun _ => False
def asI (k : IntKind) (v : Value) (K : Int → HP) : HP := match v with | .int j n => (match decide (j = k) with | true => K n | false => fun _ => False) | _ => fun _ => False
def asB (v : Value) (K : Bool → HP) : HP := match v with | .bool b => K b | _ => fun _ => False
def asS (v : Value) (K : ByteArray → HP) : HP := match v with | .string s => K s | _ => fun _ => False
def asA (v : Value) (K : Addr → HP) : HP := match v with | .pointer (some a) => K a | _ => fun _ => False
def asAgg (v : Value) (n : Nat) (K : List Value → HP) : HP := match v with | .agg cs => (match Nat.beq cs.toList.length n with | true => K cs.toList | false => fun _ => False) | _ => fun _ => False
def asP (v : Value) (K : Option Addr → HP) : HP := match v with | .pointer p => K p | _ => fun _ => False
def asL (v : Value) (K : Sl → HP) : HP := match v with | .slice a n c => K ⟨a, n, c⟩ | _ => fun _ => False
def asM (v : Value) (K : Option Nat → HP) : HP := match v with | .map r => K r | _ => fun _ => False
def asF (v : Value) (K : FV → HP) : HP := match v with | .func a b c => K ⟨a, b, c⟩ | _ => fun _ => False
def arity (as : List Value) (n : Nat) (K : HP) : HP := match Nat.beq as.length n with | true => K | false => no
/-! loops: an invariant and a measure -/
def loop {σ : Type} (step : (σ → HP) → σ → HP) (s : σ) : HP := fun H =>
  ∃ (I : σ → HP) (μ : σ → Heap → Nat), I s H ∧ ∀ s H, I s H → step (fun s' H' => I s' H' ∧ μ s' H' < μ s H) s H
end Go.Ph
end
section
namespace Go.Ph
abbrev Env := Nat → Value
def Env.set (n : Nat) (env : Env) (d : Option Nat) (v : Value) : Env :=
  match d with
  | none => env
  | some d => bif Nat.blt d n then fun t => bif Nat.beq t d then v else env t else env
def Env.ref (env : Env) (d : Nat) (b : Bool) : Env := fun t => bif Nat.beq t d then .bool b else env t
def env0 (args : List Value) : Env := fun t => args.getD t undef
def ev (env : Env) : Operand → Value
  | .tmp t => env t
  | .const v => v
  | .global g => .pointer (some ⟨g, 0, none⟩)
  | .func f => .func (.func f) #[] #[]
/-- one cell's kind -/
inductive Leaf where
  | ii (k : IntKind) | bb | ss | pp | ll | mm | ff
def leafOf : TypeDesc → Option Leaf
  | .int k => some (.ii k)
  | .bool => some .bb
  | .string => some .ss
  | .pointer _ => some .pp
  | .slice _ => some .ll
  | .map _ _ => some .mm
  | .func _ _ _ => some .ff
  | _ => none
def tsize (P : Program) (t : TypeId) : Nat := ((P.info? t).map (·.size)).getD 0
def tbytes (P : Program) (t : TypeId) : Nat := ((P.info? t).map (·.bytes)).getD 0
def tzero (P : Program) (t : TypeId) : Option Value := (P.info? t).bind (·.zero)
def known (P : Program) (t : TypeId) : Bool := (P.underlying t).isSome
def tagg (P : Program) (t : TypeId) : Bool := match P.underlying t with | some (.struct _) | some (.array _ _) => true | _ => false
mutual
def leaves (P : Program) : Nat → TypeId → Option (List Leaf)
  | 0, _ => none
  | d + 1, t => match P.underlying t with
    | some (.struct fs) => leavesAll P d (fs.toList.map (·.type))
    | some (.array n e) => (leaves P d e).map fun l => (List.replicate n l).flatten
    | some x => (leafOf x).map fun l => [l]
    | none => none
def leavesAll (P : Program) : Nat → List TypeId → Option (List Leaf)
  | 0, _ => none
  | _ + 1, [] => some []
  | d + 1, t :: ts => match leaves P d t, leavesAll P d ts with
    | some a, some b => some (a ++ b)
    | _, _ => none
end
def ldLeaf : Leaf → Addr → (Value → HP) → HP
  | .ii k, a, K => ldI k a fun n => K (.int k n)
  | .bb, a, K => ldB a fun x => K (.bool x)
  | .ss, a, K => ldS a fun x => K (.string x)
  | .pp, a, K => ldP a fun x => K (.pointer x)
  | .ll, a, K => ldL a fun x => K x.v
  | .mm, a, K => ldM a fun x => K (.map x)
  | .ff, a, K => ldF a fun x => K x.v
def inLeaf : Leaf → Value → (Value → HP) → HP
  | .ii k, a, K => inI k a fun n => K (.int k n)
  | .bb, a, K => inB a fun x => K (.bool x)
  | .ss, a, K => inS a fun x => K (.string x)
  | .pp, a, K => inP a fun x => K (.pointer x)
  | .ll, a, K => inL a fun x => K x.v
  | .mm, a, K => inM a fun x => K (.map x)
  | .ff, a, K => inF a fun x => K x.v
def ldAgg (a : Addr) : Nat → List Value → List Leaf → (Value → HP) → HP
  | _, acc, [], K => K (.agg acc.reverse.toArray)
  | i, acc, l :: r, K => ldLeaf l (a.add i) fun v => ldAgg a (i + 1) (v :: acc) r K
def inAgg (cs : List Value) : List Value → List Leaf → (Value → HP) → HP
  | acc, [], K => match cs with | [] => K (.agg acc.reverse.toArray) | _ => fun _ => False
  | acc, l :: r, K => match cs with | [] => fun _ => False | c :: cs => inLeaf l c fun v => inAgg cs (v :: acc) r K
def ldT (P : Program) (t : TypeId) (a : Addr) (K : Value → HP) : HP :=
  match tagg P t with
  | true => match leaves P 30 t with
    | some ls => match Nat.beq ls.length (tsize P t) with | true => ldAgg a 0 [] ls K | false => fun _ => False
    | none => fun _ => False
  | false => match (P.underlying t).bind leafOf with
    | some l => ldLeaf l a K
    | none => fun _ => False
/-! operations -/
def kEq (j k : IntKind) : Bool := decide (j = k)
def binI (op : BinOp) (k : IntKind) (a b : Int) (K : Value → HP) : HP :=
  match op with
  | .add => K (.int k (k.wrap (a + b)))
  | .sub => K (.int k (k.wrap (a - b)))
  | .mul => K (.int k (k.wrap (a * b)))
  | .quo => nz b (K (.int k (k.wrap (a.tdiv b))))
  | .rem => nz b (K (.int k (a.tmod b)))
  | .and => K (.int k (iand k a b))
  | .or => K (.int k (ior k a b))
  | .xor => K (.int k (ixor k a b))
  | .andNot => K (.int k (iandn k a b))
  | .eql => K (.bool (decide (a = b)))
  | .neq => K (.bool (!decide (a = b)))
  | .lss => K (.bool (decide (a < b)))
  | .leq => K (.bool (decide (a ≤ b)))
  | .gtr => K (.bool (decide (b < a)))
  | .geq => K (.bool (decide (b ≤ a)))
  | _ => no
def binS (op : BinOp) (a b : ByteArray) (K : Value → HP) : HP :=
  match op with
  | .add => cat a b fun s => K (.string s)
  | .eql => K (.bool (decide (a = b)))
  | .neq => K (.bool (!decide (a = b)))
  | .lss => K (.bool (slt a b))
  | .leq => K (.bool (slt a b || decide (a = b)))
  | .gtr => K (.bool (!(slt a b || decide (a = b))))
  | .geq => K (.bool (!slt a b))
  | _ => no
def eqCells : List Value → List Value → Option Bool
  | [], [] => some true
  | .int j a :: r, .int k b :: s => match kEq j k with | true => (eqCells r s).map fun x => decide (a = b) && x | false => none
  | _, _ => none
def isNilX (op : BinOp) (x : Bool) (K : Value → HP) : HP :=
  match op with
  | .eql => K (.bool x)
  | .neq => K (.bool (!x))
  | _ => no
def binX (P : Program) (op : BinOp) (t : TypeId) (x y : Value) (K : Value → HP) : HP :=
  match x, y with
  | .int k a, .int k' b => match op with
    | .shl => ng b (K (.int k (ishl k a b)))
    | .shr => ng b (K (.int k (ishr k a b)))
    | op => match kEq k k' with | true => binI op k a b K | false => no
  | .string a, .string b => binS op a b K
  | .bool a, .bool b => match P.underlying t with | some .bool => isNilX op (a == b) K | _ => no
  | .pointer p, .pointer none => match P.underlying t with | some (.pointer _) => isNilX op p.isNone K | _ => no
  | .slice a _ _, .slice none _ _ => match P.underlying t with | some (.slice _) => isNilX op a.isNone K | _ => no
  | .map p, .map none => match P.underlying t with | some (.map _ _) => isNilX op p.isNone K | _ => no
  | .agg xs, .agg ys => match P.underlying t, P.eqGuardType P.depth t, eqCells xs.toList ys.toList with
    | some (.array n e), false, some b => match P.underlying e, Nat.beq (tsize P e) 1, Nat.beq xs.toList.length n with
      | some (.int _), true, true => isNilX op b K
      | _, _, _ => no
    | _, _, _ => no
  | _, _ => no
def convX (P : Program) (src dst : TypeId) (x : Value) (K : Value → HP) : HP :=
  match P.underlying src, P.underlying dst, x with
  | some _, some (.int k), .int _ n => K (.int k (k.wrap n))
  | some _, some .string, .string s => K (.string s)
  | some _, some (.slice e), .string s => match P.underlying e with | some (.int .u8) => s2b s fun sl => K sl.v | _ => no
  | some (.slice e), some .string, .slice a n c => match P.underlying e with | some (.int .u8) => ldBy ⟨a, n, c⟩ fun s => K (.string s) | _ => no
  | _, _, _ => no
def unX (op : UnOp) (x : Value) (K : Value → HP) : HP :=
  match op, x with
  | .neg, .int k n => K (.int k (k.wrap (0 - n)))
  | .xor, .int k n => K (.int k (ixor k (if k.signed then -1 else k.max) n))
  | .not, .bool b => K (.bool !b)
  | _, _ => no
def intOpt (d : Int) : Option Value → Option Int
  | none => some d
  | some (.int _ n) => some n
  | _ => none
def slX (P : Program) (t : TypeId) (x : Value) (lo hi mx : Option Value) (K : Value → HP) : HP :=
  match P.underlying t, x with
  | some .string, .string s => match intOpt 0 lo, intOpt s.size hi, mx with
    | some l, some h, none => slS s l h fun r => K (.string r)
    | _, _, _ => no
  | some (.slice e), .slice a n c => match known P e, hi.isSome || !mx.isSome, intOpt 0 lo, intOpt n hi, intOpt c mx with
    | true, true, some l, some h, some m => slL ⟨a, n, c⟩ (tsize P e) l h m fun r => K r.v
    | _, _, _, _, _ => no
  | some (.array n e), .pointer (some a) => match known P e, hi.isSome || !mx.isSome, intOpt 0 lo, intOpt n hi, intOpt n mx with
    | true, true, some l, some h, some m => slA a n (tsize P e) l h m fun r => K r.v
    | _, _, _, _, _ => no
  | _, _ => no
def fieldOff (P : Program) (t : TypeId) (f : Nat) : Option (Nat × Nat × Bool) :=
  match P.underlying t with
  | some (.struct fs) => match fs.toList[f]? with
    | some x => match known P x.type with | true => some (x.offset, tsize P x.type, tagg P x.type) | false => none
    | none => none
  | _ => none
def faddrX (P : Program) (t : TypeId) (x : Value) (f : Nat) (K : Value → HP) : HP :=
  match fieldOff P t f, x with
  | some (off, sz, _), .pointer (some a) => match sz with | 0 => no | _ + 1 => K (.pointer (some (a.add off)))
  | _, _ => no
def fieldX (P : Program) (t : TypeId) (x : Value) (f : Nat) (K : Value → HP) : HP :=
  match fieldOff P t f, x with
  | some (off, sz, true), .agg cs => K (.agg ((cs.toList.drop off).take sz).toArray)
  | some (off, _, false), .agg cs => match cs.toList[off]? with | some v => K v | none => no
  | _, _ => no
def ixaddrX (P : Program) (t : TypeId) (x i : Value) (K : Value → HP) : HP :=
  match P.underlying t, x, i with
  | some (.slice e), .slice a n c, .int _ i => match known P e with | true => ixL ⟨a, n, c⟩ (tsize P e) i fun a => K (.pointer (some a)) | false => no
  | some (.array n e), .pointer (some a), .int _ i => match known P e with | true => ixA a n (tsize P e) i fun a => K (.pointer (some a)) | false => no
  | _, _, _ => no
def ixX (P : Program) (t : TypeId) (x i : Value) (K : Value → HP) : HP :=
  match P.underlying t, x, i with
  | some .string, .string s, .int _ i => ixS s i fun n => K (.int .u8 n)
  | _, _, _ => no
/-- put parts into a row -/
def fillL : List Value → List (Nat × List Value) → Option (List Value)
  | z, [] => some z
  | z, (off, cs) :: r => match Nat.ble (off + cs.length) z.length with
    | true => fillL (z.take off ++ cs ++ z.drop (off + cs.length)) r
    | false => none
def cellsV : Value → List Value
  | .agg cs => cs.toList
  | v => [v]
def placed (place : Nat → Option (Nat × Nat)) : List (Nat × Value) → Option (List (Nat × List Value))
  | [] => some []
  | (i, v) :: r => match place i, placed place r with
    | some (off, sz), some l => match Nat.beq (cellsV v).length sz with | true => some ((off, cellsV v) :: l) | false => none
    | _, _ => none
def placesX (P : Program) (fs : List Field) : Option (List (Nat × Nat)) := fs.mapM fun f => (P.info? f.type).map fun i => (f.offset, i.size)
def buildX (P : Program) (t : TypeId) (parts : List (Nat × Value)) (K : Value → HP) : HP :=
  match tzero P t, P.underlying t with
  | some z, some (.struct fs) => match placesX P fs.toList with
    | some pl => match placed (fun i => pl[i]?) parts with
      | some ps => match fillL (cellsV z) ps with | some cs => K (.agg cs.toArray) | none => no
      | none => no
    | none => no
  | some z, some (.array _ e) => match known P e, placed (fun i => some (i * tsize P e, tsize P e)) parts with
    | true, some ps => match fillL (cellsV z) ps with | some cs => K (.agg cs.toArray) | none => no
    | _, _ => no
  | _, _ => no
def buildSliceX (P : Program) (t : TypeId) (len : Nat) (parts : List (Nat × Value)) (K : Value → HP) : HP :=
  match P.underlying t with
  | some (.slice e) => match tzero P e with
    | some z => match Nat.ble (len * tsize P e) 16777216, Nat.beq (cellsV z).length (tsize P e), placed (fun i => some (i * tsize P e, tsize P e)) parts with
      | true, true, some ps => match fillL (zrow (cellsV z).toArray len) ps with
        | some cs => newc cs.toArray fun b => K (.slice (some ⟨b, 0, none⟩) len len)
        | none => no
      | _, _, _ => no
    | none => no
  | _ => no
/-- keys that are compared at once -/
def keyKind (P : Program) (t : TypeId) : Option TypeDesc :=
  match P.underlying t with
  | some (.int k) => some (.int k)
  | some .string => some .string
  | _ => none
def inT (P : Program) (t : TypeId) (v : Value) (K : Value → HP) : HP :=
  match tagg P t with
  | true => match leaves P 30 t, v with
    | some ls, .agg cs => inAgg cs.toList [] ls K
    | _, _ => no
  | false => match (P.underlying t).bind leafOf with
    | some l => inLeaf l v K
    | none => no
def okKey (kd : TypeDesc) (k : Value) : Bool :=
  match kd, k with
  | .int j, .int k _ => kEq j k
  | .string, .string _ => true
  | _, _ => false
def lookX (P : Program) (t : TypeId) (m k : Value) (ok : Bool) (K : Value → HP) : HP :=
  match P.underlying t, m with
  | some (.map kt et), .map r => match keyKind P kt, tzero P et with
    | some kd, some z => match okKey kd k with
      | true => mget kd r k (K (match ok with | true => .tuple #[z, .bool false] | false => z)) fun v => inT P et v fun v => K (match ok with | true => .tuple #[v, .bool true] | false => v)
      | false => no
    | _, _ => no
  | _, _ => no
def mputX (P : Program) (t : TypeId) (m k v : Value) (K : HP) : HP :=
  match P.underlying t, m with
  | some (.map kt _), .map r => match keyKind P kt with
    | some kd => match okKey kd k with | true => mput kd r k v K | false => no
    | none => no
  | _, _ => no
def mdelX (P : Program) (t : TypeId) (m k : Value) (K : Value → HP) : HP :=
  match P.underlying t, m with
  | some (.map kt _), .map r => match keyKind P kt with
    | some kd => match okKey kd k with | true => mdel kd r k (K (.tuple #[])) | false => no
    | none => no
  | _, _ => no
def minmax (mx : Bool) (K : Value → HP) : Value → List Value → HP
  | v, [] => K v
  | .int k x, .int _ y :: r => minmax mx K (.int k (bif mx then (if y > x then y else x) else (if y < x then y else x))) r
  | _, _ => no
def bltX (P : Program) (b : Builtin) (ts : List TypeId) (args : List Value) (K : Value → HP) : HP :=
  match b, args with
  | .len, [v] => match v, (ts.head?).bind P.underlying with
    | .string s, some .string => K (.int .i64 (s.size : Nat))
    | .slice _ n _, some (.slice _) => K (.int .i64 (n : Nat))
    | .map r, some (.map _ _) => mlen r fun n => K (.int .i64 n)
    | _, _ => no
  | .cap, [v] => match v, (ts.head?).bind P.underlying with
    | .slice _ _ c, some (.slice _) => K (.int .i64 (c : Nat))
    | _, _ => no
  | .append, [.slice a n c, x] => match (ts.head?).bind P.underlying with
    | some (.slice e) => match tzero P e, Nat.beq ((tzero P e).elim 0 fun z => (cellsV z).length) (tsize P e), x with
      | some z, true, .slice a' n' c' => match (ts[1]?).bind P.underlying with
        | some (.slice _) => app (tsize P e) (tbytes P e) (cellsV z).toArray ⟨a, n, c⟩ ⟨a', n', c'⟩ fun s => K s.v
        | _ => no
      | some (.int .u8 0), true, .string s => match (ts[1]?).bind P.underlying, Nat.beq (tbytes P e) 1 with
        | some .string, true => appS ⟨a, n, c⟩ s fun s => K s.v
        | _, _ => no
      | _, _, _ => no
    | _ => no
  | .copy, [.slice a n c, x] => match (ts.head?).bind P.underlying with
    | some (.slice e) => match known P e, x with
      | true, .slice a' n' c' => cpy (tsize P e) ⟨a, n, c⟩ ⟨a', n', c'⟩ fun n => K (.int .i64 n)
      | true, .string s => match Nat.beq (tsize P e) 1 with | true => cpyS ⟨a, n, c⟩ s fun n => K (.int .i64 n) | false => no
      | _, _ => no
    | _ => no
  | .delete, [m, k] => match ts.head? with | some t => mdelX P t m k K | none => no
  | .max, x :: r => minmax true K x r
  | .min, x :: r => minmax false K x r
  | _, _ => no
/-- What a call of function f comes to: it returns a value, and nothing but the heap and the count of draws turns. -/
def Same (w w' : World) : Prop := w'.os = w.os ∧ w'.tape = w.tape ∧ w'.output = w.output
def RetK (w : World) (K : Value → HP) (e : Ending) (w' : World) : Prop := ∃ v, e = .returned v ∧ Same w w' ∧ K v w'.heap
def CallOk (P : Program) (f : FuncId) (args : List Value) (w : World) (K : Value → HP) : Prop :=
  (∃ v w', (callFunc f args.toArray).run P w = .ok (.value v) w' ∧ Same w w' ∧ K v w'.heap) ∨
  (∃ g as, (callFunc f args.toArray).run P w = .ok (.enter g as) w ∧ Calls P g as w (RetK w K))
def callV (P : Program) (fv : FV) (args : List Value) (K : Value → HP) : HP := fun H => ∀ w : World, w.heap = H →
  match fv.fn with
  | .func f => CallOk P f (fv.first.toList ++ args ++ fv.cap.toList) w K
  | _ => False
/-- a function whose meaning is known -/
structure Entry (P : Program) where
  f : Nat
  run : List Value → (Value → HP) → HP
  sound : ∀ args K w, run args K w.heap → CallOk P f args w K
def runT {P : Program} : List (Entry P) → Nat → List Value → (Value → HP) → HP
  | [], _, _, _ => no
  | e :: r, f, args, K => match Nat.beq e.f f with | true => e.run args K | false => runT r f args K
def asLeaf : Leaf → Value → (Value → HP) → HP
  | .ii k, v, K => asI k v fun n => K (.int k n)
  | .bb, v, K => asB v fun x => K (.bool x)
  | .ss, v, K => asS v fun x => K (.string x)
  | .pp, v, K => asP v fun x => K (.pointer x)
  | .ll, v, K => asL v fun x => K x.v
  | .mm, v, K => asM v fun x => K (.map x)
  | .ff, v, K => asF v fun x => K x.v
def asV (P : Program) (t : TypeId) (v : Value) (K : Value → HP) : HP :=
  match P.underlying t with
  | some (.tuple _) => K v
  | some d => match leafOf d with
    | some l => asLeaf l v K
    | none => no
  | none => no
/-- which map an iterator's slot goes over -/
abbrev IterT := Nat → Option (TypeId × TypeId)
structure Tab (P : Program) where
  es : List (Entry P)
  fn : String → Fn
def Tab.cx {P : Program} (t : Tab P) : Cx := ⟨callV P, t.fn⟩
/-- arguments; a function of the text that is handed on is known by what it does -/
def argsX {P : Program} (tab : Tab P) (env : Env) : List Operand → (List Value → HP) → HP
  | [], K => K []
  | .func f :: r, K => clo tab.cx (fun as K => runT tab.es f as K) fun fv => argsX tab env r fun vs => K (fv.v :: vs)
  | x :: r, K => argsX tab env r fun vs => K (ev env x :: vs)
def opX (P : Program) (tab : Tab P) (ai : IterT) (env : Env) (o : Oper) (K : Value → HP) : HP :=
  match o.op with
  | .move x | .assign x => K (ev env x)
  | .pick c a b => match ev env c with | .bool t => (match t with | true => K (ev env a) | false => K (ev env b)) | _ => no
  | .alloc t => match tzero P t with | some z => newc (cellsV z).toArray fun b => K (.pointer (some ⟨b, 0, none⟩)) | none => no
  | .box _ x => newc (cellsV (ev env x)).toArray fun b => K (.pointer (some ⟨b, 0, none⟩))
  | .build t ps => buildX P t (ps.toList.map fun p => (p.1, ev env p.2)) K
  | .buildSlice t n ps => buildSliceX P t n (ps.toList.map fun p => (p.1, ev env p.2)) K
  | .load t x => match ev env x with | .pointer (some a) => ldT P t a K | _ => no
  | .store t x v => match ev env x with
    | .pointer (some a) => match known P t, Nat.beq (cellsV (ev env v)).length (tsize P t) with | true, true => sts a 0 (cellsV (ev env v)) (K undef) | _, _ => no
    | _ => no
  | .nilCheck x => match ev env x with
    | .pointer p => nn p fun a => K (.pointer (some a))
    | .func (.func f) a c => K (.func (.func f) a c)
    | _ => no
  | .binOp op t x y _ => binX P op t (ev env x) (ev env y) K
  | .unOp op _ x => unX op (ev env x) K
  | .convert s d x => convX P s d (ev env x) K
  | .makeFunc (.func f) first cap =>
    clo tab.cx (fun as K => runT tab.es f (first.toList.map (ev env) ++ as ++ cap.toList.map (ev env)) K) fun fv => K fv.v
  | .makeMap _ none => newo (.map #[] 0) fun b => K (.map (some b))
  | .makeSlice t l c => match P.underlying t, ev env l, ev env c with
    | some (.slice e), .int .i64 l, .int .i64 c => match tzero P e with
      | some z => match Nat.beq (cellsV z).length (tsize P e) with | true => mkSl (tbytes P e) (cellsV z).toArray l c fun s => K s.v | false => no
      | none => no
    | _, _, _ => no
  | .slice t x lo hi mx => slX P t (ev env x) (lo.map (ev env)) (hi.map (ev env)) (mx.map (ev env)) K
  | .fieldAddr t x f => faddrX P t (ev env x) f K
  | .field t x f => fieldX P t (ev env x) f K
  | .indexAddr t x i => ixaddrX P t (ev env x) (ev env i) K
  | .index t x i => ixX P t (ev env x) (ev env i) K
  | .lookup t m k ok => lookX P t (ev env m) (ev env k) ok K
  | .mapUpdate t m k v => mputX P t (ev env m) (ev env k) (ev env v) (K undef)
  | .range t x => match P.underlying t, ev env x with
    | some (.map _ _), .map r => mrng r fun b => K (.pointer (some ⟨b, 0, none⟩))
    | _, _ => no
  | .next it false => match ev env it with
    | .pointer (some ⟨b, 0, none⟩) => mnext b (K (.tuple #[.bool false])) fun k v => K (.tuple #[.bool true, k, v])
    | _ => no
  | .entry it => match ev env it with
    | .pointer (some ⟨b, 0, none⟩) => (match it with
      | .tmp t => match ai t with
        | some (kt, et) => ment b fun k v => inT P kt k fun k => inT P et v fun v => K (.tuple #[k, v])
        | none => no
      | _ => no)
    | _ => no
  | .makeInterface t x => (match P.underlying t with | some (.map _ _) => K (.iface t (ev env x)) | _ => no)
  | .typeAssert x _ t false => (match ev env x, P.underlying t with | .iface u v, some (.map _ _) => (match Nat.beq u t with | true => K v | false => no) | _, _ => no)
  | .extract t i => match ev env t with | .tuple vs => (match vs.toList[i]? with | some v => K v | none => no) | _ => no
  | .call c => match c.callee with
    | .builtin b => bltX P b c.argTypes.toList (c.args.toList.map (ev env)) K
    | .value (.func f) => argsX tab env c.args.toList fun vs => runT tab.es f vs K
    | .value x => match ev env x with
      | .func fn first cap => callV P ⟨fn, first, cap⟩ (c.args.toList.map (ev env)) fun v => asV P o.type v K
      | _ => no
    | _ => no
  | _ => no
/-- one operation, with its guard -/
def stepX (P : Program) (tab : Tab P) (ai : IterT) (ops : Array Oper) (n : Nat) (o : Oper) (K : Env → HP) (env : Env) : HP :=
  match o.guard with
  | none => opX P tab ai env o fun v => K (env.set n o.dst v)
  | some (j, want) => match (ops[j]?).bind (·.dst) with
    | none => no
    | some t => match env t with
      | .bool b => match b with
        | true => match want with
          | true => opX P tab ai (env.ref t true) o fun v => K ((env.ref t true).set n o.dst v)
          | false => K ((env.ref t true).set n o.dst undef)
        | false => match want with
          | false => opX P tab ai (env.ref t false) o fun v => K ((env.ref t false).set n o.dst v)
          | true => K ((env.ref t false).set n o.dst undef)
      | .tuple _ => K (env.set n o.dst undef)
      | _ => no
def opsX (P : Program) (tab : Tab P) (ai : IterT) (ops : Array Oper) (n : Nat) : List Oper → (Env → HP) → Env → HP
  | [], K, env => K env
  | o :: r, K, env => stepX P tab ai ops n o (opsX P tab ai ops n r K) env
inductive Ex where
  | normal | exit (id : Nat) | ret
/-- a plan for a region that draws its order -/
inductive Plan where
  | done
  | take (i : Nat) (p : Plan)
  | eff (i : Nat) (held : List Nat) (p : Plan)
  | alt (i : Nat) (held : List Nat) (p : Plan) (j : Nat) (held' : List Nat) (q : Plan)
def recheck (P : Program) (tab : Tab P) (ai : IterT) (ops : Array Oper) (i : Nat) (env : Env) (H : Heap) : Prop :=
  match ops[i]? with
  | some o => match o.dst with
    | none => True
    | some d => match o.guard with
      | none => opX P tab ai env o (fun v _ => v = env d) H
      | some (j, want) => match (ops[j]?).bind (·.dst) with
        | none => False
        | some t => match env t with
          | .bool b => match b, want with
            | true, true => opX P tab ai env o (fun v _ => v = env d) H
            | false, false => opX P tab ai env o (fun v _ => v = env d) H
            | _, _ => True
          | .tuple _ => True
          | _ => False
  | none => True
def recheckAll (P : Program) (tab : Tab P) (ai : IterT) (ops : Array Oper) : List Nat → Env → HP → HP
  | [], _, K, H => K H
  | i :: r, env, K, H => recheck P tab ai ops i env H ∧ recheckAll P tab ai ops r env K H
def planX (P : Program) (tab : Tab P) (ai : IterT) (ops : Array Oper) (n : Nat) : Plan → (Env → HP) → Env → HP
  | .done, K, env => K env
  | .take i p, K, env => match ops[i]? with | some o => stepX P tab ai ops n o (planX P tab ai ops n p K) env | none => no
  | .eff i hs p, K, env => match ops[i]? with | some o => stepX P tab ai ops n o (fun e => recheckAll P tab ai ops hs e (planX P tab ai ops n p K e)) env | none => no
  | .alt i hs p j hs' q, K, env => fun H =>
    (match ops[i]? with | some o => stepX P tab ai ops n o (fun e => recheckAll P tab ai ops hs e (planX P tab ai ops n p K e)) env H | none => False) ∧
    (match ops[j]? with | some o => stepX P tab ai ops n o (fun e => recheckAll P tab ai ops hs' e (planX P tab ai ops n q K e)) env H | none => False)
/-- what a loop turns, and what lives at its head (a set of slots, as a number) -/
structure LoopSpec where
  vars : List (Nat × Leaf)
  lin : Nat
def asAll (vs : List Value) : Nat → List (Nat × Leaf) → (List Value → HP) → HP
  | _, [], K => K []
  | i, x :: r, K => asLeaf x.2 (vs.getD i undef) fun v => asAll vs (i + 1) r fun rest => K (v :: rest)
def Env.upd (env : Env) : List (Nat × Leaf) → List Value → Env
  | x :: r, v :: vs => fun t => bif Nat.beq t x.1 then v else Env.upd env r vs t
  | _, _ => env
structure Aux where
  plan : Nat → Plan
  spec : Nat → LoopSpec
  iter : IterT
def X (P : Program) (tab : Tab P) (au : Aux) (n : Nat) : Nat → Code → (Ex → Env → HP) → Env → HP
  | _, .skip, Q => Q .normal
  | _, .region id ops dr, Q => match dr with
    | false => opsX P tab au.iter ops n ops.toList (Q .normal)
    | true => planX P tab au.iter ops n (au.plan id) (Q .normal)
  | c, .seq a b, Q => X P tab au n c a fun e => match e with
    | .normal => X P tab au n c b Q
    | .exit i => Q (.exit i)
    | .ret => Q .ret
  | c, .cond x a b, Q => fun env => match ev env x with
    | .bool t => match t with | true => X P tab au n c a Q env | false => X P tab au n c b Q env
    | _ => no
  | _, .block id a, Q => X P tab au n id a fun e => match e with
    | .normal => Q .normal
    | .exit i => (match Nat.beq i id with | true => Q .normal | false => Q (.exit i))
    | .ret => Q .ret
  | c, .loop a, Q => fun env => loop (fun R vs => asAll vs 0 (au.spec c).vars fun vs' => X P tab au n c a (fun e => match e with
    | .normal => fun env' => R ((au.spec c).vars.map fun x => env' x.1)
    | .exit i => Q (.exit i)
    | .ret => Q .ret) (env.upd (au.spec c).vars vs')) ((au.spec c).vars.map fun x => env x.1)
  | _, .exit i, Q => Q (.exit i)
  | _, .ret, Q => Q .ret
  | _, _, _ => fun _ => no
def resX (P : Program) : List ResultVar → List Value → Env → (Value → HP) → HP
  | [], acc, _, K => match acc with | [v] => K v | vs => K (.tuple vs.reverse.toArray)
  | .tmp t :: r, acc, env, K => resX P r (env t :: acc) env K
  | .cell a t :: r, acc, env, K => match env a with | .pointer (some a) => ldT P t a fun v => resX P r (v :: acc) env K | _ => no
def retX (P : Program) (rs : List ResultVar) (K : Value → HP) : Ex → Env → HP
  | .normal, env => resX P rs [] env K
  | .ret, env => resX P rs [] env K
  | .exit _, _ => no
end Go.Ph
end
section
set_option linter.all false
namespace Go.Ph
open Go
theorem cell_eq (w : World) (a : Addr) : w.cell? a = cell w.heap a := rfl
/-- a computation that leaves the world alone, whatever the world -/
def Pu {α : Type} (P : Program) (s : Sem α) (v : α) : Prop := ∀ w, s.run P w = .ok v w
theorem kEq_iff {j k : IntKind} (h : kEq j k = true) : j = k := by simpa [kEq] using h
theorem binI_sound {P : Program} {op : BinOp} {t : TypeId} {k : IntKind} {a b : Int} {K : Value → HP} {H : Heap} (h : binI op k a b K H)
    (hs : op ≠ .shl) (hs' : op ≠ .shr) : ∃ v, Pu P (binOp op t (.int k a) (.int k b)) v ∧ K v H := by
  cases op
  case shl => exact absurd rfl hs
  case shr => exact absurd rfl hs'
  case quo => obtain ⟨h1, h2⟩ := h; exact ⟨_, fun w => by simp [binOp, Op.intDiv, h1], h2⟩
  case rem => obtain ⟨h1, h2⟩ := h; exact ⟨_, fun w => by simp [binOp, Op.intDiv, h1], h2⟩
  all_goals
    refine ⟨_, fun w => ?_, h⟩
    simp only [binOp, Op.intArith, Op.intBits, Op.intCmp, ne_eq, not_true_eq_false, if_false]
    rfl
theorem toList_beq (a b : ByteArray) : (a.toList == b.toList) = decide (a = b) := by
  rw [ByteArray.toList_eq, ByteArray.toList_eq]
  by_cases h : a = b
  · subst h; simp
  · have : a.data.toList ≠ b.data.toList := fun e => h (by cases a; cases b; simp only [ByteArray.mk.injEq]; exact Array.toList_inj.1 e)
    simp only [h, decide_false]; exact beq_eq_false_iff_ne.2 this
theorem binS_sound {P : Program} {op : BinOp} {t : TypeId} {a b : ByteArray} {K : Value → HP} {H : Heap} (h : binS op a b K H) :
    ∃ v, Pu P (binOp op t (.string a) (.string b)) v ∧ K v H := by
  cases op <;> simp only [binS] at h
  case add =>
    obtain ⟨h1, h2⟩ := h
    refine ⟨_, fun w => ?_, h2⟩
    simp only [binOp, Op.stringOp]
    rw [if_neg (by simp [IntKind.max, IntKind.signed, IntKind.bits]; omega)]; rfl
  case eql => exact ⟨_, fun w => by simp only [binOp, Op.stringOp, Sem.run_pure, toList_beq], h⟩
  case neq => exact ⟨_, fun w => by simp only [binOp, Op.stringOp, Sem.run_pure, toList_beq], h⟩
  case lss => exact ⟨_, fun w => by simp only [binOp, Op.stringOp, Sem.run_pure, slt], h⟩
  case leq => exact ⟨_, fun w => by simp only [binOp, Op.stringOp, Sem.run_pure, toList_beq, slt], h⟩
  case gtr => exact ⟨_, fun w => by simp only [binOp, Op.stringOp, Sem.run_pure, toList_beq, slt], h⟩
  case geq => exact ⟨_, fun w => by simp only [binOp, Op.stringOp, Sem.run_pure, slt], h⟩
  all_goals exact absurd h id
theorem run_underlying {P : Program} {t : TypeId} {d : TypeDesc} (h : P.underlying t = some d) (w : World) : (underlying t).run P w = .ok d w := by
  simp [underlying, h]
theorem run_sizeOf {P : Program} {t : TypeId} {i : TypeInfo} (h : P.info? t = some i) (w : World) : (sizeOf t).run P w = .ok i.size w := by
  simp [sizeOf, typeInfo, h]
theorem info_of_underlying {P : Program} {t : TypeId} {d : TypeDesc} (h : P.underlying t = some d) : ∃ i, P.info? t = some i := by
  unfold Program.underlying at h
  cases hi : P.info? t with
  | none => simp [hi] at h
  | some i => exact ⟨i, rfl⟩
theorem isNilX_sound {op : BinOp} {x : Bool} {K : Value → HP} {H : Heap} (h : isNilX op x K H) :
    (op = .eql ∧ K (.bool x) H) ∨ (op = .neq ∧ K (.bool !x) H) := by
  cases op <;> simp only [isNilX] at h <;> first | exact absurd h id | exact .inl ⟨rfl, h⟩ | exact .inr ⟨rfl, h⟩
/-- equality, asked of 'Op.equal' -/
theorem eql_of {P : Program} {t : TypeId} {x y : Value} {r : Bool} (hx : binOp .eql t x y = (Op.equal t x y >>= fun b => pure (.bool b))) (hy : binOp .neq t x y = (Op.equal t x y >>= fun b => pure (.bool !b)))
    (he : Pu P (Op.equal t x y) r) {op : BinOp} {K : Value → HP} {H : Heap} (h : isNilX op r K H) : ∃ v, Pu P (binOp op t x y) v ∧ K v H := by
  rcases isNilX_sound h with ⟨rfl, h⟩ | ⟨rfl, h⟩
  · exact ⟨_, fun w => by rw [hx]; simp [he w], h⟩
  · exact ⟨_, fun w => by rw [hy]; simp [he w], h⟩
theorem equal_arr {P : Program} {t e : TypeId} {n : Nat} {k : IntKind} (ht : P.underlying t = some (.array n e)) (he : P.underlying e = some (.int k)) (hs : tsize P e = 1)
    {xs ys : Array Value} (hn : xs.toList.length = n) {b : Bool} (hb : eqCells xs.toList ys.toList = some b) : Pu P (Op.equal t (.agg xs) (.agg ys)) b := by
  intro w
  have hsz : ∀ w, (sizeOf e).run P w = .ok 1 w := by
    obtain ⟨i, hi⟩ := info_of_underlying he
    intro w
    rw [run_sizeOf hi]
    simp [tsize, hi] at hs
    rw [hs]
  have hag : ∀ w, (isAgg e).run P w = .ok false w := fun w => by simp [isAgg, Go.run_underlying he]
  show (Op.equalIn (9999 + 1) t (.agg xs) (.agg ys)).run P w = _
  rw [Op.equalIn]
  simp only [Sem.run_bind, Go.run_underlying ht, Result.andThen_ok, hsz]
  rw [Std.Legacy.Range.forIn_eq_forIn_range']
  simp only [Std.Legacy.Range.size, Nat.sub_zero, Nat.add_sub_cancel, Nat.div_one]
  have key : ∀ (m i : Nat) (l r : List Value) (b : Bool) (w : World), xs.toList.drop i = l → ys.toList.drop i = r → l.length = m → eqCells l r = some b →
      (forIn (List.range' i m 1) ((none, ()) : Option Bool × Unit) (fun j _ => do
        let x ← part e xs (j * 1)
        let y ← part e ys (j * 1)
        let q ← Op.equalIn 9999 e x y
        if (!q) = true then pure (ForInStep.done (some false, ())) else pure (ForInStep.yield (none, ())))).run P w = .ok (if b then (none, ()) else (some false, ())) w := by
    intro m
    induction m with
    | zero =>
      intro i l r b w h1 h2 h3 h4
      cases l with
      | cons x l => simp at h3
      | nil =>
        cases r with
        | cons y r => simp [eqCells] at h4
        | nil => simp only [eqCells, Option.some.injEq] at h4; subst h4; simp
    | succ m ih =>
      intro i l r b w h1 h2 h3 h4
      cases l with
      | nil => simp at h3
      | cons x l =>
        have hx : xs[i]? = some x := by
          have := congrArg (·[0]?) h1; simpa using this
        cases r with
        | nil => cases x <;> simp [eqCells] at h4
        | cons y r =>
          have hy : ys[i]? = some y := by
            have := congrArg (·[0]?) h2; simpa using this
          cases x <;> cases y <;> simp only [eqCells] at h4 <;> try (cases h4; done)
          rename_i j1 a1 j2 a2
          cases hk : kEq j1 j2 with
          | false => simp [hk] at h4
          | true =>
            obtain rfl := kEq_iff hk
            simp only [hk] at h4
            cases hq : eqCells l r with
            | none => simp [hq] at h4
            | some b' =>
              simp only [hq, Option.map_some, Option.some.injEq] at h4
              have hpx : ∀ w, (part e xs (i * 1)).run P w = .ok (.int j1 a1) w := fun w => by simp [part, hag, hx]
              have hpy : ∀ w, (part e ys (i * 1)).run P w = .ok (.int j1 a2) w := fun w => by simp [part, hag, hy]
              have hee : ∀ w, (Op.equalIn 9999 e (.int j1 a1) (.int j1 a2)).run P w = .ok (a1 == a2) w := fun w => by
                show (Op.equalIn (9998 + 1) e _ _).run P w = _
                rw [Op.equalIn]; simp [Go.run_underlying he]
              simp only [List.range'_succ, List.forIn_cons, Sem.run_bind, hpx, hpy, Result.andThen_ok, hee]
              by_cases hab : a1 = a2
              · subst hab
                simp only [beq_self_eq_true, Bool.not_true, Bool.false_eq_true, if_false, Sem.run_pure, Result.andThen_ok]
                rw [ih (i + 1) l r b' w (by rw [← List.drop_drop, h1]; rfl) (by rw [← List.drop_drop, h2]; rfl) (by simpa using h3) hq]
                simp at h4; rw [h4]
              · have : (a1 == a2) = false := by simpa using hab
                simp only [this, Bool.not_false, if_true, Sem.run_pure, Result.andThen_ok]
                simp [hab] at h4; subst h4; rfl
  have := key n 0 xs.toList ys.toList b w rfl rfl hn hb
  rw [this]
  cases b <;> rfl
theorem equal_bool {P : Program} {t : TypeId} (ht : P.underlying t = some .bool) (a b : Bool) : Pu P (Op.equal t (.bool a) (.bool b)) (a == b) := by
  intro w
  show (Op.equalIn (9999 + 1) t _ _).run P w = _
  rw [Op.equalIn]; simp [Go.run_underlying ht]
theorem equal_ptr {P : Program} {t e : TypeId} (ht : P.underlying t = some (.pointer e)) (p : Option Addr) : Pu P (Op.equal t (.pointer p) (.pointer none)) p.isNone := by
  intro w
  show (Op.equalIn (9999 + 1) t _ _).run P w = _
  rw [Op.equalIn]
  cases p <;> simp [Go.run_underlying ht]
theorem equal_sl {P : Program} {t e : TypeId} (ht : P.underlying t = some (.slice e)) (p : Option Addr) (n c n' c' : Nat) : Pu P (Op.equal t (.slice p n c) (.slice none n' c')) p.isNone := by
  intro w
  show (Op.equalIn (9999 + 1) t _ _).run P w = _
  rw [Op.equalIn]
  cases p <;> simp [Go.run_underlying ht]
theorem equal_map {P : Program} {t e k : TypeId} (ht : P.underlying t = some (.map k e)) (p : Option Nat) : Pu P (Op.equal t (.map p) (.map none)) p.isNone := by
  intro w
  show (Op.equalIn (9999 + 1) t _ _).run P w = _
  rw [Op.equalIn]
  cases p <;> simp [Go.run_underlying ht]
theorem guard_ok {P : Program} {op : BinOp} {t : TypeId} {x y : Operand} {a b : Value} (ha : ∀ cs, a ≠ .agg cs) (hn : a ≠ .nilIface) : Pu P (eqGuard op t x y a b) () := by
  intro w
  unfold eqGuard
  cases a <;> first
    | exact absurd rfl (ha _)
    | exact absurd rfl hn
    | (cases op <;> simp)
theorem binX_sound {P : Program} {op : BinOp} {t : TypeId} {x y : Value} {K : Value → HP} {H : Heap} (h : binX P op t x y K H) (xo yo : Operand) :
    ∃ v, Pu P (do eqGuard op t xo yo x y; binOp op t x y) v ∧ K v H := by
  have fin : ∀ {x y : Value}, Pu P (eqGuard op t xo yo x y) () → (∃ v, Pu P (binOp op t x y) v ∧ K v H) → ∃ v, Pu P (do eqGuard op t xo yo x y; binOp op t x y) v ∧ K v H := by
    rintro x y hg ⟨v, hv, hk⟩
    exact ⟨v, fun w => by simp [hg w, hv w], hk⟩
  unfold binX at h
  split at h
  · refine fin (guard_ok (by simp) (by simp)) ?_
    split at h
    · exact ⟨_, fun w => by simp [binOp, Op.shift, Int.not_lt.2 h.1]; rfl, h.2⟩
    · exact ⟨_, fun w => by simp [binOp, Op.shift, Int.not_lt.2 h.1]; rfl, h.2⟩
    · rename_i k a k' b _ _ _
      cases hk : kEq k k' with
      | false => rw [hk] at h; exact absurd h id
      | true =>
        rw [hk] at h
        obtain rfl := kEq_iff hk
        exact binI_sound h (by assumption) (by assumption)
  · exact fin (guard_ok (by simp) (by simp)) (binS_sound h)
  · refine fin (guard_ok (by simp) (by simp)) ?_
    generalize hu : P.underlying t = u at h
    split at h
    · exact eql_of (by simp [binOp]) (by simp [binOp]) (equal_bool hu _ _) h
    · exact absurd h id
  · refine fin (guard_ok (by simp) (by simp)) ?_
    generalize hu : P.underlying t = u at h
    split at h
    · exact eql_of (by simp [binOp]) (by simp [binOp]) (equal_ptr hu _) h
    · exact absurd h id
  · refine fin (guard_ok (by simp) (by simp)) ?_
    generalize hu : P.underlying t = u at h
    split at h
    · exact eql_of (by simp [binOp]) (by simp [binOp]) (equal_sl hu _ _ _ _ _) h
    · exact absurd h id
  · refine fin (guard_ok (by simp) (by simp)) ?_
    generalize hu : P.underlying t = u at h
    split at h
    · exact eql_of (by simp [binOp]) (by simp [binOp]) (equal_map hu _) h
    · exact absurd h id
  · rename_i xs ys
    generalize hu : P.underlying t = u at h
    generalize hg : P.eqGuardType P.depth t = g at h
    generalize hb : eqCells xs.toList ys.toList = b at h
    split at h
    · rename_i n e b
      generalize he : P.underlying e = u' at h
      generalize hs : Nat.beq (tsize P e) 1 = s at h
      generalize hn : Nat.beq xs.toList.length n = m at h
      split at h
      · refine fin (fun w => run_eqGuard_agg w op t xo yo _ _ hg) ?_
        exact eql_of (by simp [binOp]) (by simp [binOp]) (equal_arr hu he (Nat.eq_of_beq_eq_true hs) (Nat.eq_of_beq_eq_true hn) hb) h
      · exact absurd h id
    · exact absurd h id
  · exact absurd h id
theorem unX_sound {P : Program} {op : UnOp} {x : Value} {K : Value → HP} {H : Heap} (h : unX op x K H) : ∃ v, Pu P (Op.unary op x) v ∧ K v H := by
  unfold unX at h
  split at h
  · exact ⟨_, fun w => by simp only [Op.unary, Op.intArith]; rfl, h⟩
  · exact ⟨_, fun w => by simp only [Op.unary, Op.intBits]; rfl, h⟩
  · exact ⟨_, fun w => by simp [Op.unary], h⟩
  · exact absurd h id
theorem intOpt_some {d : Int} {o : Option Value} {n : Int} (h : intOpt d o = some n) : (o = none ∧ n = d) ∨ ∃ k, o = some (.int k n) := by
  unfold intOpt at h
  split at h
  · exact .inl ⟨rfl, by simpa using h.symm⟩
  · rename_i k m; exact .inr ⟨k, by simp at h; rw [h]⟩
  · cases h
theorem sliceBound_ok {P : Program} {k : IntKind} {i : Int} {y : Nat} {c : BoundsCode} (h0 : 0 ≤ i) (h1 : i ≤ y) (w : World) : (Instr.sliceBound (.int k i) y c).run P w = .ok i.toNat w := by
  simp [Instr.sliceBound, asIntOf, h0, h1]
theorem sliceBounds_ok {P : Program} {isS : Bool} {len cap : Nat} {lo hi mx : Option Value} {l h m : Int} (hl : intOpt 0 lo = some l) (hh : intOpt len hi = some h) (hm : intOpt cap mx = some m)
    (h0 : 0 ≤ l) (h1 : l ≤ h) (h2 : h ≤ m) (h3 : m ≤ cap) (hx : mx.isSome = true → hi.isSome = true) (w : World) :
    (Instr.sliceBounds isS len cap lo hi mx).run P w = .ok (l.toNat, h.toNat, m.toNat) w := by
  rcases intOpt_some hl with ⟨rfl, rfl⟩ | ⟨kl, rfl⟩ <;> rcases intOpt_some hh with ⟨rfl, rfl⟩ | ⟨kh, rfl⟩ <;> rcases intOpt_some hm with ⟨rfl, rfl⟩ | ⟨km, rfl⟩ <;>
    (try (simp at hx; done)) <;>
    simp only [Instr.sliceBounds, Sem.run_bind, Sem.run_pure, Result.andThen_ok] <;>
    (try rw [sliceBound_ok (by omega) (by omega)]) <;> (try simp only [Result.andThen_ok]) <;>
    (try rw [sliceBound_ok (by omega) (by omega)]) <;> (try simp only [Result.andThen_ok]) <;>
    (try rw [sliceBound_ok (by omega) (by omega)]) <;> (try simp only [Result.andThen_ok]) <;>
    (try simp)
end Go.Ph
end
section
set_option linter.all false
namespace Go.Ph
open Go
theorem tsize_run {P : Program} {t : TypeId} (i : TypeInfo) (h : P.info? t = some i) (w : World) : (sizeOf t).run P w = .ok (tsize P t) w := by
  rw [run_sizeOf h]; simp [tsize, h]
theorem size_run {P : Program} {t : TypeId} {d : TypeDesc} (h : P.underlying t = some d) (w : World) : (sizeOf t).run P w = .ok (tsize P t) w := by
  obtain ⟨i, hi⟩ := info_of_underlying h; exact tsize_run i hi w
theorem known_info {P : Program} {t : TypeId} (h : known P t = true) : ∃ i, P.info? t = some i := by
  unfold known at h
  cases hu : P.underlying t with
  | none => simp [hu] at h
  | some d => exact info_of_underlying hu
theorem slX_sound {P : Program} {t : TypeId} {x : Value} {lo hi mx : Option Value} {K : Value → HP} {H : Heap} (h : slX P t x lo hi mx K H) : ∃ v, Pu P (Instr.sliceAt t x lo hi mx) v ∧ K v H := by
  unfold slX at h
  generalize hu : P.underlying t = u at h
  split at h
  · rename_i s
    generalize hl : intOpt 0 lo = l at h
    generalize hh : intOpt s.size hi = q at h
    split at h
    · rename_i l q _
      obtain ⟨⟨h0, h1, h2⟩, hk⟩ := h
      refine ⟨_, fun w => ?_, hk⟩
      simp only [Instr.sliceAt, Instr.slice, Sem.run_bind, Go.run_underlying hu, Result.andThen_ok, Option.isSome_none, Bool.false_eq_true, if_false, Sem.run_pure]
      rw [sliceBounds_ok (mx := none) hl hh rfl h0 h1 h2 (Int.le_refl _) (by simp)]
      simp
    · exact absurd h id
  · rename_i e a n c
    generalize hl : intOpt 0 lo = l at h
    generalize hh : intOpt n hi = q at h
    generalize hm : intOpt c mx = m at h
    generalize hkn : known P e = kn at h
    generalize hx : (hi.isSome || !mx.isSome) = hx' at h
    split at h
    · rename_i l q m
      obtain ⟨⟨h0, h1, h2, h3⟩, hk⟩ := h
      obtain ⟨i, hi'⟩ := known_info hkn
      refine ⟨_, fun w => ?_, hk⟩
      simp only [Instr.sliceAt, Instr.slice, Sem.run_bind, Go.run_underlying hu, Result.andThen_ok, Sem.run_pure]
      rw [sliceBounds_ok hl hh hm h0 h1 h2 h3 (by cases hi <;> cases mx <;> simp_all)]
      simp [tsize_run i hi']
    · exact absurd h id
  · rename_i n e a
    generalize hl : intOpt 0 lo = l at h
    generalize hh : intOpt n hi = q at h
    generalize hm : intOpt n mx = m at h
    generalize hkn : known P e = kn at h
    generalize hx : (hi.isSome || !mx.isSome) = hx' at h
    split at h
    · rename_i l q m
      obtain ⟨⟨h0, h1, h2, h3⟩, hk⟩ := h
      obtain ⟨i, hi'⟩ := known_info hkn
      refine ⟨_, fun w => ?_, hk⟩
      simp only [Instr.sliceAt, Instr.sureAddr, Sem.run_bind, Go.run_underlying hu, Result.andThen_ok, Sem.run_pure]
      rw [sliceBounds_ok hl hh hm h0 h1 h2 h3 (by cases hi <;> cases mx <;> simp_all)]
      simp [tsize_run i hi']
    · exact absurd h id
  · exact absurd h id
theorem fieldOff_some {P : Program} {t : TypeId} {f off sz : Nat} {g : Bool} (h : fieldOff P t f = some (off, sz, g)) :
    ∃ fs x, P.underlying t = some (.struct fs) ∧ fs[f]? = some x ∧ off = x.offset ∧ sz = tsize P x.type ∧ g = tagg P x.type ∧ ∃ d, P.underlying x.type = some d := by
  unfold fieldOff at h
  split at h
  · rename_i fs hu
    split at h
    · rename_i x hx
      cases hk : known P x.type with
      | false => simp [hk] at h
      | true =>
        simp only [hk, Option.some.injEq, Prod.mk.injEq] at h
        exact ⟨fs, x, hu, by simpa using hx, h.1.symm, h.2.1.symm, h.2.2.symm, Option.isSome_iff_exists.1 hk⟩
    · cases h
  · cases h
theorem faddrX_sound {P : Program} {t : TypeId} {x : Value} {f : Nat} {K : Value → HP} {H : Heap} (h : faddrX P t x f K H) : ∃ v, Pu P (Instr.fieldAt t x f) v ∧ K v H := by
  unfold faddrX at h
  generalize hf : fieldOff P t f = o at h
  split at h
  · rename_i off sz g a
    obtain ⟨fs, y, hu, hy, rfl, hs, _, _⟩ := fieldOff_some hf
    split at h
    · exact absurd h id
    · rename_i m
      have hi : ∃ i, P.info? y.type = some i := by
        cases hi : P.info? y.type with
        | some i => exact ⟨i, rfl⟩
        | none => simp [tsize, hi] at hs
      obtain ⟨i, hi⟩ := hi
      refine ⟨_, fun w => ?_, h⟩
      simp only [Instr.fieldAt, Sem.run_bind, Go.run_underlying hu, Result.andThen_ok, hy, Instr.sureAddr, Sem.run_pure, fieldPlace, tsize_run i hi]
      rw [if_neg (by omega)]; simp
  · exact absurd h id
theorem tagg_run {P : Program} {t : TypeId} {d : TypeDesc} (h : P.underlying t = some d) (w : World) : (isAgg t).run P w = .ok (tagg P t) w := by
  simp only [isAgg, Sem.run_bind, Go.run_underlying h, Result.andThen_ok, tagg, h]
  cases d <;> rfl
theorem fieldX_sound {P : Program} {t : TypeId} {x : Value} {f : Nat} {K : Value → HP} {H : Heap} (h : fieldX P t x f K H) : ∃ v, Pu P (Instr.field t x f) v ∧ K v H := by
  unfold fieldX at h
  generalize hf : fieldOff P t f = o at h
  split at h
  · rename_i off sz cs
    obtain ⟨fs, y, hu, hy, rfl, rfl, hg, d, hd⟩ := fieldOff_some hf
    refine ⟨_, fun w => ?_, h⟩
    simp only [Instr.field, Sem.run_bind, Go.run_underlying hu, Result.andThen_ok, hy, Go.asAgg, part, Sem.run_pure, tagg_run hd, ← hg, if_true, size_run hd]
    congr 2
    apply Array.ext'
    simp [List.extract_eq_take_drop]
  · rename_i off sz cs
    obtain ⟨fs, y, hu, hy, rfl, rfl, hg, d, hd⟩ := fieldOff_some hf
    generalize hc : cs.toList[y.offset]? = c at h
    split at h
    · rename_i v
      refine ⟨_, fun w => ?_, h⟩
      have hc' : cs[y.offset]? = some v := by simpa using hc
      simp only [Instr.field, Sem.run_bind, Go.run_underlying hu, Result.andThen_ok, hy, Go.asAgg, part, Sem.run_pure, tagg_run hd, ← hg, Bool.false_eq_true, if_false, hc']
    · exact absurd h id
  · exact absurd h id
theorem ixaddrX_sound {P : Program} {t : TypeId} {x i : Value} {K : Value → HP} {H : Heap} (h : ixaddrX P t x i K H) : ∃ v, Pu P (Instr.indexAt t x i) v ∧ K v H := by
  unfold ixaddrX at h
  generalize hu : P.underlying t = u at h
  split at h
  · rename_i e a n c k i
    generalize hkn : known P e = kn at h
    cases kn with
    | false => exact absurd h id
    | true =>
    obtain ⟨b, hb, h0, h1, hk⟩ := h
    simp only at hb h1; subst hb
    obtain ⟨j, hj⟩ := known_info hkn
    refine ⟨_, fun w => ?_, hk⟩
    simp [Instr.indexAt, asIntOf, Go.run_underlying hu, h0, h1, tsize_run j hj]
  · rename_i n e a k i
    generalize hkn : known P e = kn at h
    cases kn with
    | false => exact absurd h id
    | true =>
    obtain ⟨h0, h1, hk⟩ := h
    obtain ⟨j, hj⟩ := known_info hkn
    refine ⟨_, fun w => ?_, hk⟩
    simp [Instr.indexAt, Instr.sureAddr, asIntOf, Go.run_underlying hu, h0, h1, tsize_run j hj]
  · exact absurd h id
theorem ixX_sound {P : Program} {t : TypeId} {x i : Value} {K : Value → HP} {H : Heap} (h : ixX P t x i K H) : ∃ v, Pu P (Instr.index t x i) v ∧ K v H := by
  unfold ixX at h
  generalize hu : P.underlying t = u at h
  split at h
  · rename_i s k i
    obtain ⟨h0, h1, hk⟩ := h
    refine ⟨_, fun w => ?_, hk⟩
    have : s[i.toNat]? = some (s[i.toNat]'h1) := ByteArray.getElem?_lt' s _ h1
    simp [Instr.index, asIntOf, Go.run_underlying hu, h0, this]
  · exact absurd h id
/-! rows put together -/
theorem cellsV_eq (v : Value) : v.cells.toList = cellsV v := by cases v <;> rfl
theorem cellsV_size (v : Value) : v.cells.size = (cellsV v).length := by rw [← cellsV_eq]; simp
theorem foldl_set (off : Nat) : ∀ (l : List Value) (k : Nat) (z : Array Value), off + k + l.length ≤ z.size →
    ((l.zipIdx k).foldl (fun (cs : Array Value) (p : Value × Nat) => cs.setIfInBounds (off + p.2) p.1) z).toList = z.toList.take (off + k) ++ l ++ z.toList.drop (off + k + l.length)
  | [], k, z, h => by simp
  | v :: l, k, z, h => by
    simp only [List.zipIdx_cons, List.foldl_cons, List.length_cons] at *
    rw [foldl_set off l (k + 1) _ (by simp; omega)]
    simp only [Array.toList_setIfInBounds]
    have h1 : off + k < z.toList.length := by simp; omega
    rw [← Nat.add_assoc, List.set_eq_take_append_cons_drop, if_pos h1]
    have e1 : (List.take (off + k) z.toList).length = off + k := by simp; omega
    rw [List.take_append, List.drop_append, e1]
    rw [List.take_of_length_le (l := List.take (off + k) z.toList) (by rw [e1]; omega), List.drop_eq_nil_of_le (as := List.take (off + k) z.toList) (by rw [e1]; omega)]
    have e2 : off + k + 1 - (off + k) = 1 := by omega
    have e3 : off + k + 1 + l.length - (off + k) = l.length + 1 := by omega
    rw [e2, e3]
    simp only [List.take_succ_cons, List.take_zero, List.drop_succ_cons, List.nil_append, List.drop_drop, List.append_assoc, List.cons_append]
    congr 4
    omega
theorem fill_ok (place : Nat → Option (Nat × Nat)) : ∀ (ps : List (Nat × Value)) (qs : List (Nat × List Value)) (z : Array Value) (cs : List Value), placed place ps = some qs → fillL z.toList qs = some cs →
    Instr.fill place z ps = some cs.toArray
  | [], qs, z, cs, h1, h2 => by
    simp only [placed, Option.some.injEq] at h1; subst h1
    simp only [fillL, Option.some.injEq] at h2
    simp [Instr.fill, ← h2]
  | (i, v) :: r, qs, z, cs, h1, h2 => by
    simp only [placed] at h1
    split at h1
    · rename_i off sz l hp hr
      cases hb : Nat.beq (cellsV v).length sz with
      | false => simp [hb] at h1
      | true =>
        simp only [hb, Option.some.injEq] at h1
        subst h1
        simp only [fillL] at h2
        cases hc : Nat.ble (off + (cellsV v).length) z.toList.length with
        | false => rw [hc] at h2; cases h2
        | true =>
          simp only [hc] at h2
          have hb' := Nat.eq_of_beq_eq_true hb
          have hc' := Nat.le_of_ble_eq_true hc
          simp only [Array.length_toList] at hc'
          simp only [Instr.fill, hp]
          rw [if_neg (by rw [cellsV_size]; simp; omega)]
          refine fill_ok place r l _ cs hr ?_
          rw [← h2]
          congr 1
          have := foldl_set off (cellsV v) 0 z (by omega)
          rw [← Array.foldl_toList]
          rw [Array.toList_zipIdx, cellsV_eq]
          simpa using this
    · cases h1
end Go.Ph
end
section
set_option linter.all false
namespace Go.Ph
open Go
theorem zero_run {P : Program} {t : TypeId} {z : Value} (h : tzero P t = some z) (w : World) : (zeroValue t).run P w = .ok z w := by
  unfold tzero at h
  cases hi : P.info? t with
  | none => simp [hi] at h
  | some i => simp [hi] at h; simp [zeroValue, typeInfo, hi, h]
theorem zero_info {P : Program} {t : TypeId} {z : Value} (h : tzero P t = some z) : ∃ i, P.info? t = some i ∧ i.zero = some z := by
  unfold tzero at h
  cases hi : P.info? t with
  | none => simp [hi] at h
  | some i => exact ⟨i, rfl, by simpa [hi] using h⟩
theorem cells_toArray (v : Value) : v.cells = (cellsV v).toArray := by cases v <;> simp [Value.cells, cellsV]
theorem buildX_sound {P : Program} {t : TypeId} {ps : List (Nat × Value)} {K : Value → HP} {H : Heap} (h : buildX P t ps K H) : ∃ v, Pu P (Instr.build t ps.toArray) v ∧ K v H := by
  unfold buildX at h
  generalize hz : tzero P t = z at h
  generalize hu : P.underlying t = u at h
  split at h
  · rename_i z fs
    generalize hpl : placesX P fs.toList = pl at h
    cases pl with
    | none => exact absurd h id
    | some pl =>
      simp only at h
      generalize hp : placed (fun i => pl[i]?) ps = q at h
      cases q with
      | none => exact absurd h id
      | some qs =>
        simp only at h
        generalize hf : fillL (cellsV z) qs = c at h
        cases c with
        | none => exact absurd h id
        | some cs =>
          refine ⟨_, fun w => ?_, h⟩
          have := fill_ok (fun i => pl[i]?) ps qs z.cells cs hp (by rw [cellsV_eq]; exact hf)
          simp only [Instr.build, Sem.run_bind, zero_run hz, Result.andThen_ok, Go.run_underlying hu, Array.mapM_eq_mapM_toList, Sem.run_map]
          have hr := run_places (P := P) w fs.toList pl hpl
          have e : (fun f : Field => (do pure (f.offset, ← sizeOf f.type) : Sem (Nat × Nat))) = fun f => Prod.mk f.offset <$> sizeOf f.type := by funext f; exact (map_eq_pure_bind _ _).symm
          rw [e, hr]
          simp only [Result.andThen_ok, List.getElem?_toArray]
          rw [this]
          simp
  · rename_i z n e
    generalize hkn : known P e = kn at h
    generalize hp : placed (fun i => some (i * tsize P e, tsize P e)) ps = q at h
    cases kn with
    | false => cases q <;> exact absurd h id
    | true =>
    cases q with
    | none => exact absurd h id
    | some qs =>
      simp only at h
      generalize hf : fillL (cellsV z) qs = c at h
      cases c with
      | none => exact absurd h id
      | some cs =>
        obtain ⟨i, hi⟩ := known_info hkn
        refine ⟨_, fun w => ?_, h⟩
        have := fill_ok _ ps qs z.cells cs hp (by rw [cellsV_eq]; exact hf)
        simp only [Instr.build, Sem.run_bind, zero_run hz, Result.andThen_ok, Go.run_underlying hu, tsize_run i hi]
        rw [this]
        simp
  · exact absurd h id
/-- what a computation that only reads comes to -/
def Rd {α : Type} (P : Program) (s : Sem α) (H : Heap) (v : α) : Prop := ∀ w : World, w.heap = H → s.run P w = .ok v w
theorem Pu.rd {α : Type} {P : Program} {s : Sem α} {v : α} (h : Pu P s v) (H : Heap) : Rd P s H v := fun w _ => h w
theorem load_run {P : Program} {H : Heap} {a : Addr} {v : Value} (h : cell H a = some v) : Rd P (load a) H v := by
  intro w hw
  have : w.cell? a = some v := by rw [cell_eq, hw]; exact h
  simp [this]
theorem ldLeaf_sound {l : Leaf} {a : Addr} {K : Value → HP} {H : Heap} (h : ldLeaf l a K H) : ∃ v, cell H a = some v ∧ K v H := by
  cases l <;> (obtain ⟨x, h1, h2⟩ := h; exact ⟨_, h1, h2⟩)
theorem ldAgg_sound {a : Addr} {K : Value → HP} {H : Heap} : ∀ (ls : List Leaf) (i : Nat) (acc : List Value), ldAgg a i acc ls K H →
    ∃ vs : List Value, vs.length = ls.length ∧ (∀ j v, vs[j]? = some v → cell H (a.add (i + j)) = some v) ∧ K (.agg (acc.reverse ++ vs).toArray) H
  | [], i, acc, h => ⟨[], rfl, by simp, by simpa [ldAgg] using h⟩
  | l :: r, i, acc, h => by
    obtain ⟨v, h1, h2⟩ := ldLeaf_sound h
    obtain ⟨vs, h3, h4, h5⟩ := ldAgg_sound r (i + 1) (v :: acc) h2
    refine ⟨v :: vs, by simp [h3], ?_, by simpa using h5⟩
    intro j u hj
    cases j with
    | zero => simp at hj; subst hj; exact h1
    | succ j => simp at hj; have := h4 j u hj; rw [show i + (j + 1) = i + 1 + j by omega]; exact this
theorem loadCells_run {P : Program} {H : Heap} {a : Addr} (n : Nat) (cs : List Value) (hn : cs.length = n) (h : ∀ j v, cs[j]? = some v → cell H (a.add j) = some v) : Rd P (loadCells a n) H cs.toArray := by
  intro w hw
  rw [← hn]
  exact run_loadCells_list w a cs fun j v hj => by rw [cell_eq, hw]; exact h j v hj
theorem tagg_known {P : Program} {t : TypeId} (h : tagg P t = true) : ∃ d, P.underlying t = some d := by
  unfold tagg at h
  cases hu : P.underlying t with
  | none => simp [hu] at h
  | some d => exact ⟨d, rfl⟩
theorem ldT_sound {P : Program} {t : TypeId} {a : Addr} {K : Value → HP} {H : Heap} (h : ldT P t a K H) : ∃ v, Rd P (loadVar t a) H v ∧ K v H := by
  unfold ldT at h
  generalize hg : tagg P t = g at h
  cases g with
  | true =>
    simp only at h
    generalize hl : leaves P 30 t = ls at h
    cases ls with
    | none => exact absurd h id
    | some ls =>
      simp only at h
      generalize hb : Nat.beq ls.length (tsize P t) = b at h
      cases b with
      | false => exact absurd h id
      | true =>
        obtain ⟨vs, h1, h2, h3⟩ := ldAgg_sound ls 0 [] h
        obtain ⟨d, hd⟩ := tagg_known hg
        refine ⟨_, fun w hw => ?_, h3⟩
        have := loadCells_run (P := P) (H := H) (a := a) (tsize P t) vs (by rw [h1]; exact Nat.eq_of_beq_eq_true hb) (by simpa using h2) w hw
        simp only [loadVar, Sem.run_bind, tagg_run hd, hg, Result.andThen_ok, if_true, size_run hd, this]
        simp
  | false =>
    simp only at h
    generalize hl : (P.underlying t).bind leafOf = l at h
    cases l with
    | none => exact absurd h id
    | some l =>
      obtain ⟨v, h1, h2⟩ := ldLeaf_sound h
      obtain ⟨d, hd, _⟩ := Option.bind_eq_some_iff.1 hl
      refine ⟨v, fun w hw => ?_, h2⟩
      simp only [loadVar, Sem.run_bind, tagg_run hd, hg, Result.andThen_ok, Bool.false_eq_true, if_false, load_run h1 w hw]
theorem bytes_fold : ∀ (l : List UInt8) (s : ByteArray), ((l.map fun b => (b.toNat : Int)).foldl (fun r n => r.push (UInt8.ofNat n.toNat)) s) = ⟨s.data ++ l.toArray⟩
  | [], s => by simp
  | b :: l, s => by
    simp only [List.map_cons, List.foldl_cons]
    rw [bytes_fold l]
    simp [ByteArray.push]
theorem convX_sound {P : Program} {src dst : TypeId} {x : Value} {K : Value → HP} {H : Heap} (h : convX P src dst x K H) (hns : ∀ e s, P.underlying dst = some (.slice e) → x ≠ .string s) :
    ∃ v, Rd P (convert src dst x) H v ∧ K v H := by
  unfold convX at h
  generalize hs : P.underlying src = s at h
  generalize hd : P.underlying dst = d at h
  split at h
  · refine ⟨_, fun w _ => ?_, h⟩
    simp [convert, Go.run_underlying hs, Go.run_underlying hd, Conv.intToInt]
  · refine ⟨_, fun w _ => ?_, h⟩
    simp [convert, Go.run_underlying hs, Go.run_underlying hd]
  · exact absurd rfl (hns _ _ hd)
  · rename_i e a n c
    generalize he : P.underlying e = u at h
    split at h
    · obtain ⟨bs, hr, hk⟩ := h
      refine ⟨_, fun w hw => ?_, hk⟩
      rw [run_convert_bytes_string w src dst e a n c hs he hd]
      cases a with
      | none =>
        simp only [Row, bcells, List.map_eq_nil_iff, Array.toList_eq_nil_iff] at hr
        have : bs = .empty := by cases bs; simp at hr; subst hr; rfl
        subst this
        simp [Conv.bytesToString]
      | some a =>
        obtain ⟨h1, h2⟩ := hr
        have h3 := loadCells_run (P := P) n (bcells bs) h1 h2 w hw
        have e1 : bcells bs = (bs.data.toList.map fun b => (b.toNat : Int)).map (Value.int .u8) := by simp [bcells]
        rw [e1] at h3
        rw [run_bytesToString w a n c _ h3, bytes_fold]
        have e2 : (ByteArray.mk (ByteArray.empty.data ++ bs.data.toList.toArray)) = bs := by
          cases bs; simp [ByteArray.empty, ByteArray.emptyWithCapacity]; rfl
        rw [e2]
    · exact absurd h id
  · exact absurd h id
theorem inLeaf_sound {l : Leaf} {v : Value} {K : Value → HP} {H : Heap} (h : inLeaf l v K H) : K v H := by
  cases l <;> (obtain ⟨x, h1, h2⟩ := h; subst h1; exact h2)
theorem inAgg_sound {K : Value → HP} {H : Heap} : ∀ (ls : List Leaf) (cs acc : List Value), inAgg cs acc ls K H → K (.agg (acc.reverse ++ cs).toArray) H
  | [], cs, acc, h => by
    cases cs with
    | nil => simpa [inAgg] using h
    | cons c cs => exact absurd h id
  | l :: r, cs, acc, h => by
    cases cs with
    | nil => exact absurd h id
    | cons c cs =>
      have := inAgg_sound r cs (c :: acc) (inLeaf_sound h)
      simpa using this
theorem inT_sound {P : Program} {t : TypeId} {v : Value} {K : Value → HP} {H : Heap} (h : inT P t v K H) : K v H := by
  unfold inT at h
  generalize hg : tagg P t = g at h
  cases g with
  | true =>
    simp only at h
    generalize hl : leaves P 30 t = ls at h
    split at h
    · rename_i ls cs; have := inAgg_sound ls cs.toList [] h; simpa using this
    · exact absurd h id
  | false =>
    simp only at h
    generalize hl : (P.underlying t).bind leafOf = l at h
    cases l with
    | none => exact absurd h id
    | some l => exact inLeaf_sound h
theorem asLeaf_sound {l : Leaf} {v : Value} {K : Value → HP} {H : Heap} (h : asLeaf l v K H) : K v H := by
  cases l <;> (simp only [asLeaf, asI, asB, asS, asP, asL, asM, asF] at h; cases v <;> simp only at h <;> first | exact absurd h id | exact h | skip)
  rename_i k k' n
  generalize hk : decide (k' = k) = b at h
  cases b with
  | false => exact absurd h id
  | true => have := of_decide_eq_true hk; subst this; exact h
theorem asV_sound {P : Program} {t : TypeId} {v : Value} {K : Value → HP} {H : Heap} (h : asV P t v K H) : K v H := by
  unfold asV at h
  generalize hu : P.underlying t = u at h
  split at h
  · exact h
  · rename_i d _
    generalize hl : leafOf d = l at h
    cases l with
    | none => exact absurd h id
    | some l => exact asLeaf_sound h
  · exact absurd h id
end Go.Ph
end
section
set_option linter.all false
namespace Go.Ph
open Go
theorem Same.refl (w : World) : Same w w := ⟨rfl, rfl, rfl⟩
theorem Same.trans {a b c : World} (h : Same a b) (k : Same b c) : Same a c := ⟨k.1.trans h.1, k.2.1.trans h.2.1, k.2.2.trans h.2.2⟩
theorem keyKind_some {P : Program} {t : TypeId} {kd : TypeDesc} (h : keyKind P t = some kd) : P.underlying t = some kd ∧ (kd = .string ∨ ∃ k, kd = .int k) := by
  unfold keyKind at h
  split at h
  · rename_i k hu; simp at h; subst h; exact ⟨hu, .inr ⟨k, rfl⟩⟩
  · rename_i hu; simp at h; subst h; exact ⟨hu, .inl rfl⟩
  · cases h
theorem checkKey_ok {P : Program} {t : TypeId} {kd : TypeDesc} (h : keyKind P t = some kd) {k : Value} (hk : okKey kd k = true) (b : Bool) (w : World) : (Instr.checkKey b 10000 t k).run P w = .ok () w := by
  obtain ⟨hu, hd⟩ := keyKind_some h
  show (Instr.checkKey b (9999 + 1) t k).run P w = _
  rw [Instr.checkKey]
  rcases hd with rfl | ⟨j, rfl⟩
  · cases k <;> simp [okKey] at hk
    simp [Go.run_underlying hu]
  · cases k <;> simp [okKey] at hk
    simp [Go.run_underlying hu]
theorem findKey_ok {P : Program} {t : TypeId} {kd : TypeDesc} (h : keyKind P t = some kd) {k : Value} {es : List MapEntry} {r : Option (Nat × Value)} (hr : Instr.findNow kd k es 0 = some r) (w : World) :
    (Instr.findKey t k es).run P w = .ok r w := by
  obtain ⟨hu, hd⟩ := keyKind_some h
  simp [Instr.findKey, Go.run_underlying hu, hr]
theorem getObj_run {P : Program} {H : Heap} {r : Nat} {es : Array MapEntry} {cl : Nat} (h : H[r]? = some (.map es cl)) : Rd P (getObj r) H (.map es cl) := by
  intro w hw
  subst hw
  simp [getObj, Sem.run, h]
theorem getObj_it {P : Program} {H : Heap} {r : Nat} {m : Option Nat} {a : Nat} {b : Array Nat} {c : Nat} (h : H[r]? = some (.mapIter m a b c)) : Rd P (getObj r) H (.mapIter m a b c) := by
  intro w hw
  subst hw
  simp [getObj, Sem.run, h]
theorem lookX_sound {P : Program} {t : TypeId} {m k : Value} {ok : Bool} {K : Value → HP} {H : Heap} (h : lookX P t m k ok K H) : ∃ v, Rd P (Instr.lookup t m k ok) H v ∧ K v H := by
  unfold lookX at h
  generalize hu : P.underlying t = u at h
  split at h
  · rename_i kt et r
    generalize hkd : keyKind P kt = kd at h
    generalize hz : tzero P et = z at h
    split at h
    · rename_i kd z
      generalize hok : okKey kd k = o at h
      cases o with
      | false => exact absurd h id
      | true =>
        simp only at h
        cases r with
        | none =>
          refine ⟨_, fun w hw => ?_, h⟩
          simp only [Instr.lookup, Sem.run_bind, Go.run_underlying hu, Result.andThen_ok, Sem.run_pure, checkKey_ok hkd hok]
          rw [findKey_ok hkd (r := none) (by rfl)]
          simp [zero_run hz]
          cases ok <;> rfl
        | some r =>
          obtain ⟨es, cl, res, h1, h2, h3⟩ := h
          cases res with
          | none =>
            refine ⟨_, fun w hw => ?_, h3⟩
            simp only [Instr.lookup, Sem.run_bind, Go.run_underlying hu, Result.andThen_ok, Sem.run_pure, getObj_run h1 w hw, checkKey_ok hkd hok, findKey_ok hkd h2, zero_run hz]
            cases ok <;> rfl
          | some p =>
            obtain ⟨i, v⟩ := p
            have h4 := inT_sound h3
            refine ⟨_, fun w hw => ?_, h4⟩
            simp only [Instr.lookup, Sem.run_bind, Go.run_underlying hu, Result.andThen_ok, Sem.run_pure, getObj_run h1 w hw, checkKey_ok hkd hok, findKey_ok hkd h2]
            cases ok <;> rfl
    · exact absurd h id
  · exact absurd h id
theorem ment_sound {P : Program} {it : Nat} {K : Value → Value → HP} {H : Heap} (h : ment it K H) : ∃ k v, Rd P (Instr.entry (.pointer (some ⟨it, 0, none⟩))) H (.tuple #[k, v]) ∧ K k v H := by
  obtain ⟨m, since, seen, stepped, stamp, es, e, h1, h2, h3, h4, h5⟩ := h
  refine ⟨e.key, e.val, fun w hw => ?_, h5⟩
  simp [Instr.entry, Sem.run_bind, getObj_it h1 w hw, Result.andThen_ok, h2, getObj_run h3 w hw, h4]
theorem setObj_run {P : Program} {w : World} {r : Nat} {o o' : Obj} (h : w.heap[r]? = some o) (hc : ∀ c e f, o ≠ .cells c e f) :
    (setObj r o').run P w = .ok () { w with heap := w.heap.setIfInBounds r o' } := by
  simp only [setObj, Sem.run, h]
theorem findNow_key {kd : TypeDesc} {k : Value} : ∀ (es : List MapEntry) (i j : Nat) (v : Value), Instr.findNow kd k es i = some (some (j, v)) → i ≤ j ∧ ∃ e, es[j - i]? = some e ∧ Instr.sameNow kd k e.key = some true ∧ e.val = v
  | [], i, j, v, h => by simp [Instr.findNow] at h
  | e :: es, i, j, v, h => by
    simp only [Instr.findNow] at h
    split at h
    · rename_i hs
      simp only [Option.some.injEq, Prod.mk.injEq] at h
      obtain ⟨rfl, rfl⟩ := h
      exact ⟨Nat.le_refl _, e, by simp, hs, rfl⟩
    · obtain ⟨h1, e', h2, h3⟩ := findNow_key es (i + 1) j v h
      refine ⟨by omega, e', ?_, h3⟩
      rw [show j - i = (j - (i + 1)) + 1 by omega]; simpa using h2
    · cases h
theorem keyStays {P : Program} {kd : TypeDesc} {k k' : Value} (h : Instr.sameNow kd k k' = some true) (w : World) : (Instr.keyThatStays k' k).run P w = .ok k w := by
  have : Instr.sameBits 10000 k' k = true := by
    unfold Instr.sameNow at h
    split at h
    · rename_i j a j' b
      split at h
      · rename_i hj; subst hj; simp at h; subst h; simp [Instr.sameBits]
      · cases h
    · rename_i a b
      simp only [Option.some.injEq] at h
      rw [Go.beq_toListBytes, toList_beq] at h
      have := of_decide_eq_true h; subst this; simp [Instr.sameBits, Go.beq_toListBytes, toList_beq]
    · simp at h; subst h; simp [Instr.sameBits]
    · cases h
  simp [Instr.keyThatStays, this]
theorem mputX_sound {P : Program} {t : TypeId} {m k v : Value} {K : HP} {w : World} (h : mputX P t m k v K w.heap) : ∃ w', (Instr.mapUpdate t m k v).run P w = .ok () w' ∧ Same w w' ∧ K w'.heap := by
  unfold mputX at h
  generalize hu : P.underlying t = u at h
  split at h
  · rename_i kt et r
    generalize hkd : keyKind P kt = kd at h
    cases kd with
    | none => exact absurd h id
    | some kd =>
      simp only at h
      generalize hok : okKey kd k = o at h
      cases o with
      | false => exact absurd h id
      | true =>
        obtain ⟨b, es, cl, res, rfl, h1, h2, h3⟩ := h
        cases res with
        | none =>
          refine ⟨{ w with heap := w.heap.setIfInBounds b (.map (es.push { key := k, val := v, born := cl }) (cl + 1)) }, ?_, ⟨rfl, rfl, rfl⟩, h3⟩
          simp only [Instr.mapUpdate, Sem.run_bind, Go.run_underlying hu, Result.andThen_ok, getObj_run h1 w rfl, checkKey_ok hkd hok, findKey_ok hkd h2]
          exact setObj_run h1 (by simp)
        | some p =>
          obtain ⟨i, v'⟩ := p
          obtain ⟨_, e, he, hs, _⟩ := findNow_key _ _ _ _ h2
          refine ⟨{ w with heap := w.heap.setIfInBounds b (.map (es.modify i fun e => { e with key := k, val := v }) cl) }, ?_, ⟨rfl, rfl, rfl⟩, h3⟩
          simp only [Instr.mapUpdate, Sem.run_bind, Go.run_underlying hu, Result.andThen_ok, getObj_run h1 w rfl, checkKey_ok hkd hok, findKey_ok hkd h2]
          have he' : es[i]? = some e := by simpa using he
          rw [he']
          simp only [Option.map_some, Option.getD_some, keyStays hs, Result.andThen_ok]
          exact setObj_run h1 (by simp)
  · exact absurd h id
theorem mdelX_sound {P : Program} {t : TypeId} {m k : Value} {K : Value → HP} {ts : Array TypeId} {ty : TypeId} (ht : ts[0]? = some t) {w : World} (h : mdelX P t m k K w.heap) :
    ∃ w', (Builtin.delete_ ts ty #[m, k]).run P w = .ok (.tuple #[]) w' ∧ Same w w' ∧ K (.tuple #[]) w'.heap := by
  unfold mdelX at h
  generalize hu : P.underlying t = u at h
  split at h
  · rename_i kt et r
    generalize hkd : keyKind P kt = kd at h
    cases kd with
    | none => exact absurd h id
    | some kd =>
      simp only at h
      generalize hok : okKey kd k = o at h
      cases o with
      | false => exact absurd h id
      | true =>
        obtain ⟨b, es, cl, res, rfl, h1, h2, h3⟩ := h
        have h0 : (#[Value.map (some b), k])[0]? = some (.map (some b)) := rfl
        have h0' : (#[Value.map (some b), k])[1]? = some k := rfl
        cases res with
        | none =>
          refine ⟨{ w with heap := w.heap.setIfInBounds b (.map es cl) }, ?_, ⟨rfl, rfl, rfl⟩, h3⟩
          simp only [Builtin.delete_, ht, h0, h0', Sem.run_bind, Go.run_underlying hu, Result.andThen_ok, getObj_run h1 w rfl, checkKey_ok hkd hok, findKey_ok hkd h2]
          rw [setObj_run h1 (by simp)]; rfl
        | some p =>
          obtain ⟨i, v'⟩ := p
          refine ⟨{ w with heap := w.heap.setIfInBounds b (.map (es.eraseIdxIfInBounds i) cl) }, ?_, ⟨rfl, rfl, rfl⟩, h3⟩
          simp only [Builtin.delete_, ht, h0, h0', Sem.run_bind, Go.run_underlying hu, Result.andThen_ok, getObj_run h1 w rfl, checkKey_ok hkd hok, findKey_ok hkd h2]
          rw [setObj_run h1 (by simp)]; rfl
  · exact absurd h id
theorem mrng_sound {P : Program} {t kt et : TypeId} (hu : P.underlying t = some (.map kt et)) {r : Option Nat} {K : Nat → HP} {w : World} (h : mrng r K w.heap) :
    ∃ b w', (Instr.range t (.map r)).run P w = .ok (.pointer (some ⟨b, 0, none⟩)) w' ∧ Same w w' ∧ K b w'.heap := by
  cases r with
  | none =>
    refine ⟨_, { w with heap := w.heap.push (.mapIter none 0 #[] 0) }, ?_, ⟨rfl, rfl, rfl⟩, h⟩
    simp [Instr.range, Go.run_underlying hu]
  | some m =>
    obtain ⟨es, cl, h1, h2⟩ := h
    refine ⟨_, { w with heap := w.heap.push (.mapIter (some m) cl #[] cl) }, ?_, ⟨rfl, rfl, rfl⟩, h2⟩
    simp [Instr.range, Go.run_underlying hu, getObj_run h1 w rfl]
theorem choose_next {P : Program} (k : Nat) (hk : 0 < k) (w : World) : ∃ n w1, (choose (.mapNext k)).run P w = .ok n w1 ∧ w1.heap = w.heap ∧ Same w w1 ∧ n < k := by
  rw [run_choose]
  split
  · exact ⟨0, w, rfl, rfl, Same.refl w, hk⟩
  · exact ⟨_, _, rfl, rfl, ⟨rfl, rfl, rfl⟩, Nat.mod_lt _ hk⟩
theorem mnext_sound {P : Program} {it : Nat} {K0 : HP} {K1 : Value → Value → HP} {w : World} {ty : TypeId} (h : mnext it K0 K1 w.heap) :
    ∃ v w', (Instr.next (.pointer (some ⟨it, 0, none⟩)) false ty).run P w = .ok v w' ∧ Same w w' ∧ ((v = .tuple #[.bool false] ∧ K0 w'.heap) ∨ ∃ k u, v = .tuple #[.bool true, k, u] ∧ K1 k u w'.heap) := by
  unfold mnext at h
  split at h
  · rename_i a b c hit
    refine ⟨_, w, ?_, ⟨rfl, rfl, rfl⟩, .inl ⟨rfl, h⟩⟩
    simp [Instr.next, getObj_it hit w rfl]
  · rename_i m since seen last hit
    obtain ⟨es, cl, h1, h2, h3, h4⟩ := h
    have hn : ∀ {α : Type} (f : Unit → Sem α), True := fun _ => trivial
    simp only [Instr.next, Sem.run_bind, getObj_it hit w rfl, Result.andThen_ok, getObj_run h1 w rfl]
    rw [h2]
    simp only [Bool.false_eq_true, if_false, Sem.run_pure, Result.andThen_ok]
    generalize hcand : ((if ((es.filter fun e => !seen.contains e.born).filter fun e => decide (e.born < since)).isEmpty = true then #[none] else #[]) ++
      (((es.filter fun e => !seen.contains e.born).filter fun e => decide (e.born < since)) ++ ((es.filter fun e => !seen.contains e.born).filter fun e => decide (e.born ≥ since))).map some : Array (Option MapEntry)) = cand
    have hmem : ∀ (i : Nat) (c : Option MapEntry), cand[i]? = some c → (c = none ∧ ((es.filter fun e => !seen.contains e.born).filter fun e => decide (e.born < since)).isEmpty = true) ∨ ∃ e, c = some e ∧ e ∈ es ∧ seen.contains e.born = false := by
      intro i c hi
      have hm := Array.mem_of_getElem? hi
      rw [← hcand] at hm
      rcases Array.mem_append.1 hm with hm | hm
      · split at hm
        · rename_i he; simp at hm; exact .inl ⟨hm, he⟩
        · simp at hm
      · obtain ⟨e, he, rfl⟩ := Array.mem_map.1 hm
        refine .inr ⟨e, rfl, ?_⟩
        rcases Array.mem_append.1 he with he | he
        · obtain ⟨h5, _⟩ := Array.mem_filter.1 he
          obtain ⟨h6, h7⟩ := Array.mem_filter.1 h5
          exact ⟨h6, by simpa using h7⟩
        · obtain ⟨h5, _⟩ := Array.mem_filter.1 he
          obtain ⟨h6, h7⟩ := Array.mem_filter.1 h5
          exact ⟨h6, by simpa using h7⟩
    have hne : 0 < cand.size := by
      rw [← hcand]
      by_cases he : ((es.filter fun e => !seen.contains e.born).filter fun e => decide (e.born < since)).isEmpty = true
      · rw [if_pos he]; simp; omega
      · rw [if_neg he]
        simp only [Array.size_append, Array.size_map]
        have : 0 < ((es.filter fun e => !seen.contains e.born).filter fun e => decide (e.born < since)).size := by
          rcases Nat.eq_zero_or_pos ((es.filter fun e => !seen.contains e.born).filter fun e => decide (e.born < since)).size with h0 | h0
          · exact absurd (Array.isEmpty_iff_size_eq_zero.2 h0) he
          · exact h0
        omega
    have go : ∀ (n : Nat) (w1 : World), n < cand.size → w1.heap = w.heap → Same w w1 → ∃ v w', ((match cand[n]? with
        | some (some e) => do
          setObj it (.mapIter (some m) since (seen.push e.born) cl)
          pure (.tuple #[.bool true, e.key, e.val])
        | some none => pure (.tuple #[.bool false])
        | none => stuck "Next: no such candidate" : Sem Value).run P w1) = .ok v w' ∧ Same w w' ∧ ((v = .tuple #[.bool false] ∧ K0 w'.heap) ∨ ∃ k u, v = .tuple #[.bool true, k, u] ∧ K1 k u w'.heap) := by
      intro n w1 hn hw1 hs
      have hc : cand[n]? = some cand[n] := Array.getElem?_eq_getElem hn
      rcases hmem n _ hc with ⟨h5, h6⟩ | ⟨e, h5, h6, h7⟩
      · rw [hc, h5]
        exact ⟨_, w1, rfl, hs, .inl ⟨rfl, by rw [hw1]; exact h3 h6⟩⟩
      · rw [hc, h5]
        refine ⟨_, { w1 with heap := w1.heap.setIfInBounds it (.mapIter (some m) since (seen.push e.born) cl) }, ?_, ⟨hs.1, hs.2.1, hs.2.2⟩, .inr ⟨e.key, e.val, rfl, ?_⟩⟩
        · simp only [Sem.run_bind]
          rw [setObj_run (by rw [hw1]; exact hit) (by simp)]; rfl
        · show K1 e.key e.val (w1.heap.setIfInBounds it _)
          rw [hw1]; exact h4 e h6 h7
    obtain ⟨n, w1, e1, e2, e3, e4⟩ := choose_next (P := P) cand.size hne w
    have := go n w1 e4 e2 e3
    simp only [Sem.run_bind, e1, Result.andThen_ok]
    exact this
  · exact absurd h id
end Go.Ph
end
section
set_option linter.all false
namespace Go.Ph
open Go
/-- what a computation that writes comes to -/
def Ok {α : Type} (P : Program) (s : Sem α) (w : World) (K : α → HP) : Prop := ∃ v w', s.run P w = .ok v w' ∧ Same w w' ∧ K v w'.heap
theorem Ok.bind {α β : Type} {P : Program} {s : Sem α} {f : α → Sem β} {w : World} {K : β → HP} (h : ∃ v w', s.run P w = .ok v w' ∧ Same w w' ∧ Ok P (f v) w' K) : Ok P (s >>= f) w K := by
  obtain ⟨v, w', h1, h2, v', w'', h3, h4, h5⟩ := h
  exact ⟨v', w'', by simp [h1, h3], h2.trans h4, h5⟩
theorem Ok.step {α β : Type} {P : Program} {s : Sem α} {f : α → Sem β} {w : World} {K : β → HP} {v : α} (h : s.run P w = .ok v w) (k : Ok P (f v) w K) : Ok P (s >>= f) w K := .bind ⟨v, w, h, Same.refl w, k⟩
theorem Ok.pure {α : Type} {P : Program} {w : World} {K : α → HP} {v : α} (h : K v w.heap) : Ok P (Pure.pure v : Sem α) w K := ⟨v, w, rfl, Same.refl w, h⟩
theorem store_ok {P : Program} {w : World} {a : Addr} {v : Value} (h1 : one v = true) (h2 : (cell w.heap a).isSome = true) (h3 : frz w.heap a = false) :
    (store a v).run P w = .ok () { w with heap := setc w.heap a v } := by
  obtain ⟨u, hu⟩ := Option.isSome_iff_exists.1 h2
  have hu' : w.cell? a = some u := hu
  have h3' : w.frozen? a = false := h3
  rw [run_store P w a v .plain (by cases v <;> first | rfl | cases h1)]
  simp only [hu', h3', Bool.false_eq_true, if_false]
  rfl
theorem sts_sound {P : Program} {a : Addr} {K : HP} : ∀ (vs : List Value) (i : Nat) (w : World), sts a i vs K w.heap → ∃ w', (storeCells a vs i).run P w = .ok () w' ∧ Same w w' ∧ K w'.heap
  | [], i, w, h => ⟨w, by simp [storeCells], Same.refl w, h⟩
  | v :: r, i, w, h => by
    obtain ⟨h1, h2, h3, h4⟩ := h
    obtain ⟨w', h5, h6, h7⟩ := sts_sound (P := P) r (i + 1) { w with heap := setc w.heap (a.add i) v } h4
    refine ⟨w', ?_, Same.trans ⟨rfl, rfl, rfl⟩ h6, h7⟩
    simp only [storeCells, Sem.run_bind, store_ok h1 h2 h3, Result.andThen_ok, h5]
theorem newRow_run {P : Program} (e : TypeId) (cs : Array Value) (w : World) : (newRow e cs).run P w = .ok ⟨w.heap.size, 0, none⟩ { w with heap := w.heap.push (.cells cs e (0, 0)) } := by
  simp [newRow]
theorem zrow_length (z : Array Value) : ∀ n, (zrow z n).length = n * z.size
  | 0 => by simp [zrow]
  | n + 1 => by simp [zrow, zrow_length z n, Nat.succ_mul]; omega
theorem zrow_get (z : Array Value) : ∀ (n i : Nat), i < n * z.size → (zrow z n)[i]? = z[i % z.size]?
  | 0, i, h => by simp at h
  | n + 1, i, h => by
    simp only [zrow]
    by_cases hi : i < z.size
    · rw [List.getElem?_append_left (by simpa using hi), Nat.mod_eq_of_lt hi]; simp
    · rw [List.getElem?_append_right (by simp; omega)]
      simp only [Array.length_toList]
      rw [zrow_get z n (i - z.size) (by rw [Nat.succ_mul] at h; omega)]
      congr 1
      exact (Nat.mod_eq_sub_mod (by omega)).symm
theorem range_rep (z : Array Value) (n : Nat) : ((Array.range (n * z.size)).map fun i => z[i % z.size]!) = (zrow z n).toArray := by
  apply Array.ext
  · simp [zrow_length]
  · intro i h1 h2
    simp only [Array.size_map, Array.size_range] at h1
    have hz : 0 < z.size := by
      rcases Nat.eq_zero_or_pos z.size with h0 | h0
      · rw [h0] at h1; simp at h1
      · exact h0
    have h3 := zrow_get z n i h1
    have h4 : i % z.size < z.size := Nat.mod_lt _ hz
    simp only [Array.getElem_map, Array.getElem_range, List.getElem_toArray]
    rw [List.getElem?_eq_getElem (by simpa [zrow_length] using h1), Array.getElem?_eq_getElem h4] at h3
    simp only [Option.some.injEq] at h3
    rw [h3]
    exact getElem!_pos z _ h4
theorem cellsV_arr (v : Value) : (cellsV v).toArray = v.cells := (cells_toArray v).symm
theorem buildSliceX_sound {P : Program} {t : TypeId} {n : Nat} {ps : List (Nat × Value)} {K : Value → HP} {w : World} (h : buildSliceX P t n ps K w.heap) : Ok P (Instr.buildSlice t n ps.toArray) w K := by
  unfold buildSliceX at h
  generalize hu : P.underlying t = u at h
  split at h
  · rename_i e
    generalize hz : tzero P e = z at h
    cases z with
    | none => exact absurd h id
    | some z =>
      simp only at h
      generalize h1 : Nat.ble (n * tsize P e) 16777216 = b1 at h
      generalize h2 : Nat.beq (cellsV z).length (tsize P e) = b2 at h
      generalize h3 : placed (fun i => some (i * tsize P e, tsize P e)) ps = b3 at h
      cases b1 <;> cases b2 <;> cases b3 <;> first | exact absurd h id | skip
      rename_i qs
      simp only at h
      generalize h4 : fillL (zrow (cellsV z).toArray n) qs = c at h
      cases c with
      | none => exact absurd h id
      | some cs =>
        simp only at h
        have h1' := Nat.le_of_ble_eq_true h1
        have h2' := Nat.eq_of_beq_eq_true h2
        obtain ⟨i, hi, _⟩ := zero_info hz
        have hs : z.cells.size = tsize P e := by rw [cellsV_size]; exact h2'
        unfold Instr.buildSlice
        refine .step (Go.run_underlying hu w) ?_
        refine .step (tsize_run i hi w) ?_
        simp only
        rw [if_neg (by omega)]
        have hf : ∀ zz : Array Value, (zz = z.cells ∨ (zz = #[] ∧ n * tsize P e = 0)) →
            Instr.fill (fun i => some (i * tsize P e, tsize P e)) ((Array.range (n * tsize P e)).map fun i => zz[i % zz.size]!) ps = some cs.toArray := by
          rintro zz (rfl | ⟨rfl, h0⟩)
          · rw [← hs, range_rep]
            refine fill_ok _ ps qs _ cs (by rw [hs]; exact h3) (by rw [← cellsV_arr]; exact h4)
          · rw [h0]
            have e0 : zrow (cellsV z).toArray n = [] := by
              apply List.eq_nil_of_length_eq_zero
              rw [zrow_length]; simp [h2', h0]
            rw [e0] at h4
            exact fill_ok _ ps qs _ cs h3 (by simpa using h4)
        by_cases h0 : n * tsize P e = 0
        · rw [if_pos h0]
          refine .step (v := (#[] : Array Value)) rfl ?_
          have := hf #[] (.inr ⟨rfl, h0⟩)
          rw [this]
          refine .bind ⟨_, _, newRow_run e _ w, ⟨rfl, rfl, rfl⟩, .pure ?_⟩
          exact h e
        · rw [if_neg h0]
          refine .step (zero_run hz w) ?_
          refine .step (v := z.cells) rfl ?_
          have := hf z.cells (.inl rfl)
          rw [this]
          refine .bind ⟨_, _, newRow_run e _ w, ⟨rfl, rfl, rfl⟩, .pure ?_⟩
          exact h e
  · exact absurd h id
theorem mkSl_sound {P : Program} {t e : TypeId} {z : Value} {l c : Int} {K : Sl → HP} {w : World} (hu : P.underlying t = some (.slice e)) (hz : tzero P e = some z) (hl : (cellsV z).length = tsize P e)
    (h : mkSl (tbytes P e) (cellsV z).toArray l c K w.heap) : Ok P (Instr.makeSlice t (.int .i64 l) (.int .i64 c)) w fun v H => ∃ s : Sl, v = s.v ∧ K s H := by
  obtain ⟨⟨h0, h1, h2, h3⟩, h4⟩ := h
  obtain ⟨i, hi, _⟩ := zero_info hz
  have hb : tbytes P e = i.bytes := by simp [tbytes, hi]
  have wl : IntKind.i64.wrap l = l := by unfold IntKind.wrap; simp [IntKind.bits, IntKind.signed]; omega
  have wc : IntKind.i64.wrap c = c := by unfold IntKind.wrap; simp [IntKind.bits, IntKind.signed]; omega
  have hs : z.cells.size = tsize P e := by rw [cellsV_size]; exact hl
  unfold Instr.makeSlice
  refine .step (Go.run_underlying hu w) ?_
  refine .step (v := l) (by simp [asInt, asIntOf]) ?_
  refine .step (v := c) (by simp [asInt, asIntOf]) ?_
  refine .step (v := i) (by simp [typeInfo, hi]) ?_
  simp only [wl, wc]
  rw [hb] at h2
  have c1 : (decide (c < 0) || decide ((i.bytes : Int) * c > 2 ^ 48)) = false := by
    have : ¬ c < 0 := by omega
    have : ¬ ((i.bytes : Int) * c > 2 ^ 48) := by omega
    simp [*]
  have c2 : decide (l < 0) = false := by simp; omega
  have c3 : decide (l > c) = false := by simp; omega
  have c4 : ¬ ((decide (c < 0) || decide ((i.bytes : Int) * c > 2 ^ 48)) = true ∨ l < 0 ∨ l > c) := by rw [c1]; simp; omega
  have c5 : ((decide (c < 0) || decide ((i.bytes : Int) * c > 2 ^ 48)) || decide (l < 0) || decide (l > c)) = false := by rw [c1, c2, c3]; rfl
  first | rw [if_neg c4] | (rw [if_neg (by rw [c5]; simp)]) | (simp only [c1, c2, c3]; skip)
  refine .step (v := ()) (by simp) ?_
  refine .step (tsize_run i hi w) ?_
  by_cases h0 : c.toNat * tsize P e = 0
  · rw [if_pos h0]
    refine .step (v := (#[] : Array Value)) rfl ?_
    rw [h0]
    have er : (Array.map (fun x => (#[] : Array Value)[x % (#[] : Array Value).size]!) (Array.range 0)) = #[] := by simp
    rw [er]
    refine .bind ⟨_, _, newRow_run e _ w, ⟨rfl, rfl, rfl⟩, .pure ⟨⟨some ⟨w.heap.size, 0, none⟩, l.toNat, c.toNat⟩, rfl, ?_⟩⟩
    have e0 : zrow (cellsV z).toArray c.toNat = [] := by
      apply List.eq_nil_of_length_eq_zero
      rw [zrow_length]; simp [hl, h0]
    have := h4 e
    rw [e0] at this
    exact this
  · rw [if_neg h0]
    refine .step (zero_run hz w) ?_
    refine .step (v := z.cells) rfl ?_
    rw [← hs, range_rep]
    refine .bind ⟨_, _, newRow_run e _ w, ⟨rfl, rfl, rfl⟩, .pure ⟨⟨some ⟨w.heap.size, 0, none⟩, l.toNat, c.toNat⟩, rfl, ?_⟩⟩
    have := h4 e
    rw [cellsV_arr] at this
    exact this
theorem appendCap_run {P : Program} (need old : Nat) (e : TypeId) (w : World) : ∃ c w', (choose (.appendCap need old e)).run P w = .ok c w' ∧ Same w w' ∧ w'.heap = w.heap ∧ need ≤ c := by
  refine ⟨(Question.appendCap need old e).cut (w.tape w.drawn (.appendCap need old e)), { w with drawn := w.drawn + 1 }, ?_, ⟨rfl, rfl, rfl⟩, rfl, ?_⟩
  · rw [run_choose]; simp [Question.forced]
  · simp [Question.cut]
theorem s2b_sound {P : Program} {e : TypeId} {s : ByteArray} {K : Sl → HP} {w : World} (h : s2b s K w.heap) : Ok P (Conv.stringToBytes e s) w fun v H => ∃ s : Sl, v = s.v ∧ K s H := by
  unfold Conv.stringToBytes
  obtain ⟨c, w1, h1, h2, h3, h4⟩ := appendCap_run (P := P) s.size 0 e w
  refine .bind ⟨c, w1, h1, h2, ?_⟩
  simp only
  refine .bind ⟨_, _, newRow_run e _ w1, ⟨rfl, rfl, rfl⟩, ?_⟩
  have hsz : ((s.data.map fun b => Value.int .u8 b.toNat) ++ Array.replicate (c - s.size) (Value.int .u8 0)).size = c := by
    simp; have : s.data.size = s.size := rfl; omega
  have hcs : ((s.data.map fun b => Value.int .u8 b.toNat) ++ Array.replicate (c - s.size) (Value.int .u8 0)) = (bcells s ++ List.replicate (c - s.size) (Value.int .u8 0)).toArray := by
    apply Array.ext'; simp [bcells]
  refine .bind ⟨(), { w1 with heap := w1.heap.push (.cells (bcells s ++ List.replicate (c - s.size) (Value.int .u8 0)).toArray e (c, c + 1)) }, ?_, ⟨rfl, rfl, rfl⟩, .pure ⟨⟨some ⟨w1.heap.size, 0, none⟩, s.size, c⟩, rfl, ?_⟩⟩
  · simp only [markStringish, Sem.run_bind, run_shape, World.shape?, Array.getElem?_push_size, Result.andThen_ok, run_freeze, hsz]
    simp only [World.freeze]
    rw [if_neg (by omega)]
    simp only [Result.ok.injEq, true_and]
    rw [hcs]
    congr 1
    apply Array.ext
    · simp
    · intro i hi hj
      simp only [Array.size_modify, Array.size_push] at hi
      rw [Array.getElem_modify, Array.getElem_push, Array.getElem_push]
      by_cases hlt : i < w1.heap.size
      · have : w1.heap.size ≠ i := by omega
        simp [hlt, this]
      · have : w1.heap.size = i := by omega
        simp [hlt, this]
  · show K ⟨some ⟨w1.heap.size, 0, none⟩, s.size, c⟩ (w1.heap.push _)
    rw [h3]; exact h c e h4
theorem first_slice {P : Program} {H : Heap} {s : Sl} {size n : Nat} {cs : List Value} (h : Row H s.a (n * size) cs) : Rd P (Builtin.firstCells size n s.v) H cs.toArray := by
  intro w hw
  obtain ⟨a, l, c⟩ := s
  cases a with
  | none => simp only [Row] at h; subst h; simp [Builtin.firstCells]
  | some a =>
    obtain ⟨h1, h2⟩ := h
    simp only [Builtin.firstCells]
    exact loadCells_run (n * size) cs h1 h2 w hw
/-- append, once its cells are known -/
theorem appC_sound {P : Program} {t e tx ty : TypeId} {ts : Array TypeId} (e0 : ts[0]? = some t) (e3 : ts[1]? = some tx) {z : Value} (hu : P.underlying t = some (.slice e)) (hz : tzero P e = some z) (hl : (cellsV z).length = tsize P e) {s : Sl} {x : Value} {n : Nat} {new : List Value} {d : TypeDesc}
    (hx : P.underlying tx = some d) (hd : ∀ k, d ≠ .int k) {w : World} (hn : Pu P (Builtin.lenOf x) n) (hnew : Rd P (Builtin.firstCells (tsize P e) n x) w.heap new.toArray) {K : Sl → HP}
    (h : appC (tsize P e) (tbytes P e) (cellsV z).toArray s n new K w.heap) : Ok P (Builtin.append_ ts ty #[s.v, x]) w fun v H => ∃ s : Sl, v = s.v ∧ K s H := by
  obtain ⟨i, hi, _⟩ := zero_info hz
  have hb : tbytes P e = i.bytes := by simp [tbytes, hi]
  have hs : z.cells.size = tsize P e := by rw [cellsV_size]; exact hl
  obtain ⟨h1, h2⟩ := h
  have e1 : (#[s.v, x] : Array Value)[0]? = some s.v := rfl
  have e2 : (#[s.v, x] : Array Value)[1]? = some x := rfl
  unfold Builtin.append_
  simp only [e0, e1, e2, e3]
  refine .step (Go.run_underlying hu w) ?_
  simp only
  refine .step (tsize_run i hi w) ?_
  refine .step (Go.run_underlying hx w) ?_
  refine .step (v := false) (by cases d <;> first | rfl | exact absurd rfl (hd _)) ?_
  rw [if_neg (by simp)]
  refine .step (hn w) ?_
  by_cases hc : s.len + n ≤ s.cap
  · rw [if_pos hc]
    rw [if_pos (by rfl)]
    refine .step (hnew w rfl) ?_
    have := h1 hc
    obtain ⟨a, l, c⟩ := s
    cases a with
    | none =>
      simp only at this ⊢
      exact .pure ⟨⟨none, l + n, c⟩, rfl, this⟩
    | some a =>
      simp only at this ⊢
      obtain ⟨w', h3, h4, h5⟩ := sts_sound (P := P) new 0 w this
      exact .bind ⟨_, w', by simpa using h3, h4, .pure ⟨⟨some a, l + n, c⟩, rfl, h5⟩⟩
  · rw [if_neg hc]
    obtain ⟨h3, h4, old, h5, h6⟩ := h2 (by omega)
    rw [hb] at h3
    refine .step (v := i) (by simp [typeInfo, hi]) ?_
    rw [if_neg (by simp [IntKind.max, IntKind.signed, IntKind.bits]; omega)]
    refine .step (v := i) (by simp [typeInfo, hi]) ?_
    rw [if_neg (by omega)]
    obtain ⟨c, w1, h7, h8, h9, h10⟩ := appendCap_run (P := P) (s.len + n) s.cap e w
    refine .bind ⟨c, w1, h7, h8, ?_⟩
    refine .step (v := i) (by simp [typeInfo, hi]) ?_
    refine .step (v := ()) (by simp) ?_
    refine .step (first_slice h5 w1 h9) ?_
    rw [if_pos (by rfl)]
    refine .step (hnew w1 h9) ?_
    refine .step (zero_run hz w1) ?_
    have hzc : Builtin.zeroCells z.cells (c - (s.len + n)) = (zrow (cellsV z).toArray (c - (s.len + n))).toArray := by
      unfold Builtin.zeroCells; rw [range_rep, cellsV_arr]
    rw [hzc]
    refine .bind ⟨_, _, newRow_run e _ w1, ⟨rfl, rfl, rfl⟩, .pure ⟨⟨some ⟨w1.heap.size, 0, none⟩, s.len + n, c⟩, rfl, ?_⟩⟩
    have := h6 e c h10
    simp only [List.append_toArray]
    rw [h9]
    exact this
/-- copy, once its cells are known -/
theorem cpyC_sound {P : Program} {t ty e : TypeId} {ts : Array TypeId} (e0 : ts[0]? = some t) (hu : P.underlying t = some (.slice e)) (hk : known P e = true) {d : Sl} {x : Value} {m n : Nat} {new : List Value} {w : World} (hn : Pu P (Builtin.lenOf x) m) (hm : n = min m d.len)
    (hnew : Rd P (Builtin.firstCells (tsize P e) n x) w.heap new.toArray) {K : Int → HP} (h : cpyC d n new K w.heap) : Ok P (Builtin.copy_ ts ty #[d.v, x]) w fun v H => ∃ n : Int, v = .int .i64 n ∧ K n H := by
  obtain ⟨i, hi⟩ := known_info hk
  have e1 : (#[d.v, x] : Array Value)[0]? = some d.v := rfl
  have e2 : (#[d.v, x] : Array Value)[1]? = some x := rfl
  unfold Builtin.copy_
  simp only [e0, e1, e2]
  refine .step (Go.run_underlying hu w) ?_
  simp only
  refine .step (hn w) ?_
  refine .step (tsize_run i hi w) ?_
  have hm' : Nat.min m d.len = n := hm.symm
  rw [hm']
  refine .step (hnew w rfl) ?_
  obtain ⟨a, l, c⟩ := d
  unfold cpyC at h
  cases a with
  | none => exact .pure ⟨_, rfl, h⟩
  | some a =>
    simp only at h ⊢
    obtain ⟨w', h3, h4, h5⟩ := sts_sound (P := P) new 0 w h
    exact .bind ⟨_, w', by simpa using h3, h4, .pure ⟨_, rfl, h5⟩⟩
end Go.Ph
end
section
set_option linter.all false
namespace Go.Ph
open Go
inductive Cl where
  | F | R | E
  deriving DecidableEq
def clsX (P : Program) (o : Oper) : Cl :=
  match o.op with
  | .move _ | .assign _ | .pick .. | .build .. | .nilCheck _ | .binOp .. | .unOp .. | .slice .. | .fieldAddr .. | .field .. | .indexAddr .. | .index .. | .extract .. | .makeInterface .. | .typeAssert .. | .makeFunc .. => .F
  | .load .. | .lookup .. | .entry _ => .R
  | .convert s d _ => match P.underlying s, P.underlying d with
    | _, some (.slice _) => .E
    | some (.slice _), _ => .R
    | _, _ => .F
  | .call c => match c.callee with
    | .builtin .len | .builtin .cap => match (c.argTypes.toList.head?).bind P.underlying with
      | some (.map _ _) => .R
      | _ => .F
    | .builtin .max | .builtin .min => .F
    | _ => .E
  | _ => .E
/-- an operation's answer -/
def OpOk (P : Program) (s : Sem Next) (w : World) (K : Value → HP) : Prop :=
  (∃ v w', s.run P w = .ok (.value v) w' ∧ Same w w' ∧ K v w'.heap) ∨
  (∃ w', s.run P w = .ok .skip w' ∧ Same w w' ∧ K undef w'.heap) ∨
  (∃ g as, s.run P w = .ok (.enter g as) w ∧ Calls P g as w (RetK w K))
theorem Ok.op {P : Program} {s : Sem Value} {w : World} {K K' : Value → HP} (h : Ok P s w K') (hk : ∀ v H, K' v H → K v H) : OpOk P (s >>= fun v => Pure.pure (Next.value v)) w K := by
  obtain ⟨v, w', h1, h2, h3⟩ := h
  exact .inl ⟨v, w', by simp [h1], h2, hk _ _ h3⟩
theorem runT_sound {P : Program} : ∀ (es : List (Entry P)) (f : Nat) (args : List Value) (K : Value → HP) (w : World), runT es f args K w.heap → CallOk P f args w K
  | [], f, args, K, w, h => absurd h id
  | e :: r, f, args, K, w, h => by
    simp only [runT] at h
    generalize hb : Nat.beq e.f f = b at h
    cases b with
    | true => have := Nat.eq_of_beq_eq_true hb; subst this; exact e.sound args K w h
    | false => exact runT_sound r f args K w h
theorem argsX_sound {P : Program} (tab : Tab P) (env : Env) : ∀ (l : List Operand) (K : List Value → HP) (H : Heap), argsX tab env l K H → K (l.map (ev env)) H
  | [], K, H, h => h
  | .func f :: r, K, H, h => by
    have h1 := h ⟨.func f, #[], #[]⟩ (fun args K' H' hr w hw => by
      subst hw
      have := runT_sound tab.es f args K' w hr
      simpa using this)
    have := argsX_sound tab env r _ H h1
    exact this
  | .tmp t :: r, K, H, h => argsX_sound tab env r (fun vs => K (ev env (.tmp t) :: vs)) H h
  | .const t :: r, K, H, h => argsX_sound tab env r (fun vs => K (ev env (.const t) :: vs)) H h
  | .global t :: r, K, H, h => argsX_sound tab env r (fun vs => K (ev env (.global t) :: vs)) H h
theorem CallOk.op {P : Program} {f : FuncId} {args : List Value} {w : World} {K : Value → HP} {s : Sem Next} (hs : s.run P w = (callFunc f args.toArray).run P w) (h : CallOk P f args w K) : OpOk P s w K := by
  rcases h with ⟨v, w', h1, h2, h3⟩ | ⟨g, as, h1, h2⟩
  · exact .inl ⟨v, w', by rw [hs, h1], h2, h3⟩
  · exact .inr (.inr ⟨g, as, by rw [hs, h1], h2⟩)
theorem CallOk.mono {P : Program} {f : FuncId} {args : List Value} {w : World} {K K' : Value → HP} (h : CallOk P f args w K) (hk : ∀ v H, K v H → K' v H) : CallOk P f args w K' := by
  rcases h with ⟨v, w', h1, h2, h3⟩ | ⟨g, as, h1, h2⟩
  · exact .inl ⟨v, w', h1, h2, hk _ _ h3⟩
  · exact .inr ⟨g, as, h1, h2.mono fun e w' ⟨v, a, b, c⟩ => ⟨v, a, b, hk _ _ c⟩⟩
theorem minmax_sound {P : Program} {mx : Bool} {K : Value → HP} {H : Heap} : ∀ (l : List Value) (v : Value), minmax mx K v l H → ∃ u, Pu P (l.foldlM (if mx then Builtin.max2 else Builtin.min2) v) u ∧ K u H
  | [], v, h => ⟨v, fun w => by simp, by cases v <;> exact h⟩
  | y :: r, v, h => by
    cases v <;> cases y <;> simp only [minmax] at h <;> first | exact absurd h id | skip
    rename_i k x k' y
    obtain ⟨u, h1, h2⟩ := minmax_sound (P := P) r _ h
    refine ⟨u, fun w => ?_, h2⟩
    have := h1 w
    cases mx <;> simp only [List.foldlM_cons, if_true, Bool.false_eq_true, if_false, cond_true, cond_false, Builtin.max2, Builtin.min2, Sem.run_bind, Sem.run_pure, Result.andThen_ok] at this ⊢ <;> exact this
theorem map_toList {α β : Type} (f : α → β) (a : Array α) : (a.toList.map f).toArray = a.map f := by apply Array.ext'; simp
theorem convX_F {P : Program} {src dst : TypeId} {x : Value} {K : Value → HP} {H : Heap} (h : convX P src dst x K H) (hs : ∀ e, P.underlying src ≠ some (.slice e)) (hd : ∀ e, P.underlying dst ≠ some (.slice e)) :
    ∃ v, Pu P (convert src dst x) v ∧ K v H := by
  unfold convX at h
  generalize hs' : P.underlying src = s at h
  generalize hd' : P.underlying dst = d at h
  split at h
  · exact ⟨_, fun w => by simp [convert, Go.run_underlying hs', Go.run_underlying hd', Conv.intToInt], h⟩
  · exact ⟨_, fun w => by simp [convert, Go.run_underlying hs', Go.run_underlying hd'], h⟩
  · exact absurd hd' (hd _)
  · exact absurd hs' (hs _)
  · exact absurd h id
theorem head_get {α : Type} (a : Array α) : a.toList.head? = a[0]? := by
  cases a with | mk l => cases l <;> simp
theorem bltX_F {P : Program} {b : Builtin} {ts : Array TypeId} {args : List Value} {K : Value → HP} {H : Heap} {ty : TypeId} {cs : Array Bool} (h : bltX P b ts.toList args K H)
    (hb : (b = .len ∨ b = .cap) ∧ (∀ k e, (ts.toList.head?).bind P.underlying ≠ some (.map k e)) ∨ b = .max ∨ b = .min) : ∃ v, Pu P (builtin b ts ty cs args.toArray) (.value v) ∧ K v H := by
  unfold bltX at h
  split at h
  · rename_i v
    generalize hu : (ts.toList.head?).bind P.underlying = u at h hb
    have ht : ∀ d, u = some d → ∃ t, ts[0]? = some t ∧ P.underlying t = some d := fun d hd => by
      subst hd; rw [head_get] at hu; exact Option.bind_eq_some_iff.1 hu
    split at h
    · obtain ⟨t, h1, h2⟩ := ht _ rfl
      exact ⟨_, fun w => by simp [builtin, Builtin.len_, h1, Go.run_underlying h2, goInt], h⟩
    · obtain ⟨t, h1, h2⟩ := ht _ rfl
      exact ⟨_, fun w => by simp [builtin, Builtin.len_, h1, Go.run_underlying h2, goInt], h⟩
    · simp at hb
    · exact absurd h id
  · rename_i v
    generalize hu : (ts.toList.head?).bind P.underlying = u at h hb
    have ht : ∀ d, u = some d → ∃ t, ts[0]? = some t ∧ P.underlying t = some d := fun d hd => by
      subst hd; rw [head_get] at hu; exact Option.bind_eq_some_iff.1 hu
    split at h
    · obtain ⟨t, h1, h2⟩ := ht _ rfl
      exact ⟨_, fun w => by simp [builtin, Builtin.cap_, h1, Go.run_underlying h2, goInt], h⟩
    · exact absurd h id
  · simp at hb
  · simp at hb
  · simp at hb
  · rename_i x r
    obtain ⟨v, h1, h2⟩ := minmax_sound (P := P) r x h
    exact ⟨v, fun w => by have := h1 w; simp only [if_true] at this; simp [builtin, Builtin.max_, this], h2⟩
  · rename_i x r
    obtain ⟨v, h1, h2⟩ := minmax_sound (P := P) r x h
    exact ⟨v, fun w => by have := h1 w; simp only [Bool.false_eq_true, if_false] at this; simp [builtin, Builtin.min_, this], h2⟩
  · exact absurd h id
theorem run_builtin_op {P : Program} {ρ : Operand → Value} {dst : Option Tmp} {b : Builtin} {args : Array Operand} {ts : Array TypeId} {type : TypeId} {pos : String} {after : Array Edge} {guard : Option (Nat × Bool)} (w : World) :
    (execOp ρ ⟨dst, .call ⟨.builtin b, args, ts⟩, type, pos, after, guard⟩).run P w = (builtin b ts type (args.map fun | .const _ => true | _ => false) (args.toList.map ρ).toArray).run P w := by
  rw [map_toList]; rfl
/-- a frame's operation: neither reads nor writes memory -/
theorem opX_F {P : Program} {tab : Tab P} {ai : IterT} {env : Env} {o : Oper} {K : Value → HP} {H : Heap} (hc : clsX P o = .F) (h : opX P tab ai env o K H) :
    ∃ v, Pu P (execOp (ev env) o) (.value v) ∧ K v H := by
  have val : ∀ {s : Sem Value} {v : Value}, Pu P s v → Pu P (do pure (.value (← s)) : Sem Next) (.value v) := fun hp w => by simp [hp w]
  obtain ⟨dst, op, type, pos, after, guard⟩ := o
  cases op <;> simp only [clsX] at hc <;> first | (cases hc; done) | skip
  case move x => exact ⟨_, fun w => rfl, h⟩
  case assign x => exact ⟨_, fun w => rfl, h⟩
  case pick c a b =>
    simp only [opX] at h
    generalize hx : ev env c = x at h
    cases x <;> first | exact absurd h id | skip
    rename_i t
    cases t
    · exact ⟨_, fun w => by simp [execOp, hx, asBool], h⟩
    · exact ⟨_, fun w => by simp [execOp, hx, asBool], h⟩
  case build t ps =>
    obtain ⟨v, h1, h2⟩ := buildX_sound (P := P) h
    refine ⟨v, val ?_, h2⟩
    rw [map_toList] at h1; exact h1
  case nilCheck x =>
    simp only [opX] at h
    generalize hx : ev env x = v at h
    cases v <;> first | exact absurd h id | skip
    · obtain ⟨a, rfl, h⟩ := h
      exact ⟨_, fun w => by simp [execOp, hx], h⟩
    · rename_i fn a c
      cases fn <;> first | exact absurd h id | skip
      exact ⟨_, fun w => by simp [execOp, hx], h⟩
  case binOp op t x y yt =>
    obtain ⟨v, h1, h2⟩ := binX_sound (P := P) h x y
    exact ⟨v, val h1, h2⟩
  case unOp op t x =>
    obtain ⟨v, h1, h2⟩ := unX_sound (P := P) h
    exact ⟨v, val h1, h2⟩
  case convert s d x =>
    have hd : ∀ e, P.underlying d ≠ some (.slice e) := fun e he => by rw [he] at hc; cases hu : P.underlying s <;> simp [hu] at hc
    have hs : ∀ e, P.underlying s ≠ some (.slice e) := fun e he => by
      rw [he] at hc; cases hu : P.underlying d with
      | none => simp [hu] at hc
      | some u => cases u <;> simp [hu] at hc
    obtain ⟨v, h1, h2⟩ := convX_F (P := P) h hs hd
    exact ⟨v, val h1, h2⟩
  case makeInterface t x =>
    simp only [opX] at h
    generalize hu : P.underlying t = u at h
    split at h
    · exact ⟨_, fun w => by simp [execOp, Instr.makeInterface, Go.run_underlying hu], h⟩
    · exact absurd h id
  case makeFunc fn first cap =>
    cases fn <;> first | exact absurd h id | skip
    rename_i f
    have h1 := h ⟨.func f, first.map (ev env), cap.map (ev env)⟩ (fun args K' H' hr w hw => by
      subst hw
      have := runT_sound tab.es f _ K' w hr
      simpa using this)
    exact ⟨_, fun w => rfl, h1⟩
  case slice t x lo hi mx =>
    obtain ⟨v, h1, h2⟩ := slX_sound (P := P) h
    exact ⟨v, val h1, h2⟩
  case fieldAddr t x f =>
    obtain ⟨v, h1, h2⟩ := faddrX_sound (P := P) h
    exact ⟨v, val h1, h2⟩
  case field t x f =>
    obtain ⟨v, h1, h2⟩ := fieldX_sound (P := P) h
    exact ⟨v, val h1, h2⟩
  case indexAddr t x i =>
    obtain ⟨v, h1, h2⟩ := ixaddrX_sound (P := P) h
    exact ⟨v, val h1, h2⟩
  case index t x i =>
    obtain ⟨v, h1, h2⟩ := ixX_sound (P := P) h
    exact ⟨v, val h1, h2⟩
  case typeAssert x xt t ok =>
    cases ok <;> first | exact absurd h id | skip
    simp only [opX] at h
    generalize hx : ev env x = v at h
    generalize hu : P.underlying t = u at h
    split at h
    · rename_i u' v a b
      generalize hb : Nat.beq u' t = q at h
      cases q with
      | false => exact absurd h id
      | true =>
        have := Nat.eq_of_beq_eq_true hb; subst this
        refine ⟨v, fun w => ?_, h⟩
        simp [execOp, hx, Instr.typeAssert, Go.run_underlying hu]
    · exact absurd h id
  case extract t i =>
    simp only [opX] at h
    generalize hx : ev env t = v at h
    cases v <;> first | exact absurd h id | skip
    rename_i vs
    simp only at h
    generalize hv : vs.toList[i]? = q at h
    cases q with
    | none => exact absurd h id
    | some v =>
      have hv' : vs[i]? = some v := by simpa using hv
      exact ⟨v, fun w => by simp [execOp, hx, Instr.extract, hv'], h⟩
  case call c =>
    obtain ⟨callee, args, ts⟩ := c
    cases callee with
    | value f => simp at hc
    | invoke r m => simp at hc
    | builtin b =>
      simp only [opX] at h
      have hb : (b = .len ∨ b = .cap) ∧ (∀ k e, (ts.toList.head?).bind P.underlying ≠ some (.map k e)) ∨ b = .max ∨ b = .min := by
        cases b <;> simp at hc <;> first
          | exact .inr (.inl rfl)
          | exact .inr (.inr rfl)
          | (refine .inl ⟨by simp, fun k e he => ?_⟩; simp [head_get] at he hc; simp [he] at hc)
      obtain ⟨v, h1, h2⟩ := bltX_F (P := P) (ty := type) (cs := args.map fun | .const _ => true | _ => false) h hb
      exact ⟨v, fun w => by rw [run_builtin_op]; exact h1 w, h2⟩
end Go.Ph
end
section
set_option linter.all false
namespace Go.Ph
open Go
/-- an operation that only reads -/
theorem opX_R {P : Program} {tab : Tab P} {ai : IterT} {env : Env} {o : Oper} {K : Value → HP} {H : Heap} (hc : clsX P o = .R) (h : opX P tab ai env o K H) :
    ∃ v, Rd P (execOp (ev env) o) H (.value v) ∧ K v H := by
  have val : ∀ {s : Sem Value} {v : Value}, Rd P s H v → Rd P (do Pure.pure (.value (← s)) : Sem Next) H (.value v) := fun hp w hw => by simp [hp w hw]
  obtain ⟨dst, op, type, pos, after, guard⟩ := o
  cases op <;> simp only [clsX] at hc <;> first | (cases hc; done) | skip
  case load t x =>
    simp only [opX] at h
    generalize hx : ev env x = v at h
    cases v <;> first | exact absurd h id | skip
    rename_i p
    cases p <;> first | exact absurd h id | skip
    rename_i a
    obtain ⟨v, h1, h2⟩ := ldT_sound h
    exact ⟨v, fun w hw => by simp [execOp, hx, Instr.loadAt, Instr.sureAddr, h1 w hw], h2⟩
  case lookup t m k ok =>
    obtain ⟨v, h1, h2⟩ := lookX_sound h
    exact ⟨v, val h1, h2⟩
  case entry it =>
    simp only [opX] at h
    generalize hx : ev env it = v at h
    split at h
    · rename_i b
      cases it with
      | tmp t =>
        simp only at h
        generalize hai : ai t = q at h
        cases q with
        | none => exact absurd h id
        | some p =>
          obtain ⟨k, v, h1, h2⟩ := ment_sound (P := P) h
          have h3 := inT_sound (inT_sound h2)
          exact ⟨_, fun w hw => by simp [execOp, hx, h1 w hw], h3⟩
      | const v => exact absurd h id
      | global v => exact absurd h id
      | func v => exact absurd h id
    · exact absurd h id
  case convert s d x =>
    obtain ⟨v, h1, h2⟩ := convX_sound (P := P) h (fun e s' hd he => by rw [hd] at hc; cases hu : P.underlying s <;> simp [hu] at hc)
    exact ⟨v, val h1, h2⟩
  case call c =>
    obtain ⟨callee, args, ts⟩ := c
    cases callee with
    | value f => simp at hc
    | invoke r m => simp at hc
    | builtin b =>
      simp only [opX] at h
      generalize has : args.toList.map (ev env) = as at h
      unfold bltX at h
      split at h
      · rename_i v
        generalize hu : (ts.toList.head?).bind P.underlying = u at h hc
        have ht : ∀ d, u = some d → ∃ t, ts[0]? = some t ∧ P.underlying t = some d := fun d hd => by
          subst hd; rw [head_get] at hu; exact Option.bind_eq_some_iff.1 hu
        split at h
        · simp at hc
        · simp at hc
        · obtain ⟨t, h1, h2⟩ := ht _ rfl
          rename_i r kt et
          cases r with
          | none =>
            refine ⟨_, fun w hw => ?_, h⟩
            rw [run_builtin_op, has]
            simp [builtin, Builtin.len_, h1, Go.run_underlying h2, goInt]
          | some r =>
            obtain ⟨es, cl, h3, h4⟩ := h
            refine ⟨_, fun w hw => ?_, h4⟩
            rw [run_builtin_op, has]
            simp [builtin, Builtin.len_, h1, Go.run_underlying h2, goInt, getObj_run h3 w hw]
        · exact absurd h id
      · rename_i v
        generalize hu : (ts.toList.head?).bind P.underlying = u at h hc
        split at h
        · simp at hc
        · exact absurd h id
      all_goals first | exact absurd h id | (simp at hc; done) | skip
/-- any operation -/
theorem opX_sound {P : Program} {tab : Tab P} {ai : IterT} {env : Env} {o : Oper} {K : Value → HP} {w : World} (h : opX P tab ai env o K w.heap) : OpOk P (execOp (ev env) o) w K := by
  cases hc : clsX P o with
  | F => obtain ⟨v, h1, h2⟩ := opX_F hc h; exact .inl ⟨v, w, h1 w, Same.refl w, h2⟩
  | R => obtain ⟨v, h1, h2⟩ := opX_R hc h; exact .inl ⟨v, w, h1 w rfl, Same.refl w, h2⟩
  | E =>
    obtain ⟨dst, op, type, pos, after, guard⟩ := o
    cases op <;> simp only [clsX] at hc <;> first | (cases hc; done) | (exact absurd h id) | skip
    case alloc t =>
      simp only [opX] at h
      generalize hz : tzero P t = z at h
      cases z with
      | none => exact absurd h id
      | some z =>
        have h1 := h t
        refine .inl ⟨.pointer (some ⟨w.heap.size, 0, none⟩), { w with heap := w.heap.push (.cells z.cells t (0, 0)) }, ?_, ⟨rfl, rfl, rfl⟩, ?_⟩
        · simp [execOp, Instr.alloc, zero_run hz, newVar, newRow_run]
        · rw [cellsV_arr] at h1; exact h1
    case box t x =>
      have h1 := h t
      refine .inl ⟨.pointer (some ⟨w.heap.size, 0, none⟩), { w with heap := w.heap.push (.cells (ev env x).cells t (0, 0)) }, ?_, ⟨rfl, rfl, rfl⟩, ?_⟩
      · simp [execOp, Instr.box, newVar, newRow_run]
      · rw [cellsV_arr] at h1; exact h1
    case buildSlice t n ps =>
      have := buildSliceX_sound (P := P) h
      rw [map_toList] at this
      exact this.op fun _ _ h => h
    case store t x v =>
      simp only [opX] at h
      generalize hx : ev env x = p at h
      cases p <;> first | exact absurd h id | skip
      rename_i p
      cases p <;> first | exact absurd h id | skip
      rename_i a
      simp only at h
      generalize hb : Nat.beq (cellsV (ev env v)).length (tsize P t) = b at h
      generalize hkn : known P t = kn at h
      cases b <;> cases kn <;> first | exact absurd h id | skip
      have hb' := Nat.eq_of_beq_eq_true hb
      obtain ⟨w', h1, h2, h3⟩ := sts_sound (P := P) _ _ w h
      refine .inr (.inl ⟨w', ?_, h2, h3⟩)
      obtain ⟨i, hi⟩ := known_info hkn
      simp only [execOp, hx, Instr.storeAt, Instr.sureAddr, storeVar, Sem.run_bind, Sem.run_pure, Result.andThen_ok, tsize_run i hi]
      rw [if_neg (by rw [cellsV_size]; simp [hb'])]
      rw [cellsV_eq]
      simp [h1]
    case convert s d x =>
      simp only [opX] at h
      generalize hx : ev env x = v at h
      unfold convX at h
      generalize hs : P.underlying s = su at h hc
      generalize hd : P.underlying d = du at h hc
      split at h
      · rename_i a _ _ _; cases a <;> simp at hc
      · rename_i a _ ; cases a <;> simp at hc
      · rename_i e s'
        generalize he : P.underlying e = u at h
        split at h
        · have h1 := s2b_sound (P := P) (e := e) h
          have e1 : execOp (ev env) ⟨dst, .convert s d x, type, pos, after, guard⟩ = (convert s d (ev env x) >>= fun v => Pure.pure (Next.value v)) := rfl
          rw [e1, hx]
          refine Ok.op (K' := fun v H => ∃ s : Sl, v = s.v ∧ K s.v H) ?_ fun v H ⟨s, h1, h2⟩ => by subst h1; exact h2
          obtain ⟨v, w', h2, h3, sl, h4, h5⟩ := h1
          refine ⟨v, w', ?_, h3, sl, h4, h5⟩
          simp [convert, Go.run_underlying hs, Go.run_underlying hd, Go.run_underlying he, h2]
        · exact absurd h id
      · simp at hc
      · exact absurd h id
    case makeMap t r =>
      cases r with
      | some r => exact absurd h id
      | none => exact .inl ⟨.map (some w.heap.size), { w with heap := w.heap.push (.map #[] 0) }, by simp [execOp, Instr.makeMap], ⟨rfl, rfl, rfl⟩, h⟩
    case makeSlice t l c =>
      simp only [opX] at h
      generalize hu : P.underlying t = u at h
      generalize hl : ev env l = lv at h
      generalize hcv : ev env c = cv at h
      split at h
      · rename_i e l' c'
        generalize hz : tzero P e = z at h
        cases z with
        | none => exact absurd h id
        | some z =>
          simp only at h
          generalize hb : Nat.beq (cellsV z).length (tsize P e) = b at h
          cases b with
          | false => exact absurd h id
          | true =>
            have := mkSl_sound (P := P) hu hz (Nat.eq_of_beq_eq_true hb) h
            simp only [execOp, hl, hcv]
            exact this.op fun v H ⟨s, h1, h2⟩ => by subst h1; exact h2
      · exact absurd h id
    case mapUpdate t m k v =>
      obtain ⟨w', h1, h2, h3⟩ := mputX_sound (P := P) h
      exact .inr (.inl ⟨w', by simp [execOp, h1], h2, h3⟩)
    case range t x =>
      simp only [opX] at h
      generalize hu : P.underlying t = u at h
      generalize hx : ev env x = v at h
      split at h
      · obtain ⟨b, w', h1, h2, h3⟩ := mrng_sound hu h
        exact .inl ⟨_, w', by simp [execOp, hx, h1], h2, h3⟩
      · exact absurd h id
    case next it str =>
      cases str with
      | true => exact absurd h id
      | false =>
        simp only [opX] at h
        generalize hx : ev env it = v at h
        split at h
        · rename_i b
          obtain ⟨v, w', h1, h2, h3⟩ := mnext_sound (P := P) (ty := type) h
          rcases h3 with ⟨rfl, h3⟩ | ⟨k, u, rfl, h3⟩
          · exact .inl ⟨_, w', by simp [execOp, hx, h1], h2, h3⟩
          · exact .inl ⟨_, w', by simp [execOp, hx, h1], h2, h3⟩
        · exact absurd h id
    case call c =>
      obtain ⟨callee, args, ts⟩ := c
      cases callee with
      | invoke r m => exact absurd h id
      | value f =>
        have fin : ∀ (fn : Fn) (first cap : Array Value), ev env f = .func fn first cap → callV P ⟨fn, first, cap⟩ (args.toList.map (ev env)) K w.heap → OpOk P (execOp (ev env) ⟨dst, .call ⟨.value f, args, ts⟩, type, pos, after, guard⟩) w K := by
          intro fn first cap hf hv
          have hv := hv w rfl
          cases fn <;> first | exact absurd hv id | skip
          rename_i g
          refine CallOk.op ?_ hv
          have : execOp (ev env) ⟨dst, .call ⟨.value f, args, ts⟩, type, pos, after, guard⟩ = (do let d ← Deferred.ofValue (ev env f) (args.map (ev env)); invoke d.target d.args) := rfl
          rw [this, hf]
          simp only [Deferred.ofValue, pure_bind, invoke]
          congr 2
          apply Array.ext'; simp
        cases f with
        | func g =>
          simp only [opX] at h
          have h1 := argsX_sound tab env _ _ _ h
          refine fin (.func g) #[] #[] rfl ?_
          intro w' hw'
          rw [← hw'] at h1
          have := runT_sound tab.es g _ K w' h1
          simpa using this
        | tmp t =>
          simp only [opX] at h
          generalize hx : ev env (.tmp t) = v at h
          cases v <;> first | exact absurd h id | skip
          refine fin _ _ _ hx ?_
          intro w' hw'
          have := h w' hw'
          revert this
          rename_i fn _ _
          cases fn <;> simp only <;> intro this <;> first | exact absurd this id | exact this.mono fun v H h => asV_sound h
        | const t =>
          simp only [opX] at h
          generalize hx : ev env (.const t) = v at h
          cases v <;> first | exact absurd h id | skip
          refine fin _ _ _ hx ?_
          intro w' hw'
          have := h w' hw'
          revert this
          rename_i fn _ _
          cases fn <;> simp only <;> intro this <;> first | exact absurd this id | exact this.mono fun v H h => asV_sound h
        | global t => exact absurd h id
      | builtin b =>
        have red : OpOk P (builtin b ts type (args.map fun | .const _ => true | _ => false) (args.toList.map (ev env)).toArray) w K → OpOk P (execOp (ev env) ⟨dst, .call ⟨.builtin b, args, ts⟩, type, pos, after, guard⟩) w K := by
          intro h
          rcases h with ⟨v, w', h1, h2⟩ | ⟨w', h1, h2⟩ | ⟨g, as, h1, h2⟩
          · exact .inl ⟨v, w', by rw [run_builtin_op]; exact h1, h2⟩
          · exact .inr (.inl ⟨w', by rw [run_builtin_op]; exact h1, h2⟩)
          · exact .inr (.inr ⟨g, as, by rw [run_builtin_op]; exact h1, h2⟩)
        refine red ?_
        simp only [opX] at h
        generalize args.toList.map (ev env) = as at h
        unfold bltX at h
        split at h
        · simp at hc; split at hc <;> simp at hc
        · simp at hc; split at hc <;> simp at hc
        · rename_i a n c x
          generalize hu : (ts.toList.head?).bind P.underlying = u at h
          split at h
          · rename_i e
            rw [head_get] at hu
            obtain ⟨t, ht, hu⟩ := Option.bind_eq_some_iff.1 hu
            generalize hz : tzero P e = z at h
            generalize hb : Nat.beq (z.elim 0 fun z => (cellsV z).length) (tsize P e) = b at h
            split at h
            · rename_i z a' n' c'
              generalize hv : (ts.toList[1]?).bind P.underlying = q at h
              split at h
              · obtain ⟨tx, htx, hvx⟩ := Option.bind_eq_some_iff.1 hv
                obtain ⟨new, h1, h2⟩ := h
                have hb' := Nat.eq_of_beq_eq_true hb
                have := appC_sound (P := P) (ty := type) (s := ⟨a, n, c⟩) (x := .slice a' n' c') (n := n') ht (by simpa using htx) hu hz hb' hvx (by simp) (fun w => by simp [Builtin.lenOf]) (first_slice (s := ⟨a', n', c'⟩) h1) h2
                exact this.op fun v H ⟨s, h3, h4⟩ => by subst h3; exact h4
              · exact absurd h id
            · rename_i s
              generalize hv : (ts.toList[1]?).bind P.underlying = q at h
              generalize hby : Nat.beq (tbytes P e) 1 = q2 at h
              split at h
              · obtain ⟨tx, htx, hvx⟩ := Option.bind_eq_some_iff.1 hv
                have hb' := Nat.eq_of_beq_eq_true hb
                have hby' := Nat.eq_of_beq_eq_true hby
                have hs1 : tsize P e = 1 := by rw [← hb']; rfl
                have hnew : Rd P (Builtin.firstCells (tsize P e) s.size (.string s)) w.heap (bcells s).toArray := by
                  intro w' _
                  have e1 : s.extract 0 s.size = s := by simp
                  simp only [Builtin.firstCells, e1, Sem.run_pure]
                  congr 1
                  apply Array.ext'; simp [bcells]
                have h2 : appC (tsize P e) (tbytes P e) (cellsV (.int .u8 0)).toArray ⟨a, n, c⟩ s.size (bcells s) (fun s => K s.v) w.heap := by
                  rw [hs1, hby']; exact h
                have := appC_sound (P := P) (ty := type) (s := ⟨a, n, c⟩) (x := .string s) (n := s.size) ht (by simpa using htx) hu hz hb' hvx (by simp) (fun w => by simp [Builtin.lenOf]) hnew h2
                exact this.op fun v H ⟨s, h3, h4⟩ => by subst h3; exact h4
              · exact absurd h id
            · exact absurd h id
          · exact absurd h id
        · rename_i a n c x
          generalize hu : (ts.toList.head?).bind P.underlying = u at h
          split at h
          · rename_i e
            rw [head_get] at hu
            obtain ⟨t, ht, hu⟩ := Option.bind_eq_some_iff.1 hu
            generalize hkn : known P e = kn at h
            split at h
            · rename_i a' n' c'
              obtain ⟨new, h1, h2⟩ := h
              have := cpyC_sound (P := P) (ty := type) (d := ⟨a, n, c⟩) (x := .slice a' n' c') (m := n') (n := min n' n) ht hu hkn (fun w => by simp [Builtin.lenOf]) rfl (first_slice (s := ⟨a', n', c'⟩) h1) h2
              exact this.op fun v H ⟨s, h3, h4⟩ => by subst h3; exact h4
            · rename_i s
              generalize hb : Nat.beq (tsize P e) 1 = b at h
              cases b with
              | false => exact absurd h id
              | true =>
                have hs1 := Nat.eq_of_beq_eq_true hb
                have hnew : Rd P (Builtin.firstCells (tsize P e) (min s.size n) (.string s)) w.heap (bcells (s.extract 0 (min s.size n))).toArray := by
                  intro w' _
                  simp only [Builtin.firstCells, Sem.run_pure]
                  congr 1
                  apply Array.ext'; simp [bcells]
                have := cpyC_sound (P := P) (ty := type) (d := ⟨a, n, c⟩) (x := .string s) (m := s.size) (n := min s.size n) ht hu hkn (fun w => by simp [Builtin.lenOf]) rfl hnew h
                exact this.op fun v H ⟨s, h3, h4⟩ => by subst h3; exact h4
            · exact absurd h id
          · exact absurd h id
        · rename_i m k
          generalize hu : ts.toList.head? = u at h
          cases u with
          | none => exact absurd h id
          | some t =>
            rw [head_get] at hu
            obtain ⟨w', h1, h2, h3⟩ := mdelX_sound (P := P) (ty := type) hu h
            exact .inl ⟨_, w', by simp [builtin, h1], h2, h3⟩
        · simp at hc
        · simp at hc
        · exact absurd h id
end Go.Ph
end
section
set_option linter.all false
namespace Go.Ph
open Go
/-! sets of slots, as numbers -/
def bit (t : Nat) : Nat := 1 <<< t
def rm (L t : Nat) : Nat := L ^^^ (L &&& bit t)
def has (L t : Nat) : Bool := L.testBit t
theorem has_bit (t u : Nat) : has (bit t) u = decide (t = u) := by
  unfold has bit; rw [Nat.one_shiftLeft, Nat.testBit_two_pow]
theorem has_or (a b u : Nat) : has (a ||| b) u = (has a u || has b u) := by unfold has; exact Nat.testBit_or a b u
theorem has_rm (L t u : Nat) : has (rm L t) u = (has L u && !decide (t = u)) := by
  unfold rm has; rw [Nat.testBit_xor, Nat.testBit_and]
  have := has_bit t u; unfold has at this; rw [this]
  cases L.testBit u <;> cases decide (t = u) <;> rfl
theorem has_zero (u : Nat) : has 0 u = false := by unfold has; exact Nat.zero_testBit u
def rdL : List Operand → Nat
  | [] => 0
  | .tmp t :: r => bit t ||| rdL r
  | _ :: r => rdL r
theorem rdL_mem : ∀ (l : List Operand) (t : Nat), Operand.tmp t ∈ l → has (rdL l) t = true
  | [], t, h => by simp at h
  | x :: r, t, h => by
    rcases List.mem_cons.1 h with rfl | h
    · simp [rdL, has_or, has_bit]
    · have := rdL_mem r t h
      cases x <;> simp [rdL, has_or, this]
def gslot (ops : Array Oper) (o : Oper) : Nat :=
  match o.guard with
  | none => 0
  | some (j, _) => match (ops[j]?).bind (·.dst) with | some t => bit t | none => 0
def rdO (ops : Array Oper) (o : Oper) : Nat := rdL o.op.operands.toList ||| gslot ops o
def Ag (L : Nat) (a : Act) (env : Env) : Prop := ∀ t, has L t = true → a.tmps.getD t undef = env t
theorem Ag.mono {L L' : Nat} {a : Act} {env : Env} (h : Ag L a env) (hl : ∀ t, has L' t = true → has L t = true) : Ag L' a env := fun t ht => h t (hl t ht)
theorem Ag.or_left {L M : Nat} {a : Act} {env : Env} (h : Ag (L ||| M) a env) : Ag L a env := h.mono fun t ht => by simp [has_or, ht]
theorem Ag.or_right {L M : Nat} {a : Act} {env : Env} (h : Ag (L ||| M) a env) : Ag M a env := h.mono fun t ht => by simp [has_or, ht]
theorem ev_eq {L : Nat} {a : Act} {env : Env} (h : Ag L a env) (x : Operand) (hx : ∀ t, x = .tmp t → has L t = true) : a.eval x = ev env x := by
  cases x with
  | tmp t => exact h t (hx t rfl)
  | const v => rfl
  | global g => rfl
  | func f => rfl
theorem notSelect {P : Program} {tab : Tab P} {ai : IterT} {env : Env} {o : Oper} {K : Value → HP} {H : Heap} (h : opX P tab ai env o K H) : ∀ cs b, o.op ≠ .select cs b := by
  intro cs b e
  unfold opX at h
  rw [e] at h
  exact h
theorem Env.ref_eq {env : Env} {t : Nat} {b : Bool} (h : env t = .bool b) : env.ref t b = env := by
  funext u
  unfold Env.ref
  cases hb : Nat.beq u t with
  | true => have := Nat.eq_of_beq_eq_true hb; subst this; simp [h]
  | false => rfl
theorem exec_eq {P : Program} {tab : Tab P} {ai : IterT} {env : Env} {o : Oper} {K : Value → HP} {H : Heap} {ops : Array Oper} {a : Act} (h : opX P tab ai env o K H) (hr : Ag (rdO ops o) a env) :
    execOp a.eval o = execOp (ev env) o :=
  execOp_congr o (notSelect h) fun x hx => ev_eq (hr.or_left) x fun t ht => by subst ht; exact rdL_mem _ t (by simpa using hx)
def wantV (v : Value) (want : Bool) : Bool := match v with | .bool b => b == want | _ => false
/-- what the guard says, of the frame and of the environment -/
theorem wanted_guard {ops : Array Oper} {o : Oper} {a : Act} {j : Nat} {want : Bool} {t : Nat} (hg : o.guard = some (j, want)) (ht : (ops[j]?).bind (·.dst) = some t) {v : Value} (hv : a.tmps.getD t undef = v) :
    Region.wanted o (yielded ops a.tmps) = wantV v want := by
  unfold Region.wanted
  rw [hg]
  simp only [yielded, ht, Option.bind_some]
  subst hv
  have e : a.tmps.getD t undef = (a.tmps[t]?).getD undef := by simp [Array.getD_eq_getD_getElem?]
  rw [e]
  cases hq : a.tmps[t]? with
  | none => rfl
  | some v => cases v <;> simp only [Option.getD_some, wantV] <;> rfl
/-- what an operation does to the frame -/
def After (P : Program) (n : Nat) (o : Oper) (K : Env → HP) (env : Env) (a : Act) (w : World) (a' : Act) (w' : World) : Prop :=
  Same w w' ∧ ∃ v, a' = a.put o.dst v ∧ K (env.set n o.dst v) w'.heap
theorem OpOk.wp {P : Program} {o : Oper} {a : Act} {w : World} {K : Value → HP} {s : Sem Next} (hs : execOp a.eval o = s) (h : OpOk P s w K) {Q : Exit → Act → World → Prop} {next : Act → World → Prop}
    (hn : ∀ v w', Same w w' → K v w'.heap → next (a.put o.dst v) w') : o.wp P a w next Q := by
  unfold Oper.wp
  rw [hs]
  rcases h with ⟨v, w', h1, h2, h3⟩ | ⟨w', h1, h2, h3⟩ | ⟨g, as, h1, h2⟩
  · rw [h1]; exact hn v w' h2 h3
  · rw [h1]; exact hn undef w' h2 h3
  · rw [h1]
    refine h2.mono fun e w' ⟨v, he, h3, h4⟩ => ?_
    subst he
    exact hn v w' h3 h4
theorem stepX_sound {P : Program} {tab : Tab P} {ai : IterT} {ops : Array Oper} {n : Nat} {o : Oper} {K : Env → HP} {env : Env} {a : Act} {w : World} {i : Nat} (hi : ops[i]? = some o)
    (h : stepX P tab ai ops n o K env w.heap) (hr : Ag (rdO ops o) a env) {Q : Exit → Act → World → Prop} : wpOp P ops Q i (After P n o K env a w) a w := by
  unfold wpOp
  simp only [hi]
  unfold stepX at h
  cases hg : o.guard with
  | none =>
    rw [hg] at h
    have hw : Region.wanted o (yielded ops a.tmps) = true := by unfold Region.wanted; rw [hg]
    rw [if_pos hw]
    exact .inl ((opX_sound h).wp (exec_eq h hr) fun v w' h1 h2 => ⟨h1, v, rfl, h2⟩)
  | some jw =>
    obtain ⟨j, want⟩ := jw
    rw [hg] at h
    simp only at h
    generalize ht : (ops[j]?).bind (·.dst) = d at h
    cases d with
    | none => exact absurd h id
    | some t =>
      simp only at h
      have hat : a.tmps.getD t undef = env t := by
        refine hr t ?_
        simp [rdO, has_or, gslot, hg, ht, has_bit]
      have hwn := wanted_guard (a := a) hg ht hat
      generalize hv : env t = v at h hwn
      cases v <;> first | exact absurd h id | skip
      · rename_i b
        have hre := Env.ref_eq hv
        cases b <;> cases want <;> simp only [hre] at h <;> simp only [wantV] at hwn <;> simp only [hwn] <;> simp only [beq_self_eq_true, if_true, Bool.false_eq_true, if_false, show (false == true) = false from rfl, show (true == false) = false from rfl]
        · exact .inl ((opX_sound h).wp (exec_eq h hr) fun v w' h1 h2 => ⟨h1, v, rfl, h2⟩)
        · exact ⟨Same.refl w, undef, rfl, h⟩
        · exact ⟨Same.refl w, undef, rfl, h⟩
        · exact .inl ((opX_sound h).wp (exec_eq h hr) fun v w' h1 h2 => ⟨h1, v, rfl, h2⟩)
      · simp only [wantV] at hwn
        simp only [hwn, Bool.false_eq_true, if_false]
        exact ⟨Same.refl w, undef, rfl, h⟩
/-! the frame behind an operation -/
def rmN (n L : Nat) : Option Nat → Nat
  | none => L
  | some d => bif Nat.blt d n then rm L d else L
theorem put_ag {n L : Nat} {a : Act} {env : Env} {d : Option Nat} {v : Value} (hs : a.tmps.size = n) (h : Ag (rmN n L d) a env) : Ag L (a.put d v) (env.set n d v) := by
  intro t ht
  cases d with
  | none => exact h t ht
  | some d =>
    simp only [Act.put, Env.set]
    by_cases hd : d < n
    · have hb : Nat.blt d n = true := by simpa [Nat.blt_eq] using hd
      simp only [rmN, hb, cond_true] at h ⊢
      by_cases e : t = d
      · subst e
        rw [← hs] at hd
        simp [Array.getD, Nat.beq_refl, hd]
      · have hne : Nat.beq t d = false := by
          cases hq : Nat.beq t d with
          | false => rfl
          | true => exact absurd (Nat.eq_of_beq_eq_true hq) e
        have h1 := h t (by rw [has_rm]; simp [ht]; omega)
        simp only [hne, cond_false]
        rw [← h1]
        simp [Array.getD_eq_getD_getElem?, Array.getElem?_setIfInBounds_ne (show d ≠ t by omega)]
    · have hb : Nat.blt d n = false := by
        cases hq : Nat.blt d n with
        | false => rfl
        | true => rw [Nat.blt_eq] at hq; exact absurd hq hd
      simp only [rmN, hb, cond_false] at h ⊢
      have h1 := h t ht
      rw [← h1]
      rw [Array.setIfInBounds_eq_of_size_le (by omega)]
theorem put_size (a : Act) (d : Option Nat) (v : Value) : (a.put d v).tmps.size = a.tmps.size := by cases d <;> simp [Act.put]
theorem put_defers' (a : Act) (d : Option Nat) (v : Value) : (a.put d v).defers = a.defers := by cases d <;> simp [Act.put]
theorem put_other (a : Act) (d : Option Nat) (v : Value) (t : Nat) (h : d ≠ some t) : (a.put d v).tmps.getD t undef = a.tmps.getD t undef := by
  cases d with
  | none => rfl
  | some d => simp [Act.put, Array.getD_eq_getD_getElem?, Array.getElem?_setIfInBounds_ne (show d ≠ t from fun e => h (by rw [e]))]
def dbit : Option Nat → Nat
  | none => 0
  | some d => bit d
/-- the slots that operations write -/
def asgL : List Oper → Nat
  | [] => 0
  | o :: r => dbit o.dst ||| asgL r
def livOps (n : Nat) (ops : Array Oper) : List Oper → Nat → Nat
  | [], L => L
  | o :: r, L => rmN n (livOps n ops r L) o.dst ||| rdO ops o
/-- what holds behind code that began at (a, w) -/
def Beh (n : Nat) (a : Act) (w : World) (asg : Nat) (a' : Act) (w' : World) : Prop :=
  Same w w' ∧ a'.tmps.size = n ∧ a'.defers = [] ∧ ∀ t, has asg t = false → a'.tmps.getD t undef = a.tmps.getD t undef
theorem Beh.refl {n : Nat} {a : Act} {w : World} (h : a.tmps.size = n) (h' : a.defers = []) (asg : Nat) : Beh n a w asg a w := ⟨Same.refl w, h, h', fun _ _ => rfl⟩
theorem Beh.trans {n : Nat} {a b c : Act} {u v w : World} {m k : Nat} (h : Beh n a u m b v) (h' : Beh n b v k c w) : Beh n a u (m ||| k) c w :=
  ⟨h.1.trans h'.1, h'.2.1, h'.2.2.1, fun t ht => by
    rw [has_or, Bool.or_eq_false_iff] at ht
    rw [h'.2.2.2 t ht.2, h.2.2.2 t ht.1]⟩
theorem Beh.mono {n : Nat} {a b : Act} {u v : World} {m k : Nat} (h : Beh n a u m b v) (hk : ∀ t, has m t = true → has k t = true) : Beh n a u k b v :=
  ⟨h.1, h.2.1, h.2.2.1, fun t ht => h.2.2.2 t (by
    cases hm : has m t with
    | false => rfl
    | true => rw [hk t hm] at ht; cases ht)⟩
theorem Beh.put {n : Nat} {a : Act} {w w' : World} (hs : a.tmps.size = n) (hd : a.defers = []) (d : Option Nat) (v : Value) (h : Same w w') : Beh n a w (dbit d) (a.put d v) w' :=
  ⟨h, by rw [put_size, hs], by rw [put_defers', hd], fun t ht => put_other a d v t (by
    rintro rfl
    simp [dbit, has_bit] at ht)⟩
theorem opsX_sound {P : Program} {tab : Tab P} {ai : IterT} {ops : Array Oper} {n : Nat} {K : Env → HP} {L : Nat} {Q : Exit → Act → World → Prop} {a0 : Act} {w0 : World} {asg : Nat} (hq : ∀ a w env, Beh n a0 w0 asg a w → Ag L a env → K env w.heap → Q .normal a w) :
    ∀ (l : List Oper) (k : Nat) (a : Act) (w : World) (env : Env) (m : Nat), ops.toList.drop k = l → opsX P tab ai ops n l K env w.heap → Ag (livOps n ops l L) a env → Beh n a0 w0 m a w → (∀ t, has (m ||| asgL l) t = true → has asg t = true) →
      wpOps P ops Q (List.range' k l.length) a w
  | [], k, a, w, env, m, hl, h, hg, hb, hm => by
    simp only [List.length_nil, List.range'_zero, wpOps]
    exact hq a w env (hb.mono fun t ht => hm t (by simp [has_or, ht])) hg h
  | o :: r, k, a, w, env, m, hl, h, hg, hb, hm => by
    simp only [List.length_cons, List.range'_succ]
    rw [wpOps_cons]
    have hi : ops[k]? = some o := by
      have := congrArg (·[0]?) hl; simpa using this
    refine wpOp_mono (fun a' w' ⟨h1, v, h2, h3⟩ => ?_) (stepX_sound hi h hg.or_right)
    subst h2
    exact opsX_sound hq r (k + 1) _ w' _ (m ||| dbit o.dst) (by rw [← List.drop_drop, hl]; rfl) h3 (put_ag hb.2.1 hg.or_left) (hb.trans (Beh.put hb.2.1 hb.2.2.1 o.dst v h1))
      (fun t ht => hm t (by simp only [asgL, has_or, Bool.or_eq_true] at ht ⊢; rcases ht with (h | h) | h <;> simp [h]))
end Go.Ph
end
section
set_option linter.all false
namespace Go.Ph
open Go
def bnd (e : Edge) : Bool := Region.binds .any e
def foldE (B : List Nat) : List Edge → Nat
  | [] => 0
  | e :: r => (bif bnd e then bit e.on ||| B.getD e.on 0 else 0) ||| foldE B r
theorem has_foldE (B : List Nat) (j : Nat) : ∀ l : List Edge, has (foldE B l) j = true ↔ ∃ e ∈ l, bnd e = true ∧ (j = e.on ∨ has (B.getD e.on 0) j = true)
  | [] => by simp [foldE, has_zero]
  | e :: r => by
    simp only [foldE, has_or, Bool.or_eq_true, has_foldE B j r, List.mem_cons]
    constructor
    · rintro (h | ⟨e', h1, h2⟩)
      · cases hb : bnd e with
        | false => rw [hb] at h; simp [has_zero] at h
        | true =>
          rw [hb] at h
          simp only [cond_true, has_or, Bool.or_eq_true, has_bit, decide_eq_true_eq] at h
          exact ⟨e, .inl rfl, hb, h.imp Eq.symm id⟩
      · exact ⟨e', .inr h1, h2⟩
    · rintro ⟨e', rfl | h1, h2, h3⟩
      · left
        rw [h2]
        simp only [cond_true, has_or, Bool.or_eq_true, has_bit, decide_eq_true_eq]
        exact h3.imp Eq.symm id
      · exact .inr ⟨e', h1, h2, h3⟩
def befL : List Oper → List Nat → List Nat
  | [], acc => acc
  | o :: r, acc => befL r (acc ++ [foldE acc o.after.toList])
def bk (B : List Nat) (k : Nat) : Nat := B.getD k 0
def dstAt (ops : Array Oper) (k : Nat) : Option Nat := (ops[k]?).bind (·.dst)
def befOk (ops : Array Oper) (B : List Nat) : Bool :=
  (List.range ops.size).all fun i => match ops[i]? with
    | some o => Nat.beq (bk B i) (foldE B o.after.toList) && o.after.toList.all fun e => !bnd e || Nat.blt e.on i
    | none => true
def slotsOk (ops : Array Oper) (n : Nat) (B : List Nat) : Bool :=
  (List.range ops.size).all fun i => match dstAt ops i with
    | none => true
    | some d => Nat.blt d n && (List.range ops.size).all fun k => Nat.beq i k || match ops[k]? with
      | none => true
      | some o => (match o.dst with | some d' => !Nat.beq d d' | none => true) && (!has (rdO ops o) d || has (bk B k) i || has (bk B i) k)
def sub (A D : Nat) : Nat := A ^^^ (A &&& D)
theorem has_sub (A D t : Nat) : has (sub A D) t = (has A t && !has D t) := by
  unfold sub has; rw [Nat.testBit_xor, Nat.testBit_and]
  cases A.testBit t <;> cases D.testBit t <;> rfl
/-- the slots that the operations of a set write -/
def dstsOf (ops : Array Oper) (S : Nat) : List Nat → Nat
  | [] => 0
  | i :: r => (bif has S i then dbit (dstAt ops i) else 0) ||| dstsOf ops S r
theorem has_dstsOf (ops : Array Oper) (S t : Nat) : ∀ l : List Nat, has (dstsOf ops S l) t = true ↔ ∃ i ∈ l, has S i = true ∧ dstAt ops i = some t
  | [] => by simp [dstsOf, has_zero]
  | i :: r => by
    simp only [dstsOf, has_or, Bool.or_eq_true, has_dstsOf ops S t r, List.mem_cons]
    constructor
    · rintro (h | ⟨e', h1, h2⟩)
      · cases hb : has S i with
        | false => rw [hb] at h; simp [has_zero] at h
        | true =>
          rw [hb] at h
          refine ⟨i, .inl rfl, hb, ?_⟩
          cases hd : dstAt ops i with
          | none => rw [hd] at h; simp [dbit, has_zero] at h
          | some d => rw [hd] at h; simp [dbit, has_bit] at h; rw [h]
      · exact ⟨e', .inr h1, h2⟩
    · rintro ⟨e', rfl | h1, h2, h3⟩
      · left; rw [h2, h3]; simp [dbit, has_bit]
      · exact .inr ⟨e', h1, h2, h3⟩
def livDrawL (ops : Array Oper) (B : List Nat) : List Nat → Nat
  | [] => 0
  | k :: r => (match ops[k]? with | some o => sub (rdO ops o) (dstsOf ops (bk B k) (List.range ops.size)) | none => 0) ||| livDrawL ops B r
def livDraw (ops : Array Oper) (B : List Nat) (L : Nat) : Nat := sub L (asgL ops.toList) ||| livDrawL ops B (List.range ops.size)
def subset (m A C : Nat) : Bool := (List.range m).all fun i => !has A i || has C i
def heldOk (P : Program) (ops : Array Oper) (B : List Nat) (C i : Nat) (hs : List Nat) : Bool :=
  (List.range ops.size).all fun k => !has C k || match ops[k]? with
    | none => true
    | some o => match clsX P o with
      | .R => has (bk B i) k || (hs.contains k && o.dst.isSome && (List.range ops.size).all fun j => !(has C j || Nat.beq j i) || match dstAt ops j with
        | none => true
        | some d => !has (rdO ops o) d || (!has (bk B j) k && !Nat.beq j k))
      | _ => true
def isE (P : Program) (ops : Array Oper) (i : Nat) : Bool := match ops[i]? with | some o => (match clsX P o with | .E => true | _ => false) | none => true
def planOk (P : Program) (ops : Array Oper) (B : List Nat) : Nat → Plan → Bool
  | C, .done => (List.range ops.size).all fun i => has C i
  | C, .take i p => Nat.blt i ops.size && !has C i && subset ops.size (bk B i) C && !isE P ops i && planOk P ops B (C ||| bit i) p
  | C, .eff i hs p => Nat.blt i ops.size && !has C i && subset ops.size (bk B i) C && ((List.range ops.size).all fun j => has C j || Nat.beq j i || !subset ops.size (bk B j) C) && heldOk P ops B C i hs && planOk P ops B (C ||| bit i) p
  | C, .alt i hs p j hs' q => Nat.blt i ops.size && !has C i && Nat.blt j ops.size && !has C j && ((List.range ops.size).all fun k => has C k || Nat.beq k i || Nat.beq k j || !subset ops.size (bk B k) C) &&
    heldOk P ops B C i hs && planOk P ops B (C ||| bit i) p && heldOk P ops B C j hs' && planOk P ops B (C ||| bit j) q
    && subset ops.size (bk B i) C && subset ops.size (bk B j) C
def drawOk (P : Program) (ops : Array Oper) (n : Nat) (p : Plan) : Bool :=
  befOk ops (befL ops.toList []) && slotsOk ops n (befL ops.toList []) && planOk P ops (befL ops.toList []) 0 p
/-! what the checks say -/
section
variable {P : Program} {tab : Tab P} {ai : IterT} {ops : Array Oper} {n : Nat} {B : List Nat}
theorem bef_spec (h : befOk ops B = true) {i : Nat} {o : Oper} (hi : ops[i]? = some o) :
    (∀ j, has (bk B i) j = true ↔ ∃ e ∈ o.after.toList, bnd e = true ∧ (j = e.on ∨ has (bk B e.on) j = true)) ∧ ∀ e ∈ o.after.toList, bnd e = true → e.on < i := by
  unfold befOk at h
  have hlt := (Array.getElem?_eq_some_iff.1 hi).1
  have h1 := List.all_eq_true.1 h i (List.mem_range.2 hlt)
  rw [hi] at h1
  simp only [Bool.and_eq_true] at h1
  refine ⟨fun j => ?_, fun e he hb => ?_⟩
  · rw [Nat.eq_of_beq_eq_true h1.1]; exact has_foldE B j _
  · have h2 := List.all_eq_true.1 h1.2 e he
    rw [hb] at h2
    simpa [Nat.blt_eq] using h2
theorem bef_lt (h : befOk ops B = true) : ∀ (i : Nat), i < ops.size → ∀ j, has (bk B i) j = true → j < i := by
  intro i
  induction i using Nat.strongRecOn with
  | _ i ih =>
    intro hi j hj
    have hi' : ops[i]? = some ops[i] := Array.getElem?_eq_getElem hi
    obtain ⟨e, he, hb, h1⟩ := ((bef_spec h hi').1 j).1 hj
    have hlt := (bef_spec h hi').2 e he hb
    rcases h1 with rfl | h1
    · exact hlt
    · have := ih e.on hlt (by omega) j h1; omega
/-- a set that holds each operation's own wants holds all that comes before -/
theorem closed_bef (h : befOk ops B = true) (S : Nat → Prop) (hS : ∀ i o, ops[i]? = some o → S i → ∀ e ∈ o.after.toList, bnd e = true → S e.on) :
    ∀ (i : Nat) (o : Oper), ops[i]? = some o → (∀ e ∈ o.after.toList, bnd e = true → S e.on) → ∀ j, has (bk B i) j = true → S j := by
  intro i
  induction i using Nat.strongRecOn with
  | _ i ih =>
    intro o hi hd j hj
    obtain ⟨e, he, hb, h1⟩ := ((bef_spec h hi).1 j).1 hj
    have hlt := (bef_spec h hi).2 e he hb
    rcases h1 with rfl | h1
    · exact hd e he hb
    · have hsz := (Array.getElem?_eq_some_iff.1 hi).1
      have he' : ops[e.on]? = some (ops[e.on]'(by omega)) := Array.getElem?_eq_getElem _
      exact ih e.on hlt _ he' (fun e' h2 h3 => hS _ _ he' (hd e he hb) e' h2 h3) j h1
theorem slots_spec (h : slotsOk ops n B = true) {i d : Nat} (hi : dstAt ops i = some d) : d < n ∧ ∀ k o, ops[k]? = some o → k ≠ i → o.dst ≠ some d ∧ (has (rdO ops o) d = true → has (bk B k) i = true ∨ has (bk B i) k = true) := by
  unfold slotsOk at h
  have hlt : i < ops.size := by
    unfold dstAt at hi
    rcases Nat.lt_or_ge i ops.size with h' | h'
    · exact h'
    · simp [Array.getElem?_eq_none h'] at hi
  have h1 := List.all_eq_true.1 h i (List.mem_range.2 hlt)
  rw [hi] at h1
  simp only [Bool.and_eq_true] at h1
  refine ⟨by simpa [Nat.blt_eq] using h1.1, fun k o hk hne => ?_⟩
  have h2 := List.all_eq_true.1 h1.2 k (List.mem_range.2 (Array.getElem?_eq_some_iff.1 hk).1)
  have hb : Nat.beq i k = false := by
    cases hq : Nat.beq i k with
    | false => rfl
    | true => exact absurd (Nat.eq_of_beq_eq_true hq).symm hne
  rw [hb, hk] at h2
  simp only [Bool.false_or, Bool.and_eq_true] at h2
  refine ⟨fun hd => ?_, fun hr => ?_⟩
  · rw [hd] at h2; simp at h2
  · have h3 := h2.2
    rw [hr] at h3
    simpa using h3
theorem subset_spec {m A C : Nat} (h : subset m A C = true) (j : Nat) (hj : j < m) (ha : has A j = true) : has C j = true := by
  have := List.all_eq_true.1 h j (List.mem_range.2 hj)
  rw [ha] at this
  simpa using this
theorem subset_of {m A C : Nat} (h : ∀ j, j < m → has A j = true → has C j = true) : subset m A C = true := by
  refine List.all_eq_true.2 fun j hj => ?_
  cases ha : has A j with
  | false => simp
  | true => simp [h j (List.mem_range.1 hj) ha]
/-! one operation, wherever -/
def YAt (P : Program) (ops : Array Oper) (o : Oper) (a : Act) (w : World) (v : Value) : Prop :=
  (Region.wanted o (yielded ops a.tmps) = true ∧ (execOp a.eval o).run P w = .ok (.value v) w) ∨ (Region.wanted o (yielded ops a.tmps) = false ∧ v = undef)
theorem YAt.wpOp {i : Nat} {o : Oper} {a : Act} {w : World} {v : Value} (hi : ops[i]? = some o) (h : YAt P ops o a w v) {Q : Exit → Act → World → Prop} {next : Act → World → Prop} (hn : next (a.put o.dst v) w) : Go.wpOp P ops Q i next a w := by
  unfold Go.wpOp
  simp only [hi]
  rcases h with ⟨h1, h2⟩ | ⟨h1, rfl⟩
  · rw [if_pos h1]; refine .inl ?_; unfold Oper.wp; rw [h2]; exact hn
  · rw [if_neg (by rw [h1]; simp)]; exact hn
theorem clsF_or {o : Oper} (h : clsX P o ≠ .E) {env : Env} {K : Value → HP} {H : Heap} (hx : opX P tab ai env o K H) :
    ∃ v, K v H ∧ Rd P (execOp (ev env) o) H (.value v) ∧ (clsX P o = .F → Pu P (execOp (ev env) o) (.value v)) := by
  cases hc : clsX P o with
  | F => obtain ⟨v, h1, h2⟩ := opX_F hc hx; exact ⟨v, h2, h1.rd H, fun _ => h1⟩
  | R => obtain ⟨v, h1, h2⟩ := opX_R hc hx; exact ⟨v, h2, h1, fun h => by cases h⟩
  | E => exact absurd hc h
theorem stepX_cls {o : Oper} {K : Env → HP} {env : Env} {H : Heap} (h : stepX P tab ai ops n o K env H) (hc : clsX P o ≠ .E) :
    ∃ v, K (env.set n o.dst v) H ∧ ∀ (a : Act) (w : World), Ag (rdO ops o) a env → (w.heap = H ∨ clsX P o = .F) → YAt P ops o a w v := by
  have run : ∀ {K' : Value → HP}, opX P tab ai env o K' H → (∀ v, K' v H → K (env.set n o.dst v) H) → (∀ a : Act, Ag (rdO ops o) a env → Region.wanted o (yielded ops a.tmps) = true) →
      ∃ v, K (env.set n o.dst v) H ∧ ∀ (a : Act) (w : World), Ag (rdO ops o) a env → (w.heap = H ∨ clsX P o = .F) → YAt P ops o a w v := by
    intro K' hx hk hw
    obtain ⟨v, h1, h2, h3⟩ := clsF_or hc hx
    refine ⟨v, hk v h1, fun a w hr hh => .inl ⟨hw a hr, ?_⟩⟩
    rw [exec_eq hx hr]
    rcases hh with hh | hh
    · exact h2 w hh
    · exact h3 hh w
  unfold stepX at h
  cases hg : o.guard with
  | none =>
    rw [hg] at h
    exact run h (fun _ h => h) fun a _ => by unfold Region.wanted; rw [hg]
  | some jw =>
    obtain ⟨j, want⟩ := jw
    rw [hg] at h
    simp only at h
    generalize ht : (ops[j]?).bind (·.dst) = d at h
    cases d with
    | none => exact absurd h id
    | some t =>
      simp only at h
      have hwn : ∀ a : Act, Ag (rdO ops o) a env → Region.wanted o (yielded ops a.tmps) = wantV (env t) want := fun a hr => by
        refine wanted_guard (a := a) hg ht ?_
        refine hr t ?_
        simp [rdO, has_or, gslot, hg, ht, has_bit]
      generalize hv : env t = v at h hwn
      cases v <;> first | exact absurd h id | skip
      · rename_i b
        have hre := Env.ref_eq hv
        cases b <;> cases want <;> simp only [hre] at h <;> simp only [wantV] at hwn
        · exact run h (fun _ h => h) hwn
        · exact ⟨undef, h, fun a w hr _ => .inr ⟨hwn a hr, rfl⟩⟩
        · exact ⟨undef, h, fun a w hr _ => .inr ⟨hwn a hr, rfl⟩⟩
        · exact run h (fun _ h => h) hwn
      · simp only [wantV] at hwn
        exact ⟨undef, h, fun a w hr _ => .inr ⟨hwn a hr, rfl⟩⟩
theorem recheck_spec {k : Nat} {o : Oper} {d : Nat} {env : Env} {H : Heap} (hk : ops[k]? = some o) (hd : o.dst = some d) (hc : clsX P o = .R) (h : recheck P tab ai ops k env H) (a : Act) (w : World) (hr : Ag (rdO ops o) a env) (hw : w.heap = H)
    {v0 : Value} (hv0 : env d = v0) (hu : ∀ j want t, o.guard = some (j, want) → (ops[j]?).bind (·.dst) = some t → wantV (env t) want = false → v0 = undef) : YAt P ops o a w v0 := by
  have run : opX P tab ai env o (fun v _ => v = env d) H → Region.wanted o (yielded ops a.tmps) = true → YAt P ops o a w v0 := by
    intro hx hw'
    obtain ⟨v, h1, h2⟩ := opX_R hc hx
    refine .inl ⟨hw', ?_⟩
    rw [exec_eq hx hr, h1 w hw, h2, hv0]
  unfold recheck at h
  rw [hk] at h
  simp only [hd] at h
  cases hg : o.guard with
  | none =>
    rw [hg] at h
    exact run h (by unfold Region.wanted; rw [hg])
  | some jw =>
    obtain ⟨j, want⟩ := jw
    rw [hg] at h
    simp only at h
    generalize ht : (ops[j]?).bind (·.dst) = q at h
    cases q with
    | none => exact absurd h id
    | some t =>
      simp only at h
      have hwn : Region.wanted o (yielded ops a.tmps) = wantV (env t) want := by
        refine wanted_guard (a := a) hg ht ?_
        refine hr t ?_
        simp [rdO, has_or, gslot, hg, ht, has_bit]
      have hu' := hu j want t hg ht
      generalize hv : env t = v at h hwn hu'
      cases v <;> first | exact absurd h id | skip
      · rename_i b
        cases b <;> cases want <;> simp only [wantV] at hwn hu'
        · exact run h hwn
        · exact .inr ⟨hwn, by simpa using hu'⟩
        · exact .inr ⟨hwn, by simpa using hu'⟩
        · exact run h hwn
      · simp only [wantV] at hwn hu'
        exact .inr ⟨hwn, by simpa using hu'⟩
end
end Go.Ph
end
section
set_option linter.all false
namespace Go.Ph
open Go
section
variable {P : Program} {tab : Tab P} {ai : IterT} {ops : Array Oper} {n : Nat} {B : List Nat}
/-- what an operation reads, told by the values of those before it -/
def ReadOk (ops : Array Oper) (B : List Nat) (val : Nat → Value) (base : Nat → Value) (k : Nat) (f : Nat → Value) : Prop :=
  ∀ o t, ops[k]? = some o → has (rdO ops o) t = true → (∀ i, has (bk B k) i = true → dstAt ops i = some t → f t = val i) ∧ ((∀ i, has (bk B k) i = true → dstAt ops i ≠ some t) → f t = base t)
/-- a frame, told by the values of those that came -/
def FrOk (ops : Array Oper) (S : Nat → Prop) (val : Nat → Value) (base f : Nat → Value) : Prop :=
  ∀ t, (∀ j, S j → dstAt ops j = some t → f t = val j) ∧ ((∀ j, S j → dstAt ops j ≠ some t) → f t = base t)
theorem dstAt_lt {i d : Nat} (h : dstAt ops i = some d) : i < ops.size := by
  unfold dstAt at h
  rcases Nat.lt_or_ge i ops.size with h' | h'
  · exact h'
  · simp [Array.getElem?_eq_none h'] at h
theorem dstAt_some {i : Nat} {o : Oper} (h : ops[i]? = some o) : dstAt ops i = o.dst := by simp [dstAt, h]
theorem one_writer (hs : slotsOk ops n B = true) {i j d : Nat} (hi : dstAt ops i = some d) (hj : dstAt ops j = some d) : i = j := by
  rcases Nat.decEq i j with h | h
  · exfalso
    have hlt := dstAt_lt hj
    have hj' : ops[j]? = some ops[j] := Array.getElem?_eq_getElem hlt
    exact ((slots_spec hs hi).2 j _ hj' (fun e => h e.symm)).1 (by rw [← dstAt_some hj']; exact hj)
  · exact h
/-- a frame of a set that k may be added to gives k what it reads -/
theorem FrOk.read (hs : slotsOk ops n B = true) {S : Nat → Prop} {val base f : Nat → Value} (h : FrOk ops S val base f) {k : Nat} (hk : ∀ j, has (bk B k) j = true → S j) (hn : ∀ j o t, S j → ops[k]? = some o → dstAt ops j = some t → has (rdO ops o) t = true → has (bk B k) j = true) :
    ReadOk ops B val base k f := by
  intro o t ho ht
  exact ⟨fun i hi hd => (h t).1 i (hk i hi) hd, fun hno => (h t).2 fun j hj hd => hno j (hn j o t hj ho hd ht) hd⟩
theorem FrOk.read' (hs : slotsOk ops n B = true) {S : Nat → Prop} {val base f : Nat → Value} (h : FrOk ops S val base f) {k : Nat} (hk : ∀ j, has (bk B k) j = true → S j) (hn : ∀ j, S j → has (bk B j) k = false) (hns : ¬ S k) :
    ReadOk ops B val base k f := by
  refine h.read hs hk fun j o t hj ho hd ht => ?_
  rcases Nat.decEq j k with hjk | hjk
  · rcases ((slots_spec hs hd).2 k o ho (fun e => hjk e.symm)).2 ht with h1 | h1
    · exact h1
    · rw [hn j hj] at h1; cases h1
  · subst hjk; exact absurd hj hns
theorem ReadOk.congr {val val' base f : Nat → Value} {k : Nat} (h : ReadOk ops B val base k f) (hv : ∀ i, has (bk B k) i = true → val' i = val i) : ReadOk ops B val' base k f := by
  intro o t ho ht
  exact ⟨fun i hi hd => by rw [hv i hi]; exact (h o t ho ht).1 i hi hd, (h o t ho ht).2⟩
theorem ReadOk.same {val base base' f g : Nat → Value} {k : Nat} {o : Oper} (ho : ops[k]? = some o) (h : ReadOk ops B val base k f) (h' : ReadOk ops B val base' k g) (hb : ∀ t, has (rdO ops o) t = true → (∀ i, has (bk B k) i = true → dstAt ops i ≠ some t) → base t = base' t) :
    ∀ t, has (rdO ops o) t = true → f t = g t := by
  intro t ht
  by_cases hw : ∃ i, has (bk B k) i = true ∧ dstAt ops i = some t
  · obtain ⟨i, hi, hd⟩ := hw
    rw [(h o t ho ht).1 i hi hd, (h' o t ho ht).1 i hi hd]
  · have hno : ∀ i, has (bk B k) i = true → dstAt ops i ≠ some t := fun i hi hd => hw ⟨i, hi, hd⟩
    rw [(h o t ho ht).2 hno, (h' o t ho ht).2 hno, hb t ht hno]
theorem FrOk.add {S : Nat → Prop} {val val' base f f' : Nat → Value} {i : Nat} (hs : slotsOk ops n B = true) (h : FrOk ops S val base f) (hv : ∀ j, S j → val' j = val j) (hi : ¬ S i)
    (hf : ∀ t, (dstAt ops i = some t → f' t = val' i) ∧ (dstAt ops i ≠ some t → f' t = f t)) : FrOk ops (fun j => S j ∨ j = i) val' base f' := by
  intro t
  constructor
  · rintro j (hj | rfl) hd
    · by_cases e : dstAt ops i = some t
      · exact absurd (one_writer hs hd e ▸ hj) hi
      · rw [(hf t).2 e, (h t).1 j hj hd, hv j hj]
    · exact (hf t).1 hd
  · intro hno
    rw [(hf t).2 (hno i (.inr rfl))]
    exact (h t).2 fun j hj => hno j (.inl hj)
theorem FrOk.iff {S S' : Nat → Prop} {val base f : Nat → Value} (h : FrOk ops S val base f) (he : ∀ j, S' j ↔ S j) : FrOk ops S' val base f := fun t => ⟨fun j hj => (h t).1 j ((he j).1 hj), fun hno => (h t).2 fun j hj => hno j ((he j).2 hj)⟩
theorem env_set_slots (hs : slotsOk ops n B = true) {i : Nat} {o : Oper} (hi : ops[i]? = some o) (env : Env) (v : Value) : ∀ t, (dstAt ops i = some t → env.set n o.dst v t = v) ∧ (dstAt ops i ≠ some t → env.set n o.dst v t = env t) := by
  intro t
  rw [dstAt_some hi]
  constructor
  · intro hd
    have hlt := (slots_spec hs (by rw [dstAt_some hi]; exact hd)).1
    rw [hd]
    have hb : Nat.blt t n = true := by simpa [Nat.blt_eq] using hlt
    simp [Env.set, hb, Nat.beq_refl]
  · intro hd
    cases ho : o.dst with
    | none => rfl
    | some d =>
      have hne : Nat.beq t d = false := by
        cases hq : Nat.beq t d with
        | false => rfl
        | true => exact absurd (by rw [ho, Nat.eq_of_beq_eq_true hq]) hd
      simp only [Env.set]
      cases Nat.blt d n <;> simp [hne]
theorem put_slots (hs : slotsOk ops n B = true) {i : Nat} {o : Oper} (hi : ops[i]? = some o) (a : Act) (ha : a.tmps.size = n) (v : Value) : ∀ t, (dstAt ops i = some t → (a.put o.dst v).tmps.getD t undef = v) ∧ (dstAt ops i ≠ some t → (a.put o.dst v).tmps.getD t undef = a.tmps.getD t undef) := by
  intro t
  rw [dstAt_some hi]
  constructor
  · intro hd
    have hlt := (slots_spec hs (by rw [dstAt_some hi]; exact hd)).1
    rw [hd]
    rw [← ha] at hlt
    simp [Act.put, Array.getD, hlt]
  · intro hd; exact put_other a o.dst v t hd
/-- what is to come of an operation that the plan has taken and the run hasn't -/
def Pend (P : Program) (ops : Array Oper) (B : List Nat) (val base : Nat → Value) (k : Nat) (H : Heap) : Prop :=
  ∀ o (a : Act) (w : World), ops[k]? = some o → ReadOk ops B val base k (fun t => a.tmps.getD t undef) → (w.heap = H ∨ clsX P o = .F) → YAt P ops o a w (val k)
structure Inv (P : Program) (ops : Array Oper) (n : Nat) (B : List Nat) (base abase : Nat → Value) (C : Nat) (D : Array Bool) (val : Nat → Value) (env : Env) (a : Act) (w : World) : Prop where
  dsz : D.size = ops.size
  dc : ∀ k, D.getD k true = true → k < ops.size → has C k = true
  cl : ∀ k, has C k = true → k < ops.size
  cd : ∀ k, k < ops.size → has C k = true → ∀ j, has (bk B k) j = true → has C j = true
  dd : ∀ k o, ops[k]? = some o → D.getD k true = true → ∀ e ∈ o.after.toList, bnd e = true → D.getD e.on false = true
  fc : FrOk ops (fun k => has C k = true) val base env
  fd : FrOk ops (fun k => D.getD k false = true) val abase (fun t => a.tmps.getD t undef)
  sz : a.tmps.size = n
  df : a.defers = []
  pend : ∀ k o, ops[k]? = some o → has C k = true → D.getD k true = false → clsX P o ≠ .E ∧ Pend P ops B val base k w.heap
theorem getD_flip {D : Array Bool} {k : Nat} (h : k < D.size) : D.getD k true = D.getD k false := by simp [Array.getD, h]
theorem getD_out {D : Array Bool} {k : Nat} (h : ¬ k < D.size) : D.getD k false = false := by simp [Array.getD, h]
theorem getD_set {D : Array Bool} {i : Nat} (hi : i < D.size) (k : Nat) (b : Bool) : (D.setIfInBounds i true).getD k b = (if k = i then true else D.getD k b) := by
  by_cases h : k = i
  · subst h; simp [Array.getD, hi]
  · simp [Array.getD_eq_getD_getElem?, Array.getElem?_setIfInBounds_ne (show i ≠ k from fun e => h e.symm), h]
/-- the unlisted -/
def left (D : Array Bool) (m : Nat) : Nat := ((List.range m).filter fun k => !D.getD k true).length
theorem left_set {D : Array Bool} {m i : Nat} (hi : i < m) (hD : D.size = m) (h : D.getD i true = false) : left (D.setIfInBounds i true) m + 1 = left D m := by
  unfold left
  have key : ∀ l : List Nat, l.Nodup → i ∈ l → (l.filter fun k => !(D.setIfInBounds i true).getD k true).length + 1 = (l.filter fun k => !D.getD k true).length := by
    intro l
    induction l with
    | nil => intro _ h; cases h
    | cons x l ih =>
      intro hnd hm
      rw [List.nodup_cons] at hnd
      rcases Nat.decEq x i with hx | hx
      · have hm' : i ∈ l := by
          rcases List.mem_cons.1 hm with rfl | h
          · exact absurd rfl hx
          · exact h
        have e : (D.setIfInBounds i true).getD x true = D.getD x true := by rw [getD_set (by omega)]; simp [hx]
        have := ih hnd.2 hm'
        rw [List.filter_cons, List.filter_cons, e]
        cases D.getD x true
        · simp only [Bool.not_false, if_true, List.length_cons]; omega
        · simp only [Bool.not_true, Bool.false_eq_true, if_false]; exact this
      · subst hx
        have e : (D.setIfInBounds x true).getD x true = true := by rw [getD_set (by omega)]; simp
        have e2 : (l.filter fun k => !(D.setIfInBounds x true).getD k true) = l.filter fun k => !D.getD k true := by
          apply List.filter_congr
          intro k hk
          rw [getD_set (by omega)]
          have : k ≠ x := fun e => hnd.1 (e ▸ hk)
          simp [this]
        rw [List.filter_cons, List.filter_cons, e, h, e2]
        simp only [Bool.not_true, Bool.not_false, Bool.false_eq_true, if_false, if_true, List.length_cons]
  exact key _ List.nodup_range (List.mem_range.2 hi)
theorem left_zero {D : Array Bool} {m : Nat} (h : left D m = 0) : ∀ k, k < m → D.getD k true = true := by
  intro k hk
  unfold left at h
  have := List.eq_nil_of_length_eq_zero h
  have h2 := List.filter_eq_nil_iff.1 this k (List.mem_range.2 hk)
  simpa using h2
/-- where none is ready all have come -/
theorem none_ready (hb : befOk ops B = true) {D : Array Bool} (hD : D.size = ops.size) (h : Region.ready .any ops D = []) : ∀ k, k < ops.size → D.getD k true = true := by
  intro k
  induction k using Nat.strongRecOn with
  | _ k ih =>
    intro hk
    cases hd : D.getD k true with
    | true => rfl
    | false =>
      exfalso
      have hk' : ops[k]? = some ops[k] := Array.getElem?_eq_getElem hk
      have : k ∈ Region.ready .any ops D := mem_ready.2 ⟨hd, ops[k], hk', fun e he hbe => by
        have hlt := (bef_spec hb hk').2 e (by simpa using he) hbe
        have := ih e.on hlt (by omega)
        rw [← getD_flip (by omega)]; exact this⟩
      rw [h] at this; cases this
/-- a pending operation comes -/
theorem Inv.come {base abase : Nat → Value} {C : Nat} {D : Array Bool} {val : Nat → Value} {env : Env} {a : Act} {w : World} (hb : befOk ops B = true) (hs : slotsOk ops n B = true) (h : Inv P ops n B base abase C D val env a w) (hbase : ∀ k o t, ops[k]? = some o → has (rdO ops o) t = true → (∀ i, has (bk B k) i = true → dstAt ops i ≠ some t) → abase t = base t)
    {k : Nat} {o : Oper} (hk : ops[k]? = some o) (hr : k ∈ Region.ready .any ops D) :
    ReadOk ops B val base k (fun t => a.tmps.getD t undef) ∧ (∀ j, has (bk B k) j = true → D.getD j false = true) := by
  obtain ⟨h1, o', hk', h2⟩ := mem_ready.1 hr
  have : o' = o := by rw [hk] at hk'; cases hk'; rfl
  subst this
  have hB : ∀ j, has (bk B k) j = true → D.getD j false = true := closed_bef hb (fun j => D.getD j false = true) (fun i o hi hS e he hbe => by
      have hlt := (Array.getElem?_eq_some_iff.1 hi).1
      have := h.dd i o hi (by rw [getD_flip (by rw [h.dsz]; exact hlt)]; exact hS) e he hbe
      exact this) k o' hk fun e he hbe => h2 e (by simpa using he) hbe
  refine ⟨?_, hB⟩
  have hdown : ∀ j, D.getD j false = true → has (bk B j) k = false := by
    intro j hj
    cases hq : has (bk B j) k with
    | false => rfl
    | true =>
      have hjs : j < ops.size := by
        rw [← h.dsz]
        rcases Nat.lt_or_ge j D.size with hh | hh
        · exact hh
        · rw [getD_out (by omega)] at hj; cases hj
      have hj' : ops[j]? = some ops[j] := Array.getElem?_eq_getElem hjs
      have := closed_bef hb (fun j => D.getD j false = true) (fun i o hi hS e he hbe => h.dd i o hi (by rw [getD_flip (by rw [h.dsz]; exact (Array.getElem?_eq_some_iff.1 hi).1)]; exact hS) e he hbe) j _ hj' (fun e he hbe => h.dd j _ hj' (by rw [getD_flip (by rw [h.dsz]; exact hjs)]; exact hj) e he hbe) k hq
      have hks : k < D.size := by rw [h.dsz]; exact (Array.getElem?_eq_some_iff.1 hk).1
      rw [← getD_flip hks, h1] at this; cases this
  have hkD : ¬ (D.getD k false = true) := by
    have hks : k < D.size := by rw [h.dsz]; exact (Array.getElem?_eq_some_iff.1 hk).1
    rw [← getD_flip hks, h1]; simp
  have hr := h.fd.read' hs hB hdown hkD
  intro o'' t ho ht
  obtain ⟨r1, r2⟩ := hr o'' t ho ht
  refine ⟨r1, fun hno => ?_⟩
  rw [r2 hno]
  have : o'' = o' := by rw [hk] at ho; cases ho; rfl
  subst this
  exact hbase k o'' t hk ht hno
theorem Pend.congr {val val' base : Nat → Value} {k : Nat} {H H' : Heap} (h : Pend P ops B val base k H) (hv : ∀ i, has (bk B k) i = true → val' i = val i) (hk : val' k = val k) (hH : H' = H) : Pend P ops B val' base k H' := by
  subst hH
  intro o a w ho hr hh
  rw [hk]
  exact h o a w ho (hr.congr fun i hi => (hv i hi).symm) hh
/-- the plan takes one more, ahead of the run -/
theorem Inv.take {base abase : Nat → Value} {C : Nat} {D : Array Bool} {val : Nat → Value} {env : Env} {a : Act} {w : World} (hb : befOk ops B = true) (hs : slotsOk ops n B = true) (h : Inv P ops n B base abase C D val env a w) {K : Env → HP}
    {i : Nat} {o : Oper} (hi : ops[i]? = some o) (hc : has C i = false) (hsub : ∀ j, has (bk B i) j = true → has C j = true) (hcl : clsX P o ≠ .E) (hx : stepX P tab ai ops n o K env w.heap) :
    ∃ v, K (env.set n o.dst v) w.heap ∧ Inv P ops n B base abase (C ||| bit i) D (fun k => if k = i then v else val k) (env.set n o.dst v) a w := by
  obtain ⟨v, h1, h2⟩ := stepX_cls hx hcl
  have hlt := (Array.getElem?_eq_some_iff.1 hi).1
  refine ⟨v, h1, ?_⟩
  have hv : ∀ j, has C j = true → (fun k => if k = i then v else val k) j = val j := fun j hj => by
    have : j ≠ i := by rintro rfl; rw [hc] at hj; cases hj
    simp [this]
  have hD : D.getD i true = false := by
    cases hq : D.getD i true with
    | false => rfl
    | true => rw [h.dc i hq hlt] at hc; cases hc
  constructor
  · exact h.dsz
  · exact fun k hk hl => by rw [has_or, h.dc k hk hl]; rfl
  · intro k hk; rw [has_or, Bool.or_eq_true, has_bit, decide_eq_true_eq] at hk
    rcases hk with hk | rfl
    · exact h.cl k hk
    · exact hlt
  · intro k hl hk j hj
    rw [has_or, Bool.or_eq_true, has_bit, decide_eq_true_eq] at hk ⊢
    rcases hk with hk | rfl
    · exact .inl (h.cd k hl hk j hj)
    · exact .inl (hsub j hj)
  · exact h.dd
  · have := h.fc.add hs hv (by rw [hc]; simp) (f' := env.set n o.dst v) (i := i) (fun t => by
      have := env_set_slots (n := n) (B := B) hs hi env v t
      simpa using this)
    exact this.iff fun j => by rw [has_or, Bool.or_eq_true, has_bit, decide_eq_true_eq]; exact ⟨fun h => h.imp id Eq.symm, fun h => h.imp id Eq.symm⟩
  · intro t
    refine ⟨fun j hj hd => ?_, (h.fd t).2⟩
    have hjC : has C j = true := by
      have hjs : j < D.size := by
        rcases Nat.lt_or_ge j D.size with hh | hh
        · exact hh
        · have hj' : D.getD j false = true := hj
          rw [getD_out (by omega)] at hj'; cases hj'
      exact h.dc j (by rw [getD_flip hjs]; exact hj) (by rw [← h.dsz]; exact hjs)
    rw [(h.fd t).1 j hj hd, hv j hjC]
  · exact h.sz
  · exact h.df
  · intro k o' hk hkC hkD
    rw [has_or, Bool.or_eq_true, has_bit, decide_eq_true_eq] at hkC
    by_cases hki : k = i
    · subst hki
      have : o' = o := by rw [hi] at hk; cases hk; rfl
      subst this
      refine ⟨hcl, fun o'' a' w' ho hr hh => ?_⟩
      have : o'' = o' := by rw [hi] at ho; cases ho; rfl
      subst this
      simp only [if_true]
      refine h2 a' w' (fun t ht => ?_) hh
      have hread : ReadOk ops B val base k env := h.fc.read' hs hsub (fun j hj => by
        cases hq : has (bk B j) k with
        | false => rfl
        | true => rw [h.cd j (h.cl j hj) hj k hq] at hc; cases hc) (by rw [hc]; simp)
      have hr' : ReadOk ops B val base k (fun t => a'.tmps.getD t undef) := hr.congr fun j hj => (hv j (hsub j hj)).symm
      exact hr'.same hi hread (fun _ _ _ => rfl) t ht
    · have hkC' : has C k = true := hkC.resolve_right fun e => hki e.symm
      obtain ⟨p1, p2⟩ := h.pend k o' hk hkC' hkD
      refine ⟨p1, p2.congr (fun j hj => hv j (h.cd k (h.cl k hkC') hkC' j hj)) (hv k hkC') rfl⟩
/-- the run carries out what the plan has taken -/
theorem Inv.late {base abase : Nat → Value} {C : Nat} {D : Array Bool} {val : Nat → Value} {env : Env} {a : Act} {w : World} (hb : befOk ops B = true) (hs : slotsOk ops n B = true) (h : Inv P ops n B base abase C D val env a w)
    {k : Nat} {o : Oper} (hk : ops[k]? = some o) (hr : k ∈ Region.ready .any ops D) (hkC : has C k = true) : Inv P ops n B base abase C (D.setIfInBounds k true) val env (a.put o.dst (val k)) w := by
  have hlt := (Array.getElem?_eq_some_iff.1 hk).1
  have hkD : k < D.size := by rw [h.dsz]; exact hlt
  obtain ⟨r1, o', hk', r2⟩ := mem_ready.1 hr
  have : o' = o := by rw [hk] at hk'; cases hk'; rfl
  subst this
  constructor
  · simp [h.dsz]
  · intro j hj hl
    rw [getD_set hkD] at hj
    by_cases e : j = k
    · subst e; exact hkC
    · rw [if_neg e] at hj; exact h.dc j hj hl
  · exact h.cl
  · exact h.cd
  · intro j oj hj hjD e he hbe
    rw [getD_set hkD] at hjD ⊢
    by_cases q : e.on = k
    · simp [q]
    · rw [if_neg q]
      by_cases e' : j = k
      · subst e'
        have : oj = o' := by rw [hk] at hj; cases hj; rfl
        subst this
        exact r2 e (by simpa using he) hbe
      · rw [if_neg e'] at hjD; exact h.dd j oj hj hjD e he hbe
  · exact h.fc
  · have := h.fd.add (val' := val) (f' := fun t => (a.put o'.dst (val k)).tmps.getD t undef) (i := k) hs (fun _ _ => rfl) (by rw [← getD_flip hkD, r1]; simp) (put_slots hs hk a h.sz (val k))
    exact this.iff fun j => by
      rw [getD_set hkD]
      by_cases e : j = k
      · simp [e]
      · simp [e]
  · rw [put_size, h.sz]
  · rw [put_defers', h.df]
  · intro j oj hj hjC hjD
    rw [getD_set hkD] at hjD
    by_cases e : j = k
    · simp [e] at hjD
    · rw [if_neg e] at hjD; exact h.pend j oj hj hjC hjD
theorem recheckAll_spec : ∀ (hs : List Nat) (env : Env) (K : HP) (H : Heap), recheckAll P tab ai ops hs env K H → (∀ k ∈ hs, recheck P tab ai ops k env H) ∧ K H
  | [], env, K, H, h => ⟨by simp, h⟩
  | i :: r, env, K, H, h => by
    obtain ⟨h1, h2⟩ := recheckAll_spec r env K H h.2
    refine ⟨fun k hk => ?_, h2⟩
    rcases List.mem_cons.1 hk with rfl | hk
    · exact h.1
    · exact h1 k hk
theorem held_spec {C i : Nat} {hl : List Nat} (h : heldOk P ops B C i hl = true) {k : Nat} {o : Oper} (hk : ops[k]? = some o) (hC : has C k = true) (hR : clsX P o = .R) (hB : has (bk B i) k = false) :
    k ∈ hl ∧ (∃ d, o.dst = some d) ∧ ∀ j d, (has C j = true ∨ j = i) → dstAt ops j = some d → has (rdO ops o) d = true → has (bk B j) k = false ∧ j ≠ k := by
  unfold heldOk at h
  have h1 := List.all_eq_true.1 h k (List.mem_range.2 (Array.getElem?_eq_some_iff.1 hk).1)
  rw [hC, hk] at h1
  simp only [hR, hB, Bool.not_true, Bool.false_or, Bool.and_eq_true] at h1
  obtain ⟨⟨h2, h3⟩, h4⟩ := h1
  refine ⟨by simpa using h2, Option.isSome_iff_exists.1 h3, fun j d hj hd hr => ?_⟩
  have h5 := List.all_eq_true.1 h4 j (List.mem_range.2 (dstAt_lt hd))
  rw [hd] at h5
  have h6 : (has C j || Nat.beq j i) = true := by
    rcases hj with hj | rfl
    · rw [hj]; rfl
    · rw [Nat.beq_refl]; simp
  rw [h6] at h5
  simp only [hr, Bool.not_true, Bool.false_or, Bool.and_eq_true, Bool.not_eq_true'] at h5
  exact ⟨h5.1, fun e => by rw [e, Nat.beq_refl] at h5; cases h5.2⟩
/-- an operation that writes comes: the run's and the plan's -/
theorem Inv.eff {base abase : Nat → Value} {C : Nat} {D : Array Bool} {val : Nat → Value} {env : Env} {a : Act} {w w' : World} (hb : befOk ops B = true) (hs : slotsOk ops n B = true) (h : Inv P ops n B base abase C D val env a w)
    {i : Nat} {o : Oper} {hl : List Nat} (hi : ops[i]? = some o) (hr : i ∈ Region.ready .any ops D) (hBD : ∀ j, has (bk B i) j = true → D.getD j false = true) (hc : has C i = false) (hheld : heldOk P ops B C i hl = true) {v : Value} (hre : ∀ k ∈ hl, recheck P tab ai ops k (env.set n o.dst v) w'.heap) :
    Inv P ops n B base abase (C ||| bit i) (D.setIfInBounds i true) (fun k => if k = i then v else val k) (env.set n o.dst v) (a.put o.dst v) w' := by
  have hlt := (Array.getElem?_eq_some_iff.1 hi).1
  have hiD : i < D.size := by rw [h.dsz]; exact hlt
  have inD : ∀ j, D.getD j false = true → has C j = true := fun j hj => by
    have hjs : j < D.size := by
      rcases Nat.lt_or_ge j D.size with hh | hh
      · exact hh
      · rw [getD_out (by omega)] at hj; cases hj
    exact h.dc j (by rw [getD_flip hjs]; exact hj) (by rw [← h.dsz]; exact hjs)
  have hsub : ∀ j, has (bk B i) j = true → has C j = true := fun j hj => inD j (hBD j hj)
  have hv : ∀ j, has C j = true → (fun k => if k = i then v else val k) j = val j := fun j hj => by
    have : j ≠ i := by rintro rfl; rw [hc] at hj; cases hj
    simp [this]
  obtain ⟨r1, o', hk', r2⟩ := mem_ready.1 hr
  have : o' = o := by rw [hi] at hk'; cases hk'; rfl
  subst this
  have hfc : FrOk ops (fun j => has C j = true ∨ j = i) (fun k => if k = i then v else val k) base (env.set n o'.dst v) :=
    h.fc.add hs hv (by rw [hc]; simp) (f' := env.set n o'.dst v) (i := i) (fun t => by
      have := env_set_slots (n := n) (B := B) hs hi env v t
      simpa using this)
  constructor
  · simp [h.dsz]
  · intro j hj hl'
    rw [getD_set hiD] at hj
    rw [has_or, Bool.or_eq_true, has_bit, decide_eq_true_eq]
    by_cases e : j = i
    · exact .inr e.symm
    · rw [if_neg e] at hj; exact .inl (h.dc j hj hl')
  · intro k hk; rw [has_or, Bool.or_eq_true, has_bit, decide_eq_true_eq] at hk
    rcases hk with hk | rfl
    · exact h.cl k hk
    · exact hlt
  · intro k hl' hk j hj
    rw [has_or, Bool.or_eq_true, has_bit, decide_eq_true_eq] at hk ⊢
    rcases hk with hk | rfl
    · exact .inl (h.cd k hl' hk j hj)
    · exact .inl (hsub j hj)
  · intro j oj hj hjD e he hbe
    rw [getD_set hiD] at hjD ⊢
    by_cases q : e.on = i
    · simp [q]
    · rw [if_neg q]
      by_cases e' : j = i
      · subst e'
        have : oj = o' := by rw [hi] at hj; cases hj; rfl
        subst this
        exact r2 e (by simpa using he) hbe
      · rw [if_neg e'] at hjD; exact h.dd j oj hj hjD e he hbe
  · exact hfc.iff fun j => by rw [has_or, Bool.or_eq_true, has_bit, decide_eq_true_eq]; exact ⟨fun h => h.imp id Eq.symm, fun h => h.imp id Eq.symm⟩
  · have := h.fd.add (val' := fun k => if k = i then v else val k) (f' := fun t => (a.put o'.dst v).tmps.getD t undef) (i := i) hs (fun j hj => hv j (inD j hj)) (by rw [← getD_flip hiD, r1]; simp) (fun t => by
      have := put_slots (n := n) (B := B) hs hi a h.sz v t
      simpa using this)
    exact this.iff fun j => by
      rw [getD_set hiD]
      by_cases e : j = i
      · simp [e]
      · simp [e]
  · rw [put_size, h.sz]
  · rw [put_defers', h.df]
  · intro k ok hk hkC hkD
    rw [getD_set hiD] at hkD
    by_cases e : k = i
    · simp [e] at hkD
    · rw [if_neg e] at hkD
      rw [has_or, Bool.or_eq_true, has_bit, decide_eq_true_eq] at hkC
      have hkC' : has C k = true := hkC.resolve_right fun q => e q.symm
      obtain ⟨p1, p2⟩ := h.pend k ok hk hkC' hkD
      refine ⟨p1, ?_⟩
      cases hcl : clsX P ok with
      | E => exact absurd hcl p1
      | F =>
        intro o'' a' w'' ho hrd hh
        have : o'' = ok := by rw [hk] at ho; cases ho; rfl
        subst this
        rw [hv k hkC']
        exact p2 o'' a' w'' ho (hrd.congr fun j hj => (hv j (h.cd k (h.cl k hkC') hkC' j hj)).symm) (.inr hcl)
      | R =>
        have hBk : has (bk B i) k = false := by
          cases hq : has (bk B i) k with
          | false => rfl
          | true =>
            have := hBD k hq
            have hks : k < D.size := by rw [h.dsz]; exact (Array.getElem?_eq_some_iff.1 hk).1
            rw [← getD_flip hks, hkD] at this; cases this
        obtain ⟨q1, ⟨d, q2⟩, q3⟩ := held_spec hheld hk hkC' hcl hBk
        have hrc := hre k q1
        -- what k reads in the environment as it is now
        have hread : ReadOk ops B (fun k => if k = i then v else val k) base k (env.set n o'.dst v) := by
          refine hfc.read hs (fun j hj => .inl (h.cd k (h.cl k hkC') hkC' j hj)) fun j oj t hj ho hd ht => ?_
          have : oj = ok := by rw [hk] at ho; cases ho; rfl
          subst this
          have q4 := q3 j t hj hd ht
          rcases ((slots_spec hs hd).2 k oj ho (fun e => q4.2 e.symm)).2 ht with h1 | h1
          · exact h1
          · rw [q4.1] at h1; cases h1
        intro o'' a' w'' ho hrd hh
        have : o'' = ok := by rw [hk] at ho; cases ho; rfl
        subst this
        have hw'' : w''.heap = w'.heap := hh.resolve_right (by rw [hcl]; simp)
        have hag : Ag (rdO ops o'') a' (env.set n o'.dst v) := fun t ht => hrd.same ho hread (fun _ _ _ => rfl) t ht
        have hval : env.set n o'.dst v d = (fun k => if k = i then v else val k) k := (hfc d).1 k (.inl hkC') (by rw [dstAt_some ho]; exact q2)
        refine recheck_spec ho q2 hcl hrc a' w'' hag hw'' hval fun j want t hg ht hno => ?_
        rw [hv k hkC']
        -- there the guard said no when the plan took it
        have := p2 o'' a' { w with drawn := w.drawn } ho (hrd.congr fun j hj => (hv j (h.cd k (h.cl k hkC') hkC' j hj)).symm) (.inl rfl)
        rcases this with ⟨y1, _⟩ | ⟨_, y2⟩
        · exfalso
          have hat : a'.tmps.getD t undef = env.set n o'.dst v t := by
            refine hag t ?_
            simp [rdO, has_or, gslot, hg, ht, has_bit]
          rw [wanted_guard (a := a') hg ht hat, hno] at y1
          cases y1
        · exact y2
/-- **the plan serves for whichever order** -/
theorem plan_sound (hb : befOk ops B = true) (hs : slotsOk ops n B = true) {K : Env → HP} {base abase : Nat → Value} (hbase : ∀ k o t, ops[k]? = some o → has (rdO ops o) t = true → (∀ i, has (bk B k) i = true → dstAt ops i ≠ some t) → abase t = base t)
    {Q : Exit → Act → World → Prop} {w0 : World} (hq : ∀ a w env val, Same w0 w → a.tmps.size = n → a.defers = [] → FrOk ops (fun k => k < ops.size) val base env → FrOk ops (fun k => k < ops.size) val abase (fun t => a.tmps.getD t undef) → K env w.heap → Q .normal a w) :
    ∀ (fuel : Nat) (p : Plan) (C : Nat) (D : Array Bool) (val : Nat → Value) (env : Env) (a : Act) (w : World), planOk P ops B C p = true → planX P tab ai ops n p K env w.heap → Inv P ops n B base abase C D val env a w → Same w0 w → left D ops.size ≤ fuel →
      wpAny P .any ops Q fuel D a w := by
  intro fuel
  induction fuel with
  | zero =>
    intro p
    induction p with
    | done =>
      intro C D val env a w hp hx hI hsame hleft
      have hall := left_zero (Nat.le_zero.1 hleft)
      have hfull : ∀ k, k < ops.size → has C k = true := fun k hk => List.all_eq_true.1 hp k (List.mem_range.2 hk)
      refine ⟨?_, hq a w env val hsame hI.sz hI.df (hI.fc.iff fun j => ⟨hfull j, hI.cl j⟩) (hI.fd.iff fun j => ⟨fun hj => by rw [← getD_flip (by rw [hI.dsz]; exact hj)]; exact hall j hj, fun hj => ?_⟩) hx⟩
      · cases hr : Region.ready .any ops D with
        | nil => rfl
        | cons i l =>
          have : i ∈ Region.ready .any ops D := by rw [hr]; exact List.mem_cons_self
          obtain ⟨h1, o, h2, _⟩ := mem_ready.1 this
          rw [hall i (Array.getElem?_eq_some_iff.1 h2).1] at h1; cases h1
      · rcases Nat.lt_or_ge j D.size with hh | hh
        · rw [← hI.dsz]; exact hh
        · rw [getD_out (by omega)] at hj; cases hj
    | take i p ih =>
      intro C D val env a w hp hx hI hsame hleft
      simp only [planOk, Bool.and_eq_true, Bool.not_eq_true'] at hp
      obtain ⟨⟨⟨⟨h1, h2⟩, h3⟩, h4⟩, h5⟩ := hp
      have hlt : i < ops.size := by simpa [Nat.blt_eq] using h1
      have hi : ops[i]? = some ops[i] := Array.getElem?_eq_getElem hlt
      simp only [planX, hi] at hx
      obtain ⟨v, h6, h7⟩ := hI.take hb hs hi h2 (fun j hj => subset_spec h3 j (by have := bef_lt hb i hlt j hj; omega) hj) (fun e => by simp [isE, hi, e] at h4) hx
      exact ih _ _ _ _ _ _ h5 h6 h7 hsame hleft
    | eff i hs' p ih =>
      intro C D val env a w hp hx hI hsame hleft
      simp only [planOk, Bool.and_eq_true, Bool.not_eq_true'] at hp
      have hlt : i < ops.size := by simpa [Nat.blt_eq] using hp.1.1.1.1.1
      have := hI.dc i (left_zero (Nat.le_zero.1 hleft) i hlt) hlt
      rw [hp.1.1.1.1.2] at this; cases this
    | alt i hs' p j hs'' q ih1 ih2 =>
      intro C D val env a w hp hx hI hsame hleft
      simp only [planOk, Bool.and_eq_true, Bool.not_eq_true'] at hp
      have hlt : i < ops.size := by simpa [Nat.blt_eq] using hp.1.1.1.1.1.1.1.1.1.1
      have := hI.dc i (left_zero (Nat.le_zero.1 hleft) i hlt) hlt
      rw [hp.1.1.1.1.1.1.1.1.1.2] at this; cases this
  | succ fuel ihf =>
    intro p
    -- a pending operation may come at any time
    have pending : ∀ (p : Plan) (C : Nat) (D : Array Bool) (val : Nat → Value) (env : Env) (a : Act) (w : World), planOk P ops B C p = true → planX P tab ai ops n p K env w.heap → Inv P ops n B base abase C D val env a w → Same w0 w → left D ops.size ≤ fuel + 1 →
        ∀ k o, ops[k]? = some o → k ∈ Region.ready .any ops D → has C k = true → wpOp P ops Q k (wpAny P .any ops Q fuel (D.setIfInBounds k true)) a w := by
      intro p C D val env a w hp hx hI hsame hleft k o hk hr hkC
      have hlt := (Array.getElem?_eq_some_iff.1 hk).1
      have hkD := (mem_ready.1 hr).1
      obtain ⟨hrd, _⟩ := hI.come hb hs hbase hk hr
      obtain ⟨_, p2⟩ := hI.pend k o hk hkC hkD
      refine (p2 o a w hk hrd (.inl rfl)).wpOp hk ?_
      refine ihf p C _ val env _ w hp hx (hI.late hb hs hk hr hkC) hsame ?_
      have := left_set hlt hI.dsz hkD
      omega
    induction p with
    | done =>
      intro C D val env a w hp hx hI hsame hleft
      have hfull : ∀ k, k < ops.size → has C k = true := fun k hk => List.all_eq_true.1 hp k (List.mem_range.2 hk)
      refine ⟨fun hr => ?_, fun k hr => ?_⟩
      · have hall := none_ready hb hI.dsz hr
        refine hq a w env val hsame hI.sz hI.df (hI.fc.iff fun j => ⟨hfull j, hI.cl j⟩) (hI.fd.iff fun j => ⟨fun hj => by rw [← getD_flip (by rw [hI.dsz]; exact hj)]; exact hall j hj, fun hj => ?_⟩) hx
        rcases Nat.lt_or_ge j D.size with hh | hh
        · rw [← hI.dsz]; exact hh
        · rw [getD_out (by omega)] at hj; cases hj
      · obtain ⟨_, o, hk, _⟩ := mem_ready.1 hr
        exact pending _ C D val env a w hp hx hI hsame hleft k o hk hr (hfull k (Array.getElem?_eq_some_iff.1 hk).1)
    | take i p ih =>
      intro C D val env a w hp hx hI hsame hleft
      simp only [planOk, Bool.and_eq_true, Bool.not_eq_true'] at hp
      obtain ⟨⟨⟨⟨h1, h2⟩, h3⟩, h4⟩, h5⟩ := hp
      have hlt : i < ops.size := by simpa [Nat.blt_eq] using h1
      have hi : ops[i]? = some ops[i] := Array.getElem?_eq_getElem hlt
      simp only [planX, hi] at hx
      obtain ⟨v, h6, h7⟩ := hI.take hb hs hi h2 (fun j hj => subset_spec h3 j (by have := bef_lt hb i hlt j hj; omega) hj) (fun e => by simp [isE, hi, e] at h4) hx
      exact ih _ _ _ _ _ _ h5 h6 h7 hsame hleft
    | eff i hs' p ih =>
      intro C D val env a w hp0 hx0 hI hsame hleft
      have hp := hp0
      have hx := hx0
      simp only [planOk, Bool.and_eq_true, Bool.not_eq_true'] at hp
      obtain ⟨⟨⟨⟨⟨h1, h2⟩, h3⟩, h4⟩, h5⟩, h6⟩ := hp
      have hlt : i < ops.size := by simpa [Nat.blt_eq] using h1
      have hi : ops[i]? = some ops[i] := Array.getElem?_eq_getElem hlt
      simp only [planX, hi] at hx
      refine ⟨fun hr => ?_, fun k hr => ?_⟩
      · have := hI.dc i (none_ready hb hI.dsz hr i hlt) hlt
        rw [h2] at this; cases this
      · obtain ⟨hkD, o, hk, _⟩ := mem_ready.1 hr
        have hklt := (Array.getElem?_eq_some_iff.1 hk).1
        cases hkC : has C k with
        | true => exact pending _ C D val env a w hp0 hx0 hI hsame hleft k o hk hr hkC
        | false =>
          obtain ⟨hrd, hBD⟩ := hI.come hb hs hbase hk hr
          have inC : ∀ j, has (bk B k) j = true → has C j = true := fun j hj => by
            have hj' := hBD j hj
            have hjs : j < D.size := by
              rcases Nat.lt_or_ge j D.size with hh | hh
              · exact hh
              · rw [getD_out (by omega)] at hj'; cases hj'
            exact hI.dc j (by rw [getD_flip hjs]; exact hj') (by rw [← hI.dsz]; exact hjs)
          have hki : k = i := by
            have := List.all_eq_true.1 h4 k (List.mem_range.2 hklt)
            rw [hkC, subset_of fun j _ hj => inC j hj] at this
            exact Nat.eq_of_beq_eq_true (by simpa using this)
          subst hki
          have : o = ops[k] := by rw [hi] at hk; cases hk; rfl
          subst this
          have hread : ReadOk ops B val base k env := hI.fc.read' hs inC (fun j hj => by
            cases hq : has (bk B j) k with
            | false => rfl
            | true => rw [hI.cd j (hI.cl j hj) hj k hq] at hkC; cases hkC) (by rw [hkC]; simp)
          have hag : Ag (rdO ops ops[k]) a env := fun t ht => hrd.same hk hread (fun _ _ _ => rfl) t ht
          refine wpOp_mono (fun a' w' ⟨e1, v, e2, e3⟩ => ?_) (stepX_sound hk hx hag)
          subst e2
          obtain ⟨e4, e5⟩ := recheckAll_spec hs' _ _ _ e3
          refine ihf p _ _ _ _ _ w' h6 e5 (hI.eff hb hs hk hr hBD hkC h5 e4) (hsame.trans e1) ?_
          have := left_set hklt hI.dsz hkD
          omega
    | alt i hs' p j hs'' q ih1 ih2 =>
      intro C D val env a w hp0 hx0 hI hsame hleft
      have hp := hp0
      have hx := hx0
      simp only [planOk, Bool.and_eq_true, Bool.not_eq_true'] at hp
      obtain ⟨⟨⟨⟨⟨⟨⟨⟨⟨⟨h1, h2⟩, h3⟩, h4⟩, h5⟩, h6⟩, h7⟩, h8⟩, h9⟩, h10⟩, h11⟩ := hp
      have hlt : i < ops.size := by simpa [Nat.blt_eq] using h1
      have hlt2 : j < ops.size := by simpa [Nat.blt_eq] using h3
      have hi : ops[i]? = some ops[i] := Array.getElem?_eq_getElem hlt
      have hj : ops[j]? = some ops[j] := Array.getElem?_eq_getElem hlt2
      simp only [planX, hi, hj] at hx
      refine ⟨fun hr => ?_, fun k hr => ?_⟩
      · have := hI.dc i (none_ready hb hI.dsz hr i hlt) hlt
        rw [h2] at this; cases this
      · obtain ⟨hkD, o, hk, _⟩ := mem_ready.1 hr
        have hklt := (Array.getElem?_eq_some_iff.1 hk).1
        cases hkC : has C k with
        | true => exact pending _ C D val env a w hp0 hx0 hI hsame hleft k o hk hr hkC
        | false =>
          obtain ⟨hrd, hBD⟩ := hI.come hb hs hbase hk hr
          have inC : ∀ j, has (bk B k) j = true → has C j = true := fun j hj => by
            have hj' := hBD j hj
            have hjs : j < D.size := by
              rcases Nat.lt_or_ge j D.size with hh | hh
              · exact hh
              · rw [getD_out (by omega)] at hj'; cases hj'
            exact hI.dc j (by rw [getD_flip hjs]; exact hj') (by rw [← hI.dsz]; exact hjs)
          have hread : ReadOk ops B val base k env := hI.fc.read' hs inC (fun j hj => by
            cases hq : has (bk B j) k with
            | false => rfl
            | true => rw [hI.cd j (hI.cl j hj) hj k hq] at hkC; cases hkC) (by rw [hkC]; simp)
          have hki : k = i ∨ k = j := by
            have := List.all_eq_true.1 h5 k (List.mem_range.2 hklt)
            rw [hkC, subset_of fun j _ hj => inC j hj] at this
            simp only [Bool.false_or, Bool.not_true, Bool.or_false, Bool.or_eq_true] at this
            exact this.imp Nat.eq_of_beq_eq_true Nat.eq_of_beq_eq_true
          have hleft' : left (D.setIfInBounds k true) ops.size ≤ fuel := by
            have := left_set hklt hI.dsz hkD
            omega
          rcases hki with rfl | rfl
          · have : o = ops[k] := by rw [hi] at hk; cases hk; rfl
            subst this
            have hag : Ag (rdO ops ops[k]) a env := fun t ht => hrd.same hk hread (fun _ _ _ => rfl) t ht
            refine wpOp_mono (fun a' w' ⟨e1, v, e2, e3⟩ => ?_) (stepX_sound hk hx.1 hag)
            subst e2
            obtain ⟨e4, e5⟩ := recheckAll_spec hs' _ _ _ e3
            exact ihf p _ _ _ _ _ w' h7 e5 (hI.eff hb hs hk hr hBD hkC h6 e4) (hsame.trans e1) hleft'
          · have : o = ops[k] := by rw [hj] at hk; cases hk; rfl
            subst this
            have hag : Ag (rdO ops ops[k]) a env := fun t ht => hrd.same hk hread (fun _ _ _ => rfl) t ht
            refine wpOp_mono (fun a' w' ⟨e1, v, e2, e3⟩ => ?_) (stepX_sound hk hx.2 hag)
            subst e2
            obtain ⟨e4, e5⟩ := recheckAll_spec hs'' _ _ _ e3
            exact ihf q _ _ _ _ _ w' h9 e5 (hI.eff hb hs hk hr hBD hkC h8 e4) (hsame.trans e1) hleft'
end
end Go.Ph
end
section
set_option linter.all false
namespace Go.Ph
open Go
def exlive : List (Nat × Nat) → Nat → Nat
  | [], _ => 0
  | (j, L) :: r, i => bif Nat.beq j i then L else exlive r i
def livC (n : Nat) (au : Aux) : Nat → Code → Nat → Nat → List (Nat × Nat) → Nat
  | _, .skip, L, _, _ => L
  | _, .region id ops dr, L, _, _ => match dr with
    | false => livOps n ops ops.toList L
    | true => livDraw ops (befL ops.toList []) L
  | c, .seq a b, L, r, ex => livC n au c a (livC n au c b L r ex) r ex
  | c, .cond x a b, L, r, ex => rdL [x] ||| (livC n au c a L r ex ||| livC n au c b L r ex)
  | _, .block id a, L, r, ex => livC n au id a L r ((id, L) :: ex)
  | c, .loop a, _, _, _ => (au.spec c).lin
  | _, .exit i, _, _, ex => exlive ex i
  | _, .ret, _, r, _ => r
  | _, _, _, _, _ => 0
def asgC : Code → Nat
  | .region _ ops _ => asgL ops.toList
  | .seq a b => asgC a ||| asgC b
  | .cond _ a b => asgC a ||| asgC b
  | .block _ a => asgC a
  | .loop a => asgC a
  | _ => 0
def vmask : List (Nat × Leaf) → Nat
  | [] => 0
  | x :: r => bit x.1 ||| vmask r
/-- A within B, of numbers as sets -/
def within (A B : Nat) : Bool := Nat.beq (A &&& B) A
theorem within_spec {A B t : Nat} (h : within A B = true) (ht : has A t = true) : has B t = true := by
  have := Nat.eq_of_beq_eq_true h
  unfold has at *
  rw [← this, Nat.testBit_and, Bool.and_eq_true] at ht
  exact ht.2
def okC (P : Program) (n : Nat) (au : Aux) : Nat → Code → Nat → Nat → List (Nat × Nat) → Bool
  | _, .region id ops dr, _, _, _ => match dr with
    | false => true
    | true => drawOk P ops n (au.plan id)
  | c, .seq a b, L, r, ex => okC P n au c a (livC n au c b L r ex) r ex && okC P n au c b L r ex
  | c, .cond _ a b, L, r, ex => okC P n au c a L r ex && okC P n au c b L r ex
  | _, .block id a, L, r, ex => okC P n au id a L r ((id, L) :: ex)
  | c, .loop a, _, r, ex => within (livC n au c a (au.spec c).lin r ex) (au.spec c).lin && within ((au.spec c).lin &&& asgC a) (vmask (au.spec c).vars) && within (vmask (au.spec c).vars) (au.spec c).lin && okC P n au c a (au.spec c).lin r ex
  | _, _, _, _, _ => true
/-- what holds behind code, by its exit -/
def PostC (n : Nat) (a : Act) (w : World) (asg : Nat) (L r : Nat) (ex : List (Nat × Nat)) (Q : Ex → Env → HP) : Exit → Act → World → Prop
  | .normal, a', w' => Beh n a w asg a' w' ∧ ∃ env', Ag L a' env' ∧ Q .normal env' w'.heap
  | .exit i, a', w' => Beh n a w asg a' w' ∧ ∃ env', Ag (exlive ex i) a' env' ∧ Q (.exit i) env' w'.heap
  | .ret, a', w' => Beh n a w asg a' w' ∧ ∃ env', Ag r a' env' ∧ Q .ret env' w'.heap
  | _, _, _ => False
theorem asgL_has {t : Nat} : ∀ (l : List Oper), has (asgL l) t = true ↔ ∃ o ∈ l, o.dst = some t
  | [] => by simp [asgL, has_zero]
  | o :: r => by
    simp only [asgL, has_or, Bool.or_eq_true, asgL_has r, List.mem_cons]
    constructor
    · rintro (h | ⟨o', h1, h2⟩)
      · refine ⟨o, .inl rfl, ?_⟩
        cases hd : o.dst with
        | none => rw [hd] at h; simp [dbit, has_zero] at h
        | some d => rw [hd] at h; simp [dbit, has_bit] at h; rw [h]
      · exact ⟨o', .inr h1, h2⟩
    · rintro ⟨o', rfl | h1, h2⟩
      · left; rw [h2]; simp [dbit, has_bit]
      · exact .inr ⟨o', h1, h2⟩
theorem livDrawL_has {ops : Array Oper} {B : List Nat} {t : Nat} : ∀ (l : List Nat) (k : Nat) (o : Oper), k ∈ l → ops[k]? = some o → has (rdO ops o) t = true → (∀ i, has (bk B k) i = true → dstAt ops i ≠ some t) → has (livDrawL ops B l) t = true
  | [], k, o, h, _, _, _ => by cases h
  | x :: r, k, o, h, hk, ht, hno => by
    simp only [livDrawL, has_or, Bool.or_eq_true]
    rcases List.mem_cons.1 h with rfl | h
    · left
      rw [hk]
      simp only [has_sub, ht, Bool.true_and, Bool.not_eq_true']
      cases hq : has (dstsOf ops (bk B k) (List.range ops.size)) t with
      | false => rfl
      | true =>
        obtain ⟨i, _, h2, h3⟩ := (has_dstsOf ops (bk B k) t _).1 hq
        exact absurd h3 (hno i h2)
    · exact .inr (livDrawL_has r k o h hk ht hno)
theorem asAll_sound {vs : List Value} {K : List Value → HP} {H : Heap} : ∀ (l : List (Nat × Leaf)) (i : Nat), asAll vs i l K H → K ((List.range' i l.length).map fun j => vs.getD j undef) H
  | [], i, h => h
  | x :: r, i, h => by
    have h1 := asLeaf_sound h
    have h2 := asAll_sound (vs := vs) (K := fun rest => K (vs.getD i undef :: rest)) r (i + 1) h1
    simpa [List.range'_succ] using h2
theorem range'_map {α : Type} (f : Nat → α) (d : α) : ∀ (l : List (Nat × Leaf)) (vs : List α) (i : Nat), vs.length = i + l.length → (List.range' i l.length).map (fun j => vs.getD j d) = vs.drop i
  | [], vs, i, h => by simp at h; simp [h]
  | x :: r, vs, i, h => by
    simp only [List.length_cons] at h ⊢
    have hlt : i < vs.length := by omega
    rw [List.range'_succ, List.map_cons, range'_map f d r vs (i + 1) (by omega), List.drop_eq_getElem_cons hlt]
    simp [List.getD_eq_getElem?_getD, hlt]
theorem upd_get (env : Env) (f : Nat → Value) : ∀ (l : List (Nat × Leaf)) (t : Nat), Env.upd env l (l.map fun x => f x.1) t = if has (vmask l) t = true then f t else env t
  | [], t => by simp [Env.upd, vmask, has_zero]
  | x :: r, t => by
    simp only [List.map_cons, Env.upd, vmask, has_or, has_bit, Bool.or_eq_true, decide_eq_true_eq]
    cases hb : Nat.beq t x.1 with
    | true => have := Nat.eq_of_beq_eq_true hb; simp [this]
    | false =>
      have hne : ¬ x.1 = t := fun e => by rw [e, Nat.beq_refl] at hb; cases hb
      simp only [cond_false, upd_get env f r t, hne, false_or]
theorem X_sound {P : Program} (hm : P.follows .mixedOrders = true) {tab : Tab P} {au : Aux} {n : Nat} : ∀ (c : Code) (cur : Nat) (Q : Ex → Env → HP) (env : Env) (a : Act) (w : World) (L r : Nat) (ex : List (Nat × Nat)),
    X P tab au n cur c Q env w.heap → okC P n au cur c L r ex = true → Ag (livC n au cur c L r ex) a env → a.tmps.size = n → a.defers = [] → c.wp P (PostC n a w (asgC c) L r ex Q) a w := by
  intro c
  induction c with
  | skip => intro cur Q env a w L r ex h _ hg hs hd; exact wp_skip ⟨Beh.refl hs hd _, env, hg, h⟩
  | region id ops dr =>
    intro cur Q env a w L r ex h hok hg hs hd
    cases dr with
    | false =>
      refine wp_region ?_
      rw [List.range_eq_range']
      have := opsX_sound (P := P) (tab := tab) (ai := au.iter) (ops := ops) (n := n) (K := Q .normal) (L := L) (Q := PostC n a w (asgC (.region id ops false)) L r ex Q) (a0 := a) (w0 := w) (asg := asgL ops.toList)
        (fun a' w' env' h1 h2 h3 => ⟨h1, env', h2, h3⟩) ops.toList 0 a w env 0 rfl h hg (Beh.refl hs hd 0) (fun t ht => by simpa [has_or, has_zero] using ht)
      simpa using this
    | true =>
      refine wp_region_any hm ?_
      simp only [okC, drawOk, Bool.and_eq_true] at hok
      obtain ⟨⟨h1, h2⟩, h3⟩ := hok
      have hbase : ∀ k o t, ops[k]? = some o → has (rdO ops o) t = true → (∀ i, has (bk (befL ops.toList []) k) i = true → dstAt ops i ≠ some t) → a.tmps.getD t undef = env t := fun k o t hk ht hno =>
        hg t (by simp only [livC, livDraw, has_or, Bool.or_eq_true]; exact .inr (livDrawL_has _ k o (List.mem_range.2 (Array.getElem?_eq_some_iff.1 hk).1) hk ht hno))
      refine plan_sound (tab := tab) (ai := au.iter) (n := n) (K := Q .normal) (base := env) (abase := fun t => a.tmps.getD t undef) h1 h2 hbase (w0 := w) ?_ ops.size (au.plan id) 0 (Array.replicate ops.size false) (fun _ => undef) env a _ h3 h ?_ ⟨rfl, rfl, rfl⟩ ?_
      · intro a' w' env' val q1 q2 q3 q4 q5 q6
        refine ⟨⟨q1, q2, q3, fun t ht => ?_⟩, env', fun t ht => ?_, q6⟩
        · refine (q5 t).2 fun j hj hdj => ?_
          have : has (asgL ops.toList) t = true := (asgL_has _).2 ⟨ops[j], by simp, by rw [← dstAt_some (Array.getElem?_eq_getElem hj)]; exact hdj⟩
          simp only [asgC] at ht
          rw [this] at ht; cases ht
        · by_cases hw : ∃ j, j < ops.size ∧ dstAt ops j = some t
          · obtain ⟨j, hj, hdj⟩ := hw
            rw [(q4 t).1 j hj hdj]; exact (q5 t).1 j hj hdj
          · have hno : ∀ j, j < ops.size → dstAt ops j ≠ some t := fun j hj hdj => hw ⟨j, hj, hdj⟩
            rw [(q4 t).2 hno]
            have := (q5 t).2 hno
            simp only at this
            rw [this]
            refine hg t ?_
            simp only [livC, livDraw, has_or, has_sub, ht, Bool.true_and, Bool.or_eq_true, Bool.not_eq_true']
            left
            cases hq : has (asgL ops.toList) t with
            | false => rfl
            | true =>
              obtain ⟨o, ho, hdo⟩ := (asgL_has _).1 hq
              obtain ⟨j, hj, e⟩ := List.getElem_of_mem ho
              simp at hj
              exact absurd (by rw [dstAt_some (Array.getElem?_eq_getElem hj)]; simp at e; rw [e]; exact hdo) (hno j hj)
      · have hf : ∀ k b, (Array.replicate ops.size false).getD k b = if k < ops.size then false else b := fun k b => by
          by_cases hk : k < ops.size <;> simp [Array.getD, hk]
        constructor
        · simp
        · intro k hk hl; rw [hf, if_pos hl] at hk; cases hk
        · intro k hk; rw [has_zero] at hk; cases hk
        · intro k _ hk; rw [has_zero] at hk; cases hk
        · intro k o hk hD e _ _
          rw [hf, if_pos (Array.getElem?_eq_some_iff.1 hk).1] at hD; cases hD
        · intro t
          refine ⟨fun j hj => ?_, fun _ => rfl⟩
          have hj' : has 0 j = true := hj
          rw [has_zero] at hj'; cases hj'
        · intro t
          refine ⟨fun j hj => ?_, fun _ => rfl⟩
          have hj' : (Array.replicate ops.size false).getD j false = true := hj
          rw [hf] at hj'; split at hj' <;> cases hj'
        · exact hs
        · exact hd
        · intro k o _ hk; rw [has_zero] at hk; cases hk
      · unfold left
        exact Nat.le_trans (List.length_filter_le _ _) (by simp)
  | seq x y ihx ihy =>
    intro cur Q env a w L r ex h hok hg hs hd
    simp only [okC, Bool.and_eq_true] at hok
    refine wp_seq ?_
    refine wp_mono (ihx cur _ env a w (livC n au cur y L r ex) r ex h hok.1 hg hs hd) fun e a' w' hp => ?_
    cases e with
    | normal =>
      obtain ⟨hb, env', hg', hx⟩ := hp
      refine wp_mono (ihy cur Q env' a' w' L r ex hx hok.2 hg' hb.2.1 hb.2.2.1) fun e a'' w'' hp' => ?_
      cases e with
      | normal => obtain ⟨hb', h'⟩ := hp'; exact ⟨hb.trans hb', h'⟩
      | exit i => obtain ⟨hb', h'⟩ := hp'; exact ⟨hb.trans hb', h'⟩
      | ret => obtain ⟨hb', h'⟩ := hp'; exact ⟨hb.trans hb', h'⟩
      | goto l => exact hp'
      | panic c => exact hp'
      | outgrown => exact hp'
    | exit i => obtain ⟨hb', h'⟩ := hp; exact ⟨hb'.mono fun t ht => by simp [asgC, has_or, ht], h'⟩
    | ret => obtain ⟨hb', h'⟩ := hp; exact ⟨hb'.mono fun t ht => by simp [asgC, has_or, ht], h'⟩
    | goto l => exact hp
    | panic c => exact hp
    | outgrown => exact hp
  | cond x y z ihy ihz =>
    intro cur Q env a w L r ex h hok hg hs hd
    simp only [okC, Bool.and_eq_true] at hok
    simp only [X] at h
    have hx : a.eval x = ev env x := ev_eq (hg.or_left) x fun t ht => by subst ht; simp [rdL, has_or, has_bit]
    generalize hv : ev env x = v at h hx
    cases v <;> first | exact absurd h id | skip
    rename_i t
    have lift : ∀ {m : Nat} {c : Code}, (∀ u, has m u = true → has (asgC (.cond x y z)) u = true) → c.wp P (PostC n a w m L r ex Q) a w → c.wp P (PostC n a w (asgC (.cond x y z)) L r ex Q) a w := by
      intro m c hm' hc
      refine wp_mono hc fun e a' w' hp => ?_
      cases e <;> first | exact hp | (obtain ⟨hb, h'⟩ := hp; exact ⟨hb.mono hm', h'⟩)
    cases t with
    | true => exact wp_cond_true hx (lift (fun u hu => by simp [asgC, has_or, hu]) (ihy cur Q env a w L r ex h hok.1 hg.or_right.or_left hs hd))
    | false => exact wp_cond_false hx (lift (fun u hu => by simp [asgC, has_or, hu]) (ihz cur Q env a w L r ex h hok.2 hg.or_right.or_right hs hd))
  | block id x ih =>
    intro cur Q env a w L r ex h hok hg hs hd
    refine wp_block ?_
    refine wp_mono (ih id _ env a w L r ((id, L) :: ex) h hok hg hs hd) fun e a' w' hp => ?_
    cases e with
    | normal => exact hp
    | exit i =>
      obtain ⟨hb, env', hg', hx⟩ := hp
      simp only [Exit.inBlock]
      cases hq : Nat.beq i id with
      | true =>
        have := Nat.eq_of_beq_eq_true hq
        subst this
        simp only [if_true]
        simp only [hq] at hx
        simp only [exlive, Nat.beq_refl, cond_true] at hg'
        exact ⟨hb, env', hg', hx⟩
      | false =>
        have hne : ¬ i = id := fun e => by rw [e, Nat.beq_refl] at hq; cases hq
        rw [if_neg hne]
        simp only [hq] at hx
        have hq' : Nat.beq id i = false := by
          cases hq2 : Nat.beq id i with
          | false => rfl
          | true => exact absurd (Nat.eq_of_beq_eq_true hq2).symm hne
        simp only [exlive, hq', cond_false] at hg'
        exact ⟨hb, env', hg', hx⟩
    | ret => exact hp
    | goto l => exact hp
    | panic c => exact hp
    | outgrown => exact hp
  | loop x ih =>
    intro cur Q env a w L r ex h hok hg hs hd
    simp only [okC, Bool.and_eq_true] at hok
    obtain ⟨⟨⟨h1, h2⟩, h3⟩, h4⟩ := hok
    obtain ⟨I, μ, hI, hr⟩ := h
    simp only [livC] at hg
    have hvm : ∀ y ∈ (au.spec cur).vars, has (vmask (au.spec cur).vars) y.1 = true := by
      intro y hy
      generalize (au.spec cur).vars = l at hy
      induction l with
      | nil => cases hy
      | cons z l ihl =>
        rcases List.mem_cons.1 hy with rfl | hy
        · simp [vmask, has_or, has_bit]
        · simp [vmask, has_or, ihl hy]
    have hslots : ∀ (a' : Act) (env' : Env), Ag (au.spec cur).lin a' env' → ((au.spec cur).vars.map fun y => env' y.1) = (au.spec cur).vars.map fun y => a'.tmps.getD y.1 undef := by
      intro a' env' hag
      refine List.map_congr_left fun y hy => ?_
      exact (hag y.1 (within_spec h3 (hvm y hy))).symm
    refine wp_loop (fun a' w' => Beh n a w (asgC x) a' w' ∧ I ((au.spec cur).vars.map fun y => a'.tmps.getD y.1 undef) w'.heap) (fun a' w' => μ ((au.spec cur).vars.map fun y => a'.tmps.getD y.1 undef) w'.heap)
      ⟨Beh.refl hs hd _, by rw [← hslots a env hg]; exact hI⟩ ?_
    rintro a' w' ⟨hb, hI'⟩
    have hst := asAll_sound _ _ (hr _ _ hI')
    rw [range'_map (fun _ => undef) undef _ _ 0 (by simp)] at hst
    simp only [List.drop_zero] at hst
    have hag : Ag (au.spec cur).lin a' (env.upd (au.spec cur).vars ((au.spec cur).vars.map fun y => a'.tmps.getD y.1 undef)) := by
      intro t ht
      rw [upd_get env (fun t => a'.tmps.getD t undef)]
      by_cases hv : has (vmask (au.spec cur).vars) t = true
      · rw [if_pos hv]
      · rw [if_neg hv]
        have hna : has (asgC x) t = false := by
          cases hq : has (asgC x) t with
          | false => rfl
          | true =>
            exact absurd (within_spec h2 (by unfold has at *; rw [Nat.testBit_and, ht, hq]; rfl)) hv
        rw [hb.2.2.2 t hna]
        exact hg t ht
    refine wp_mono (ih cur _ _ a' w' (au.spec cur).lin r ex hst h4 (hag.mono fun t ht => within_spec h1 ht) hb.2.1 hb.2.2.1) fun e a'' w'' hp => ?_
    have dup : ∀ {t}, has (asgC x ||| asgC x) t = true → has (asgC x) t = true := fun {t} ht => by simpa [has_or] using ht
    cases e with
    | normal =>
      obtain ⟨hb', env', hg', hx1, hx2⟩ := hp
      rw [hslots a'' env' hg'] at hx1 hx2
      exact ⟨⟨(hb.trans hb').mono fun t => dup, hx1⟩, hx2⟩
    | exit i => obtain ⟨hb', h'⟩ := hp; exact ⟨(hb.trans hb').mono fun t => dup, h'⟩
    | ret => obtain ⟨hb', h'⟩ := hp; exact ⟨(hb.trans hb').mono fun t => dup, h'⟩
    | goto l => exact hp
    | panic c => exact hp
    | outgrown => exact hp
  | exit i => intro cur Q env a w L r ex h _ hg hs hd; exact wp_exit ⟨Beh.refl hs hd _, env, hg, h⟩
  | ret => intro cur Q env a w L r ex h _ hg hs hd; exact wp_ret ⟨Beh.refl hs hd _, env, hg, h⟩
  | rangeFunc f ps x y _ _ => intro cur Q env a w L r ex h _ _ _ _; exact absurd h id
  | scope x _ => intro cur Q env a w L r ex h _ _ _ _; exact absurd h id
  | label l => intro cur Q env a w L r ex h _ _ _ _; exact absurd h id
  | goto l => intro cur Q env a w L r ex h _ _ _ _; exact absurd h id
  | refuse why => intro cur Q env a w L r ex h _ _ _ _; exact absurd h id
end Go.Ph
end
section
set_option linter.all false
namespace Go.Ph
open Go
def resMask : List ResultVar → Nat
  | [] => 0
  | .tmp t :: r => bit t ||| resMask r
  | .cell a _ :: r => bit a ||| resMask r
def resV (tmps : Array Value) : ResultVar → Sem Value
  | .tmp t => Pure.pure (tmps.getD t undef)
  | .cell a t => do loadVar t (← Go.asAddr (tmps.getD a undef))
theorem results_eq (fn : Func) (tmps : Array Value) : results fn tmps = (do let vs ← fn.results.toList.mapM (resV tmps); Pure.pure (if h : vs.length = 1 then vs[0] else .tuple vs.toArray)) := by
  unfold results
  rw [Array.mapM_eq_mapM_toList]
  simp only [bind_map_left]
  refine congr (congrArg _ (congrFun (congrArg _ (funext fun x => ?_)) _)) (funext fun vs => ?_)
  · cases x <;> rfl
  · congr 1
theorem resX_sound {P : Program} {a : Act} {env : Env} {K : Value → HP} {w : World} : ∀ (rs : List ResultVar) (acc : List Value), resX P rs acc env K w.heap → Ag (resMask rs) a env →
    ∃ vs : List Value, (rs.mapM (resV a.tmps)).run P w = .ok vs w ∧ K (if h : (acc.reverse ++ vs).length = 1 then (acc.reverse ++ vs)[0] else .tuple (acc.reverse ++ vs).toArray) w.heap
  | [], acc, h, hg => by
    refine ⟨[], by simp, ?_⟩
    unfold resX at h
    split at h
    · simpa using h
    · rename_i vs hvs
      rw [dif_neg (by
        intro e
        simp at e
        obtain ⟨v, rfl⟩ := List.length_eq_one_iff.1 e
        exact hvs v rfl)]
      simpa using h
  | .tmp t :: r, acc, h, hg => by
    obtain ⟨vs, h1, h2⟩ := resX_sound r (env t :: acc) h (hg.mono fun u hu => by simp [resMask, has_or, hu])
    have ht : a.tmps.getD t undef = env t := hg t (by simp [resMask, has_or, has_bit])
    refine ⟨env t :: vs, ?_, by simpa using h2⟩
    simp only [List.mapM_cons, resV, pure_bind, ht, Sem.run_bind, h1, Result.andThen_ok, Sem.run_pure]
  | .cell x ty :: r, acc, h, hg => by
    simp only [resX] at h
    have ht : a.tmps.getD x undef = env x := hg x (by simp [resMask, has_or, has_bit])
    generalize hv : env x = v at h ht
    cases v <;> first | exact absurd h id | skip
    rename_i p
    cases p <;> first | exact absurd h id | skip
    rename_i ad
    obtain ⟨v, h1, h2⟩ := ldT_sound h
    obtain ⟨vs, h3, h4⟩ := resX_sound r (v :: acc) h2 (hg.mono fun u hu => by simp [resMask, has_or, hu])
    refine ⟨v :: vs, ?_, by simpa using h4⟩
    simp only [List.mapM_cons, resV, Sem.run_bind, ht, Go.asAddr, Sem.run_pure, Result.andThen_ok, h1 w rfl, h3]
def bodyX (P : Program) (tab : Tab P) (au : Aux) (fn : Func) (args : List Value) (K : Value → HP) : HP :=
  match fn.body with
  | some c => X P tab au fn.ntmps 0 c (retX P fn.results.toList K) (env0 args)
  | none => no
def okFn (P : Program) (au : Aux) (fn : Func) (arity : Nat) : Bool :=
  match fn.body with
  | some c => okC P fn.ntmps au 0 c (resMask fn.results.toList) (resMask fn.results.toList) [] && Nat.ble arity fn.ntmps
  | none => false
theorem body_sound {P : Program} (hm : P.follows .mixedOrders = true) {tab : Tab P} {au : Aux} {f : FuncId} {fn : Func} (hf : P.funcs[f]? = some fn) {m : Nat} (hok : okFn P au fn m = true)
    (hcall : ∀ args w, (callFunc f args).run P w = .ok (.enter f args) w) {args : List Value} {K : Value → HP} {w : World} (hargs : args.length = m) (h : bodyX P tab au fn args K w.heap) : CallOk P f args w K := by
  unfold bodyX at h
  unfold okFn at hok
  cases hb : fn.body with
  | none => rw [hb] at h; exact absurd h id
  | some c =>
    simp only [hb] at h hok
    rw [Bool.and_eq_true] at hok
    obtain ⟨h1, h2⟩ := hok
    have h2' := Nat.le_of_ble_eq_true h2
    refine .inr ⟨f, args.toArray, hcall _ w, calls_of_wp hf hb ?_⟩
    have hsz : (args.toArray ++ Array.replicate (fn.ntmps - args.toArray.size) undef).size = fn.ntmps := by simp; omega
    have hag : ∀ L, Ag L { tmps := args.toArray ++ Array.replicate (fn.ntmps - args.toArray.size) undef, defers := [] } (env0 args) := by
      intro L t _
      simp only [env0, Array.getD_eq_getD_getElem?, List.getD_eq_getElem?_getD]
      by_cases ht : t < args.length
      · rw [Array.getElem?_append_left (by simpa using ht)]; simp
      · rw [Array.getElem?_append_right (by simp; omega)]
        rw [List.getElem?_eq_none (by omega)]
        cases hq : (Array.replicate (fn.ntmps - args.toArray.size) undef)[t - args.toArray.size]? with
        | none => rfl
        | some v =>
          have := Array.mem_of_getElem? hq
          simp at this
          simp [this.2]
    refine wp_mono (X_sound hm c 0 _ (env0 args) _ w _ _ [] h h1 (hag _) hsz rfl) fun e a' w' hp => ?_
    have fin : ∀ env', Beh fn.ntmps { tmps := args.toArray ++ Array.replicate (fn.ntmps - args.toArray.size) undef, defers := [] } w (asgC c) a' w' → Ag (resMask fn.results.toList) a' env' → resX P fn.results.toList [] env' K w'.heap →
        a'.defers = [] ∧ ∃ v, (results fn a'.tmps).run P w' = .ok v w' ∧ RetK w K (.returned v) w' := by
      intro env' hb' hg' hx
      refine ⟨hb'.2.2.1, ?_⟩
      obtain ⟨vs, h3, h4⟩ := resX_sound fn.results.toList [] hx hg'
      refine ⟨_, ?_, _, rfl, hb'.1, h4⟩
      rw [results_eq]
      simp only [Sem.run_bind, h3, Result.andThen_ok, Sem.run_pure, List.reverse_nil, List.nil_append]
      rfl
    cases e with
    | normal => obtain ⟨hb', env', hg', hx⟩ := hp; exact fin env' hb' hg' hx
    | ret => obtain ⟨hb', env', hg', hx⟩ := hp; exact fin env' hb' hg' hx
    | exit i => obtain ⟨hb', env', hg', hx⟩ := hp; exact absurd hx id
    | goto l => exact hp
    | panic ch => exact absurd hp id
    | outgrown => exact absurd hp id
/-! a printed function's arguments -/
theorem arity_inv {as : List Value} {n : Nat} {K : HP} {H : Heap} (h : arity as n K H) : as.length = n ∧ K H := by
  unfold arity at h
  cases hb : Nat.beq as.length n with
  | true => rw [hb] at h; exact ⟨Nat.eq_of_beq_eq_true hb, h⟩
  | false => rw [hb] at h; exact absurd h id
theorem asI_inv {k : IntKind} {v : Value} {K : Int → HP} {H : Heap} (h : asI k v K H) : ∃ n, v = .int k n ∧ K n H := by
  unfold asI at h
  cases v <;> simp only at h <;> first | exact absurd h id | skip
  rename_i j n
  generalize hb : decide (j = k) = b at h
  cases b with
  | true => have := of_decide_eq_true hb; subst this; exact ⟨n, rfl, h⟩
  | false => exact absurd h id
theorem asB_inv {v : Value} {K : Bool → HP} {H : Heap} (h : asB v K H) : ∃ n, v = .bool n ∧ K n H := by
  unfold asB at h; cases v <;> simp only at h <;> first | exact absurd h id | exact ⟨_, rfl, h⟩
theorem asS_inv {v : Value} {K : ByteArray → HP} {H : Heap} (h : asS v K H) : ∃ n, v = .string n ∧ K n H := by
  unfold asS at h; cases v <;> simp only at h <;> first | exact absurd h id | exact ⟨_, rfl, h⟩
theorem asP_inv {v : Value} {K : Option Addr → HP} {H : Heap} (h : asP v K H) : ∃ n, v = .pointer n ∧ K n H := by
  unfold asP at h; cases v <;> simp only at h <;> first | exact absurd h id | exact ⟨_, rfl, h⟩
theorem asA_inv {v : Value} {K : Addr → HP} {H : Heap} (h : asA v K H) : ∃ n, v = .pointer (some n) ∧ K n H := by
  unfold asA at h
  split at h
  · exact ⟨_, rfl, h⟩
  · exact absurd h id
theorem asL_inv {v : Value} {K : Sl → HP} {H : Heap} (h : asL v K H) : ∃ n : Sl, v = n.v ∧ K n H := by
  unfold asL at h; cases v <;> simp only at h <;> first | exact absurd h id | exact ⟨⟨_, _, _⟩, rfl, h⟩
theorem asM_inv {v : Value} {K : Option Nat → HP} {H : Heap} (h : asM v K H) : ∃ n, v = .map n ∧ K n H := by
  unfold asM at h; cases v <;> simp only at h <;> first | exact absurd h id | exact ⟨_, rfl, h⟩
theorem asF_inv {v : Value} {K : FV → HP} {H : Heap} (h : asF v K H) : ∃ n : FV, v = n.v ∧ K n H := by
  unfold asF at h; cases v <;> simp only at h <;> first | exact absurd h id | exact ⟨⟨_, _, _⟩, rfl, h⟩
theorem asAgg_inv {v : Value} {n : Nat} {K : List Value → HP} {H : Heap} (h : asAgg v n K H) : ∃ cs : List Value, v = .agg cs.toArray ∧ cs.length = n ∧ K cs H := by
  unfold asAgg at h
  cases v <;> simp only at h <;> first | exact absurd h id | skip
  rename_i cs
  generalize hb : Nat.beq cs.toList.length n = b at h
  cases b with
  | true => exact ⟨cs.toList, by simp, Nat.eq_of_beq_eq_true hb, h⟩
  | false => exact absurd h id
theorem list_eq_getD (as : List Value) : as = (List.range as.length).map fun i => as.getD i undef := by
  apply List.ext_getElem
  · simp
  · intro i h1 h2
    simp [List.getD_eq_getElem?_getD, h1]
end Go.Ph
end
section
set_option linter.all false
namespace Go.Ph
def strsAt (H : Heap) (s : Sl) (l : List ByteArray) : Prop := s.len = l.length ∧ s.len ≤ s.cap ∧
  match s.a with
  | none => l = [] ∧ s.cap = 0
  | some a => a.spot = none ∧ ∀ j x, l[j]? = some x → cell H (a.add j) = some (.string x)
def bLe (a b : ByteArray) : Bool := !slt b a
namespace S
def internal_bytealg_IndexByteString (p0 : ByteArray) (p1 : Int) (K : Int → HP) : HP := K (Go.firstIdx p0 p1.toNat.toUInt8)
def internal_bytealg_IndexByteString_run (xs : List Value) (K : Value → HP) : HP :=
  arity xs 2 <| asS (xs.getD 0 undef) fun p0 => asI .u8 (xs.getD 1 undef) fun p1 => internal_bytealg_IndexByteString p0 p1 (fun r => K (.int .i64 r))
def internal_bytealg_MakeNoZero (p0 : Int) (K : Sl → HP) : HP := fun H => (0 ≤ p0 ∧ p0 ≤ 281474976710656) ∧
  ∀ (cap : Nat) t (cs : List Int), p0.toNat ≤ cap → cs.length = cap → K ⟨some (at0 H.size), p0.toNat, cap⟩ (H.push (.cells (cs.map (Value.int .u8)).toArray t (0, 0)))
def internal_bytealg_MakeNoZero_run (xs : List Value) (K : Value → HP) : HP :=
  arity xs 1 <| asI .i64 (xs.getD 0 undef) fun p0 => internal_bytealg_MakeNoZero p0 (fun r => K r.v)
def maps_clone_run (xs : List Value) (K : Value → HP) : HP :=
  match xs with
  | [.iface t (.map r)] => mclone r fun b => K (.iface t (.map (some b)))
  | _ => no
def maps_Keys_vdisk_names_string_int (C : Cx) (p0 : Option Nat) (K : FV → HP) : HP := newc #[.map p0] fun b => K ⟨C.fn "maps_Keys_vdisk_names_string_int", #[], #[.pointer (some (at0 b))]⟩
def maps_Keys_vdisk_names_string_int_run (C : Cx) (xs : List Value) (K : Value → HP) : HP :=
  arity xs 1 <| asM (xs.getD 0 undef) fun p0 => maps_Keys_vdisk_names_string_int C p0 (fun r => K r.v)
/-- the keys of a map, sorted: the sequence is one that maps.Keys made -/
def slices_Sorted_string (C : Cx) (p0 : FV) (K : Sl → HP) : HP := fun H => ∃ (b m : Nat) (es : Array MapEntry) (cl : Nat) (ks : List ByteArray), p0.fn = C.fn "maps_Keys_vdisk_names_string_int" ∧ p0.first = #[] ∧ p0.cap = #[.pointer (some (at0 b))] ∧
  cell H (at0 b) = some (.map (some m)) ∧ H[m]? = some (.map es cl) ∧ es.toList.map (·.key) = ks.map Value.string ∧
  (∀ x ∈ es.toList, x.born < cl) ∧ (es.toList.map (·.born)).Nodup ∧ ks.Nodup ∧ (∀ k ∈ ks, k.size ≤ 9223372036854775807) ∧ ks.length ≤ 1000000 ∧
  ∀ s H', H.size ≤ H'.size → (∀ i, i < H.size → H'[i]? = H[i]?) → strsAt H' s (ks.mergeSort bLe) → (∀ a, s.a = some a → H.size ≤ a.block) → K s H'
def slices_Sorted_string_run (C : Cx) (xs : List Value) (K : Value → HP) : HP :=
  arity xs 1 <| asF (xs.getD 0 undef) fun p0 => slices_Sorted_string C p0 (fun r => K r.v)
end S
end Go.Ph
end
section
set_option linter.all false
namespace Go.Ph
open Go
def handIdx {P : Program} {f : FuncId} {fn : Func} (hf : P.funcs[f]? = some fn) (hn : (fn.name == "runtime.NumGoroutine") = false) (hb : fn.body.isNone = true) (h1 : Extern.findNext fn = none) (h2 : Extern.find fn = some Extern.BytealgIndexByte.indexByte) : Entry P :=
  ⟨f, S.internal_bytealg_IndexByteString_run, fun xs K w h => by
    obtain ⟨hl, h⟩ := arity_inv h
    obtain ⟨p0, e0, h⟩ := asS_inv h
    obtain ⟨p1, e1, h⟩ := asI_inv h
    have ea := list_eq_getD xs
    rw [hl] at ea
    have eb : xs = [xs.getD 0 undef, xs.getD 1 undef] := ea
    rw [e0, e1] at eb
    subst eb
    refine .inl ⟨_, w, ?_, Same.refl w, h⟩
    rw [run_callFunc_extern hf hn hb h1 h2]
    simp [run_indexByte_string]⟩
def handClone {P : Program} {f : FuncId} {fn : Func} (hf : P.funcs[f]? = some fn) (hn : (fn.name == "runtime.NumGoroutine") = false) (hb : fn.body.isNone = true) (h1 : Extern.findNext fn = none) (h2 : Extern.find fn = some Extern.MapsClone.clone) : Entry P :=
  ⟨f, S.maps_clone_run, fun xs K w h => by
    unfold S.maps_clone_run at h
    split at h
    · rename_i t r
      obtain ⟨b, es, cl, rfl, h3, h4⟩ := h
      refine .inl ⟨.iface t (.map (some w.heap.size)), { w with heap := w.heap.push (.map es cl) }, ?_, ⟨rfl, rfl, rfl⟩, h4⟩
      rw [run_callFunc_extern hf hn hb h1 h2]
      have := getObj_run (P := P) h3 w rfl
      have e : Extern.MapsClone.clone ([Value.iface t (.map (some b))] : List Value).toArray = (getObj b >>= fun o => match o with | .map entries clock => (newObj (.map entries clock) >>= fun n => Pure.pure (.iface t (.map (some n)))) | _ => stuck "maps.clone: a map expected") := rfl
      rw [e]
      simp [this]
    · exact absurd h id⟩
theorem digits_ints : ∀ (n t : Nat) (acc : List Int), ∃ cs : List Int, Extern.BytealgMakeNoZero.digits n t (acc.map (Value.int .u8)).toArray = (cs.map (Value.int .u8)).toArray ∧ cs.length = n + acc.length
  | 0, t, acc => ⟨acc, rfl, by simp⟩
  | n + 1, t, acc => by
    obtain ⟨cs, h1, h2⟩ := digits_ints n (t / 256) (acc ++ [Int.ofNat (t % 256)])
    refine ⟨cs, ?_, by simp at h2; omega⟩
    rw [← h1]
    simp [Extern.BytealgMakeNoZero.digits]
def handMNZ {P : Program} {f : FuncId} {fn : Func} {t e : TypeId} (hf : P.funcs[f]? = some fn) (hn : (fn.name == "runtime.NumGoroutine") = false) (hb : fn.body.isNone = true) (h1 : Extern.findNext fn = none) (h2 : Extern.find fn = some (Extern.BytealgMakeNoZero.makeNoZero fn.params fn.resultTypes))
    (h3 : fn.resultTypes[0]? = some t) (h4 : P.underlying t = some (.slice e)) : Entry P :=
  ⟨f, S.internal_bytealg_MakeNoZero_run, fun xs K w h => by
    obtain ⟨hl, h⟩ := arity_inv h
    obtain ⟨p0, e0, h⟩ := asI_inv h
    have ea := list_eq_getD xs
    rw [hl] at ea
    have eb : xs = [xs.getD 0 undef] := ea
    rw [e0] at eb
    subst eb
    obtain ⟨⟨h5, h6⟩, h7⟩ := h
    have hrun : Ok P (Extern.BytealgMakeNoZero.makeNoZero fn.params fn.resultTypes #[.int .i64 p0]) w fun v H => ∃ s : Sl, v = s.v ∧ K s.v H := by
      have e1 : Extern.BytealgMakeNoZero.makeNoZero fn.params fn.resultTypes #[.int .i64 p0] = (do
          let some t := fn.resultTypes[0]? | stuck "bytealg.MakeNoZero: no result type"
          let .slice elem ← underlying t | stuck "bytealg.MakeNoZero: slice type expected"
          if p0 < 0 || p0 > 2 ^ 48 then runtimePanic (.error "makeslice: len out of range")
          let cap ← choose (.appendCap p0.toNat 0 elem)
          askRoom cap
          let bytes ← choose (.extern "internal/bytealg.MakeNoZero.bytes" 0)
          let a ← newRow elem (Extern.BytealgMakeNoZero.digits cap bytes #[])
          Pure.pure (.slice (some a) p0.toNat cap)) := rfl
      rw [e1]
      simp only [h3]
      refine .step (Go.run_underlying h4 w) ?_
      simp only
      rw [if_neg (by simp; omega)]
      obtain ⟨c, w1, q1, q2, q3, q4⟩ := appendCap_run (P := P) p0.toNat 0 e w
      refine .bind ⟨c, w1, q1, q2, ?_⟩
      refine .step (v := ()) (by simp) ?_
      have hch : ∃ b w2, (choose (.extern "internal/bytealg.MakeNoZero.bytes" 0)).run P w1 = .ok b w2 ∧ Same w1 w2 ∧ w2.heap = w1.heap := by
        rw [run_choose]
        split
        · exact ⟨_, _, rfl, Same.refl _, rfl⟩
        · exact ⟨_, _, rfl, ⟨rfl, rfl, rfl⟩, rfl⟩
      obtain ⟨b, w2, r1, r2, r3⟩ := hch
      refine .bind ⟨b, w2, r1, r2, ?_⟩
      obtain ⟨cs, d1, d2⟩ := digits_ints c b []
      simp only [List.map_nil] at d1
      rw [d1]
      refine .bind ⟨_, _, newRow_run e _ w2, ⟨rfl, rfl, rfl⟩, .pure ⟨⟨some ⟨w2.heap.size, 0, none⟩, p0.toNat, c⟩, rfl, ?_⟩⟩
      have := h7 c e cs q4 (by simpa using d2)
      rw [r3, q3]
      exact this
    obtain ⟨v, w', k1, k2, s, k3, k4⟩ := hrun
    subst k3
    refine .inl ⟨_, w', ?_, k2, k4⟩
    rw [run_callFunc_extern hf hn hb h1 h2, k1]
    rfl⟩
end Go.Ph
end

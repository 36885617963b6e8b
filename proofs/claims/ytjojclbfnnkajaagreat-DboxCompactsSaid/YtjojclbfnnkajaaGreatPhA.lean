/- Parts of the proof that pigeonholelaw18.DboxCompacts returns true at every input and leaves the input as it was: what the words of a walk mean over the model, and that a walk which is read so is a run. -/
import Derived.Calls
import Derived.Laws.Append
import Derived.Laws.BytesString
import Derived.Laws.Cells
import Derived.Laws.Sem
import Derived.Laws.Strings
import Derived.LoopN
import Derived.Orders
import Derived.WalkKit
import Derived.Laws.Tables
import Derived.Laws.StructEq
import Derived.Laws.Externs
section
namespace Go.Ph
abbrev aP := Array Obj
abbrev HP := aP → Prop
def cell (H : aP) (a : Addr) : Option Value :=
 match H[a.block]? with
 | some (.cells c _ _) => if a.spot.isSome then none else c[a.off]?
 | _ => none
def kA (H : aP) (a : Addr) : Bool :=
 match H[a.block]? with
 | some (.cells _ _ (lo, hi)) => lo ≤ a.off && a.off < hi
 | _ => false
def ja (H : aP) (a : Addr) (v : Value) : aP :=
 H.modify a.block fun
  | .cells c e f => .cells (if a.spot.isSome then c else c.setIfInBounds a.off v) e f
  | o => o
structure Sl where
 a : Option Addr
 len : Nat
 cap : Nat
abbrev Sl.v (s : Sl) : Value := .slice s.a s.len s.cap
structure FV where
 fn : Fn
 first : Array Value
 cap : Array Value
abbrev FV.v (f : FV) : Value := .func f.fn f.first f.cap
abbrev ay (n : Int) : Int := IntKind.wrap .i64 n
abbrev wr (k : IntKind) (n : Int) : Int := IntKind.wrap k n
abbrev af (b : Nat) : Addr := ⟨b, 0, none⟩
def ag (k : IntKind) (a : Addr) (K : Int → HP) : HP := fun H => ∃ n, cell H a = some (.int k n) ∧ K n H
def fX (a : Addr) (K : Bool → HP) : HP := fun H => ∃ b, cell H a = some (.bool b) ∧ K b H
def bE (a : Addr) (K : ByteArray → HP) : HP := fun H => ∃ s, cell H a = some (.string s) ∧ K s H
def ct (a : Addr) (K : Option Addr → HP) : HP := fun H => ∃ p, cell H a = some (.pointer p) ∧ K p H
def aB (a : Addr) (K : Sl → HP) : HP := fun H => ∃ s : Sl, cell H a = some s.v ∧ K s H
def gp (a : Addr) (K : Option Nat → HP) : HP := fun H => ∃ r, cell H a = some (.map r) ∧ K r H
def AH (a : Addr) (K : FV → HP) : HP := fun H => ∃ f : FV, cell H a = some f.v ∧ K f H
def lW (k : IntKind) (v : Value) (K : Int → HP) : HP := fun H => ∃ n, v = .int k n ∧ K n H
def inB (v : Value) (K : Bool → HP) : HP := fun H => ∃ b, v = .bool b ∧ K b H
def rF (v : Value) (K : ByteArray → HP) : HP := fun H => ∃ s, v = .string s ∧ K s H
def Pp (v : Value) (K : Option Addr → HP) : HP := fun H => ∃ p, v = .pointer p ∧ K p H
def VN (v : Value) (K : Sl → HP) : HP := fun H => ∃ s : Sl, v = s.v ∧ K s H
def inM (v : Value) (K : Option Nat → HP) : HP := fun H => ∃ r, v = .map r ∧ K r H
def inF (v : Value) (K : FV → HP) : HP := fun H => ∃ f : FV, v = f.v ∧ K f H
def one (v : Value) : Bool := match v with | .agg _ | .tuple _ => false | _ => true
def st (a : Addr) (v : Value) (K : HP) : HP := fun H => one v = true ∧ (cell H a).isSome = true ∧ kA H a = false ∧ K (ja H a v)
def aq (a : Addr) (i : Nat) : List Value → HP → HP
 | [], K => K
 | v :: r, K => st (a.add i) v (aq a (i + 1) r K)
def az (cs : Array Value) (K : Nat → HP) : HP := fun H => ∀ t, K H.size (H.push (.cells cs t (0, 0)))
def yf (o : Obj) (K : Nat → HP) : HP := fun H => K H.size (H.push o)
def nn (p : Option Addr) (K : Addr → HP) : HP := fun H => ∃ a, p = some a ∧ K a H
def aL (s : Sl) (size : Nat) (i : Int) (K : Addr → HP) : HP := fun H => ∃ a, s.a = some a ∧ 0 ≤ i ∧ i < s.len ∧ K (a.add (i.toNat * size)) H
def vg (a : Addr) (len size : Nat) (i : Int) (K : Addr → HP) : HP := fun H => 0 ≤ i ∧ i < len ∧ K (a.add (i.toNat * size)) H
def nR (s : ByteArray) (i : Int) (K : Int → HP) : HP := fun H => 0 ≤ i ∧ ∃ h : i.toNat < s.size, K (s[i.toNat]'h).toNat H
def lz (s : ByteArray) (lo hi : Int) (K : ByteArray → HP) : HP := fun H => (0 ≤ lo ∧ lo ≤ hi ∧ hi ≤ s.size) ∧ K (s.extract lo.toNat hi.toNat) H
def eY (s : Sl) (size : Nat) (lo hi mx : Int) (K : Sl → HP) : HP := fun H =>
 (0 ≤ lo ∧ lo ≤ hi ∧ hi ≤ mx ∧ mx ≤ s.cap) ∧ K ⟨if mx.toNat = lo.toNat then s.a else s.a.map (·.add (lo.toNat * size)), hi.toNat - lo.toNat, mx.toNat - lo.toNat⟩ H
def slA (a : Addr) (n size : Nat) (lo hi mx : Int) (K : Sl → HP) : HP := fun H =>
 (0 ≤ lo ∧ lo ≤ hi ∧ hi ≤ mx ∧ mx ≤ n) ∧ K ⟨some (if mx.toNat = lo.toNat then a else a.add (lo.toNat * size)), hi.toNat - lo.toNat, mx.toNat - lo.toNat⟩ H
def nz (y : Int) (K : HP) : HP := fun H => y ≠ 0 ∧ K H
def ng (y : Int) (K : HP) : HP := fun H => 0 ≤ y ∧ K H
def gM (k : IntKind) (x y : Int) : Int := k.wrap (BitVec.ofInt k.bits x &&& BitVec.ofInt k.bits y).toNat
def uO (k : IntKind) (x y : Int) : Int := k.wrap (BitVec.ofInt k.bits x ||| BitVec.ofInt k.bits y).toNat
def gu (k : IntKind) (x y : Int) : Int := k.wrap (BitVec.ofInt k.bits x ^^^ BitVec.ofInt k.bits y).toNat
def abi (k : IntKind) (x y : Int) : Int := k.wrap (BitVec.ofInt k.bits x &&& ~~~BitVec.ofInt k.bits y).toNat
def xQ (k : IntKind) (x y : Int) : Int := k.wrap (x * 2 ^ (min y.toNat k.bits))
def eM (k : IntKind) (x y : Int) : Int := x.fdiv (2 ^ (min y.toNat k.bits))
def cat (x y : ByteArray) (K : ByteArray → HP) : HP := fun H => x.size + y.size ≤ 9223372036854775807 ∧ K (x ++ y) H
def slt (x y : ByteArray) : Bool := Op.bytesLess x.toList y.toList
def Row (H : aP) (a : Option Addr) (n : Nat) (cs : List Value) : Prop :=
 match a with
 | none => cs = []
 | some a => cs.length = n ∧ ∀ j v, cs[j]? = some v → cell H (a.add j) = some v
def dO (s : ByteArray) : List Value := s.data.toList.map fun b => Value.int .u8 b.toNat
def ef (s : Sl) (K : ByteArray → HP) : HP := fun H => ∃ bs : ByteArray, Row H s.a s.len (dO bs) ∧ K bs H
def kD (s : ByteArray) (K : Sl → HP) : HP := fun H => ∀ cap t, s.size ≤ cap →
 K ⟨some ⟨H.size, 0, none⟩, s.size, cap⟩ (H.push (.cells (dO s ++ List.replicate (cap - s.size) (Value.int .u8 0)).toArray t (cap, cap + 1)))
def eO (zero : Array Value) : Nat → List Value
 | 0 => []
 | n + 1 => zero.toList ++ eO zero n
def uK (size bytes : Nat) (zero : Array Value) (s : Sl) (n : Nat) (new : List Value) (K : Sl → HP) : HP := fun H =>
 (s.len + n ≤ s.cap →
  match s.a with
  | none => K ⟨none, s.len + n, s.cap⟩ H
  | some a => aq (a.add (s.len * size)) 0 new (K ⟨some a, s.len + n, s.cap⟩) H) ∧
 (s.cap < s.len + n → Builtin.nextslicecap (s.len + n) s.cap * bytes ≤ 281474976710656 ∧ (s.len + n : Int) ≤ 9223372036854775807 ∧
  ∃ old, Row H s.a (s.len * size) old ∧
  ∀ t c, s.len + n ≤ c → K ⟨some ⟨H.size, 0, none⟩, s.len + n, c⟩ (H.push (.cells (old ++ new ++ eO zero (c - (s.len + n))).toArray t (0, 0))))
def app (size bytes : Nat) (zero : Array Value) (s x : Sl) (K : Sl → HP) : HP := fun H => ∃ new, Row H x.a (x.len * size) new ∧ uK size bytes zero s x.len new K H
def WH (s : Sl) (x : ByteArray) (K : Sl → HP) : HP := uK 1 1 #[.int .u8 0] s x.size (dO x) K
def m8 (d : Sl) (n : Nat) (new : List Value) (K : Int → HP) : HP := fun H =>
 match d.a with
 | none => K n H
 | some a => aq a 0 new (K n) H
def xy (size : Nat) (d x : Sl) (K : Int → HP) : HP := fun H => ∃ new, Row H x.a (min x.len d.len * size) new ∧ m8 d (min x.len d.len) new K H
def oq (d : Sl) (x : ByteArray) (K : Int → HP) : HP := m8 d (min x.size d.len) (dO (x.extract 0 (min x.size d.len))) K
def oI (bytes : Nat) (zero : Array Value) (len cap : Int) (K : Sl → HP) : HP := fun H =>
 (0 ≤ len ∧ len ≤ cap ∧ bytes * cap ≤ 281474976710656 ∧ cap ≤ 9223372036854775807) ∧ ∀ t, K ⟨some ⟨H.size, 0, none⟩, len.toNat, cap.toNat⟩ (H.push (.cells (eO zero cap.toNat).toArray t (0, 0)))
def qZ (kd : TypeDesc) (r : Option Nat) (key : Value) (K0 : HP) (K1 : Value → HP) : HP := fun H =>
 match r with
 | none => K0 H
 | some r => ∃ es cl res, H[r]? = some (.map es cl) ∧ Instr.findNow kd key es.toList 0 = some res ∧ match res with | none => K0 H | some (_, v) => K1 v H
def A6 (r : Option Nat) (K : Int → HP) : HP := fun H =>
 match r with
 | none => K 0 H
 | some r => ∃ es cl, H[r]? = some (.map es cl) ∧ K (es.size : Nat) H
def vY (kd : TypeDesc) (r : Option Nat) (key v : Value) (K : HP) : HP := fun H => ∃ b es cl res, r = some b ∧ H[b]? = some (.map es cl) ∧ Instr.findNow kd key es.toList 0 = some res ∧
 K (H.setIfInBounds b (match res with | some (i, _) => .map (es.modify i fun e => { e with key, val := v }) cl | none => .map (es.push { key, val := v, born := cl }) (cl + 1)))
def Ah (kd : TypeDesc) (r : Option Nat) (key : Value) (K : HP) : HP := fun H => ∃ b es cl res, r = some b ∧ H[b]? = some (.map es cl) ∧ Instr.findNow kd key es.toList 0 = some res ∧
 K (H.setIfInBounds b (match res with | some (i, _) => .map (es.eraseIdxIfInBounds i) cl | none => .map es cl))
def mc (r : Option Nat) (K : Nat → HP) : HP := fun H =>
 match r with
 | none => K H.size (H.push (.mapIter none 0 #[] 0))
 | some m => ∃ es cl, H[m]? = some (.map es cl) ∧ K H.size (H.push (.mapIter (some m) cl #[] cl))
def ki (it : Nat) (K0 : HP) (K1 : Value → Value → HP) : HP := fun H =>
 match H[it]? with
 | some (.mapIter none _ _ _) => K0 H
 | some (.mapIter (some m) since seen last) => ∃ es cl, H[m]? = some (.map es cl) ∧ (!seen.isEmpty && !es.isEmpty && es.all (·.born ≥ last)) = false ∧
  ((((es.filter fun e => !seen.contains e.born).filter (·.born < since)).isEmpty = true) → K0 H) ∧
  ∀ e, e ∈ es → seen.contains e.born = false → K1 e.key e.val (H.setIfInBounds it (.mapIter (some m) since (seen.push e.born) cl))
 | _ => False
def mQ (it : Nat) (K : Value → Value → HP) : HP := fun H => ∃ m since seen stepped stamp es e, H[it]? = some (.mapIter (some m) since seen stepped) ∧ seen.back? = some stamp ∧
 H[m]? = some (.map es stepped) ∧ es.find? (·.born == stamp) = some e ∧ K e.key e.val H
structure Cx where
 ap : FV → List Value → (Value → HP) → HP
 fn : String → Fn
def fI (C : Cx) (run : List Value → (Value → HP) → HP) (K : FV → HP) : HP := fun H => ∀ f : FV, (∀ args K' H', run args K' H' → C.ap f args K' H') → K f H
def DN (r : Option Nat) (K : Nat → HP) : HP := fun H => ∃ b es cl, r = some b ∧ H[b]? = some (.map es cl) ∧ K H.size (H.push (.map es cl))
def held (A K : HP) : HP := fun H => A H ∧ K H
def both (A B : HP) : HP := fun H => A H ∧ B H
abbrev no : HP := fun _ => False
def ak (k : IntKind) (v : Value) (K : Int → HP) : HP := match v with | .int j n => (match decide (j = k) with | true => K n | false => fun _ => False) | _ => fun _ => False
def jk (v : Value) (K : Bool → HP) : HP := match v with | .bool b => K b | _ => fun _ => False
def bX (v : Value) (K : ByteArray → HP) : HP := match v with | .string s => K s | _ => fun _ => False
def dU (v : Value) (K : Addr → HP) : HP := match v with | .pointer (some a) => K a | _ => fun _ => False
def asAgg (v : Value) (n : Nat) (K : List Value → HP) : HP := match v with | .agg cs => (match Nat.beq cs.toList.length n with | true => K cs.toList | false => fun _ => False) | _ => fun _ => False
def bu (v : Value) (K : Option Addr → HP) : HP := match v with | .pointer p => K p | _ => fun _ => False
def bA (v : Value) (K : Sl → HP) : HP := match v with | .slice a n c => K ⟨a, n, c⟩ | _ => fun _ => False
def mB (v : Value) (K : Option Nat → HP) : HP := match v with | .map r => K r | _ => fun _ => False
def j9 (v : Value) (K : FV → HP) : HP := match v with | .func a b c => K ⟨a, b, c⟩ | _ => fun _ => False
def arity (as : List Value) (n : Nat) (K : HP) : HP := match Nat.beq as.length n with | true => K | false => no
def loop {σ : Type} (step : (σ → HP) → σ → HP) (s : σ) : HP := fun H =>
 ∃ (I : σ → HP) (μ : σ → aP → Nat), I s H ∧ ∀ s H, I s H → step (fun s' H' => I s' H' ∧ μ s' H' < μ s H) s H
end Go.Ph
end
section
namespace Go.Ph
abbrev Env := Nat → Value
def Env.set (n : Nat) (env : Env) (d : Option Nat) (v : Value) : Env :=
 match d with
 | none => env
 | some d => bif Nat.blt d n then fun t => bif Nat.beq t d then v else env t else env
def Env.ref (env : Env) (d : Nat) (b : Bool) : Env := fun t => bif Nat.beq t d then .bool b else env t
def xP (args : List Value) : Env := fun t => args.getD t undef
def ev (env : Env) : Operand → Value
 | .tmp t => env t
 | .const v => v
 | .global g => .pointer (some ⟨g, 0, none⟩)
 | .func f => .func (.func f) #[] #[]
inductive fL where
 | ii (k : IntKind) | bb | ss | pp | ll | mm | ff
def oz : TypeDesc → Option fL
 | .int k => some (.ii k)
 | .bool => some .bb
 | .string => some .ss
 | .pointer _ => some .pp
 | .slice _ => some .ll
 | .map _ _ => some .mm
 | .func _ _ _ => some .ff
 | _ => none
def bT (P : Program) (t : TypeId) : Nat := ((P.info? t).map (·.size)).getD 0
def ju (P : Program) (t : TypeId) : Nat := ((P.info? t).map (·.bytes)).getD 0
def gh (P : Program) (t : TypeId) : Option Value := (P.info? t).bind (·.zero)
def known (P : Program) (t : TypeId) : Bool := (P.underlying t).isSome
def j8 (P : Program) (t : TypeId) : Bool := match P.underlying t with | some (.struct _) | some (.array _ _) => true | _ => false
mutual
def leaves (P : Program) : Nat → TypeId → Option (List fL)
 | 0, _ => none
 | d + 1, t => match P.underlying t with
  | some (.struct fs) => GF P d (fs.toList.map (·.type))
  | some (.array n e) => (leaves P d e).map fun l => (List.replicate n l).flatten
  | some x => (oz x).map fun l => [l]
  | none => none
def GF (P : Program) : Nat → List TypeId → Option (List fL)
 | 0, _ => none
 | _ + 1, [] => some []
 | d + 1, t :: ts => match leaves P d t, GF P d ts with
  | some a, some b => some (a ++ b)
  | _, _ => none
end
def zx : fL → Addr → (Value → HP) → HP
 | .ii k, a, K => ag k a fun n => K (.int k n)
 | .bb, a, K => fX a fun x => K (.bool x)
 | .ss, a, K => bE a fun x => K (.string x)
 | .pp, a, K => ct a fun x => K (.pointer x)
 | .ll, a, K => aB a fun x => K x.v
 | .mm, a, K => gp a fun x => K (.map x)
 | .ff, a, K => AH a fun x => K x.v
def AI : fL → Value → (Value → HP) → HP
 | .ii k, a, K => lW k a fun n => K (.int k n)
 | .bb, a, K => inB a fun x => K (.bool x)
 | .ss, a, K => rF a fun x => K (.string x)
 | .pp, a, K => Pp a fun x => K (.pointer x)
 | .ll, a, K => VN a fun x => K x.v
 | .mm, a, K => inM a fun x => K (.map x)
 | .ff, a, K => inF a fun x => K x.v
def vU (a : Addr) : Nat → List Value → List fL → (Value → HP) → HP
 | _, acc, [], K => K (.agg acc.reverse.toArray)
 | i, acc, l :: r, K => zx l (a.add i) fun v => vU a (i + 1) (v :: acc) r K
def wv (cs : List Value) : List Value → List fL → (Value → HP) → HP
 | acc, [], K => match cs with | [] => K (.agg acc.reverse.toArray) | _ => fun _ => False
 | acc, l :: r, K => match cs with | [] => fun _ => False | c :: cs => AI l c fun v => wv cs (v :: acc) r K
def vj (P : Program) (t : TypeId) (a : Addr) (K : Value → HP) : HP :=
 match j8 P t with
 | true => match leaves P 30 t with
  | some ls => match Nat.beq ls.length (bT P t) with | true => vU a 0 [] ls K | false => fun _ => False
  | none => fun _ => False
 | false => match (P.underlying t).bind oz with
  | some l => zx l a K
  | none => fun _ => False
def nh (j k : IntKind) : Bool := decide (j = k)
def LO (op : BinOp) (k : IntKind) (a b : Int) (K : Value → HP) : HP :=
 match op with
 | .add => K (.int k (k.wrap (a + b)))
 | .sub => K (.int k (k.wrap (a - b)))
 | .mul => K (.int k (k.wrap (a * b)))
 | .quo => nz b (K (.int k (k.wrap (a.tdiv b))))
 | .rem => nz b (K (.int k (a.tmod b)))
 | .and => K (.int k (gM k a b))
 | .or => K (.int k (uO k a b))
 | .xor => K (.int k (gu k a b))
 | .andNot => K (.int k (abi k a b))
 | .eql => K (.bool (decide (a = b)))
 | .neq => K (.bool (!decide (a = b)))
 | .lss => K (.bool (decide (a < b)))
 | .leq => K (.bool (decide (a ≤ b)))
 | .gtr => K (.bool (decide (b < a)))
 | .geq => K (.bool (decide (b ≤ a)))
 | _ => no
def zK (op : BinOp) (a b : ByteArray) (K : Value → HP) : HP :=
 match op with
 | .add => cat a b fun s => K (.string s)
 | .eql => K (.bool (decide (a = b)))
 | .neq => K (.bool (!decide (a = b)))
 | .lss => K (.bool (slt a b))
 | .leq => K (.bool (slt a b || decide (a = b)))
 | .gtr => K (.bool (!(slt a b || decide (a = b))))
 | .geq => K (.bool (!slt a b))
 | _ => no
def kf : List Value → List Value → Option Bool
 | [], [] => some true
 | .int j a :: r, .int k b :: s => match nh j k with | true => (kf r s).map fun x => decide (a = b) && x | false => none
 | _, _ => none
def mG (op : BinOp) (x : Bool) (K : Value → HP) : HP :=
 match op with
 | .eql => K (.bool x)
 | .neq => K (.bool (!x))
 | _ => no
def BL (P : Program) (op : BinOp) (t : TypeId) (x y : Value) (K : Value → HP) : HP :=
 match x, y with
 | .int k a, .int k' b => match op with
  | .shl => ng b (K (.int k (xQ k a b)))
  | .shr => ng b (K (.int k (eM k a b)))
  | op => match nh k k' with | true => LO op k a b K | false => no
 | .string a, .string b => zK op a b K
 | .bool a, .bool b => match P.underlying t with | some .bool => mG op (a == b) K | _ => no
 | .pointer p, .pointer none => match P.underlying t with | some (.pointer _) => mG op p.isNone K | _ => no
 | .slice a _ _, .slice none _ _ => match P.underlying t with | some (.slice _) => mG op a.isNone K | _ => no
 | .map p, .map none => match P.underlying t with | some (.map _ _) => mG op p.isNone K | _ => no
 | .agg xs, .agg ys => match P.underlying t, P.eqGuardType P.depth t, kf xs.toList ys.toList with
  | some (.array n e), false, some b => match P.underlying e, Nat.beq (bT P e) 1, Nat.beq xs.toList.length n with
   | some (.int _), true, true => mG op b K
   | _, _, _ => no
  | _, _, _ => no
 | _, _ => no
def pY (P : Program) (src dst : TypeId) (x : Value) (K : Value → HP) : HP :=
 match P.underlying src, P.underlying dst, x with
 | some _, some (.int k), .int _ n => K (.int k (k.wrap n))
 | some _, some .string, .string s => K (.string s)
 | some _, some (.slice e), .string s => match P.underlying e with | some (.int .u8) => kD s fun sl => K sl.v | _ => no
 | some (.slice e), some .string, .slice a n c => match P.underlying e with | some (.int .u8) => ef ⟨a, n, c⟩ fun s => K (.string s) | _ => no
 | _, _, _ => no
def CI (op : UnOp) (x : Value) (K : Value → HP) : HP :=
 match op, x with
 | .neg, .int k n => K (.int k (k.wrap (0 - n)))
 | .xor, .int k n => K (.int k (gu k (if k.signed then -1 else k.max) n))
 | .not, .bool b => K (.bool !b)
 | _, _ => no
def fG (d : Int) : Option Value → Option Int
 | none => some d
 | some (.int _ n) => some n
 | _ => none
def zA (P : Program) (t : TypeId) (x : Value) (lo hi mx : Option Value) (K : Value → HP) : HP :=
 match P.underlying t, x with
 | some .string, .string s => match fG 0 lo, fG s.size hi, mx with
  | some l, some h, none => lz s l h fun r => K (.string r)
  | _, _, _ => no
 | some (.slice e), .slice a n c => match known P e, hi.isSome || !mx.isSome, fG 0 lo, fG n hi, fG c mx with
  | true, true, some l, some h, some m => eY ⟨a, n, c⟩ (bT P e) l h m fun r => K r.v
  | _, _, _, _, _ => no
 | some (.array n e), .pointer (some a) => match known P e, hi.isSome || !mx.isSome, fG 0 lo, fG n hi, fG n mx with
  | true, true, some l, some h, some m => slA a n (bT P e) l h m fun r => K r.v
  | _, _, _, _, _ => no
 | _, _ => no
def qf (P : Program) (t : TypeId) (f : Nat) : Option (Nat × Nat × Bool) :=
 match P.underlying t with
 | some (.struct fs) => match fs.toList[f]? with
  | some x => match known P x.type with | true => some (x.offset, bT P x.type, j8 P x.type) | false => none
  | none => none
 | _ => none
def AV (P : Program) (t : TypeId) (x : Value) (f : Nat) (K : Value → HP) : HP :=
 match qf P t f, x with
 | some (off, sz, _), .pointer (some a) => match sz with | 0 => no | _ + 1 => K (.pointer (some (a.add off)))
 | _, _ => no
def B8 (P : Program) (t : TypeId) (x : Value) (f : Nat) (K : Value → HP) : HP :=
 match qf P t f, x with
 | some (off, sz, true), .agg cs => K (.agg ((cs.toList.drop off).take sz).toArray)
 | some (off, _, false), .agg cs => match cs.toList[off]? with | some v => K v | none => no
 | _, _ => no
def AT (P : Program) (t : TypeId) (x i : Value) (K : Value → HP) : HP :=
 match P.underlying t, x, i with
 | some (.slice e), .slice a n c, .int _ i => match known P e with | true => aL ⟨a, n, c⟩ (bT P e) i fun a => K (.pointer (some a)) | false => no
 | some (.array n e), .pointer (some a), .int _ i => match known P e with | true => vg a n (bT P e) i fun a => K (.pointer (some a)) | false => no
 | _, _, _ => no
def A2 (P : Program) (t : TypeId) (x i : Value) (K : Value → HP) : HP :=
 match P.underlying t, x, i with
 | some .string, .string s, .int _ i => nR s i fun n => K (.int .u8 n)
 | _, _, _ => no
def j6 : List Value → List (Nat × List Value) → Option (List Value)
 | z, [] => some z
 | z, (off, cs) :: r => match Nat.ble (off + cs.length) z.length with
  | true => j6 (z.take off ++ cs ++ z.drop (off + cs.length)) r
  | false => none
def de : Value → List Value
 | .agg cs => cs.toList
 | v => [v]
def kC (place : Nat → Option (Nat × Nat)) : List (Nat × Value) → Option (List (Nat × List Value))
 | [] => some []
 | (i, v) :: r => match place i, kC place r with
  | some (off, sz), some l => match Nat.beq (de v).length sz with | true => some ((off, de v) :: l) | false => none
  | _, _ => none
def Ei (P : Program) (fs : List Field) : Option (List (Nat × Nat)) := fs.mapM fun f => (P.info? f.type).map fun i => (f.offset, i.size)
def Br (P : Program) (t : TypeId) (parts : List (Nat × Value)) (K : Value → HP) : HP :=
 match gh P t, P.underlying t with
 | some z, some (.struct fs) => match Ei P fs.toList with
  | some pl => match kC (fun i => pl[i]?) parts with
   | some ps => match j6 (de z) ps with | some cs => K (.agg cs.toArray) | none => no
   | none => no
  | none => no
 | some z, some (.array _ e) => match known P e, kC (fun i => some (i * bT P e, bT P e)) parts with
  | true, some ps => match j6 (de z) ps with | some cs => K (.agg cs.toArray) | none => no
  | _, _ => no
 | _, _ => no
def Ap (P : Program) (t : TypeId) (len : Nat) (parts : List (Nat × Value)) (K : Value → HP) : HP :=
 match P.underlying t with
 | some (.slice e) => match gh P e with
  | some z => match Nat.ble (len * bT P e) 16777216, Nat.beq (de z).length (bT P e), kC (fun i => some (i * bT P e, bT P e)) parts with
   | true, true, some ps => match j6 (eO (de z).toArray len) ps with
    | some cs => az cs.toArray fun b => K (.slice (some ⟨b, 0, none⟩) len len)
    | none => no
   | _, _, _ => no
  | none => no
 | _ => no
def kB (P : Program) (t : TypeId) : Option TypeDesc :=
 match P.underlying t with
 | some (.int k) => some (.int k)
 | some .string => some .string
 | _ => none
def rN (P : Program) (t : TypeId) (v : Value) (K : Value → HP) : HP :=
 match j8 P t with
 | true => match leaves P 30 t, v with
  | some ls, .agg cs => wv cs.toList [] ls K
  | _, _ => no
 | false => match (P.underlying t).bind oz with
  | some l => AI l v K
  | none => no
def kK (kd : TypeDesc) (k : Value) : Bool :=
 match kd, k with
 | .int j, .int k _ => nh j k
 | .string, .string _ => true
 | _, _ => false
def BK (P : Program) (t : TypeId) (m k : Value) (ok : Bool) (K : Value → HP) : HP :=
 match P.underlying t, m with
 | some (.map kt et), .map r => match kB P kt, gh P et with
  | some kd, some z => match kK kd k with
   | true => qZ kd r k (K (match ok with | true => .tuple #[z, .bool false] | false => z)) fun v => rN P et v fun v => K (match ok with | true => .tuple #[v, .bool true] | false => v)
   | false => no
  | _, _ => no
 | _, _ => no
def CF (P : Program) (t : TypeId) (m k v : Value) (K : HP) : HP :=
 match P.underlying t, m with
 | some (.map kt _), .map r => match kB P kt with
  | some kd => match kK kd k with | true => vY kd r k v K | false => no
  | none => no
 | _, _ => no
def BB (P : Program) (t : TypeId) (m k : Value) (K : Value → HP) : HP :=
 match P.underlying t, m with
 | some (.map kt _), .map r => match kB P kt with
  | some kd => match kK kd k with | true => Ah kd r k (K (.tuple #[])) | false => no
  | none => no
 | _, _ => no
def sQ (mx : Bool) (K : Value → HP) : Value → List Value → HP
 | v, [] => K v
 | .int k x, .int _ y :: r => sQ mx K (.int k (bif mx then (if y > x then y else x) else (if y < x then y else x))) r
 | _, _ => no
def rM (P : Program) (b : Builtin) (ts : List TypeId) (args : List Value) (K : Value → HP) : HP :=
 match b, args with
 | .len, [v] => match v, (ts.head?).bind P.underlying with
  | .string s, some .string => K (.int .i64 (s.size : Nat))
  | .slice _ n _, some (.slice _) => K (.int .i64 (n : Nat))
  | .map r, some (.map _ _) => A6 r fun n => K (.int .i64 n)
  | _, _ => no
 | .cap, [v] => match v, (ts.head?).bind P.underlying with
  | .slice _ _ c, some (.slice _) => K (.int .i64 (c : Nat))
  | _, _ => no
 | .append, [.slice a n c, x] => match (ts.head?).bind P.underlying with
  | some (.slice e) => match gh P e, Nat.beq ((gh P e).elim 0 fun z => (de z).length) (bT P e), x with
   | some z, true, .slice a' n' c' => match (ts[1]?).bind P.underlying with
    | some (.slice _) => app (bT P e) (ju P e) (de z).toArray ⟨a, n, c⟩ ⟨a', n', c'⟩ fun s => K s.v
    | _ => no
   | some (.int .u8 0), true, .string s => match (ts[1]?).bind P.underlying, Nat.beq (ju P e) 1 with
    | some .string, true => WH ⟨a, n, c⟩ s fun s => K s.v
    | _, _ => no
   | _, _, _ => no
  | _ => no
 | .copy, [.slice a n c, x] => match (ts.head?).bind P.underlying with
  | some (.slice e) => match known P e, x with
   | true, .slice a' n' c' => xy (bT P e) ⟨a, n, c⟩ ⟨a', n', c'⟩ fun n => K (.int .i64 n)
   | true, .string s => match Nat.beq (bT P e) 1 with | true => oq ⟨a, n, c⟩ s fun n => K (.int .i64 n) | false => no
   | _, _ => no
  | _ => no
 | .delete, [m, k] => match ts.head? with | some t => BB P t m k K | none => no
 | .max, x :: r => sQ true K x r
 | .min, x :: r => sQ false K x r
 | _, _ => no
def cS (w w' : World) : Prop := w'.os = w.os ∧ w'.tape = w.tape ∧ w'.output = w.output
def wH (w : World) (K : Value → HP) (e : Ending) (w' : World) : Prop := ∃ v, e = .returned v ∧ cS w w' ∧ K v w'.heap
def iY (P : Program) (f : FuncId) (args : List Value) (w : World) (K : Value → HP) : Prop :=
 (∃ v w', (callFunc f args.toArray).run P w = .ok (.value v) w' ∧ cS w w' ∧ K v w'.heap) ∨
 (∃ g as, (callFunc f args.toArray).run P w = .ok (.enter g as) w ∧ Calls P g as w (wH w K))
def pU (P : Program) (fv : FV) (args : List Value) (K : Value → HP) : HP := fun H => ∀ w : World, w.heap = H →
 match fv.fn with
 | .func f => iY P f (fv.first.toList ++ args ++ fv.cap.toList) w K
 | _ => False
structure Entry (P : Program) where
 f : Nat
 run : List Value → (Value → HP) → HP
 sound : ∀ args K w, run args K w.heap → iY P f args w K
def runT {P : Program} : List (Entry P) → Nat → List Value → (Value → HP) → HP
 | [], _, _, _ => no
 | e :: r, f, args, K => match Nat.beq e.f f with | true => e.run args K | false => runT r f args K
def xE : fL → Value → (Value → HP) → HP
 | .ii k, v, K => ak k v fun n => K (.int k n)
 | .bb, v, K => jk v fun x => K (.bool x)
 | .ss, v, K => bX v fun x => K (.string x)
 | .pp, v, K => bu v fun x => K (.pointer x)
 | .ll, v, K => bA v fun x => K x.v
 | .mm, v, K => mB v fun x => K (.map x)
 | .ff, v, K => j9 v fun x => K x.v
def Bt (P : Program) (t : TypeId) (v : Value) (K : Value → HP) : HP :=
 match P.underlying t with
 | some (.tuple _) => K v
 | some d => match oz d with
  | some l => xE l v K
  | none => no
 | none => no
abbrev gK := Nat → Option (TypeId × TypeId)
structure ax (P : Program) where
 es : List (Entry P)
 fn : String → Fn
def ax.cx {P : Program} (t : ax P) : Cx := ⟨pU P, t.fn⟩
def wg {P : Program} (tab : ax P) (env : Env) : List Operand → (List Value → HP) → HP
 | [], K => K []
 | .func f :: r, K => fI tab.cx (fun as K => runT tab.es f as K) fun fv => wg tab env r fun vs => K (fv.v :: vs)
 | x :: r, K => wg tab env r fun vs => K (ev env x :: vs)
def dB (P : Program) (tab : ax P) (ai : gK) (env : Env) (o : Oper) (K : Value → HP) : HP :=
 match o.op with
 | .move x | .assign x => K (ev env x)
 | .pick c a b => match ev env c with | .bool t => (match t with | true => K (ev env a) | false => K (ev env b)) | _ => no
 | .alloc t => match gh P t with | some z => az (de z).toArray fun b => K (.pointer (some ⟨b, 0, none⟩)) | none => no
 | .box _ x => az (de (ev env x)).toArray fun b => K (.pointer (some ⟨b, 0, none⟩))
 | .build t ps => Br P t (ps.toList.map fun p => (p.1, ev env p.2)) K
 | .buildSlice t n ps => Ap P t n (ps.toList.map fun p => (p.1, ev env p.2)) K
 | .load t x => match ev env x with | .pointer (some a) => vj P t a K | _ => no
 | .store t x v => match ev env x with
  | .pointer (some a) => match known P t, Nat.beq (de (ev env v)).length (bT P t) with | true, true => aq a 0 (de (ev env v)) (K undef) | _, _ => no
  | _ => no
 | .nilCheck x => match ev env x with
  | .pointer p => nn p fun a => K (.pointer (some a))
  | .func (.func f) a c => K (.func (.func f) a c)
  | _ => no
 | .binOp op t x y _ => BL P op t (ev env x) (ev env y) K
 | .unOp op _ x => CI op (ev env x) K
 | .convert s d x => pY P s d (ev env x) K
 | .makeFunc (.func f) first cap =>
  fI tab.cx (fun as K => runT tab.es f (first.toList.map (ev env) ++ as ++ cap.toList.map (ev env)) K) fun fv => K fv.v
 | .makeMap _ none => yf (.map #[] 0) fun b => K (.map (some b))
 | .makeSlice t l c => match P.underlying t, ev env l, ev env c with
  | some (.slice e), .int .i64 l, .int .i64 c => match gh P e with
   | some z => match Nat.beq (de z).length (bT P e) with | true => oI (ju P e) (de z).toArray l c fun s => K s.v | false => no
   | none => no
  | _, _, _ => no
 | .slice t x lo hi mx => zA P t (ev env x) (lo.map (ev env)) (hi.map (ev env)) (mx.map (ev env)) K
 | .fieldAddr t x f => AV P t (ev env x) f K
 | .field t x f => B8 P t (ev env x) f K
 | .indexAddr t x i => AT P t (ev env x) (ev env i) K
 | .index t x i => A2 P t (ev env x) (ev env i) K
 | .lookup t m k ok => BK P t (ev env m) (ev env k) ok K
 | .mapUpdate t m k v => CF P t (ev env m) (ev env k) (ev env v) (K undef)
 | .range t x => match P.underlying t, ev env x with
  | some (.map _ _), .map r => mc r fun b => K (.pointer (some ⟨b, 0, none⟩))
  | _, _ => no
 | .next it false => match ev env it with
  | .pointer (some ⟨b, 0, none⟩) => ki b (K (.tuple #[.bool false])) fun k v => K (.tuple #[.bool true, k, v])
  | _ => no
 | .entry it => match ev env it with
  | .pointer (some ⟨b, 0, none⟩) => (match it with
   | .tmp t => match ai t with
    | some (kt, et) => mQ b fun k v => rN P kt k fun k => rN P et v fun v => K (.tuple #[k, v])
    | none => no
   | _ => no)
  | _ => no
 | .makeInterface t x => (match P.underlying t with | some (.map _ _) => K (.iface t (ev env x)) | _ => no)
 | .typeAssert x _ t false => (match ev env x, P.underlying t with | .iface u v, some (.map _ _) => (match Nat.beq u t with | true => K v | false => no) | _, _ => no)
 | .extract t i => match ev env t with | .tuple vs => (match vs.toList[i]? with | some v => K v | none => no) | _ => no
 | .call c => match c.callee with
  | .builtin b => rM P b c.argTypes.toList (c.args.toList.map (ev env)) K
  | .value (.func f) => wg tab env c.args.toList fun vs => runT tab.es f vs K
  | .value x => match ev env x with
   | .func fn first cap => pU P ⟨fn, first, cap⟩ (c.args.toList.map (ev env)) fun v => Bt P o.type v K
   | _ => no
  | _ => no
 | _ => no
def jZ (P : Program) (tab : ax P) (ai : gK) (ops : Array Oper) (n : Nat) (o : Oper) (K : Env → HP) (env : Env) : HP :=
 match o.guard with
 | none => dB P tab ai env o fun v => K (env.set n o.dst v)
 | some (j, want) => match (ops[j]?).bind (·.dst) with
  | none => no
  | some t => match env t with
   | .bool b => match b with
    | true => match want with
     | true => dB P tab ai (env.ref t true) o fun v => K ((env.ref t true).set n o.dst v)
     | false => K ((env.ref t true).set n o.dst undef)
    | false => match want with
     | false => dB P tab ai (env.ref t false) o fun v => K ((env.ref t false).set n o.dst v)
     | true => K ((env.ref t false).set n o.dst undef)
   | .tuple _ => K (env.set n o.dst undef)
   | _ => no
def A9 (P : Program) (tab : ax P) (ai : gK) (ops : Array Oper) (n : Nat) : List Oper → (Env → HP) → Env → HP
 | [], K, env => K env
 | o :: r, K, env => jZ P tab ai ops n o (A9 P tab ai ops n r K) env
inductive Ex where
 | normal | exit (id : Nat) | ret
inductive ke where
 | done
 | take (i : Nat) (p : ke)
 | aM (i : Nat) (held : List Nat) (p : ke)
 | alt (i : Nat) (held : List Nat) (p : ke) (j : Nat) (held' : List Nat) (q : ke)
def recheck (P : Program) (tab : ax P) (ai : gK) (ops : Array Oper) (i : Nat) (env : Env) (H : aP) : Prop :=
 match ops[i]? with
 | some o => match o.dst with
  | none => True
  | some d => match o.guard with
   | none => dB P tab ai env o (fun v _ => v = env d) H
   | some (j, want) => match (ops[j]?).bind (·.dst) with
    | none => False
    | some t => match env t with
     | .bool b => match b, want with
      | true, true => dB P tab ai env o (fun v _ => v = env d) H
      | false, false => dB P tab ai env o (fun v _ => v = env d) H
      | _, _ => True
     | .tuple _ => True
     | _ => False
 | none => True
def tu (P : Program) (tab : ax P) (ai : gK) (ops : Array Oper) : List Nat → Env → HP → HP
 | [], _, K, H => K H
 | i :: r, env, K, H => recheck P tab ai ops i env H ∧ tu P tab ai ops r env K H
def jG (P : Program) (tab : ax P) (ai : gK) (ops : Array Oper) (n : Nat) : ke → (Env → HP) → Env → HP
 | .done, K, env => K env
 | .take i p, K, env => match ops[i]? with | some o => jZ P tab ai ops n o (jG P tab ai ops n p K) env | none => no
 | .aM i hs p, K, env => match ops[i]? with | some o => jZ P tab ai ops n o (fun e => tu P tab ai ops hs e (jG P tab ai ops n p K e)) env | none => no
 | .alt i hs p j hs' q, K, env => fun H =>
  (match ops[i]? with | some o => jZ P tab ai ops n o (fun e => tu P tab ai ops hs e (jG P tab ai ops n p K e)) env H | none => False) ∧
  (match ops[j]? with | some o => jZ P tab ai ops n o (fun e => tu P tab ai ops hs' e (jG P tab ai ops n q K e)) env H | none => False)
structure S2 where
 vars : List (Nat × fL)
 lf : Nat
def yX (vs : List Value) : Nat → List (Nat × fL) → (List Value → HP) → HP
 | _, [], K => K []
 | i, x :: r, K => xE x.2 (vs.getD i undef) fun v => yX vs (i + 1) r fun rest => K (v :: rest)
def Env.bG (env : Env) : List (Nat × fL) → List Value → Env
 | x :: r, v :: vs => fun t => bif Nat.beq t x.1 then v else Env.bG env r vs t
 | _, _ => env
structure aA where
 plan : Nat → ke
 spec : Nat → S2
 iter : gK
def X (P : Program) (tab : ax P) (au : aA) (n : Nat) : Nat → Code → (Ex → Env → HP) → Env → HP
 | _, .skip, Q => Q .normal
 | _, .region id ops dr, Q => match dr with
  | false => A9 P tab au.iter ops n ops.toList (Q .normal)
  | true => jG P tab au.iter ops n (au.plan id) (Q .normal)
 | c, .seq a b, Q => X P tab au n c a fun e => match e with
  | .normal => X P tab au n c b Q
  | .exit i => Q (.exit i)
  | .ret => Q .ret
 | c, .cond x a b, Q => fun env => match ev env x with
  | .bool t => match t with | true => X P tab au n c a Q env | false => X P tab au n c b Q env
  | _ => no
 | _, .block id a, Q => X P tab au n id a fun e => match e with
  | .normal => Q .normal
  | .exit i => (match Nat.beq i id with | true => Q .normal | false => Q (.exit i))
  | .ret => Q .ret
 | c, .loop a, Q => fun env => loop (fun R vs => yX vs 0 (au.spec c).vars fun vs' => X P tab au n c a (fun e => match e with
  | .normal => fun env' => R ((au.spec c).vars.map fun x => env' x.1)
  | .exit i => Q (.exit i)
  | .ret => Q .ret) (env.bG (au.spec c).vars vs')) ((au.spec c).vars.map fun x => env x.1)
 | _, .exit i, Q => Q (.exit i)
 | _, .ret, Q => Q .ret
 | _, _, _ => fun _ => no
def lJ (P : Program) : List ResultVar → List Value → Env → (Value → HP) → HP
 | [], acc, _, K => match acc with | [v] => K v | vs => K (.tuple vs.reverse.toArray)
 | .tmp t :: r, acc, env, K => lJ P r (env t :: acc) env K
 | .cell a t :: r, acc, env, K => match env a with | .pointer (some a) => vj P t a fun v => lJ P r (v :: acc) env K | _ => no
def Qj (P : Program) (rs : List ResultVar) (K : Value → HP) : Ex → Env → HP
 | .normal, env => lJ P rs [] env K
 | .ret, env => lJ P rs [] env K
 | .exit _, _ => no
end Go.Ph
end
section
set_option linter.all false
namespace Go.Ph
open Go
theorem H6 (w : World) (a : Addr) : w.cell? a = cell w.heap a := rfl
def Pu {α : Type} (P : Program) (s : Sem α) (v : α) : Prop := ∀ w, s.run P w = .ok v w
theorem Kk {j k : IntKind} (h : nh j k = true) : j = k := by simpa [nh] using h
theorem U7 {P : Program} {op : BinOp} {t : TypeId} {k : IntKind} {a b : Int} {K : Value → HP} {H : aP} (h : LO op k a b K H)
  (hs : op ≠ .shl) (hs' : op ≠ .shr) : ∃ v, Pu P (binOp op t (.int k a) (.int k b)) v ∧ K v H := by
 cases op
 case shl => exact absurd rfl hs
 case shr => exact absurd rfl hs'
 case quo => obtain ⟨h1, h2⟩ := h; exact ⟨_, fun w => by simp [binOp, Op.intDiv, h1], h2⟩
 case rem => obtain ⟨h1, h2⟩ := h; exact ⟨_, fun w => by simp [binOp, Op.intDiv, h1], h2⟩
 all_goals
  refine ⟨_, fun w => ?_, h⟩
  simp only [binOp, Op.intArith, Op.intBits, Op.intCmp, ne_eq, not_true_eq_false, if_false]
  rfl
theorem qQ (a b : ByteArray) : (a.toList == b.toList) = decide (a = b) := by
 rw [ByteArray.toList_eq, ByteArray.toList_eq]
 by_cases h : a = b
 ·subst h; simp
 ·have : a.data.toList ≠ b.data.toList := fun e => h (by cases a; cases b; simp only [ByteArray.mk.injEq]; exact Array.toList_inj.1 e)
  simp only [h, decide_false]; exact beq_eq_false_iff_ne.2 this
theorem VS {P : Program} {op : BinOp} {t : TypeId} {a b : ByteArray} {K : Value → HP} {H : aP} (h : zK op a b K H) :
  ∃ v, Pu P (binOp op t (.string a) (.string b)) v ∧ K v H := by
 cases op <;> simp only [zK] at h
 case add =>
  obtain ⟨h1, h2⟩ := h
  refine ⟨_, fun w => ?_, h2⟩
  simp only [binOp, Op.stringOp]
  rw [if_neg (by simp [IntKind.max, IntKind.signed, IntKind.bits]; omega)]; rfl
 case eql => exact ⟨_, fun w => by simp only [binOp, Op.stringOp, Sem.run_pure, qQ], h⟩
 case neq => exact ⟨_, fun w => by simp only [binOp, Op.stringOp, Sem.run_pure, qQ], h⟩
 case lss => exact ⟨_, fun w => by simp only [binOp, Op.stringOp, Sem.run_pure, slt], h⟩
 case leq => exact ⟨_, fun w => by simp only [binOp, Op.stringOp, Sem.run_pure, qQ, slt], h⟩
 case gtr => exact ⟨_, fun w => by simp only [binOp, Op.stringOp, Sem.run_pure, qQ, slt], h⟩
 case geq => exact ⟨_, fun w => by simp only [binOp, Op.stringOp, Sem.run_pure, slt], h⟩
 all_goals exact absurd h id
theorem run_underlying {P : Program} {t : TypeId} {d : TypeDesc} (h : P.underlying t = some d) (w : World) : (underlying t).run P w = .ok d w := by
 simp [underlying, h]
theorem run_sizeOf {P : Program} {t : TypeId} {i : TypeInfo} (h : P.info? t = some i) (w : World) : (sizeOf t).run P w = .ok i.size w := by
 simp [sizeOf, typeInfo, h]
theorem info_of_underlying {P : Program} {t : TypeId} {d : TypeDesc} (h : P.underlying t = some d) : ∃ i, P.info? t = some i := by
 unfold Program.underlying at h
 cases hi : P.info? t with
 | none => simp [hi] at h
 | some i => exact ⟨i, rfl⟩
theorem adN {op : BinOp} {x : Bool} {K : Value → HP} {H : aP} (h : mG op x K H) :
  (op = .eql ∧ K (.bool x) H) ∨ (op = .neq ∧ K (.bool !x) H) := by
 cases op <;> simp only [mG] at h <;> first | exact absurd h id | exact .inl ⟨rfl, h⟩ | exact .inr ⟨rfl, h⟩
theorem tR {P : Program} {t : TypeId} {x y : Value} {r : Bool} (hx : binOp .eql t x y = (Op.equal t x y >>= fun b => pure (.bool b))) (hy : binOp .neq t x y = (Op.equal t x y >>= fun b => pure (.bool !b)))
  (he : Pu P (Op.equal t x y) r) {op : BinOp} {K : Value → HP} {H : aP} (h : mG op r K H) : ∃ v, Pu P (binOp op t x y) v ∧ K v H := by
 rcases adN h with ⟨rfl, h⟩ | ⟨rfl, h⟩
 ·exact ⟨_, fun w => by rw [hx]; simp [he w], h⟩
 ·exact ⟨_, fun w => by rw [hy]; simp [he w], h⟩
theorem Pf {P : Program} {t e : TypeId} {n : Nat} {k : IntKind} (ht : P.underlying t = some (.array n e)) (he : P.underlying e = some (.int k)) (hs : bT P e = 1)
  {xs ys : Array Value} (hn : xs.toList.length = n) {b : Bool} (hb : kf xs.toList ys.toList = some b) : Pu P (Op.equal t (.agg xs) (.agg ys)) b := by
 intro w
 have hsz : ∀ w, (sizeOf e).run P w = .ok 1 w := by
  obtain ⟨i, hi⟩ := info_of_underlying he
  intro w
  rw [run_sizeOf hi]
  simp [bT, hi] at hs
  rw [hs]
 have hag : ∀ w, (isAgg e).run P w = .ok false w := fun w => by simp [isAgg, Go.run_underlying he]
 show (Op.equalIn (9999 + 1) t (.agg xs) (.agg ys)).run P w = _
 rw [Op.equalIn]
 simp only [Sem.run_bind, Go.run_underlying ht, Result.andThen_ok, hsz]
 rw [Std.Legacy.Range.forIn_eq_forIn_range']
 simp only [Std.Legacy.Range.size, Nat.sub_zero, Nat.add_sub_cancel, Nat.div_one]
 have key : ∀ (m i : Nat) (l r : List Value) (b : Bool) (w : World), xs.toList.drop i = l → ys.toList.drop i = r → l.length = m → kf l r = some b →
   (forIn (List.range' i m 1) ((none, ()) : Option Bool × Unit) (fun j _ => do
    let x ← part e xs (j * 1)
    let y ← part e ys (j * 1)
    let q ← Op.equalIn 9999 e x y
    if (!q) = true then pure (ForInStep.done (some false, ())) else pure (ForInStep.yield (none, ())))).run P w = .ok (if b then (none, ()) else (some false, ())) w := by
  intro m
  induction m with
  | zero =>
   intro i l r b w h1 h2 h3 h4
   cases l with
   | cons x l => simp at h3
   | nil =>
    cases r with
    | cons y r => simp [kf] at h4
    | nil => simp only [kf, Option.some.injEq] at h4; subst h4; simp
  | succ m ih =>
   intro i l r b w h1 h2 h3 h4
   cases l with
   | nil => simp at h3
   | cons x l =>
    have hx : xs[i]? = some x := by
     have := congrArg (·[0]?) h1; simpa using this
    cases r with
    | nil => cases x <;> simp [kf] at h4
    | cons y r =>
     have hy : ys[i]? = some y := by
      have := congrArg (·[0]?) h2; simpa using this
     cases x <;> cases y <;> simp only [kf] at h4 <;> try (cases h4; done)
     rename_i j1 a1 j2 a2
     cases hk : nh j1 j2 with
     | false => simp [hk] at h4
     | true =>
      obtain rfl := Kk hk
      simp only [hk] at h4
      cases hq : kf l r with
      | none => simp [hq] at h4
      | some b' =>
       simp only [hq, Option.map_some, Option.some.injEq] at h4
       have hpx : ∀ w, (part e xs (i * 1)).run P w = .ok (.int j1 a1) w := fun w => by simp [part, hag, hx]
       have hpy : ∀ w, (part e ys (i * 1)).run P w = .ok (.int j1 a2) w := fun w => by simp [part, hag, hy]
       have hee : ∀ w, (Op.equalIn 9999 e (.int j1 a1) (.int j1 a2)).run P w = .ok (a1 == a2) w := fun w => by
        show (Op.equalIn (9998 + 1) e _ _).run P w = _
        rw [Op.equalIn]; simp [Go.run_underlying he]
       simp only [List.range'_succ, List.forIn_cons, Sem.run_bind, hpx, hpy, Result.andThen_ok, hee]
       by_cases hab : a1 = a2
       ·subst hab
        simp only [beq_self_eq_true, Bool.not_true, Bool.false_eq_true, if_false, Sem.run_pure, Result.andThen_ok]
        rw [ih (i + 1) l r b' w (by rw [← List.drop_drop, h1]; rfl) (by rw [← List.drop_drop, h2]; rfl) (by simpa using h3) hq]
        simp at h4; rw [h4]
       ·have : (a1 == a2) = false := by simpa using hab
        simp only [this, Bool.not_false, if_true, Sem.run_pure, Result.andThen_ok]
        simp [hab] at h4; subst h4; rfl
 have := key n 0 xs.toList ys.toList b w rfl rfl hn hb
 rw [this]
 cases b <;> rfl
theorem Wu {P : Program} {t : TypeId} (ht : P.underlying t = some .bool) (a b : Bool) : Pu P (Op.equal t (.bool a) (.bool b)) (a == b) := by
 intro w
 show (Op.equalIn (9999 + 1) t _ _).run P w = _
 rw [Op.equalIn]; simp [Go.run_underlying ht]
theorem XS {P : Program} {t e : TypeId} (ht : P.underlying t = some (.pointer e)) (p : Option Addr) : Pu P (Op.equal t (.pointer p) (.pointer none)) p.isNone := by
 intro w
 show (Op.equalIn (9999 + 1) t _ _).run P w = _
 rw [Op.equalIn]
 cases p <;> simp [Go.run_underlying ht]
theorem agB {P : Program} {t e : TypeId} (ht : P.underlying t = some (.slice e)) (p : Option Addr) (n c n' c' : Nat) : Pu P (Op.equal t (.slice p n c) (.slice none n' c')) p.isNone := by
 intro w
 show (Op.equalIn (9999 + 1) t _ _).run P w = _
 rw [Op.equalIn]
 cases p <;> simp [Go.run_underlying ht]
theorem OV {P : Program} {t e k : TypeId} (ht : P.underlying t = some (.map k e)) (p : Option Nat) : Pu P (Op.equal t (.map p) (.map none)) p.isNone := by
 intro w
 show (Op.equalIn (9999 + 1) t _ _).run P w = _
 rw [Op.equalIn]
 cases p <;> simp [Go.run_underlying ht]
theorem pG {P : Program} {op : BinOp} {t : TypeId} {x y : Operand} {a b : Value} (ha : ∀ cs, a ≠ .agg cs) (hn : a ≠ .nilIface) : Pu P (eqGuard op t x y a b) () := by
 intro w
 unfold eqGuard
 cases a <;> first
  | exact absurd rfl (ha _)
  | exact absurd rfl hn
  | (cases op <;> simp)
theorem N0 {P : Program} {op : BinOp} {t : TypeId} {x y : Value} {K : Value → HP} {H : aP} (h : BL P op t x y K H) (xo yo : Operand) :
  ∃ v, Pu P (do eqGuard op t xo yo x y; binOp op t x y) v ∧ K v H := by
 have fin : ∀ {x y : Value}, Pu P (eqGuard op t xo yo x y) () → (∃ v, Pu P (binOp op t x y) v ∧ K v H) → ∃ v, Pu P (do eqGuard op t xo yo x y; binOp op t x y) v ∧ K v H := by
  rintro x y hg ⟨v, hv, hk⟩
  exact ⟨v, fun w => by simp [hg w, hv w], hk⟩
 unfold BL at h
 split at h
 ·refine fin (pG (by simp) (by simp)) ?_
  split at h
  ·exact ⟨_, fun w => by simp [binOp, Op.shift, Int.not_lt.2 h.1]; rfl, h.2⟩
  ·exact ⟨_, fun w => by simp [binOp, Op.shift, Int.not_lt.2 h.1]; rfl, h.2⟩
  ·rename_i k a k' b _ _ _
   cases hk : nh k k' with
   | false => rw [hk] at h; exact absurd h id
   | true =>
    rw [hk] at h
    obtain rfl := Kk hk
    exact U7 h (by assumption) (by assumption)
 ·exact fin (pG (by simp) (by simp)) (VS h)
 ·refine fin (pG (by simp) (by simp)) ?_
  generalize hu : P.underlying t = u at h
  split at h
  ·exact tR (by simp [binOp]) (by simp [binOp]) (Wu hu _ _) h
  ·exact absurd h id
 ·refine fin (pG (by simp) (by simp)) ?_
  generalize hu : P.underlying t = u at h
  split at h
  ·exact tR (by simp [binOp]) (by simp [binOp]) (XS hu _) h
  ·exact absurd h id
 ·refine fin (pG (by simp) (by simp)) ?_
  generalize hu : P.underlying t = u at h
  split at h
  ·exact tR (by simp [binOp]) (by simp [binOp]) (agB hu _ _ _ _ _) h
  ·exact absurd h id
 ·refine fin (pG (by simp) (by simp)) ?_
  generalize hu : P.underlying t = u at h
  split at h
  ·exact tR (by simp [binOp]) (by simp [binOp]) (OV hu _) h
  ·exact absurd h id
 ·rename_i xs ys
  generalize hu : P.underlying t = u at h
  generalize hg : P.eqGuardType P.depth t = g at h
  generalize hb : kf xs.toList ys.toList = b at h
  split at h
  ·rename_i n e b
   generalize he : P.underlying e = u' at h
   generalize hs : Nat.beq (bT P e) 1 = s at h
   generalize hn : Nat.beq xs.toList.length n = m at h
   split at h
   ·refine fin (fun w => run_eqGuard_agg w op t xo yo _ _ hg) ?_
    exact tR (by simp [binOp]) (by simp [binOp]) (Pf hu he (Nat.eq_of_beq_eq_true hs) (Nat.eq_of_beq_eq_true hn) hb) h
   ·exact absurd h id
  ·exact absurd h id
 ·exact absurd h id
theorem YL {P : Program} {op : UnOp} {x : Value} {K : Value → HP} {H : aP} (h : CI op x K H) : ∃ v, Pu P (Op.unary op x) v ∧ K v H := by
 unfold CI at h
 split at h
 ·exact ⟨_, fun w => by simp only [Op.unary, Op.intArith]; rfl, h⟩
 ·exact ⟨_, fun w => by simp only [Op.unary, Op.intBits]; rfl, h⟩
 ·exact ⟨_, fun w => by simp [Op.unary], h⟩
 ·exact absurd h id
theorem zP {d : Int} {o : Option Value} {n : Int} (h : fG d o = some n) : (o = none ∧ n = d) ∨ ∃ k, o = some (.int k n) := by
 unfold fG at h
 split at h
 ·exact .inl ⟨rfl, by simpa using h.symm⟩
 ·rename_i k m; exact .inr ⟨k, by simp at h; rw [h]⟩
 ·cases h
theorem C7 {P : Program} {k : IntKind} {i : Int} {y : Nat} {c : BoundsCode} (h0 : 0 ≤ i) (h1 : i ≤ y) (w : World) : (Instr.sliceBound (.int k i) y c).run P w = .ok i.toNat w := by
 simp [Instr.sliceBound, asIntOf, h0, h1]
theorem zT {P : Program} {isS : Bool} {len cap : Nat} {lo hi mx : Option Value} {l h m : Int} (hl : fG 0 lo = some l) (hh : fG len hi = some h) (hm : fG cap mx = some m)
  (h0 : 0 ≤ l) (h1 : l ≤ h) (h2 : h ≤ m) (h3 : m ≤ cap) (hx : mx.isSome = true → hi.isSome = true) (w : World) :
  (Instr.sliceBounds isS len cap lo hi mx).run P w = .ok (l.toNat, h.toNat, m.toNat) w := by
 rcases zP hl with ⟨rfl, rfl⟩ | ⟨kl, rfl⟩ <;> rcases zP hh with ⟨rfl, rfl⟩ | ⟨kh, rfl⟩ <;> rcases zP hm with ⟨rfl, rfl⟩ | ⟨km, rfl⟩ <;>
  (try (simp at hx; done)) <;>
  simp only [Instr.sliceBounds, Sem.run_bind, Sem.run_pure, Result.andThen_ok] <;>
  (try rw [C7 (by omega) (by omega)]) <;> (try simp only [Result.andThen_ok]) <;>
  (try rw [C7 (by omega) (by omega)]) <;> (try simp only [Result.andThen_ok]) <;>
  (try rw [C7 (by omega) (by omega)]) <;> (try simp only [Result.andThen_ok]) <;>
  (try simp)
end Go.Ph
end
section
set_option linter.all false
namespace Go.Ph
open Go
theorem jd {P : Program} {t : TypeId} (i : TypeInfo) (h : P.info? t = some i) (w : World) : (sizeOf t).run P w = .ok (bT P t) w := by
 rw [run_sizeOf h]; simp [bT, h]
theorem Ma {P : Program} {t : TypeId} {d : TypeDesc} (h : P.underlying t = some d) (w : World) : (sizeOf t).run P w = .ok (bT P t) w := by
 obtain ⟨i, hi⟩ := info_of_underlying h; exact jd i hi w
theorem nQ {P : Program} {t : TypeId} (h : known P t = true) : ∃ i, P.info? t = some i := by
 unfold known at h
 cases hu : P.underlying t with
 | none => simp [hu] at h
 | some d => exact info_of_underlying hu
theorem ac4 {P : Program} {t : TypeId} {x : Value} {lo hi mx : Option Value} {K : Value → HP} {H : aP} (h : zA P t x lo hi mx K H) : ∃ v, Pu P (Instr.sliceAt t x lo hi mx) v ∧ K v H := by
 unfold zA at h
 generalize hu : P.underlying t = u at h
 split at h
 ·rename_i s
  generalize hl : fG 0 lo = l at h
  generalize hh : fG s.size hi = q at h
  split at h
  ·rename_i l q _
   obtain ⟨⟨h0, h1, h2⟩, hk⟩ := h
   refine ⟨_, fun w => ?_, hk⟩
   simp only [Instr.sliceAt, Instr.slice, Sem.run_bind, Go.run_underlying hu, Result.andThen_ok, Option.isSome_none, Bool.false_eq_true, if_false, Sem.run_pure]
   rw [zT (mx := none) hl hh rfl h0 h1 h2 (Int.le_refl _) (by simp)]
   simp
  ·exact absurd h id
 ·rename_i e a n c
  generalize hl : fG 0 lo = l at h
  generalize hh : fG n hi = q at h
  generalize hm : fG c mx = m at h
  generalize hkn : known P e = kn at h
  generalize hx : (hi.isSome || !mx.isSome) = hx' at h
  split at h
  ·rename_i l q m
   obtain ⟨⟨h0, h1, h2, h3⟩, hk⟩ := h
   obtain ⟨i, hi'⟩ := nQ hkn
   refine ⟨_, fun w => ?_, hk⟩
   simp only [Instr.sliceAt, Instr.slice, Sem.run_bind, Go.run_underlying hu, Result.andThen_ok, Sem.run_pure]
   rw [zT hl hh hm h0 h1 h2 h3 (by cases hi <;> cases mx <;> simp_all)]
   simp [jd i hi']
  ·exact absurd h id
 ·rename_i n e a
  generalize hl : fG 0 lo = l at h
  generalize hh : fG n hi = q at h
  generalize hm : fG n mx = m at h
  generalize hkn : known P e = kn at h
  generalize hx : (hi.isSome || !mx.isSome) = hx' at h
  split at h
  ·rename_i l q m
   obtain ⟨⟨h0, h1, h2, h3⟩, hk⟩ := h
   obtain ⟨i, hi'⟩ := nQ hkn
   refine ⟨_, fun w => ?_, hk⟩
   simp only [Instr.sliceAt, Instr.sureAddr, Sem.run_bind, Go.run_underlying hu, Result.andThen_ok, Sem.run_pure]
   rw [zT hl hh hm h0 h1 h2 h3 (by cases hi <;> cases mx <;> simp_all)]
   simp [jd i hi']
  ·exact absurd h id
 ·exact absurd h id
theorem y3 {P : Program} {t : TypeId} {f off sz : Nat} {g : Bool} (h : qf P t f = some (off, sz, g)) :
  ∃ fs x, P.underlying t = some (.struct fs) ∧ fs[f]? = some x ∧ off = x.offset ∧ sz = bT P x.type ∧ g = j8 P x.type ∧ ∃ d, P.underlying x.type = some d := by
 unfold qf at h
 split at h
 ·rename_i fs hu
  split at h
  ·rename_i x hx
   cases hk : known P x.type with
   | false => simp [hk] at h
   | true =>
    simp only [hk, Option.some.injEq, Prod.mk.injEq] at h
    exact ⟨fs, x, hu, by simpa using hx, h.1.symm, h.2.1.symm, h.2.2.symm, Option.isSome_iff_exists.1 hk⟩
  ·cases h
 ·cases h
theorem adx {P : Program} {t : TypeId} {x : Value} {f : Nat} {K : Value → HP} {H : aP} (h : AV P t x f K H) : ∃ v, Pu P (Instr.fieldAt t x f) v ∧ K v H := by
 unfold AV at h
 generalize hf : qf P t f = o at h
 split at h
 ·rename_i off sz g a
  obtain ⟨fs, y, hu, hy, rfl, hs, _, _⟩ := y3 hf
  split at h
  ·exact absurd h id
  ·rename_i m
   have hi : ∃ i, P.info? y.type = some i := by
    cases hi : P.info? y.type with
    | some i => exact ⟨i, rfl⟩
    | none => simp [bT, hi] at hs
   obtain ⟨i, hi⟩ := hi
   refine ⟨_, fun w => ?_, h⟩
   simp only [Instr.fieldAt, Sem.run_bind, Go.run_underlying hu, Result.andThen_ok, hy, Instr.sureAddr, Sem.run_pure, fieldPlace, jd i hi]
   rw [if_neg (by omega)]; simp
 ·exact absurd h id
theorem vV {P : Program} {t : TypeId} {d : TypeDesc} (h : P.underlying t = some d) (w : World) : (isAgg t).run P w = .ok (j8 P t) w := by
 simp only [isAgg, Sem.run_bind, Go.run_underlying h, Result.andThen_ok, j8, h]
 cases d <;> rfl
theorem Zc {P : Program} {t : TypeId} {x : Value} {f : Nat} {K : Value → HP} {H : aP} (h : B8 P t x f K H) : ∃ v, Pu P (Instr.field t x f) v ∧ K v H := by
 unfold B8 at h
 generalize hf : qf P t f = o at h
 split at h
 ·rename_i off sz cs
  obtain ⟨fs, y, hu, hy, rfl, rfl, hg, d, hd⟩ := y3 hf
  refine ⟨_, fun w => ?_, h⟩
  simp only [Instr.field, Sem.run_bind, Go.run_underlying hu, Result.andThen_ok, hy, Go.asAgg, part, Sem.run_pure, vV hd, ← hg, if_true, Ma hd]
  congr 2
  apply Array.ext'
  simp [List.extract_eq_take_drop]
 ·rename_i off sz cs
  obtain ⟨fs, y, hu, hy, rfl, rfl, hg, d, hd⟩ := y3 hf
  generalize hc : cs.toList[y.offset]? = c at h
  split at h
  ·rename_i v
   refine ⟨_, fun w => ?_, h⟩
   have hc' : cs[y.offset]? = some v := by simpa using hc
   simp only [Instr.field, Sem.run_bind, Go.run_underlying hu, Result.andThen_ok, hy, Go.asAgg, part, Sem.run_pure, vV hd, ← hg, Bool.false_eq_true, if_false, hc']
  ·exact absurd h id
 ·exact absurd h id
theorem S4 {P : Program} {t : TypeId} {x i : Value} {K : Value → HP} {H : aP} (h : AT P t x i K H) : ∃ v, Pu P (Instr.indexAt t x i) v ∧ K v H := by
 unfold AT at h
 generalize hu : P.underlying t = u at h
 split at h
 ·rename_i e a n c k i
  generalize hkn : known P e = kn at h
  cases kn with
  | false => exact absurd h id
  | true =>
  obtain ⟨b, hb, h0, h1, hk⟩ := h
  simp only at hb h1; subst hb
  obtain ⟨j, hj⟩ := nQ hkn
  refine ⟨_, fun w => ?_, hk⟩
  simp [Instr.indexAt, asIntOf, Go.run_underlying hu, h0, h1, jd j hj]
 ·rename_i n e a k i
  generalize hkn : known P e = kn at h
  cases kn with
  | false => exact absurd h id
  | true =>
  obtain ⟨h0, h1, hk⟩ := h
  obtain ⟨j, hj⟩ := nQ hkn
  refine ⟨_, fun w => ?_, hk⟩
  simp [Instr.indexAt, Instr.sureAddr, asIntOf, Go.run_underlying hu, h0, h1, jd j hj]
 ·exact absurd h id
theorem agr {P : Program} {t : TypeId} {x i : Value} {K : Value → HP} {H : aP} (h : A2 P t x i K H) : ∃ v, Pu P (Instr.index t x i) v ∧ K v H := by
 unfold A2 at h
 generalize hu : P.underlying t = u at h
 split at h
 ·rename_i s k i
  obtain ⟨h0, h1, hk⟩ := h
  refine ⟨_, fun w => ?_, hk⟩
  have : s[i.toNat]? = some (s[i.toNat]'h1) := ByteArray.getElem?_lt' s _ h1
  simp [Instr.index, asIntOf, Go.run_underlying hu, h0, this]
 ·exact absurd h id
theorem r8 (v : Value) : v.cells.toList = de v := by cases v <;> rfl
theorem ri (v : Value) : v.cells.size = (de v).length := by rw [← r8]; simp
theorem FP (off : Nat) : ∀ (l : List Value) (k : Nat) (z : Array Value), off + k + l.length ≤ z.size →
  ((l.zipIdx k).foldl (fun (cs : Array Value) (p : Value × Nat) => cs.setIfInBounds (off + p.2) p.1) z).toList = z.toList.take (off + k) ++ l ++ z.toList.drop (off + k + l.length)
 | [], k, z, h => by simp
 | v :: l, k, z, h => by
  simp only [List.zipIdx_cons, List.foldl_cons, List.length_cons] at *
  rw [FP off l (k + 1) _ (by simp; omega)]
  simp only [Array.toList_setIfInBounds]
  have h1 : off + k < z.toList.length := by simp; omega
  rw [← Nat.add_assoc, List.set_eq_take_append_cons_drop, if_pos h1]
  have e1 : (List.take (off + k) z.toList).length = off + k := by simp; omega
  rw [List.take_append, List.drop_append, e1]
  rw [List.take_of_length_le (l := List.take (off + k) z.toList) (by rw [e1]; omega), List.drop_eq_nil_of_le (as := List.take (off + k) z.toList) (by rw [e1]; omega)]
  have e2 : off + k + 1 - (off + k) = 1 := by omega
  have e3 : off + k + 1 + l.length - (off + k) = l.length + 1 := by omega
  rw [e2, e3]
  simp only [List.take_succ_cons, List.take_zero, List.drop_succ_cons, List.nil_append, List.drop_drop, List.append_assoc, List.cons_append]
  congr 4
  omega
theorem rU (place : Nat → Option (Nat × Nat)) : ∀ (ps : List (Nat × Value)) (qs : List (Nat × List Value)) (z : Array Value) (cs : List Value), kC place ps = some qs → j6 z.toList qs = some cs →
  Instr.fill place z ps = some cs.toArray
 | [], qs, z, cs, h1, h2 => by
  simp only [kC, Option.some.injEq] at h1; subst h1
  simp only [j6, Option.some.injEq] at h2
  simp [Instr.fill, ← h2]
 | (i, v) :: r, qs, z, cs, h1, h2 => by
  simp only [kC] at h1
  split at h1
  ·rename_i off sz l hp hr
   cases hb : Nat.beq (de v).length sz with
   | false => simp [hb] at h1
   | true =>
    simp only [hb, Option.some.injEq] at h1
    subst h1
    simp only [j6] at h2
    cases hc : Nat.ble (off + (de v).length) z.toList.length with
    | false => rw [hc] at h2; cases h2
    | true =>
     simp only [hc] at h2
     have hb' := Nat.eq_of_beq_eq_true hb
     have hc' := Nat.le_of_ble_eq_true hc
     simp only [Array.length_toList] at hc'
     simp only [Instr.fill, hp]
     rw [if_neg (by rw [ri]; simp; omega)]
     refine rU place r l _ cs hr ?_
     rw [← h2]
     congr 1
     have := FP off (de v) 0 z (by omega)
     rw [← Array.foldl_toList]
     rw [Array.toList_zipIdx, r8]
     simpa using this
  ·cases h1
end Go.Ph
end
section
set_option linter.all false
namespace Go.Ph
open Go
theorem mH {P : Program} {t : TypeId} {z : Value} (h : gh P t = some z) (w : World) : (zeroValue t).run P w = .ok z w := by
 unfold gh at h
 cases hi : P.info? t with
 | none => simp [hi] at h
 | some i => simp [hi] at h; simp [zeroValue, typeInfo, hi, h]
theorem DT {P : Program} {t : TypeId} {z : Value} (h : gh P t = some z) : ∃ i, P.info? t = some i ∧ i.zero = some z := by
 unfold gh at h
 cases hi : P.info? t with
 | none => simp [hi] at h
 | some i => exact ⟨i, rfl, by simpa [hi] using h⟩
theorem Rw (v : Value) : v.cells = (de v).toArray := by cases v <;> simp [Value.cells, de]
theorem Wq {P : Program} {t : TypeId} {ps : List (Nat × Value)} {K : Value → HP} {H : aP} (h : Br P t ps K H) : ∃ v, Pu P (Instr.build t ps.toArray) v ∧ K v H := by
 unfold Br at h
 generalize hz : gh P t = z at h
 generalize hu : P.underlying t = u at h
 split at h
 ·rename_i z fs
  generalize hpl : Ei P fs.toList = pl at h
  cases pl with
  | none => exact absurd h id
  | some pl =>
   simp only at h
   generalize hp : kC (fun i => pl[i]?) ps = q at h
   cases q with
   | none => exact absurd h id
   | some qs =>
    simp only at h
    generalize hf : j6 (de z) qs = c at h
    cases c with
    | none => exact absurd h id
    | some cs =>
     refine ⟨_, fun w => ?_, h⟩
     have := rU (fun i => pl[i]?) ps qs z.cells cs hp (by rw [r8]; exact hf)
     simp only [Instr.build, Sem.run_bind, mH hz, Result.andThen_ok, Go.run_underlying hu, Array.mapM_eq_mapM_toList, Sem.run_map]
     have hr := run_places (P := P) w fs.toList pl hpl
     have e : (fun f : Field => (do pure (f.offset, ← sizeOf f.type) : Sem (Nat × Nat))) = fun f => Prod.mk f.offset <$> sizeOf f.type := by funext f; exact (map_eq_pure_bind _ _).symm
     rw [e, hr]
     simp only [Result.andThen_ok, List.getElem?_toArray]
     rw [this]
     simp
 ·rename_i z n e
  generalize hkn : known P e = kn at h
  generalize hp : kC (fun i => some (i * bT P e, bT P e)) ps = q at h
  cases kn with
  | false => cases q <;> exact absurd h id
  | true =>
  cases q with
  | none => exact absurd h id
  | some qs =>
   simp only at h
   generalize hf : j6 (de z) qs = c at h
   cases c with
   | none => exact absurd h id
   | some cs =>
    obtain ⟨i, hi⟩ := nQ hkn
    refine ⟨_, fun w => ?_, h⟩
    have := rU _ ps qs z.cells cs hp (by rw [r8]; exact hf)
    simp only [Instr.build, Sem.run_bind, mH hz, Result.andThen_ok, Go.run_underlying hu, jd i hi]
    rw [this]
    simp
 ·exact absurd h id
def Rd {α : Type} (P : Program) (s : Sem α) (H : aP) (v : α) : Prop := ∀ w : World, w.heap = H → s.run P w = .ok v w
theorem Pu.rd {α : Type} {P : Program} {s : Sem α} {v : α} (h : Pu P s v) (H : aP) : Rd P s H v := fun w _ => h w
theorem adQ {P : Program} {H : aP} {a : Addr} {v : Value} (h : cell H a = some v) : Rd P (load a) H v := by
 intro w hw
 have : w.cell? a = some v := by rw [H6, hw]; exact h
 simp [this]
theorem EY {l : fL} {a : Addr} {K : Value → HP} {H : aP} (h : zx l a K H) : ∃ v, cell H a = some v ∧ K v H := by
 cases l <;> (obtain ⟨x, h1, h2⟩ := h; exact ⟨_, h1, h2⟩)
theorem Eu {a : Addr} {K : Value → HP} {H : aP} : ∀ (ls : List fL) (i : Nat) (acc : List Value), vU a i acc ls K H →
  ∃ vs : List Value, vs.length = ls.length ∧ (∀ j v, vs[j]? = some v → cell H (a.add (i + j)) = some v) ∧ K (.agg (acc.reverse ++ vs).toArray) H
 | [], i, acc, h => ⟨[], rfl, by simp, by simpa [vU] using h⟩
 | l :: r, i, acc, h => by
  obtain ⟨v, h1, h2⟩ := EY h
  obtain ⟨vs, h3, h4, h5⟩ := Eu r (i + 1) (v :: acc) h2
  refine ⟨v :: vs, by simp [h3], ?_, by simpa using h5⟩
  intro j u hj
  cases j with
  | zero => simp at hj; subst hj; exact h1
  | succ j => simp at hj; have := h4 j u hj; rw [show i + (j + 1) = i + 1 + j by omega]; exact this
theorem Dw {P : Program} {H : aP} {a : Addr} (n : Nat) (cs : List Value) (hn : cs.length = n) (h : ∀ j v, cs[j]? = some v → cell H (a.add j) = some v) : Rd P (loadCells a n) H cs.toArray := by
 intro w hw
 rw [← hn]
 exact run_loadCells_list w a cs fun j v hj => by rw [H6, hw]; exact h j v hj
theorem Vb {P : Program} {t : TypeId} (h : j8 P t = true) : ∃ d, P.underlying t = some d := by
 unfold j8 at h
 cases hu : P.underlying t with
 | none => simp [hu] at h
 | some d => exact ⟨d, rfl⟩
theorem IL {P : Program} {t : TypeId} {a : Addr} {K : Value → HP} {H : aP} (h : vj P t a K H) : ∃ v, Rd P (loadVar t a) H v ∧ K v H := by
 unfold vj at h
 generalize hg : j8 P t = g at h
 cases g with
 | true =>
  simp only at h
  generalize hl : leaves P 30 t = ls at h
  cases ls with
  | none => exact absurd h id
  | some ls =>
   simp only at h
   generalize hb : Nat.beq ls.length (bT P t) = b at h
   cases b with
   | false => exact absurd h id
   | true =>
    obtain ⟨vs, h1, h2, h3⟩ := Eu ls 0 [] h
    obtain ⟨d, hd⟩ := Vb hg
    refine ⟨_, fun w hw => ?_, h3⟩
    have := Dw (P := P) (H := H) (a := a) (bT P t) vs (by rw [h1]; exact Nat.eq_of_beq_eq_true hb) (by simpa using h2) w hw
    simp only [loadVar, Sem.run_bind, vV hd, hg, Result.andThen_ok, if_true, Ma hd, this]
    simp
 | false =>
  simp only at h
  generalize hl : (P.underlying t).bind oz = l at h
  cases l with
  | none => exact absurd h id
  | some l =>
   obtain ⟨v, h1, h2⟩ := EY h
   obtain ⟨d, hd, _⟩ := Option.bind_eq_some_iff.1 hl
   refine ⟨v, fun w hw => ?_, h2⟩
   simp only [loadVar, Sem.run_bind, vV hd, hg, Result.andThen_ok, Bool.false_eq_true, if_false, adQ h1 w hw]
theorem JN : ∀ (l : List UInt8) (s : ByteArray), ((l.map fun b => (b.toNat : Int)).foldl (fun r n => r.push (UInt8.ofNat n.toNat)) s) = ⟨s.data ++ l.toArray⟩
 | [], s => by simp
 | b :: l, s => by
  simp only [List.map_cons, List.foldl_cons]
  rw [JN l]
  simp [ByteArray.push]
theorem OI {P : Program} {src dst : TypeId} {x : Value} {K : Value → HP} {H : aP} (h : pY P src dst x K H) (hns : ∀ e s, P.underlying dst = some (.slice e) → x ≠ .string s) :
  ∃ v, Rd P (convert src dst x) H v ∧ K v H := by
 unfold pY at h
 generalize hs : P.underlying src = s at h
 generalize hd : P.underlying dst = d at h
 split at h
 ·refine ⟨_, fun w _ => ?_, h⟩
  simp [convert, Go.run_underlying hs, Go.run_underlying hd, Conv.intToInt]
 ·refine ⟨_, fun w _ => ?_, h⟩
  simp [convert, Go.run_underlying hs, Go.run_underlying hd]
 ·exact absurd rfl (hns _ _ hd)
 ·rename_i e a n c
  generalize he : P.underlying e = u at h
  split at h
  ·obtain ⟨bs, hr, hk⟩ := h
   refine ⟨_, fun w hw => ?_, hk⟩
   rw [run_convert_bytes_string w src dst e a n c hs he hd]
   cases a with
   | none =>
    simp only [Row, dO, List.map_eq_nil_iff, Array.toList_eq_nil_iff] at hr
    have : bs = .empty := by cases bs; simp at hr; subst hr; rfl
    subst this
    simp [Conv.bytesToString]
   | some a =>
    obtain ⟨h1, h2⟩ := hr
    have h3 := Dw (P := P) n (dO bs) h1 h2 w hw
    have e1 : dO bs = (bs.data.toList.map fun b => (b.toNat : Int)).map (Value.int .u8) := by simp [dO]
    rw [e1] at h3
    rw [run_bytesToString w a n c _ h3, JN]
    have e2 : (ByteArray.mk (ByteArray.empty.data ++ bs.data.toList.toArray)) = bs := by
     cases bs; simp [ByteArray.empty, ByteArray.emptyWithCapacity]; rfl
    rw [e2]
  ·exact absurd h id
 ·exact absurd h id
theorem D2 {l : fL} {v : Value} {K : Value → HP} {H : aP} (h : AI l v K H) : K v H := by
 cases l <;> (obtain ⟨x, h1, h2⟩ := h; subst h1; exact h2)
theorem Jp {K : Value → HP} {H : aP} : ∀ (ls : List fL) (cs acc : List Value), wv cs acc ls K H → K (.agg (acc.reverse ++ cs).toArray) H
 | [], cs, acc, h => by
  cases cs with
  | nil => simpa [wv] using h
  | cons c cs => exact absurd h id
 | l :: r, cs, acc, h => by
  cases cs with
  | nil => exact absurd h id
  | cons c cs =>
   have := Jp r cs (c :: acc) (D2 h)
   simpa using this
theorem Dp {P : Program} {t : TypeId} {v : Value} {K : Value → HP} {H : aP} (h : rN P t v K H) : K v H := by
 unfold rN at h
 generalize hg : j8 P t = g at h
 cases g with
 | true =>
  simp only at h
  generalize hl : leaves P 30 t = ls at h
  split at h
  ·rename_i ls cs; have := Jp ls cs.toList [] h; simpa using this
  ·exact absurd h id
 | false =>
  simp only at h
  generalize hl : (P.underlying t).bind oz = l at h
  cases l with
  | none => exact absurd h id
  | some l => exact D2 h
theorem EO {l : fL} {v : Value} {K : Value → HP} {H : aP} (h : xE l v K H) : K v H := by
 cases l <;> (simp only [xE, ak, jk, bX, bu, bA, mB, j9] at h; cases v <;> simp only at h <;> first | exact absurd h id | exact h | skip)
 rename_i k k' n
 generalize hk : decide (k' = k) = b at h
 cases b with
 | false => exact absurd h id
 | true => have := of_decide_eq_true hk; subst this; exact h
theorem LV {P : Program} {t : TypeId} {v : Value} {K : Value → HP} {H : aP} (h : Bt P t v K H) : K v H := by
 unfold Bt at h
 generalize hu : P.underlying t = u at h
 split at h
 ·exact h
 ·rename_i d _
  generalize hl : oz d = l at h
  cases l with
  | none => exact absurd h id
  | some l => exact EO h
 ·exact absurd h id
end Go.Ph
end
section
set_option linter.all false
namespace Go.Ph
open Go
theorem cS.refl (w : World) : cS w w := ⟨rfl, rfl, rfl⟩
theorem cS.trans {a b c : World} (h : cS a b) (k : cS b c) : cS a c := ⟨k.1.trans h.1, k.2.1.trans h.2.1, k.2.2.trans h.2.2⟩
theorem MX {P : Program} {t : TypeId} {kd : TypeDesc} (h : kB P t = some kd) : P.underlying t = some kd ∧ (kd = .string ∨ ∃ k, kd = .int k) := by
 unfold kB at h
 split at h
 ·rename_i k hu; simp at h; subst h; exact ⟨hu, .inr ⟨k, rfl⟩⟩
 ·rename_i hu; simp at h; subst h; exact ⟨hu, .inl rfl⟩
 ·cases h
theorem oA {P : Program} {t : TypeId} {kd : TypeDesc} (h : kB P t = some kd) {k : Value} (hk : kK kd k = true) (b : Bool) (w : World) : (Instr.checkKey b 10000 t k).run P w = .ok () w := by
 obtain ⟨hu, hd⟩ := MX h
 show (Instr.checkKey b (9999 + 1) t k).run P w = _
 rw [Instr.checkKey]
 rcases hd with rfl | ⟨j, rfl⟩
 ·cases k <;> simp [kK] at hk
  simp [Go.run_underlying hu]
 ·cases k <;> simp [kK] at hk
  simp [Go.run_underlying hu]
theorem nD {P : Program} {t : TypeId} {kd : TypeDesc} (h : kB P t = some kd) {k : Value} {es : List MapEntry} {r : Option (Nat × Value)} (hr : Instr.findNow kd k es 0 = some r) (w : World) :
  (Instr.findKey t k es).run P w = .ok r w := by
 obtain ⟨hu, hd⟩ := MX h
 simp [Instr.findKey, Go.run_underlying hu, hr]
theorem jO {P : Program} {H : aP} {r : Nat} {es : Array MapEntry} {cl : Nat} (h : H[r]? = some (.map es cl)) : Rd P (getObj r) H (.map es cl) := by
 intro w hw
 subst hw
 simp [getObj, Sem.run, h]
theorem zW {P : Program} {H : aP} {r : Nat} {m : Option Nat} {a : Nat} {b : Array Nat} {c : Nat} (h : H[r]? = some (.mapIter m a b c)) : Rd P (getObj r) H (.mapIter m a b c) := by
 intro w hw
 subst hw
 simp [getObj, Sem.run, h]
theorem afe {P : Program} {t : TypeId} {m k : Value} {ok : Bool} {K : Value → HP} {H : aP} (h : BK P t m k ok K H) : ∃ v, Rd P (Instr.lookup t m k ok) H v ∧ K v H := by
 unfold BK at h
 generalize hu : P.underlying t = u at h
 split at h
 ·rename_i kt et r
  generalize hkd : kB P kt = kd at h
  generalize hz : gh P et = z at h
  split at h
  ·rename_i kd z
   generalize hok : kK kd k = o at h
   cases o with
   | false => exact absurd h id
   | true =>
    simp only at h
    cases r with
    | none =>
     refine ⟨_, fun w hw => ?_, h⟩
     simp only [Instr.lookup, Sem.run_bind, Go.run_underlying hu, Result.andThen_ok, Sem.run_pure, oA hkd hok]
     rw [nD hkd (r := none) (by rfl)]
     simp [mH hz]
     cases ok <;> rfl
    | some r =>
     obtain ⟨es, cl, res, h1, h2, h3⟩ := h
     cases res with
     | none =>
      refine ⟨_, fun w hw => ?_, h3⟩
      simp only [Instr.lookup, Sem.run_bind, Go.run_underlying hu, Result.andThen_ok, Sem.run_pure, jO h1 w hw, oA hkd hok, nD hkd h2, mH hz]
      cases ok <;> rfl
     | some p =>
      obtain ⟨i, v⟩ := p
      have h4 := Dp h3
      refine ⟨_, fun w hw => ?_, h4⟩
      simp only [Instr.lookup, Sem.run_bind, Go.run_underlying hu, Result.andThen_ok, Sem.run_pure, jO h1 w hw, oA hkd hok, nD hkd h2]
      cases ok <;> rfl
  ·exact absurd h id
 ·exact absurd h id
theorem abE {P : Program} {it : Nat} {K : Value → Value → HP} {H : aP} (h : mQ it K H) : ∃ k v, Rd P (Instr.entry (.pointer (some ⟨it, 0, none⟩))) H (.tuple #[k, v]) ∧ K k v H := by
 obtain ⟨m, since, seen, stepped, stamp, es, e, h1, h2, h3, h4, h5⟩ := h
 refine ⟨e.key, e.val, fun w hw => ?_, h5⟩
 simp [Instr.entry, Sem.run_bind, zW h1 w hw, Result.andThen_ok, h2, jO h3 w hw, h4]
theorem uu {P : Program} {w : World} {r : Nat} {o o' : Obj} (h : w.heap[r]? = some o) (hc : ∀ c e f, o ≠ .cells c e f) :
  (setObj r o').run P w = .ok () { w with heap := w.heap.setIfInBounds r o' } := by
 simp only [setObj, Sem.run, h]
theorem IA {kd : TypeDesc} {k : Value} : ∀ (es : List MapEntry) (i j : Nat) (v : Value), Instr.findNow kd k es i = some (some (j, v)) → i ≤ j ∧ ∃ e, es[j - i]? = some e ∧ Instr.sameNow kd k e.key = some true ∧ e.val = v
 | [], i, j, v, h => by simp [Instr.findNow] at h
 | e :: es, i, j, v, h => by
  simp only [Instr.findNow] at h
  split at h
  ·rename_i hs
   simp only [Option.some.injEq, Prod.mk.injEq] at h
   obtain ⟨rfl, rfl⟩ := h
   exact ⟨Nat.le_refl _, e, by simp, hs, rfl⟩
  ·obtain ⟨h1, e', h2, h3⟩ := IA es (i + 1) j v h
   refine ⟨by omega, e', ?_, h3⟩
   rw [show j - i = (j - (i + 1)) + 1 by omega]; simpa using h2
  ·cases h
theorem XB {P : Program} {kd : TypeDesc} {k k' : Value} (h : Instr.sameNow kd k k' = some true) (w : World) : (Instr.keyThatStays k' k).run P w = .ok k w := by
 have : Instr.sameBits 10000 k' k = true := by
  unfold Instr.sameNow at h
  split at h
  ·rename_i j a j' b
   split at h
   ·rename_i hj; subst hj; simp at h; subst h; simp [Instr.sameBits]
   ·cases h
  ·rename_i a b
   simp only [Option.some.injEq] at h
   rw [Go.beq_toListBytes, qQ] at h
   have := of_decide_eq_true h; subst this; simp [Instr.sameBits, Go.beq_toListBytes, qQ]
  ·simp at h; subst h; simp [Instr.sameBits]
  ·cases h
 simp [Instr.keyThatStays, this]
theorem TG {P : Program} {t : TypeId} {m k v : Value} {K : HP} {w : World} (h : CF P t m k v K w.heap) : ∃ w', (Instr.mapUpdate t m k v).run P w = .ok () w' ∧ cS w w' ∧ K w'.heap := by
 unfold CF at h
 generalize hu : P.underlying t = u at h
 split at h
 ·rename_i kt et r
  generalize hkd : kB P kt = kd at h
  cases kd with
  | none => exact absurd h id
  | some kd =>
   simp only at h
   generalize hok : kK kd k = o at h
   cases o with
   | false => exact absurd h id
   | true =>
    obtain ⟨b, es, cl, res, rfl, h1, h2, h3⟩ := h
    cases res with
    | none =>
     refine ⟨{ w with heap := w.heap.setIfInBounds b (.map (es.push { key := k, val := v, born := cl }) (cl + 1)) }, ?_, ⟨rfl, rfl, rfl⟩, h3⟩
     simp only [Instr.mapUpdate, Sem.run_bind, Go.run_underlying hu, Result.andThen_ok, jO h1 w rfl, oA hkd hok, nD hkd h2]
     exact uu h1 (by simp)
    | some p =>
     obtain ⟨i, v'⟩ := p
     obtain ⟨_, e, he, hs, _⟩ := IA _ _ _ _ h2
     refine ⟨{ w with heap := w.heap.setIfInBounds b (.map (es.modify i fun e => { e with key := k, val := v }) cl) }, ?_, ⟨rfl, rfl, rfl⟩, h3⟩
     simp only [Instr.mapUpdate, Sem.run_bind, Go.run_underlying hu, Result.andThen_ok, jO h1 w rfl, oA hkd hok, nD hkd h2]
     have he' : es[i]? = some e := by simpa using he
     rw [he']
     simp only [Option.map_some, Option.getD_some, XB hs, Result.andThen_ok]
     exact uu h1 (by simp)
 ·exact absurd h id
theorem Yz {P : Program} {t : TypeId} {m k : Value} {K : Value → HP} {ts : Array TypeId} {ty : TypeId} (ht : ts[0]? = some t) {w : World} (h : BB P t m k K w.heap) :
  ∃ w', (Builtin.delete_ ts ty #[m, k]).run P w = .ok (.tuple #[]) w' ∧ cS w w' ∧ K (.tuple #[]) w'.heap := by
 unfold BB at h
 generalize hu : P.underlying t = u at h
 split at h
 ·rename_i kt et r
  generalize hkd : kB P kt = kd at h
  cases kd with
  | none => exact absurd h id
  | some kd =>
   simp only at h
   generalize hok : kK kd k = o at h
   cases o with
   | false => exact absurd h id
   | true =>
    obtain ⟨b, es, cl, res, rfl, h1, h2, h3⟩ := h
    have h0 : (#[Value.map (some b), k])[0]? = some (.map (some b)) := rfl
    have h0' : (#[Value.map (some b), k])[1]? = some k := rfl
    cases res with
    | none =>
     refine ⟨{ w with heap := w.heap.setIfInBounds b (.map es cl) }, ?_, ⟨rfl, rfl, rfl⟩, h3⟩
     simp only [Builtin.delete_, ht, h0, h0', Sem.run_bind, Go.run_underlying hu, Result.andThen_ok, jO h1 w rfl, oA hkd hok, nD hkd h2]
     rw [uu h1 (by simp)]; rfl
    | some p =>
     obtain ⟨i, v'⟩ := p
     refine ⟨{ w with heap := w.heap.setIfInBounds b (.map (es.eraseIdxIfInBounds i) cl) }, ?_, ⟨rfl, rfl, rfl⟩, h3⟩
     simp only [Builtin.delete_, ht, h0, h0', Sem.run_bind, Go.run_underlying hu, Result.andThen_ok, jO h1 w rfl, oA hkd hok, nD hkd h2]
     rw [uu h1 (by simp)]; rfl
 ·exact absurd h id
theorem abT {P : Program} {t kt et : TypeId} (hu : P.underlying t = some (.map kt et)) {r : Option Nat} {K : Nat → HP} {w : World} (h : mc r K w.heap) :
  ∃ b w', (Instr.range t (.map r)).run P w = .ok (.pointer (some ⟨b, 0, none⟩)) w' ∧ cS w w' ∧ K b w'.heap := by
 cases r with
 | none =>
  refine ⟨_, { w with heap := w.heap.push (.mapIter none 0 #[] 0) }, ?_, ⟨rfl, rfl, rfl⟩, h⟩
  simp [Instr.range, Go.run_underlying hu]
 | some m =>
  obtain ⟨es, cl, h1, h2⟩ := h
  refine ⟨_, { w with heap := w.heap.push (.mapIter (some m) cl #[] cl) }, ?_, ⟨rfl, rfl, rfl⟩, h2⟩
  simp [Instr.range, Go.run_underlying hu, jO h1 w rfl]
theorem acD {P : Program} (k : Nat) (hk : 0 < k) (w : World) : ∃ n w1, (choose (.mapNext k)).run P w = .ok n w1 ∧ w1.heap = w.heap ∧ cS w w1 ∧ n < k := by
 rw [run_choose]
 split
 ·exact ⟨0, w, rfl, rfl, cS.refl w, hk⟩
 ·exact ⟨_, _, rfl, rfl, ⟨rfl, rfl, rfl⟩, Nat.mod_lt _ hk⟩
theorem O0 {P : Program} {it : Nat} {K0 : HP} {K1 : Value → Value → HP} {w : World} {ty : TypeId} (h : ki it K0 K1 w.heap) :
  ∃ v w', (Instr.next (.pointer (some ⟨it, 0, none⟩)) false ty).run P w = .ok v w' ∧ cS w w' ∧ ((v = .tuple #[.bool false] ∧ K0 w'.heap) ∨ ∃ k u, v = .tuple #[.bool true, k, u] ∧ K1 k u w'.heap) := by
 unfold ki at h
 split at h
 ·rename_i a b c hit
  refine ⟨_, w, ?_, ⟨rfl, rfl, rfl⟩, .inl ⟨rfl, h⟩⟩
  simp [Instr.next, zW hit w rfl]
 ·rename_i m since seen last hit
  obtain ⟨es, cl, h1, h2, h3, h4⟩ := h
  have hn : ∀ {α : Type} (f : Unit → Sem α), True := fun _ => trivial
  simp only [Instr.next, Sem.run_bind, zW hit w rfl, Result.andThen_ok, jO h1 w rfl]
  rw [h2]
  simp only [Bool.false_eq_true, if_false, Sem.run_pure, Result.andThen_ok]
  generalize hcand : ((if ((es.filter fun e => !seen.contains e.born).filter fun e => decide (e.born < since)).isEmpty = true then #[none] else #[]) ++
   (((es.filter fun e => !seen.contains e.born).filter fun e => decide (e.born < since)) ++ ((es.filter fun e => !seen.contains e.born).filter fun e => decide (e.born ≥ since))).map some : Array (Option MapEntry)) = cand
  have hmem : ∀ (i : Nat) (c : Option MapEntry), cand[i]? = some c → (c = none ∧ ((es.filter fun e => !seen.contains e.born).filter fun e => decide (e.born < since)).isEmpty = true) ∨ ∃ e, c = some e ∧ e ∈ es ∧ seen.contains e.born = false := by
   intro i c hi
   have hm := Array.mem_of_getElem? hi
   rw [← hcand] at hm
   rcases Array.mem_append.1 hm with hm | hm
   ·split at hm
    ·rename_i he; simp at hm; exact .inl ⟨hm, he⟩
    ·simp at hm
   ·obtain ⟨e, he, rfl⟩ := Array.mem_map.1 hm
    refine .inr ⟨e, rfl, ?_⟩
    rcases Array.mem_append.1 he with he | he
    ·obtain ⟨h5, _⟩ := Array.mem_filter.1 he
     obtain ⟨h6, h7⟩ := Array.mem_filter.1 h5
     exact ⟨h6, by simpa using h7⟩
    ·obtain ⟨h5, _⟩ := Array.mem_filter.1 he
     obtain ⟨h6, h7⟩ := Array.mem_filter.1 h5
     exact ⟨h6, by simpa using h7⟩
  have hne : 0 < cand.size := by
   rw [← hcand]
   by_cases he : ((es.filter fun e => !seen.contains e.born).filter fun e => decide (e.born < since)).isEmpty = true
   ·rw [if_pos he]; simp; omega
   ·rw [if_neg he]
    simp only [Array.size_append, Array.size_map]
    have : 0 < ((es.filter fun e => !seen.contains e.born).filter fun e => decide (e.born < since)).size := by
     rcases Nat.eq_zero_or_pos ((es.filter fun e => !seen.contains e.born).filter fun e => decide (e.born < since)).size with h0 | h0
     ·exact absurd (Array.isEmpty_iff_size_eq_zero.2 h0) he
     ·exact h0
    omega
  have go : ∀ (n : Nat) (w1 : World), n < cand.size → w1.heap = w.heap → cS w w1 → ∃ v w', ((match cand[n]? with
    | some (some e) => do
     setObj it (.mapIter (some m) since (seen.push e.born) cl)
     pure (.tuple #[.bool true, e.key, e.val])
    | some none => pure (.tuple #[.bool false])
    | none => stuck "Next: no such candidate" : Sem Value).run P w1) = .ok v w' ∧ cS w w' ∧ ((v = .tuple #[.bool false] ∧ K0 w'.heap) ∨ ∃ k u, v = .tuple #[.bool true, k, u] ∧ K1 k u w'.heap) := by
   intro n w1 hn hw1 hs
   have hc : cand[n]? = some cand[n] := Array.getElem?_eq_getElem hn
   rcases hmem n _ hc with ⟨h5, h6⟩ | ⟨e, h5, h6, h7⟩
   ·rw [hc, h5]
    exact ⟨_, w1, rfl, hs, .inl ⟨rfl, by rw [hw1]; exact h3 h6⟩⟩
   ·rw [hc, h5]
    refine ⟨_, { w1 with heap := w1.heap.setIfInBounds it (.mapIter (some m) since (seen.push e.born) cl) }, ?_, ⟨hs.1, hs.2.1, hs.2.2⟩, .inr ⟨e.key, e.val, rfl, ?_⟩⟩
    ·simp only [Sem.run_bind]
     rw [uu (by rw [hw1]; exact hit) (by simp)]; rfl
    ·show K1 e.key e.val (w1.heap.setIfInBounds it _)
     rw [hw1]; exact h4 e h6 h7
  obtain ⟨n, w1, e1, e2, e3, e4⟩ := acD (P := P) cand.size hne w
  have := go n w1 e4 e2 e3
  simp only [Sem.run_bind, e1, Result.andThen_ok]
  exact this
 ·exact absurd h id
end Go.Ph
end
section
set_option linter.all false
namespace Go.Ph
open Go
def Ok {α : Type} (P : Program) (s : Sem α) (w : World) (K : α → HP) : Prop := ∃ v w', s.run P w = .ok v w' ∧ cS w w' ∧ K v w'.heap
theorem Ok.bind {α β : Type} {P : Program} {s : Sem α} {f : α → Sem β} {w : World} {K : β → HP} (h : ∃ v w', s.run P w = .ok v w' ∧ cS w w' ∧ Ok P (f v) w' K) : Ok P (s >>= f) w K := by
 obtain ⟨v, w', h1, h2, v', w'', h3, h4, h5⟩ := h
 exact ⟨v', w'', by simp [h1, h3], h2.trans h4, h5⟩
theorem Ok.step {α β : Type} {P : Program} {s : Sem α} {f : α → Sem β} {w : World} {K : β → HP} {v : α} (h : s.run P w = .ok v w) (k : Ok P (f v) w K) : Ok P (s >>= f) w K := .bind ⟨v, w, h, cS.refl w, k⟩
theorem Ok.pure {α : Type} {P : Program} {w : World} {K : α → HP} {v : α} (h : K v w.heap) : Ok P (Pure.pure v : Sem α) w K := ⟨v, w, rfl, cS.refl w, h⟩
theorem Z3 {P : Program} {w : World} {a : Addr} {v : Value} (h1 : one v = true) (h2 : (cell w.heap a).isSome = true) (h3 : kA w.heap a = false) :
  (store a v).run P w = .ok () { w with heap := ja w.heap a v } := by
 obtain ⟨u, hu⟩ := Option.isSome_iff_exists.1 h2
 have hu' : w.cell? a = some u := hu
 have h3' : w.frozen? a = false := h3
 rw [run_store P w a v .plain (by cases v <;> first | rfl | cases h1)]
 simp only [hu', h3', Bool.false_eq_true, if_false]
 rfl
theorem yj {P : Program} {a : Addr} {K : HP} : ∀ (vs : List Value) (i : Nat) (w : World), aq a i vs K w.heap → ∃ w', (storeCells a vs i).run P w = .ok () w' ∧ cS w w' ∧ K w'.heap
 | [], i, w, h => ⟨w, by simp [storeCells], cS.refl w, h⟩
 | v :: r, i, w, h => by
  obtain ⟨h1, h2, h3, h4⟩ := h
  obtain ⟨w', h5, h6, h7⟩ := yj (P := P) r (i + 1) { w with heap := ja w.heap (a.add i) v } h4
  refine ⟨w', ?_, cS.trans ⟨rfl, rfl, rfl⟩ h6, h7⟩
  simp only [storeCells, Sem.run_bind, Z3 h1 h2 h3, Result.andThen_ok, h5]
theorem kV {P : Program} (e : TypeId) (cs : Array Value) (w : World) : (newRow e cs).run P w = .ok ⟨w.heap.size, 0, none⟩ { w with heap := w.heap.push (.cells cs e (0, 0)) } := by
 simp [newRow]
theorem qW (z : Array Value) : ∀ n, (eO z n).length = n * z.size
 | 0 => by simp [eO]
 | n + 1 => by simp [eO, qW z n, Nat.succ_mul]; omega
theorem Mu (z : Array Value) : ∀ (n i : Nat), i < n * z.size → (eO z n)[i]? = z[i % z.size]?
 | 0, i, h => by simp at h
 | n + 1, i, h => by
  simp only [eO]
  by_cases hi : i < z.size
  ·rw [List.getElem?_append_left (by simpa using hi), Nat.mod_eq_of_lt hi]; simp
  ·rw [List.getElem?_append_right (by simp; omega)]
   simp only [Array.length_toList]
   rw [Mu z n (i - z.size) (by rw [Nat.succ_mul] at h; omega)]
   congr 1
   exact (Nat.mod_eq_sub_mod (by omega)).symm
theorem yW (z : Array Value) (n : Nat) : ((Array.range (n * z.size)).map fun i => z[i % z.size]!) = (eO z n).toArray := by
 apply Array.ext
 ·simp [qW]
 ·intro i h1 h2
  simp only [Array.size_map, Array.size_range] at h1
  have hz : 0 < z.size := by
   rcases Nat.eq_zero_or_pos z.size with h0 | h0
   ·rw [h0] at h1; simp at h1
   ·exact h0
  have h3 := Mu z n i h1
  have h4 : i % z.size < z.size := Nat.mod_lt _ hz
  simp only [Array.getElem_map, Array.getElem_range, List.getElem_toArray]
  rw [List.getElem?_eq_getElem (by simpa [qW] using h1), Array.getElem?_eq_getElem h4] at h3
  simp only [Option.some.injEq] at h3
  rw [h3]
  exact getElem!_pos z _ h4
theorem tv (v : Value) : (de v).toArray = v.cells := (Rw v).symm
theorem VP {P : Program} {t : TypeId} {n : Nat} {ps : List (Nat × Value)} {K : Value → HP} {w : World} (h : Ap P t n ps K w.heap) : Ok P (Instr.buildSlice t n ps.toArray) w K := by
 unfold Ap at h
 generalize hu : P.underlying t = u at h
 split at h
 ·rename_i e
  generalize hz : gh P e = z at h
  cases z with
  | none => exact absurd h id
  | some z =>
   simp only at h
   generalize h1 : Nat.ble (n * bT P e) 16777216 = b1 at h
   generalize h2 : Nat.beq (de z).length (bT P e) = b2 at h
   generalize h3 : kC (fun i => some (i * bT P e, bT P e)) ps = b3 at h
   cases b1 <;> cases b2 <;> cases b3 <;> first | exact absurd h id | skip
   rename_i qs
   simp only at h
   generalize h4 : j6 (eO (de z).toArray n) qs = c at h
   cases c with
   | none => exact absurd h id
   | some cs =>
    simp only at h
    have h1' := Nat.le_of_ble_eq_true h1
    have h2' := Nat.eq_of_beq_eq_true h2
    obtain ⟨i, hi, _⟩ := DT hz
    have hs : z.cells.size = bT P e := by rw [ri]; exact h2'
    unfold Instr.buildSlice
    refine .step (Go.run_underlying hu w) ?_
    refine .step (jd i hi w) ?_
    simp only
    rw [if_neg (by omega)]
    have hf : ∀ zz : Array Value, (zz = z.cells ∨ (zz = #[] ∧ n * bT P e = 0)) →
      Instr.fill (fun i => some (i * bT P e, bT P e)) ((Array.range (n * bT P e)).map fun i => zz[i % zz.size]!) ps = some cs.toArray := by
     rintro zz (rfl | ⟨rfl, h0⟩)
     ·rw [← hs, yW]
      refine rU _ ps qs _ cs (by rw [hs]; exact h3) (by rw [← tv]; exact h4)
     ·rw [h0]
      have e0 : eO (de z).toArray n = [] := by
       apply List.eq_nil_of_length_eq_zero
       rw [qW]; simp [h2', h0]
      rw [e0] at h4
      exact rU _ ps qs _ cs h3 (by simpa using h4)
    by_cases h0 : n * bT P e = 0
    ·rw [if_pos h0]
     refine .step (v := (#[] : Array Value)) rfl ?_
     have := hf #[] (.inr ⟨rfl, h0⟩)
     rw [this]
     refine .bind ⟨_, _, kV e _ w, ⟨rfl, rfl, rfl⟩, .pure ?_⟩
     exact h e
    ·rw [if_neg h0]
     refine .step (mH hz w) ?_
     refine .step (v := z.cells) rfl ?_
     have := hf z.cells (.inl rfl)
     rw [this]
     refine .bind ⟨_, _, kV e _ w, ⟨rfl, rfl, rfl⟩, .pure ?_⟩
     exact h e
 ·exact absurd h id
theorem YT {P : Program} {t e : TypeId} {z : Value} {l c : Int} {K : Sl → HP} {w : World} (hu : P.underlying t = some (.slice e)) (hz : gh P e = some z) (hl : (de z).length = bT P e)
  (h : oI (ju P e) (de z).toArray l c K w.heap) : Ok P (Instr.makeSlice t (.int .i64 l) (.int .i64 c)) w fun v H => ∃ s : Sl, v = s.v ∧ K s H := by
 obtain ⟨⟨h0, h1, h2, h3⟩, h4⟩ := h
 obtain ⟨i, hi, _⟩ := DT hz
 have hb : ju P e = i.bytes := by simp [ju, hi]
 have wl : IntKind.i64.wrap l = l := by unfold IntKind.wrap; simp [IntKind.bits, IntKind.signed]; omega
 have wc : IntKind.i64.wrap c = c := by unfold IntKind.wrap; simp [IntKind.bits, IntKind.signed]; omega
 have hs : z.cells.size = bT P e := by rw [ri]; exact hl
 unfold Instr.makeSlice
 refine .step (Go.run_underlying hu w) ?_
 refine .step (v := l) (by simp [asInt, asIntOf]) ?_
 refine .step (v := c) (by simp [asInt, asIntOf]) ?_
 refine .step (v := i) (by simp [typeInfo, hi]) ?_
 simp only [wl, wc]
 rw [hb] at h2
 have c1 : (decide (c < 0) || decide ((i.bytes : Int) * c > 2 ^ 48)) = false := by
  have : ¬ c < 0 := by omega
  have : ¬ ((i.bytes : Int) * c > 2 ^ 48) := by omega
  simp [*]
 have c2 : decide (l < 0) = false := by simp; omega
 have c3 : decide (l > c) = false := by simp; omega
 have c4 : ¬ ((decide (c < 0) || decide ((i.bytes : Int) * c > 2 ^ 48)) = true ∨ l < 0 ∨ l > c) := by rw [c1]; simp; omega
 have c5 : ((decide (c < 0) || decide ((i.bytes : Int) * c > 2 ^ 48)) || decide (l < 0) || decide (l > c)) = false := by rw [c1, c2, c3]; rfl
 first | rw [if_neg c4] | (rw [if_neg (by rw [c5]; simp)]) | (simp only [c1, c2, c3]; skip)
 refine .step (v := ()) (by simp) ?_
 refine .step (jd i hi w) ?_
 by_cases h0 : c.toNat * bT P e = 0
 ·rw [if_pos h0]
  refine .step (v := (#[] : Array Value)) rfl ?_
  rw [h0]
  have er : (Array.map (fun x => (#[] : Array Value)[x % (#[] : Array Value).size]!) (Array.range 0)) = #[] := by simp
  rw [er]
  refine .bind ⟨_, _, kV e _ w, ⟨rfl, rfl, rfl⟩, .pure ⟨⟨some ⟨w.heap.size, 0, none⟩, l.toNat, c.toNat⟩, rfl, ?_⟩⟩
  have e0 : eO (de z).toArray c.toNat = [] := by
   apply List.eq_nil_of_length_eq_zero
   rw [qW]; simp [hl, h0]
  have := h4 e
  rw [e0] at this
  exact this
 ·rw [if_neg h0]
  refine .step (mH hz w) ?_
  refine .step (v := z.cells) rfl ?_
  rw [← hs, yW]
  refine .bind ⟨_, _, kV e _ w, ⟨rfl, rfl, rfl⟩, .pure ⟨⟨some ⟨w.heap.size, 0, none⟩, l.toNat, c.toNat⟩, rfl, ?_⟩⟩
  have := h4 e
  rw [tv] at this
  exact this
theorem DK {P : Program} (need old : Nat) (e : TypeId) (w : World) : ∃ c w', (choose (.appendCap need old e)).run P w = .ok c w' ∧ cS w w' ∧ w'.heap = w.heap ∧ need ≤ c := by
 refine ⟨(Question.appendCap need old e).cut (w.tape w.drawn (.appendCap need old e)), { w with drawn := w.drawn + 1 }, ?_, ⟨rfl, rfl, rfl⟩, rfl, ?_⟩
 ·rw [run_choose]; simp [Question.forced]
 ·simp [Question.cut]
theorem Yt {P : Program} {e : TypeId} {s : ByteArray} {K : Sl → HP} {w : World} (h : kD s K w.heap) : Ok P (Conv.stringToBytes e s) w fun v H => ∃ s : Sl, v = s.v ∧ K s H := by
 unfold Conv.stringToBytes
 obtain ⟨c, w1, h1, h2, h3, h4⟩ := DK (P := P) s.size 0 e w
 refine .bind ⟨c, w1, h1, h2, ?_⟩
 simp only
 refine .bind ⟨_, _, kV e _ w1, ⟨rfl, rfl, rfl⟩, ?_⟩
 have hsz : ((s.data.map fun b => Value.int .u8 b.toNat) ++ Array.replicate (c - s.size) (Value.int .u8 0)).size = c := by
  simp; have : s.data.size = s.size := rfl; omega
 have hcs : ((s.data.map fun b => Value.int .u8 b.toNat) ++ Array.replicate (c - s.size) (Value.int .u8 0)) = (dO s ++ List.replicate (c - s.size) (Value.int .u8 0)).toArray := by
  apply Array.ext'; simp [dO]
 refine .bind ⟨(), { w1 with heap := w1.heap.push (.cells (dO s ++ List.replicate (c - s.size) (Value.int .u8 0)).toArray e (c, c + 1)) }, ?_, ⟨rfl, rfl, rfl⟩, .pure ⟨⟨some ⟨w1.heap.size, 0, none⟩, s.size, c⟩, rfl, ?_⟩⟩
 ·simp only [markStringish, Sem.run_bind, run_shape, World.shape?, Array.getElem?_push_size, Result.andThen_ok, run_freeze, hsz]
  simp only [World.freeze]
  rw [if_neg (by omega)]
  simp only [Result.ok.injEq, true_and]
  rw [hcs]
  congr 1
  apply Array.ext
  ·simp
  ·intro i hi hj
   simp only [Array.size_modify, Array.size_push] at hi
   rw [Array.getElem_modify, Array.getElem_push, Array.getElem_push]
   by_cases hlt : i < w1.heap.size
   ·have : w1.heap.size ≠ i := by omega
    simp [hlt, this]
   ·have : w1.heap.size = i := by omega
    simp [hlt, this]
 ·show K ⟨some ⟨w1.heap.size, 0, none⟩, s.size, c⟩ (w1.heap.push _)
  rw [h3]; exact h c e h4
theorem CP {P : Program} {H : aP} {s : Sl} {size n : Nat} {cs : List Value} (h : Row H s.a (n * size) cs) : Rd P (Builtin.firstCells size n s.v) H cs.toArray := by
 intro w hw
 obtain ⟨a, l, c⟩ := s
 cases a with
 | none => simp only [Row] at h; subst h; simp [Builtin.firstCells]
 | some a =>
  obtain ⟨h1, h2⟩ := h
  simp only [Builtin.firstCells]
  exact Dw (n * size) cs h1 h2 w hw
theorem F5 {P : Program} {t e tx ty : TypeId} {ts : Array TypeId} (e0 : ts[0]? = some t) (e3 : ts[1]? = some tx) {z : Value} (hu : P.underlying t = some (.slice e)) (hz : gh P e = some z) (hl : (de z).length = bT P e) {s : Sl} {x : Value} {n : Nat} {new : List Value} {d : TypeDesc}
  (hx : P.underlying tx = some d) (hd : ∀ k, d ≠ .int k) {w : World} (hn : Pu P (Builtin.lenOf x) n) (hnew : Rd P (Builtin.firstCells (bT P e) n x) w.heap new.toArray) {K : Sl → HP}
  (h : uK (bT P e) (ju P e) (de z).toArray s n new K w.heap) : Ok P (Builtin.append_ ts ty #[s.v, x]) w fun v H => ∃ s : Sl, v = s.v ∧ K s H := by
 obtain ⟨i, hi, _⟩ := DT hz
 have hb : ju P e = i.bytes := by simp [ju, hi]
 have hs : z.cells.size = bT P e := by rw [ri]; exact hl
 obtain ⟨h1, h2⟩ := h
 have e1 : (#[s.v, x] : Array Value)[0]? = some s.v := rfl
 have e2 : (#[s.v, x] : Array Value)[1]? = some x := rfl
 unfold Builtin.append_
 simp only [e0, e1, e2, e3]
 refine .step (Go.run_underlying hu w) ?_
 simp only
 refine .step (jd i hi w) ?_
 refine .step (Go.run_underlying hx w) ?_
 refine .step (v := false) (by cases d <;> first | rfl | exact absurd rfl (hd _)) ?_
 rw [if_neg (by simp)]
 refine .step (hn w) ?_
 by_cases hc : s.len + n ≤ s.cap
 ·rw [if_pos hc]
  rw [if_pos (by rfl)]
  refine .step (hnew w rfl) ?_
  have := h1 hc
  obtain ⟨a, l, c⟩ := s
  cases a with
  | none =>
   simp only at this ⊢
   exact .pure ⟨⟨none, l + n, c⟩, rfl, this⟩
  | some a =>
   simp only at this ⊢
   obtain ⟨w', h3, h4, h5⟩ := yj (P := P) new 0 w this
   exact .bind ⟨_, w', by simpa using h3, h4, .pure ⟨⟨some a, l + n, c⟩, rfl, h5⟩⟩
 ·rw [if_neg hc]
  obtain ⟨h3, h4, old, h5, h6⟩ := h2 (by omega)
  rw [hb] at h3
  refine .step (v := i) (by simp [typeInfo, hi]) ?_
  rw [if_neg (by simp [IntKind.max, IntKind.signed, IntKind.bits]; omega)]
  refine .step (v := i) (by simp [typeInfo, hi]) ?_
  rw [if_neg (by omega)]
  obtain ⟨c, w1, h7, h8, h9, h10⟩ := DK (P := P) (s.len + n) s.cap e w
  refine .bind ⟨c, w1, h7, h8, ?_⟩
  refine .step (v := i) (by simp [typeInfo, hi]) ?_
  refine .step (v := ()) (by simp) ?_
  refine .step (CP h5 w1 h9) ?_
  rw [if_pos (by rfl)]
  refine .step (hnew w1 h9) ?_
  refine .step (mH hz w1) ?_
  have hzc : Builtin.zeroCells z.cells (c - (s.len + n)) = (eO (de z).toArray (c - (s.len + n))).toArray := by
   unfold Builtin.zeroCells; rw [yW, tv]
  rw [hzc]
  refine .bind ⟨_, _, kV e _ w1, ⟨rfl, rfl, rfl⟩, .pure ⟨⟨some ⟨w1.heap.size, 0, none⟩, s.len + n, c⟩, rfl, ?_⟩⟩
  have := h6 e c h10
  simp only [List.append_toArray]
  rw [h9]
  exact this
theorem GU {P : Program} {t ty e : TypeId} {ts : Array TypeId} (e0 : ts[0]? = some t) (hu : P.underlying t = some (.slice e)) (hk : known P e = true) {d : Sl} {x : Value} {m n : Nat} {new : List Value} {w : World} (hn : Pu P (Builtin.lenOf x) m) (hm : n = min m d.len)
  (hnew : Rd P (Builtin.firstCells (bT P e) n x) w.heap new.toArray) {K : Int → HP} (h : m8 d n new K w.heap) : Ok P (Builtin.copy_ ts ty #[d.v, x]) w fun v H => ∃ n : Int, v = .int .i64 n ∧ K n H := by
 obtain ⟨i, hi⟩ := nQ hk
 have e1 : (#[d.v, x] : Array Value)[0]? = some d.v := rfl
 have e2 : (#[d.v, x] : Array Value)[1]? = some x := rfl
 unfold Builtin.copy_
 simp only [e0, e1, e2]
 refine .step (Go.run_underlying hu w) ?_
 simp only
 refine .step (hn w) ?_
 refine .step (jd i hi w) ?_
 have hm' : Nat.min m d.len = n := hm.symm
 rw [hm']
 refine .step (hnew w rfl) ?_
 obtain ⟨a, l, c⟩ := d
 unfold m8 at h
 cases a with
 | none => exact .pure ⟨_, rfl, h⟩
 | some a =>
  simp only at h ⊢
  obtain ⟨w', h3, h4, h5⟩ := yj (P := P) new 0 w h
  exact .bind ⟨_, w', by simpa using h3, h4, .pure ⟨_, rfl, h5⟩⟩
end Go.Ph
end
section
set_option linter.all false
namespace Go.Ph
open Go
inductive Cl where
 | F | R | E
 deriving DecidableEq
def fR (P : Program) (o : Oper) : Cl :=
 match o.op with
 | .move _ | .assign _ | .pick .. | .build .. | .nilCheck _ | .binOp .. | .unOp .. | .slice .. | .fieldAddr .. | .field .. | .indexAddr .. | .index .. | .extract .. | .makeInterface .. | .typeAssert .. | .makeFunc .. => .F
 | .load .. | .lookup .. | .entry _ => .R
 | .convert s d _ => match P.underlying s, P.underlying d with
  | _, some (.slice _) => .E
  | some (.slice _), _ => .R
  | _, _ => .F
 | .call c => match c.callee with
  | .builtin .len | .builtin .cap => match (c.argTypes.toList.head?).bind P.underlying with
   | some (.map _ _) => .R
   | _ => .F
  | .builtin .max | .builtin .min => .F
  | _ => .E
 | _ => .E
def lI (P : Program) (s : Sem Next) (w : World) (K : Value → HP) : Prop :=
 (∃ v w', s.run P w = .ok (.value v) w' ∧ cS w w' ∧ K v w'.heap) ∨
 (∃ w', s.run P w = .ok .skip w' ∧ cS w w' ∧ K undef w'.heap) ∨
 (∃ g as, s.run P w = .ok (.enter g as) w ∧ Calls P g as w (wH w K))
theorem Ok.op {P : Program} {s : Sem Value} {w : World} {K K' : Value → HP} (h : Ok P s w K') (hk : ∀ v H, K' v H → K v H) : lI P (s >>= fun v => Pure.pure (Next.value v)) w K := by
 obtain ⟨v, w', h1, h2, h3⟩ := h
 exact .inl ⟨v, w', by simp [h1], h2, hk _ _ h3⟩
theorem wj {P : Program} : ∀ (es : List (Entry P)) (f : Nat) (args : List Value) (K : Value → HP) (w : World), runT es f args K w.heap → iY P f args w K
 | [], f, args, K, w, h => absurd h id
 | e :: r, f, args, K, w, h => by
  simp only [runT] at h
  generalize hb : Nat.beq e.f f = b at h
  cases b with
  | true => have := Nat.eq_of_beq_eq_true hb; subst this; exact e.sound args K w h
  | false => exact wj r f args K w h
theorem sn {P : Program} (tab : ax P) (env : Env) : ∀ (l : List Operand) (K : List Value → HP) (H : aP), wg tab env l K H → K (l.map (ev env)) H
 | [], K, H, h => h
 | .func f :: r, K, H, h => by
  have h1 := h ⟨.func f, #[], #[]⟩ (fun args K' H' hr w hw => by
   subst hw
   have := wj tab.es f args K' w hr
   simpa using this)
  have := sn tab env r _ H h1
  exact this
 | .tmp t :: r, K, H, h => sn tab env r (fun vs => K (ev env (.tmp t) :: vs)) H h
 | .const t :: r, K, H, h => sn tab env r (fun vs => K (ev env (.const t) :: vs)) H h
 | .global t :: r, K, H, h => sn tab env r (fun vs => K (ev env (.global t) :: vs)) H h
theorem iY.op {P : Program} {f : FuncId} {args : List Value} {w : World} {K : Value → HP} {s : Sem Next} (hs : s.run P w = (callFunc f args.toArray).run P w) (h : iY P f args w K) : lI P s w K := by
 rcases h with ⟨v, w', h1, h2, h3⟩ | ⟨g, as, h1, h2⟩
 ·exact .inl ⟨v, w', by rw [hs, h1], h2, h3⟩
 ·exact .inr (.inr ⟨g, as, by rw [hs, h1], h2⟩)
theorem iY.mono {P : Program} {f : FuncId} {args : List Value} {w : World} {K K' : Value → HP} (h : iY P f args w K) (hk : ∀ v H, K v H → K' v H) : iY P f args w K' := by
 rcases h with ⟨v, w', h1, h2, h3⟩ | ⟨g, as, h1, h2⟩
 ·exact .inl ⟨v, w', h1, h2, hk _ _ h3⟩
 ·exact .inr ⟨g, as, h1, h2.mono fun e w' ⟨v, a, b, c⟩ => ⟨v, a, b, hk _ _ c⟩⟩
theorem zg {P : Program} {mx : Bool} {K : Value → HP} {H : aP} : ∀ (l : List Value) (v : Value), sQ mx K v l H → ∃ u, Pu P (l.foldlM (if mx then Builtin.max2 else Builtin.min2) v) u ∧ K u H
 | [], v, h => ⟨v, fun w => by simp, by cases v <;> exact h⟩
 | y :: r, v, h => by
  cases v <;> cases y <;> simp only [sQ] at h <;> first | exact absurd h id | skip
  rename_i k x k' y
  obtain ⟨u, h1, h2⟩ := zg (P := P) r _ h
  refine ⟨u, fun w => ?_, h2⟩
  have := h1 w
  cases mx <;> simp only [List.foldlM_cons, if_true, Bool.false_eq_true, if_false, cond_true, cond_false, Builtin.max2, Builtin.min2, Sem.run_bind, Sem.run_pure, Result.andThen_ok] at this ⊢ <;> exact this
theorem DE {α β : Type} (f : α → β) (a : Array α) : (a.toList.map f).toArray = a.map f := by apply Array.ext'; simp
theorem aeT {P : Program} {src dst : TypeId} {x : Value} {K : Value → HP} {H : aP} (h : pY P src dst x K H) (hs : ∀ e, P.underlying src ≠ some (.slice e)) (hd : ∀ e, P.underlying dst ≠ some (.slice e)) :
  ∃ v, Pu P (convert src dst x) v ∧ K v H := by
 unfold pY at h
 generalize hs' : P.underlying src = s at h
 generalize hd' : P.underlying dst = d at h
 split at h
 ·exact ⟨_, fun w => by simp [convert, Go.run_underlying hs', Go.run_underlying hd', Conv.intToInt], h⟩
 ·exact ⟨_, fun w => by simp [convert, Go.run_underlying hs', Go.run_underlying hd'], h⟩
 ·exact absurd hd' (hd _)
 ·exact absurd hs' (hs _)
 ·exact absurd h id
theorem nC {α : Type} (a : Array α) : a.toList.head? = a[0]? := by
 cases a with | mk l => cases l <;> simp
theorem Qc {P : Program} {b : Builtin} {ts : Array TypeId} {args : List Value} {K : Value → HP} {H : aP} {ty : TypeId} {cs : Array Bool} (h : rM P b ts.toList args K H)
  (hb : (b = .len ∨ b = .cap) ∧ (∀ k e, (ts.toList.head?).bind P.underlying ≠ some (.map k e)) ∨ b = .max ∨ b = .min) : ∃ v, Pu P (builtin b ts ty cs args.toArray) (.value v) ∧ K v H := by
 unfold rM at h
 split at h
 ·rename_i v
  generalize hu : (ts.toList.head?).bind P.underlying = u at h hb
  have ht : ∀ d, u = some d → ∃ t, ts[0]? = some t ∧ P.underlying t = some d := fun d hd => by
   subst hd; rw [nC] at hu; exact Option.bind_eq_some_iff.1 hu
  split at h
  ·obtain ⟨t, h1, h2⟩ := ht _ rfl
   exact ⟨_, fun w => by simp [builtin, Builtin.len_, h1, Go.run_underlying h2, goInt], h⟩
  ·obtain ⟨t, h1, h2⟩ := ht _ rfl
   exact ⟨_, fun w => by simp [builtin, Builtin.len_, h1, Go.run_underlying h2, goInt], h⟩
  ·simp at hb
  ·exact absurd h id
 ·rename_i v
  generalize hu : (ts.toList.head?).bind P.underlying = u at h hb
  have ht : ∀ d, u = some d → ∃ t, ts[0]? = some t ∧ P.underlying t = some d := fun d hd => by
   subst hd; rw [nC] at hu; exact Option.bind_eq_some_iff.1 hu
  split at h
  ·obtain ⟨t, h1, h2⟩ := ht _ rfl
   exact ⟨_, fun w => by simp [builtin, Builtin.cap_, h1, Go.run_underlying h2, goInt], h⟩
  ·exact absurd h id
 ·simp at hb
 ·simp at hb
 ·simp at hb
 ·rename_i x r
  obtain ⟨v, h1, h2⟩ := zg (P := P) r x h
  exact ⟨v, fun w => by have := h1 w; simp only [if_true] at this; simp [builtin, Builtin.max_, this], h2⟩
 ·rename_i x r
  obtain ⟨v, h1, h2⟩ := zg (P := P) r x h
  exact ⟨v, fun w => by have := h1 w; simp only [Bool.false_eq_true, if_false] at this; simp [builtin, Builtin.min_, this], h2⟩
 ·exact absurd h id
theorem qy {P : Program} {ρ : Operand → Value} {dst : Option Tmp} {b : Builtin} {args : Array Operand} {ts : Array TypeId} {type : TypeId} {pos : String} {after : Array Edge} {guard : Option (Nat × Bool)} (w : World) :
  (execOp ρ ⟨dst, .call ⟨.builtin b, args, ts⟩, type, pos, after, guard⟩).run P w = (builtin b ts type (args.map fun | .const _ => true | _ => false) (args.toList.map ρ).toArray).run P w := by
 rw [DE]; rfl
theorem FQ {P : Program} {tab : ax P} {ai : gK} {env : Env} {o : Oper} {K : Value → HP} {H : aP} (hc : fR P o = .F) (h : dB P tab ai env o K H) :
  ∃ v, Pu P (execOp (ev env) o) (.value v) ∧ K v H := by
 have val : ∀ {s : Sem Value} {v : Value}, Pu P s v → Pu P (do pure (.value (← s)) : Sem Next) (.value v) := fun hp w => by simp [hp w]
 obtain ⟨dst, op, type, pos, after, guard⟩ := o
 cases op <;> simp only [fR] at hc <;> first | (cases hc; done) | skip
 case move x => exact ⟨_, fun w => rfl, h⟩
 case assign x => exact ⟨_, fun w => rfl, h⟩
 case pick c a b =>
  simp only [dB] at h
  generalize hx : ev env c = x at h
  cases x <;> first | exact absurd h id | skip
  rename_i t
  cases t
  ·exact ⟨_, fun w => by simp [execOp, hx, asBool], h⟩
  ·exact ⟨_, fun w => by simp [execOp, hx, asBool], h⟩
 case build t ps =>
  obtain ⟨v, h1, h2⟩ := Wq (P := P) h
  refine ⟨v, val ?_, h2⟩
  rw [DE] at h1; exact h1
 case nilCheck x =>
  simp only [dB] at h
  generalize hx : ev env x = v at h
  cases v <;> first | exact absurd h id | skip
  ·obtain ⟨a, rfl, h⟩ := h
   exact ⟨_, fun w => by simp [execOp, hx], h⟩
  ·rename_i fn a c
   cases fn <;> first | exact absurd h id | skip
   exact ⟨_, fun w => by simp [execOp, hx], h⟩
 case binOp op t x y yt =>
  obtain ⟨v, h1, h2⟩ := N0 (P := P) h x y
  exact ⟨v, val h1, h2⟩
 case unOp op t x =>
  obtain ⟨v, h1, h2⟩ := YL (P := P) h
  exact ⟨v, val h1, h2⟩
 case convert s d x =>
  have hd : ∀ e, P.underlying d ≠ some (.slice e) := fun e he => by rw [he] at hc; cases hu : P.underlying s <;> simp [hu] at hc
  have hs : ∀ e, P.underlying s ≠ some (.slice e) := fun e he => by
   rw [he] at hc; cases hu : P.underlying d with
   | none => simp [hu] at hc
   | some u => cases u <;> simp [hu] at hc
  obtain ⟨v, h1, h2⟩ := aeT (P := P) h hs hd
  exact ⟨v, val h1, h2⟩
 case makeInterface t x =>
  simp only [dB] at h
  generalize hu : P.underlying t = u at h
  split at h
  ·exact ⟨_, fun w => by simp [execOp, Instr.makeInterface, Go.run_underlying hu], h⟩
  ·exact absurd h id
 case makeFunc fn first cap =>
  cases fn <;> first | exact absurd h id | skip
  rename_i f
  have h1 := h ⟨.func f, first.map (ev env), cap.map (ev env)⟩ (fun args K' H' hr w hw => by
   subst hw
   have := wj tab.es f _ K' w hr
   simpa using this)
  exact ⟨_, fun w => rfl, h1⟩
 case slice t x lo hi mx =>
  obtain ⟨v, h1, h2⟩ := ac4 (P := P) h
  exact ⟨v, val h1, h2⟩
 case fieldAddr t x f =>
  obtain ⟨v, h1, h2⟩ := adx (P := P) h
  exact ⟨v, val h1, h2⟩
 case field t x f =>
  obtain ⟨v, h1, h2⟩ := Zc (P := P) h
  exact ⟨v, val h1, h2⟩
 case indexAddr t x i =>
  obtain ⟨v, h1, h2⟩ := S4 (P := P) h
  exact ⟨v, val h1, h2⟩
 case index t x i =>
  obtain ⟨v, h1, h2⟩ := agr (P := P) h
  exact ⟨v, val h1, h2⟩
 case typeAssert x xt t ok =>
  cases ok <;> first | exact absurd h id | skip
  simp only [dB] at h
  generalize hx : ev env x = v at h
  generalize hu : P.underlying t = u at h
  split at h
  ·rename_i u' v a b
   generalize hb : Nat.beq u' t = q at h
   cases q with
   | false => exact absurd h id
   | true =>
    have := Nat.eq_of_beq_eq_true hb; subst this
    refine ⟨v, fun w => ?_, h⟩
    simp [execOp, hx, Instr.typeAssert, Go.run_underlying hu]
  ·exact absurd h id
 case extract t i =>
  simp only [dB] at h
  generalize hx : ev env t = v at h
  cases v <;> first | exact absurd h id | skip
  rename_i vs
  simp only at h
  generalize hv : vs.toList[i]? = q at h
  cases q with
  | none => exact absurd h id
  | some v =>
   have hv' : vs[i]? = some v := by simpa using hv
   exact ⟨v, fun w => by simp [execOp, hx, Instr.extract, hv'], h⟩
 case call c =>
  obtain ⟨callee, args, ts⟩ := c
  cases callee with
  | value f => simp at hc
  | invoke r m => simp at hc
  | builtin b =>
   simp only [dB] at h
   have hb : (b = .len ∨ b = .cap) ∧ (∀ k e, (ts.toList.head?).bind P.underlying ≠ some (.map k e)) ∨ b = .max ∨ b = .min := by
    cases b <;> simp at hc <;> first
     | exact .inr (.inl rfl)
     | exact .inr (.inr rfl)
     | (refine .inl ⟨by simp, fun k e he => ?_⟩; simp [nC] at he hc; simp [he] at hc)
   obtain ⟨v, h1, h2⟩ := Qc (P := P) (ty := type) (cs := args.map fun | .const _ => true | _ => false) h hb
   exact ⟨v, fun w => by rw [qy]; exact h1 w, h2⟩
end Go.Ph
end
section
set_option linter.all false
namespace Go.Ph
open Go
theorem Ce {P : Program} {tab : ax P} {ai : gK} {env : Env} {o : Oper} {K : Value → HP} {H : aP} (hc : fR P o = .R) (h : dB P tab ai env o K H) :
  ∃ v, Rd P (execOp (ev env) o) H (.value v) ∧ K v H := by
 have val : ∀ {s : Sem Value} {v : Value}, Rd P s H v → Rd P (do Pure.pure (.value (← s)) : Sem Next) H (.value v) := fun hp w hw => by simp [hp w hw]
 obtain ⟨dst, op, type, pos, after, guard⟩ := o
 cases op <;> simp only [fR] at hc <;> first | (cases hc; done) | skip
 case load t x =>
  simp only [dB] at h
  generalize hx : ev env x = v at h
  cases v <;> first | exact absurd h id | skip
  rename_i p
  cases p <;> first | exact absurd h id | skip
  rename_i a
  obtain ⟨v, h1, h2⟩ := IL h
  exact ⟨v, fun w hw => by simp [execOp, hx, Instr.loadAt, Instr.sureAddr, h1 w hw], h2⟩
 case lookup t m k ok =>
  obtain ⟨v, h1, h2⟩ := afe h
  exact ⟨v, val h1, h2⟩
 case entry it =>
  simp only [dB] at h
  generalize hx : ev env it = v at h
  split at h
  ·rename_i b
   cases it with
   | tmp t =>
    simp only at h
    generalize hai : ai t = q at h
    cases q with
    | none => exact absurd h id
    | some p =>
     obtain ⟨k, v, h1, h2⟩ := abE (P := P) h
     have h3 := Dp (Dp h2)
     exact ⟨_, fun w hw => by simp [execOp, hx, h1 w hw], h3⟩
   | const v => exact absurd h id
   | global v => exact absurd h id
   | func v => exact absurd h id
  ·exact absurd h id
 case convert s d x =>
  obtain ⟨v, h1, h2⟩ := OI (P := P) h (fun e s' hd he => by rw [hd] at hc; cases hu : P.underlying s <;> simp [hu] at hc)
  exact ⟨v, val h1, h2⟩
 case call c =>
  obtain ⟨callee, args, ts⟩ := c
  cases callee with
  | value f => simp at hc
  | invoke r m => simp at hc
  | builtin b =>
   simp only [dB] at h
   generalize has : args.toList.map (ev env) = as at h
   unfold rM at h
   split at h
   ·rename_i v
    generalize hu : (ts.toList.head?).bind P.underlying = u at h hc
    have ht : ∀ d, u = some d → ∃ t, ts[0]? = some t ∧ P.underlying t = some d := fun d hd => by
     subst hd; rw [nC] at hu; exact Option.bind_eq_some_iff.1 hu
    split at h
    ·simp at hc
    ·simp at hc
    ·obtain ⟨t, h1, h2⟩ := ht _ rfl
     rename_i r kt et
     cases r with
     | none =>
      refine ⟨_, fun w hw => ?_, h⟩
      rw [qy, has]
      simp [builtin, Builtin.len_, h1, Go.run_underlying h2, goInt]
     | some r =>
      obtain ⟨es, cl, h3, h4⟩ := h
      refine ⟨_, fun w hw => ?_, h4⟩
      rw [qy, has]
      simp [builtin, Builtin.len_, h1, Go.run_underlying h2, goInt, jO h3 w hw]
    ·exact absurd h id
   ·rename_i v
    generalize hu : (ts.toList.head?).bind P.underlying = u at h hc
    split at h
    ·simp at hc
    ·exact absurd h id
   all_goals first | exact absurd h id | (simp at hc; done) | skip
theorem Ck {P : Program} {tab : ax P} {ai : gK} {env : Env} {o : Oper} {K : Value → HP} {w : World} (h : dB P tab ai env o K w.heap) : lI P (execOp (ev env) o) w K := by
 cases hc : fR P o with
 | F => obtain ⟨v, h1, h2⟩ := FQ hc h; exact .inl ⟨v, w, h1 w, cS.refl w, h2⟩
 | R => obtain ⟨v, h1, h2⟩ := Ce hc h; exact .inl ⟨v, w, h1 w rfl, cS.refl w, h2⟩
 | E =>
  obtain ⟨dst, op, type, pos, after, guard⟩ := o
  cases op <;> simp only [fR] at hc <;> first | (cases hc; done) | (exact absurd h id) | skip
  case alloc t =>
   simp only [dB] at h
   generalize hz : gh P t = z at h
   cases z with
   | none => exact absurd h id
   | some z =>
    have h1 := h t
    refine .inl ⟨.pointer (some ⟨w.heap.size, 0, none⟩), { w with heap := w.heap.push (.cells z.cells t (0, 0)) }, ?_, ⟨rfl, rfl, rfl⟩, ?_⟩
    ·simp [execOp, Instr.alloc, mH hz, newVar, kV]
    ·rw [tv] at h1; exact h1
  case box t x =>
   have h1 := h t
   refine .inl ⟨.pointer (some ⟨w.heap.size, 0, none⟩), { w with heap := w.heap.push (.cells (ev env x).cells t (0, 0)) }, ?_, ⟨rfl, rfl, rfl⟩, ?_⟩
   ·simp [execOp, Instr.box, newVar, kV]
   ·rw [tv] at h1; exact h1
  case buildSlice t n ps =>
   have := VP (P := P) h
   rw [DE] at this
   exact this.op fun _ _ h => h
  case store t x v =>
   simp only [dB] at h
   generalize hx : ev env x = p at h
   cases p <;> first | exact absurd h id | skip
   rename_i p
   cases p <;> first | exact absurd h id | skip
   rename_i a
   simp only at h
   generalize hb : Nat.beq (de (ev env v)).length (bT P t) = b at h
   generalize hkn : known P t = kn at h
   cases b <;> cases kn <;> first | exact absurd h id | skip
   have hb' := Nat.eq_of_beq_eq_true hb
   obtain ⟨w', h1, h2, h3⟩ := yj (P := P) _ _ w h
   refine .inr (.inl ⟨w', ?_, h2, h3⟩)
   obtain ⟨i, hi⟩ := nQ hkn
   simp only [execOp, hx, Instr.storeAt, Instr.sureAddr, storeVar, Sem.run_bind, Sem.run_pure, Result.andThen_ok, jd i hi]
   rw [if_neg (by rw [ri]; simp [hb'])]
   rw [r8]
   simp [h1]
  case convert s d x =>
   simp only [dB] at h
   generalize hx : ev env x = v at h
   unfold pY at h
   generalize hs : P.underlying s = su at h hc
   generalize hd : P.underlying d = du at h hc
   split at h
   ·rename_i a _ _ _; cases a <;> simp at hc
   ·rename_i a _ ; cases a <;> simp at hc
   ·rename_i e s'
    generalize he : P.underlying e = u at h
    split at h
    ·have h1 := Yt (P := P) (e := e) h
     have e1 : execOp (ev env) ⟨dst, .convert s d x, type, pos, after, guard⟩ = (convert s d (ev env x) >>= fun v => Pure.pure (Next.value v)) := rfl
     rw [e1, hx]
     refine Ok.op (K' := fun v H => ∃ s : Sl, v = s.v ∧ K s.v H) ?_ fun v H ⟨s, h1, h2⟩ => by subst h1; exact h2
     obtain ⟨v, w', h2, h3, sl, h4, h5⟩ := h1
     refine ⟨v, w', ?_, h3, sl, h4, h5⟩
     simp [convert, Go.run_underlying hs, Go.run_underlying hd, Go.run_underlying he, h2]
    ·exact absurd h id
   ·simp at hc
   ·exact absurd h id
  case makeMap t r =>
   cases r with
   | some r => exact absurd h id
   | none => exact .inl ⟨.map (some w.heap.size), { w with heap := w.heap.push (.map #[] 0) }, by simp [execOp, Instr.makeMap], ⟨rfl, rfl, rfl⟩, h⟩
  case makeSlice t l c =>
   simp only [dB] at h
   generalize hu : P.underlying t = u at h
   generalize hl : ev env l = lv at h
   generalize hcv : ev env c = cv at h
   split at h
   ·rename_i e l' c'
    generalize hz : gh P e = z at h
    cases z with
    | none => exact absurd h id
    | some z =>
     simp only at h
     generalize hb : Nat.beq (de z).length (bT P e) = b at h
     cases b with
     | false => exact absurd h id
     | true =>
      have := YT (P := P) hu hz (Nat.eq_of_beq_eq_true hb) h
      simp only [execOp, hl, hcv]
      exact this.op fun v H ⟨s, h1, h2⟩ => by subst h1; exact h2
   ·exact absurd h id
  case mapUpdate t m k v =>
   obtain ⟨w', h1, h2, h3⟩ := TG (P := P) h
   exact .inr (.inl ⟨w', by simp [execOp, h1], h2, h3⟩)
  case range t x =>
   simp only [dB] at h
   generalize hu : P.underlying t = u at h
   generalize hx : ev env x = v at h
   split at h
   ·obtain ⟨b, w', h1, h2, h3⟩ := abT hu h
    exact .inl ⟨_, w', by simp [execOp, hx, h1], h2, h3⟩
   ·exact absurd h id
  case next it str =>
   cases str with
   | true => exact absurd h id
   | false =>
    simp only [dB] at h
    generalize hx : ev env it = v at h
    split at h
    ·rename_i b
     obtain ⟨v, w', h1, h2, h3⟩ := O0 (P := P) (ty := type) h
     rcases h3 with ⟨rfl, h3⟩ | ⟨k, u, rfl, h3⟩
     ·exact .inl ⟨_, w', by simp [execOp, hx, h1], h2, h3⟩
     ·exact .inl ⟨_, w', by simp [execOp, hx, h1], h2, h3⟩
    ·exact absurd h id
  case call c =>
   obtain ⟨callee, args, ts⟩ := c
   cases callee with
   | invoke r m => exact absurd h id
   | value f =>
    have fin : ∀ (fn : Fn) (first cap : Array Value), ev env f = .func fn first cap → pU P ⟨fn, first, cap⟩ (args.toList.map (ev env)) K w.heap → lI P (execOp (ev env) ⟨dst, .call ⟨.value f, args, ts⟩, type, pos, after, guard⟩) w K := by
     intro fn first cap hf hv
     have hv := hv w rfl
     cases fn <;> first | exact absurd hv id | skip
     rename_i g
     refine iY.op ?_ hv
     have : execOp (ev env) ⟨dst, .call ⟨.value f, args, ts⟩, type, pos, after, guard⟩ = (do let d ← Deferred.ofValue (ev env f) (args.map (ev env)); invoke d.target d.args) := rfl
     rw [this, hf]
     simp only [Deferred.ofValue, pure_bind, invoke]
     congr 2
     apply Array.ext'; simp
    cases f with
    | func g =>
     simp only [dB] at h
     have h1 := sn tab env _ _ _ h
     refine fin (.func g) #[] #[] rfl ?_
     intro w' hw'
     rw [← hw'] at h1
     have := wj tab.es g _ K w' h1
     simpa using this
    | tmp t =>
     simp only [dB] at h
     generalize hx : ev env (.tmp t) = v at h
     cases v <;> first | exact absurd h id | skip
     refine fin _ _ _ hx ?_
     intro w' hw'
     have := h w' hw'
     revert this
     rename_i fn _ _
     cases fn <;> simp only <;> intro this <;> first | exact absurd this id | exact this.mono fun v H h => LV h
    | const t =>
     simp only [dB] at h
     generalize hx : ev env (.const t) = v at h
     cases v <;> first | exact absurd h id | skip
     refine fin _ _ _ hx ?_
     intro w' hw'
     have := h w' hw'
     revert this
     rename_i fn _ _
     cases fn <;> simp only <;> intro this <;> first | exact absurd this id | exact this.mono fun v H h => LV h
    | global t => exact absurd h id
   | builtin b =>
    have red : lI P (builtin b ts type (args.map fun | .const _ => true | _ => false) (args.toList.map (ev env)).toArray) w K → lI P (execOp (ev env) ⟨dst, .call ⟨.builtin b, args, ts⟩, type, pos, after, guard⟩) w K := by
     intro h
     rcases h with ⟨v, w', h1, h2⟩ | ⟨w', h1, h2⟩ | ⟨g, as, h1, h2⟩
     ·exact .inl ⟨v, w', by rw [qy]; exact h1, h2⟩
     ·exact .inr (.inl ⟨w', by rw [qy]; exact h1, h2⟩)
     ·exact .inr (.inr ⟨g, as, by rw [qy]; exact h1, h2⟩)
    refine red ?_
    simp only [dB] at h
    generalize args.toList.map (ev env) = as at h
    unfold rM at h
    split at h
    ·simp at hc; split at hc <;> simp at hc
    ·simp at hc; split at hc <;> simp at hc
    ·rename_i a n c x
     generalize hu : (ts.toList.head?).bind P.underlying = u at h
     split at h
     ·rename_i e
      rw [nC] at hu
      obtain ⟨t, ht, hu⟩ := Option.bind_eq_some_iff.1 hu
      generalize hz : gh P e = z at h
      generalize hb : Nat.beq (z.elim 0 fun z => (de z).length) (bT P e) = b at h
      split at h
      ·rename_i z a' n' c'
       generalize hv : (ts.toList[1]?).bind P.underlying = q at h
       split at h
       ·obtain ⟨tx, htx, hvx⟩ := Option.bind_eq_some_iff.1 hv
        obtain ⟨new, h1, h2⟩ := h
        have hb' := Nat.eq_of_beq_eq_true hb
        have := F5 (P := P) (ty := type) (s := ⟨a, n, c⟩) (x := .slice a' n' c') (n := n') ht (by simpa using htx) hu hz hb' hvx (by simp) (fun w => by simp [Builtin.lenOf]) (CP (s := ⟨a', n', c'⟩) h1) h2
        exact this.op fun v H ⟨s, h3, h4⟩ => by subst h3; exact h4
       ·exact absurd h id
      ·rename_i s
       generalize hv : (ts.toList[1]?).bind P.underlying = q at h
       generalize hby : Nat.beq (ju P e) 1 = q2 at h
       split at h
       ·obtain ⟨tx, htx, hvx⟩ := Option.bind_eq_some_iff.1 hv
        have hb' := Nat.eq_of_beq_eq_true hb
        have hby' := Nat.eq_of_beq_eq_true hby
        have hs1 : bT P e = 1 := by rw [← hb']; rfl
        have hnew : Rd P (Builtin.firstCells (bT P e) s.size (.string s)) w.heap (dO s).toArray := by
         intro w' _
         have e1 : s.extract 0 s.size = s := by simp
         simp only [Builtin.firstCells, e1, Sem.run_pure]
         congr 1
         apply Array.ext'; simp [dO]
        have h2 : uK (bT P e) (ju P e) (de (.int .u8 0)).toArray ⟨a, n, c⟩ s.size (dO s) (fun s => K s.v) w.heap := by
         rw [hs1, hby']; exact h
        have := F5 (P := P) (ty := type) (s := ⟨a, n, c⟩) (x := .string s) (n := s.size) ht (by simpa using htx) hu hz hb' hvx (by simp) (fun w => by simp [Builtin.lenOf]) hnew h2
        exact this.op fun v H ⟨s, h3, h4⟩ => by subst h3; exact h4
       ·exact absurd h id
      ·exact absurd h id
     ·exact absurd h id
    ·rename_i a n c x
     generalize hu : (ts.toList.head?).bind P.underlying = u at h
     split at h
     ·rename_i e
      rw [nC] at hu
      obtain ⟨t, ht, hu⟩ := Option.bind_eq_some_iff.1 hu
      generalize hkn : known P e = kn at h
      split at h
      ·rename_i a' n' c'
       obtain ⟨new, h1, h2⟩ := h
       have := GU (P := P) (ty := type) (d := ⟨a, n, c⟩) (x := .slice a' n' c') (m := n') (n := min n' n) ht hu hkn (fun w => by simp [Builtin.lenOf]) rfl (CP (s := ⟨a', n', c'⟩) h1) h2
       exact this.op fun v H ⟨s, h3, h4⟩ => by subst h3; exact h4
      ·rename_i s
       generalize hb : Nat.beq (bT P e) 1 = b at h
       cases b with
       | false => exact absurd h id
       | true =>
        have hs1 := Nat.eq_of_beq_eq_true hb
        have hnew : Rd P (Builtin.firstCells (bT P e) (min s.size n) (.string s)) w.heap (dO (s.extract 0 (min s.size n))).toArray := by
         intro w' _
         simp only [Builtin.firstCells, Sem.run_pure]
         congr 1
         apply Array.ext'; simp [dO]
        have := GU (P := P) (ty := type) (d := ⟨a, n, c⟩) (x := .string s) (m := s.size) (n := min s.size n) ht hu hkn (fun w => by simp [Builtin.lenOf]) rfl hnew h
        exact this.op fun v H ⟨s, h3, h4⟩ => by subst h3; exact h4
      ·exact absurd h id
     ·exact absurd h id
    ·rename_i m k
     generalize hu : ts.toList.head? = u at h
     cases u with
     | none => exact absurd h id
     | some t =>
      rw [nC] at hu
      obtain ⟨w', h1, h2, h3⟩ := Yz (P := P) (ty := type) hu h
      exact .inl ⟨_, w', by simp [builtin, h1], h2, h3⟩
    ·simp at hc
    ·simp at hc
    ·exact absurd h id
end Go.Ph
end
section
set_option linter.all false
namespace Go.Ph
open Go
def bit (t : Nat) : Nat := 1 <<< t
def rm (L t : Nat) : Nat := L ^^^ (L &&& bit t)
def has (L t : Nat) : Bool := L.testBit t
theorem ez (t u : Nat) : has (bit t) u = decide (t = u) := by
 unfold has bit; rw [Nat.one_shiftLeft, Nat.testBit_two_pow]
theorem cR (a b u : Nat) : has (a ||| b) u = (has a u || has b u) := by unfold has; exact Nat.testBit_or a b u
theorem W3 (L t u : Nat) : has (rm L t) u = (has L u && !decide (t = u)) := by
 unfold rm has; rw [Nat.testBit_xor, Nat.testBit_and]
 have := ez t u; unfold has at this; rw [this]
 cases L.testBit u <;> cases decide (t = u) <;> rfl
theorem iP (u : Nat) : has 0 u = false := by unfold has; exact Nat.zero_testBit u
def mF : List Operand → Nat
 | [] => 0
 | .tmp t :: r => bit t ||| mF r
 | _ :: r => mF r
theorem G4 : ∀ (l : List Operand) (t : Nat), Operand.tmp t ∈ l → has (mF l) t = true
 | [], t, h => by simp at h
 | x :: r, t, h => by
  rcases List.mem_cons.1 h with rfl | h
  ·simp [mF, cR, ez]
  ·have := G4 r t h
   cases x <;> simp [mF, cR, this]
def sD (ops : Array Oper) (o : Oper) : Nat :=
 match o.guard with
 | none => 0
 | some (j, _) => match (ops[j]?).bind (·.dst) with | some t => bit t | none => 0
def dY (ops : Array Oper) (o : Oper) : Nat := mF o.op.operands.toList ||| sD ops o
def Ag (L : Nat) (a : Act) (env : Env) : Prop := ∀ t, has L t = true → a.tmps.getD t undef = env t
theorem Ag.mono {L L' : Nat} {a : Act} {env : Env} (h : Ag L a env) (hl : ∀ t, has L' t = true → has L t = true) : Ag L' a env := fun t ht => h t (hl t ht)
theorem Ag.yH {L M : Nat} {a : Act} {env : Env} (h : Ag (L ||| M) a env) : Ag L a env := h.mono fun t ht => by simp [cR, ht]
theorem Ag.uC {L M : Nat} {a : Act} {env : Env} (h : Ag (L ||| M) a env) : Ag M a env := h.mono fun t ht => by simp [cR, ht]
theorem Gy {L : Nat} {a : Act} {env : Env} (h : Ag L a env) (x : Operand) (hx : ∀ t, x = .tmp t → has L t = true) : a.eval x = ev env x := by
 cases x with
 | tmp t => exact h t (hx t rfl)
 | const v => rfl
 | global g => rfl
 | func f => rfl
theorem Vy {P : Program} {tab : ax P} {ai : gK} {env : Env} {o : Oper} {K : Value → HP} {H : aP} (h : dB P tab ai env o K H) : ∀ cs b, o.op ≠ .select cs b := by
 intro cs b e
 unfold dB at h
 rw [e] at h
 exact h
theorem Env.F9 {env : Env} {t : Nat} {b : Bool} (h : env t = .bool b) : env.ref t b = env := by
 funext u
 unfold Env.ref
 cases hb : Nat.beq u t with
 | true => have := Nat.eq_of_beq_eq_true hb; subst this; simp [h]
 | false => rfl
theorem uo {P : Program} {tab : ax P} {ai : gK} {env : Env} {o : Oper} {K : Value → HP} {H : aP} {ops : Array Oper} {a : Act} (h : dB P tab ai env o K H) (hr : Ag (dY ops o) a env) :
  execOp a.eval o = execOp (ev env) o :=
 execOp_congr o (Vy h) fun x hx => Gy (hr.yH) x fun t ht => by subst ht; exact G4 _ t (by simpa using hx)
def jA (v : Value) (want : Bool) : Bool := match v with | .bool b => b == want | _ => false
theorem vk {ops : Array Oper} {o : Oper} {a : Act} {j : Nat} {want : Bool} {t : Nat} (hg : o.guard = some (j, want)) (ht : (ops[j]?).bind (·.dst) = some t) {v : Value} (hv : a.tmps.getD t undef = v) :
  Region.wanted o (yielded ops a.tmps) = jA v want := by
 unfold Region.wanted
 rw [hg]
 simp only [yielded, ht, Option.bind_some]
 subst hv
 have e : a.tmps.getD t undef = (a.tmps[t]?).getD undef := by simp [Array.getD_eq_getD_getElem?]
 rw [e]
 cases hq : a.tmps[t]? with
 | none => rfl
 | some v => cases v <;> simp only [Option.getD_some, jA] <;> rfl
def Vf (P : Program) (n : Nat) (o : Oper) (K : Env → HP) (env : Env) (a : Act) (w : World) (a' : Act) (w' : World) : Prop :=
 cS w w' ∧ ∃ v, a' = a.put o.dst v ∧ K (env.set n o.dst v) w'.heap
theorem lI.wp {P : Program} {o : Oper} {a : Act} {w : World} {K : Value → HP} {s : Sem Next} (hs : execOp a.eval o = s) (h : lI P s w K) {Q : Exit → Act → World → Prop} {next : Act → World → Prop}
  (hn : ∀ v w', cS w w' → K v w'.heap → next (a.put o.dst v) w') : o.wp P a w next Q := by
 unfold Oper.wp
 rw [hs]
 rcases h with ⟨v, w', h1, h2, h3⟩ | ⟨w', h1, h2, h3⟩ | ⟨g, as, h1, h2⟩
 ·rw [h1]; exact hn v w' h2 h3
 ·rw [h1]; exact hn undef w' h2 h3
 ·rw [h1]
  refine h2.mono fun e w' ⟨v, he, h3, h4⟩ => ?_
  subst he
  exact hn v w' h3 h4
theorem wE {P : Program} {tab : ax P} {ai : gK} {ops : Array Oper} {n : Nat} {o : Oper} {K : Env → HP} {env : Env} {a : Act} {w : World} {i : Nat} (hi : ops[i]? = some o)
  (h : jZ P tab ai ops n o K env w.heap) (hr : Ag (dY ops o) a env) {Q : Exit → Act → World → Prop} : wpOp P ops Q i (Vf P n o K env a w) a w := by
 unfold wpOp
 simp only [hi]
 unfold jZ at h
 cases hg : o.guard with
 | none =>
  rw [hg] at h
  have hw : Region.wanted o (yielded ops a.tmps) = true := by unfold Region.wanted; rw [hg]
  rw [if_pos hw]
  exact .inl ((Ck h).wp (uo h hr) fun v w' h1 h2 => ⟨h1, v, rfl, h2⟩)
 | some jw =>
  obtain ⟨j, want⟩ := jw
  rw [hg] at h
  simp only at h
  generalize ht : (ops[j]?).bind (·.dst) = d at h
  cases d with
  | none => exact absurd h id
  | some t =>
   simp only at h
   have hat : a.tmps.getD t undef = env t := by
    refine hr t ?_
    simp [dY, cR, sD, hg, ht, ez]
   have hwn := vk (a := a) hg ht hat
   generalize hv : env t = v at h hwn
   cases v <;> first | exact absurd h id | skip
   ·rename_i b
    have hre := Env.F9 hv
    cases b <;> cases want <;> simp only [hre] at h <;> simp only [jA] at hwn <;> simp only [hwn] <;> simp only [beq_self_eq_true, if_true, Bool.false_eq_true, if_false, show (false == true) = false from rfl, show (true == false) = false from rfl]
    ·exact .inl ((Ck h).wp (uo h hr) fun v w' h1 h2 => ⟨h1, v, rfl, h2⟩)
    ·exact ⟨cS.refl w, undef, rfl, h⟩
    ·exact ⟨cS.refl w, undef, rfl, h⟩
    ·exact .inl ((Ck h).wp (uo h hr) fun v w' h1 h2 => ⟨h1, v, rfl, h2⟩)
   ·simp only [jA] at hwn
    simp only [hwn, Bool.false_eq_true, if_false]
    exact ⟨cS.refl w, undef, rfl, h⟩
def uV (n L : Nat) : Option Nat → Nat
 | none => L
 | some d => bif Nat.blt d n then rm L d else L
theorem aeu {n L : Nat} {a : Act} {env : Env} {d : Option Nat} {v : Value} (hs : a.tmps.size = n) (h : Ag (uV n L d) a env) : Ag L (a.put d v) (env.set n d v) := by
 intro t ht
 cases d with
 | none => exact h t ht
 | some d =>
  simp only [Act.put, Env.set]
  by_cases hd : d < n
  ·have hb : Nat.blt d n = true := by simpa [Nat.blt_eq] using hd
   simp only [uV, hb, cond_true] at h ⊢
   by_cases e : t = d
   ·subst e
    rw [← hs] at hd
    simp [Array.getD, Nat.beq_refl, hd]
   ·have hne : Nat.beq t d = false := by
     cases hq : Nat.beq t d with
     | false => rfl
     | true => exact absurd (Nat.eq_of_beq_eq_true hq) e
    have h1 := h t (by rw [W3]; simp [ht]; omega)
    simp only [hne, cond_false]
    rw [← h1]
    simp [Array.getD_eq_getD_getElem?, Array.getElem?_setIfInBounds_ne (show d ≠ t by omega)]
  ·have hb : Nat.blt d n = false := by
    cases hq : Nat.blt d n with
    | false => rfl
    | true => rw [Nat.blt_eq] at hq; exact absurd hq hd
   simp only [uV, hb, cond_false] at h ⊢
   have h1 := h t ht
   rw [← h1]
   rw [Array.setIfInBounds_eq_of_size_le (by omega)]
theorem Am (a : Act) (d : Option Nat) (v : Value) : (a.put d v).tmps.size = a.tmps.size := by cases d <;> simp [Act.put]
theorem CZ (a : Act) (d : Option Nat) (v : Value) : (a.put d v).defers = a.defers := by cases d <;> simp [Act.put]
theorem Mr (a : Act) (d : Option Nat) (v : Value) (t : Nat) (h : d ≠ some t) : (a.put d v).tmps.getD t undef = a.tmps.getD t undef := by
 cases d with
 | none => rfl
 | some d => simp [Act.put, Array.getD_eq_getD_getElem?, Array.getElem?_setIfInBounds_ne (show d ≠ t from fun e => h (by rw [e]))]
def jS : Option Nat → Nat
 | none => 0
 | some d => bit d
def jy : List Oper → Nat
 | [] => 0
 | o :: r => jS o.dst ||| jy r
def Aq (n : Nat) (ops : Array Oper) : List Oper → Nat → Nat
 | [], L => L
 | o :: r, L => uV n (Aq n ops r L) o.dst ||| dY ops o
def eN (n : Nat) (a : Act) (w : World) (asg : Nat) (a' : Act) (w' : World) : Prop :=
 cS w w' ∧ a'.tmps.size = n ∧ a'.defers = [] ∧ ∀ t, has asg t = false → a'.tmps.getD t undef = a.tmps.getD t undef
theorem eN.refl {n : Nat} {a : Act} {w : World} (h : a.tmps.size = n) (h' : a.defers = []) (asg : Nat) : eN n a w asg a w := ⟨cS.refl w, h, h', fun _ _ => rfl⟩
theorem eN.trans {n : Nat} {a b c : Act} {u v w : World} {m k : Nat} (h : eN n a u m b v) (h' : eN n b v k c w) : eN n a u (m ||| k) c w :=
 ⟨h.1.trans h'.1, h'.2.1, h'.2.2.1, fun t ht => by
  rw [cR, Bool.or_eq_false_iff] at ht
  rw [h'.2.2.2 t ht.2, h.2.2.2 t ht.1]⟩
theorem eN.mono {n : Nat} {a b : Act} {u v : World} {m k : Nat} (h : eN n a u m b v) (hk : ∀ t, has m t = true → has k t = true) : eN n a u k b v :=
 ⟨h.1, h.2.1, h.2.2.1, fun t ht => h.2.2.2 t (by
  cases hm : has m t with
  | false => rfl
  | true => rw [hk t hm] at ht; cases ht)⟩
theorem eN.put {n : Nat} {a : Act} {w w' : World} (hs : a.tmps.size = n) (hd : a.defers = []) (d : Option Nat) (v : Value) (h : cS w w') : eN n a w (jS d) (a.put d v) w' :=
 ⟨h, by rw [Am, hs], by rw [CZ, hd], fun t ht => Mr a d v t (by
  rintro rfl
  simp [jS, ez] at ht)⟩
theorem J6 {P : Program} {tab : ax P} {ai : gK} {ops : Array Oper} {n : Nat} {K : Env → HP} {L : Nat} {Q : Exit → Act → World → Prop} {a0 : Act} {w0 : World} {asg : Nat} (hq : ∀ a w env, eN n a0 w0 asg a w → Ag L a env → K env w.heap → Q .normal a w) :
  ∀ (l : List Oper) (k : Nat) (a : Act) (w : World) (env : Env) (m : Nat), ops.toList.drop k = l → A9 P tab ai ops n l K env w.heap → Ag (Aq n ops l L) a env → eN n a0 w0 m a w → (∀ t, has (m ||| jy l) t = true → has asg t = true) →
   wpOps P ops Q (List.range' k l.length) a w
 | [], k, a, w, env, m, hl, h, hg, hb, hm => by
  simp only [List.length_nil, List.range'_zero, wpOps]
  exact hq a w env (hb.mono fun t ht => hm t (by simp [cR, ht])) hg h
 | o :: r, k, a, w, env, m, hl, h, hg, hb, hm => by
  simp only [List.length_cons, List.range'_succ]
  rw [wpOps_cons]
  have hi : ops[k]? = some o := by
   have := congrArg (·[0]?) hl; simpa using this
  refine wpOp_mono (fun a' w' ⟨h1, v, h2, h3⟩ => ?_) (wE hi h hg.uC)
  subst h2
  exact J6 hq r (k + 1) _ w' _ (m ||| jS o.dst) (by rw [← List.drop_drop, hl]; rfl) h3 (aeu hb.2.1 hg.yH) (hb.trans (eN.put hb.2.1 hb.2.2.1 o.dst v h1))
   (fun t ht => hm t (by simp only [jy, cR, Bool.or_eq_true] at ht ⊢; rcases ht with (h | h) | h <;> simp [h]))
end Go.Ph
end
section
set_option linter.all false
namespace Go.Ph
open Go
def kX (e : Edge) : Bool := Region.binds .any e
def pI (B : List Nat) : List Edge → Nat
 | [] => 0
 | e :: r => (bif kX e then bit e.on ||| B.getD e.on 0 else 0) ||| pI B r
theorem Kn (B : List Nat) (j : Nat) : ∀ l : List Edge, has (pI B l) j = true ↔ ∃ e ∈ l, kX e = true ∧ (j = e.on ∨ has (B.getD e.on 0) j = true)
 | [] => by simp [pI, iP]
 | e :: r => by
  simp only [pI, cR, Bool.or_eq_true, Kn B j r, List.mem_cons]
  constructor
  ·rintro (h | ⟨e', h1, h2⟩)
   ·cases hb : kX e with
    | false => rw [hb] at h; simp [iP] at h
    | true =>
     rw [hb] at h
     simp only [cond_true, cR, Bool.or_eq_true, ez, decide_eq_true_eq] at h
     exact ⟨e, .inl rfl, hb, h.imp Eq.symm id⟩
   ·exact ⟨e', .inr h1, h2⟩
  ·rintro ⟨e', rfl | h1, h2, h3⟩
   ·left
    rw [h2]
    simp only [cond_true, cR, Bool.or_eq_true, ez, decide_eq_true_eq]
    exact h3.imp Eq.symm id
   ·exact .inr ⟨e', h1, h2, h3⟩
def qz : List Oper → List Nat → List Nat
 | [], acc => acc
 | o :: r, acc => qz r (acc ++ [pI acc o.after.toList])
def bk (B : List Nat) (k : Nat) : Nat := B.getD k 0
def dA (ops : Array Oper) (k : Nat) : Option Nat := (ops[k]?).bind (·.dst)
def jL (ops : Array Oper) (B : List Nat) : Bool :=
 (List.range ops.size).all fun i => match ops[i]? with
  | some o => Nat.beq (bk B i) (pI B o.after.toList) && o.after.toList.all fun e => !kX e || Nat.blt e.on i
  | none => true
def ij (ops : Array Oper) (n : Nat) (B : List Nat) : Bool :=
 (List.range ops.size).all fun i => match dA ops i with
  | none => true
  | some d => Nat.blt d n && (List.range ops.size).all fun k => Nat.beq i k || match ops[k]? with
   | none => true
   | some o => (match o.dst with | some d' => !Nat.beq d d' | none => true) && (!has (dY ops o) d || has (bk B k) i || has (bk B i) k)
def sub (A D : Nat) : Nat := A ^^^ (A &&& D)
theorem Fg (A D t : Nat) : has (sub A D) t = (has A t && !has D t) := by
 unfold sub has; rw [Nat.testBit_xor, Nat.testBit_and]
 cases A.testBit t <;> cases D.testBit t <;> rfl
def dstsOf (ops : Array Oper) (S : Nat) : List Nat → Nat
 | [] => 0
 | i :: r => (bif has S i then jS (dA ops i) else 0) ||| dstsOf ops S r
theorem Hw (ops : Array Oper) (S t : Nat) : ∀ l : List Nat, has (dstsOf ops S l) t = true ↔ ∃ i ∈ l, has S i = true ∧ dA ops i = some t
 | [] => by simp [dstsOf, iP]
 | i :: r => by
  simp only [dstsOf, cR, Bool.or_eq_true, Hw ops S t r, List.mem_cons]
  constructor
  ·rintro (h | ⟨e', h1, h2⟩)
   ·cases hb : has S i with
    | false => rw [hb] at h; simp [iP] at h
    | true =>
     rw [hb] at h
     refine ⟨i, .inl rfl, hb, ?_⟩
     cases hd : dA ops i with
     | none => rw [hd] at h; simp [jS, iP] at h
     | some d => rw [hd] at h; simp [jS, ez] at h; rw [h]
   ·exact ⟨e', .inr h1, h2⟩
  ·rintro ⟨e', rfl | h1, h2, h3⟩
   ·left; rw [h2, h3]; simp [jS, ez]
   ·exact .inr ⟨e', h1, h2, h3⟩
def uZ (ops : Array Oper) (B : List Nat) : List Nat → Nat
 | [] => 0
 | k :: r => (match ops[k]? with | some o => sub (dY ops o) (dstsOf ops (bk B k) (List.range ops.size)) | none => 0) ||| uZ ops B r
def C5 (ops : Array Oper) (B : List Nat) (L : Nat) : Nat := sub L (jy ops.toList) ||| uZ ops B (List.range ops.size)
def subset (m A C : Nat) : Bool := (List.range m).all fun i => !has A i || has C i
def qa (P : Program) (ops : Array Oper) (B : List Nat) (C i : Nat) (hs : List Nat) : Bool :=
 (List.range ops.size).all fun k => !has C k || match ops[k]? with
  | none => true
  | some o => match fR P o with
   | .R => has (bk B i) k || (hs.contains k && o.dst.isSome && (List.range ops.size).all fun j => !(has C j || Nat.beq j i) || match dA ops j with
    | none => true
    | some d => !has (dY ops o) d || (!has (bk B j) k && !Nat.beq j k))
   | _ => true
def C4 (P : Program) (ops : Array Oper) (i : Nat) : Bool := match ops[i]? with | some o => (match fR P o with | .E => true | _ => false) | none => true
def iU (P : Program) (ops : Array Oper) (B : List Nat) : Nat → ke → Bool
 | C, .done => (List.range ops.size).all fun i => has C i
 | C, .take i p => Nat.blt i ops.size && !has C i && subset ops.size (bk B i) C && !C4 P ops i && iU P ops B (C ||| bit i) p
 | C, .aM i hs p => Nat.blt i ops.size && !has C i && subset ops.size (bk B i) C && ((List.range ops.size).all fun j => has C j || Nat.beq j i || !subset ops.size (bk B j) C) && qa P ops B C i hs && iU P ops B (C ||| bit i) p
 | C, .alt i hs p j hs' q => Nat.blt i ops.size && !has C i && Nat.blt j ops.size && !has C j && ((List.range ops.size).all fun k => has C k || Nat.beq k i || Nat.beq k j || !subset ops.size (bk B k) C) &&
  qa P ops B C i hs && iU P ops B (C ||| bit i) p && qa P ops B C j hs' && iU P ops B (C ||| bit j) q
  && subset ops.size (bk B i) C && subset ops.size (bk B j) C
def Jr (P : Program) (ops : Array Oper) (n : Nat) (p : ke) : Bool :=
 jL ops (qz ops.toList []) && ij ops n (qz ops.toList []) && iU P ops (qz ops.toList []) 0 p
section
variable {P : Program} {tab : ax P} {ai : gK} {ops : Array Oper} {n : Nat} {B : List Nat}
theorem ua (h : jL ops B = true) {i : Nat} {o : Oper} (hi : ops[i]? = some o) :
  (∀ j, has (bk B i) j = true ↔ ∃ e ∈ o.after.toList, kX e = true ∧ (j = e.on ∨ has (bk B e.on) j = true)) ∧ ∀ e ∈ o.after.toList, kX e = true → e.on < i := by
 unfold jL at h
 have hlt := (Array.getElem?_eq_some_iff.1 hi).1
 have h1 := List.all_eq_true.1 h i (List.mem_range.2 hlt)
 rw [hi] at h1
 simp only [Bool.and_eq_true] at h1
 refine ⟨fun j => ?_, fun e he hb => ?_⟩
 ·rw [Nat.eq_of_beq_eq_true h1.1]; exact Kn B j _
 ·have h2 := List.all_eq_true.1 h1.2 e he
  rw [hb] at h2
  simpa [Nat.blt_eq] using h2
theorem HY (h : jL ops B = true) : ∀ (i : Nat), i < ops.size → ∀ j, has (bk B i) j = true → j < i := by
 intro i
 induction i using Nat.strongRecOn with
 | _ i ih =>
  intro hi j hj
  have hi' : ops[i]? = some ops[i] := Array.getElem?_eq_getElem hi
  obtain ⟨e, he, hb, h1⟩ := ((ua h hi').1 j).1 hj
  have hlt := (ua h hi').2 e he hb
  rcases h1 with rfl | h1
  ·exact hlt
  ·have := ih e.on hlt (by omega) j h1; omega
theorem F6 (h : jL ops B = true) (S : Nat → Prop) (hS : ∀ i o, ops[i]? = some o → S i → ∀ e ∈ o.after.toList, kX e = true → S e.on) :
  ∀ (i : Nat) (o : Oper), ops[i]? = some o → (∀ e ∈ o.after.toList, kX e = true → S e.on) → ∀ j, has (bk B i) j = true → S j := by
 intro i
 induction i using Nat.strongRecOn with
 | _ i ih =>
  intro o hi hd j hj
  obtain ⟨e, he, hb, h1⟩ := ((ua h hi).1 j).1 hj
  have hlt := (ua h hi).2 e he hb
  rcases h1 with rfl | h1
  ·exact hd e he hb
  ·have hsz := (Array.getElem?_eq_some_iff.1 hi).1
   have he' : ops[e.on]? = some (ops[e.on]'(by omega)) := Array.getElem?_eq_getElem _
   exact ih e.on hlt _ he' (fun e' h2 h3 => hS _ _ he' (hd e he hb) e' h2 h3) j h1
theorem rz (h : ij ops n B = true) {i d : Nat} (hi : dA ops i = some d) : d < n ∧ ∀ k o, ops[k]? = some o → k ≠ i → o.dst ≠ some d ∧ (has (dY ops o) d = true → has (bk B k) i = true ∨ has (bk B i) k = true) := by
 unfold ij at h
 have hlt : i < ops.size := by
  unfold dA at hi
  rcases Nat.lt_or_ge i ops.size with h' | h'
  ·exact h'
  ·simp [Array.getElem?_eq_none h'] at hi
 have h1 := List.all_eq_true.1 h i (List.mem_range.2 hlt)
 rw [hi] at h1
 simp only [Bool.and_eq_true] at h1
 refine ⟨by simpa [Nat.blt_eq] using h1.1, fun k o hk hne => ?_⟩
 have h2 := List.all_eq_true.1 h1.2 k (List.mem_range.2 (Array.getElem?_eq_some_iff.1 hk).1)
 have hb : Nat.beq i k = false := by
  cases hq : Nat.beq i k with
  | false => rfl
  | true => exact absurd (Nat.eq_of_beq_eq_true hq).symm hne
 rw [hb, hk] at h2
 simp only [Bool.false_or, Bool.and_eq_true] at h2
 refine ⟨fun hd => ?_, fun hr => ?_⟩
 ·rw [hd] at h2; simp at h2
 ·have h3 := h2.2
  rw [hr] at h3
  simpa using h3
theorem KI {m A C : Nat} (h : subset m A C = true) (j : Nat) (hj : j < m) (ha : has A j = true) : has C j = true := by
 have := List.all_eq_true.1 h j (List.mem_range.2 hj)
 rw [ha] at this
 simpa using this
theorem Mb {m A C : Nat} (h : ∀ j, j < m → has A j = true → has C j = true) : subset m A C = true := by
 refine List.all_eq_true.2 fun j hj => ?_
 cases ha : has A j with
 | false => simp
 | true => simp [h j (List.mem_range.1 hj) ha]
def ni (P : Program) (ops : Array Oper) (o : Oper) (a : Act) (w : World) (v : Value) : Prop :=
 (Region.wanted o (yielded ops a.tmps) = true ∧ (execOp a.eval o).run P w = .ok (.value v) w) ∨ (Region.wanted o (yielded ops a.tmps) = false ∧ v = undef)
theorem ni.wpOp {i : Nat} {o : Oper} {a : Act} {w : World} {v : Value} (hi : ops[i]? = some o) (h : ni P ops o a w v) {Q : Exit → Act → World → Prop} {next : Act → World → Prop} (hn : next (a.put o.dst v) w) : Go.wpOp P ops Q i next a w := by
 unfold Go.wpOp
 simp only [hi]
 rcases h with ⟨h1, h2⟩ | ⟨h1, rfl⟩
 ·rw [if_pos h1]; refine .inl ?_; unfold Oper.wp; rw [h2]; exact hn
 ·rw [if_neg (by rw [h1]; simp)]; exact hn
theorem Ya {o : Oper} (h : fR P o ≠ .E) {env : Env} {K : Value → HP} {H : aP} (hx : dB P tab ai env o K H) :
  ∃ v, K v H ∧ Rd P (execOp (ev env) o) H (.value v) ∧ (fR P o = .F → Pu P (execOp (ev env) o) (.value v)) := by
 cases hc : fR P o with
 | F => obtain ⟨v, h1, h2⟩ := FQ hc hx; exact ⟨v, h2, h1.rd H, fun _ => h1⟩
 | R => obtain ⟨v, h1, h2⟩ := Ce hc hx; exact ⟨v, h2, h1, fun h => by cases h⟩
 | E => exact absurd hc h
theorem O5 {o : Oper} {K : Env → HP} {env : Env} {H : aP} (h : jZ P tab ai ops n o K env H) (hc : fR P o ≠ .E) :
  ∃ v, K (env.set n o.dst v) H ∧ ∀ (a : Act) (w : World), Ag (dY ops o) a env → (w.heap = H ∨ fR P o = .F) → ni P ops o a w v := by
 have run : ∀ {K' : Value → HP}, dB P tab ai env o K' H → (∀ v, K' v H → K (env.set n o.dst v) H) → (∀ a : Act, Ag (dY ops o) a env → Region.wanted o (yielded ops a.tmps) = true) →
   ∃ v, K (env.set n o.dst v) H ∧ ∀ (a : Act) (w : World), Ag (dY ops o) a env → (w.heap = H ∨ fR P o = .F) → ni P ops o a w v := by
  intro K' hx hk hw
  obtain ⟨v, h1, h2, h3⟩ := Ya hc hx
  refine ⟨v, hk v h1, fun a w hr hh => .inl ⟨hw a hr, ?_⟩⟩
  rw [uo hx hr]
  rcases hh with hh | hh
  ·exact h2 w hh
  ·exact h3 hh w
 unfold jZ at h
 cases hg : o.guard with
 | none =>
  rw [hg] at h
  exact run h (fun _ h => h) fun a _ => by unfold Region.wanted; rw [hg]
 | some jw =>
  obtain ⟨j, want⟩ := jw
  rw [hg] at h
  simp only at h
  generalize ht : (ops[j]?).bind (·.dst) = d at h
  cases d with
  | none => exact absurd h id
  | some t =>
   simp only at h
   have hwn : ∀ a : Act, Ag (dY ops o) a env → Region.wanted o (yielded ops a.tmps) = jA (env t) want := fun a hr => by
    refine vk (a := a) hg ht ?_
    refine hr t ?_
    simp [dY, cR, sD, hg, ht, ez]
   generalize hv : env t = v at h hwn
   cases v <;> first | exact absurd h id | skip
   ·rename_i b
    have hre := Env.F9 hv
    cases b <;> cases want <;> simp only [hre] at h <;> simp only [jA] at hwn
    ·exact run h (fun _ h => h) hwn
    ·exact ⟨undef, h, fun a w hr _ => .inr ⟨hwn a hr, rfl⟩⟩
    ·exact ⟨undef, h, fun a w hr _ => .inr ⟨hwn a hr, rfl⟩⟩
    ·exact run h (fun _ h => h) hwn
   ·simp only [jA] at hwn
    exact ⟨undef, h, fun a w hr _ => .inr ⟨hwn a hr, rfl⟩⟩
theorem Qi {k : Nat} {o : Oper} {d : Nat} {env : Env} {H : aP} (hk : ops[k]? = some o) (hd : o.dst = some d) (hc : fR P o = .R) (h : recheck P tab ai ops k env H) (a : Act) (w : World) (hr : Ag (dY ops o) a env) (hw : w.heap = H)
  {v0 : Value} (hv0 : env d = v0) (hu : ∀ j want t, o.guard = some (j, want) → (ops[j]?).bind (·.dst) = some t → jA (env t) want = false → v0 = undef) : ni P ops o a w v0 := by
 have run : dB P tab ai env o (fun v _ => v = env d) H → Region.wanted o (yielded ops a.tmps) = true → ni P ops o a w v0 := by
  intro hx hw'
  obtain ⟨v, h1, h2⟩ := Ce hc hx
  refine .inl ⟨hw', ?_⟩
  rw [uo hx hr, h1 w hw, h2, hv0]
 unfold recheck at h
 rw [hk] at h
 simp only [hd] at h
 cases hg : o.guard with
 | none =>
  rw [hg] at h
  exact run h (by unfold Region.wanted; rw [hg])
 | some jw =>
  obtain ⟨j, want⟩ := jw
  rw [hg] at h
  simp only at h
  generalize ht : (ops[j]?).bind (·.dst) = q at h
  cases q with
  | none => exact absurd h id
  | some t =>
   simp only at h
   have hwn : Region.wanted o (yielded ops a.tmps) = jA (env t) want := by
    refine vk (a := a) hg ht ?_
    refine hr t ?_
    simp [dY, cR, sD, hg, ht, ez]
   have hu' := hu j want t hg ht
   generalize hv : env t = v at h hwn hu'
   cases v <;> first | exact absurd h id | skip
   ·rename_i b
    cases b <;> cases want <;> simp only [jA] at hwn hu'
    ·exact run h hwn
    ·exact .inr ⟨hwn, by simpa using hu'⟩
    ·exact .inr ⟨hwn, by simpa using hu'⟩
    ·exact run h hwn
   ·simp only [jA] at hwn hu'
    exact .inr ⟨hwn, by simpa using hu'⟩
end
end Go.Ph
end
section
set_option linter.all false
namespace Go.Ph
open Go
section
variable {P : Program} {tab : ax P} {ai : gK} {ops : Array Oper} {n : Nat} {B : List Nat}
def hM (ops : Array Oper) (B : List Nat) (val : Nat → Value) (base : Nat → Value) (k : Nat) (f : Nat → Value) : Prop :=
 ∀ o t, ops[k]? = some o → has (dY ops o) t = true → (∀ i, has (bk B k) i = true → dA ops i = some t → f t = val i) ∧ ((∀ i, has (bk B k) i = true → dA ops i ≠ some t) → f t = base t)
def gV (ops : Array Oper) (S : Nat → Prop) (val : Nat → Value) (base f : Nat → Value) : Prop :=
 ∀ t, (∀ j, S j → dA ops j = some t → f t = val j) ∧ ((∀ j, S j → dA ops j ≠ some t) → f t = base t)
theorem IN {i d : Nat} (h : dA ops i = some d) : i < ops.size := by
 unfold dA at h
 rcases Nat.lt_or_ge i ops.size with h' | h'
 ·exact h'
 ·simp [Array.getElem?_eq_none h'] at h
theorem mN {i : Nat} {o : Oper} (h : ops[i]? = some o) : dA ops i = o.dst := by simp [dA, h]
theorem QV (hs : ij ops n B = true) {i j d : Nat} (hi : dA ops i = some d) (hj : dA ops j = some d) : i = j := by
 rcases Nat.decEq i j with h | h
 ·exfalso
  have hlt := IN hj
  have hj' : ops[j]? = some ops[j] := Array.getElem?_eq_getElem hlt
  exact ((rz hs hi).2 j _ hj' (fun e => h e.symm)).1 (by rw [← mN hj']; exact hj)
 ·exact h
theorem gV.read (hs : ij ops n B = true) {S : Nat → Prop} {val base f : Nat → Value} (h : gV ops S val base f) {k : Nat} (hk : ∀ j, has (bk B k) j = true → S j) (hn : ∀ j o t, S j → ops[k]? = some o → dA ops j = some t → has (dY ops o) t = true → has (bk B k) j = true) :
  hM ops B val base k f := by
 intro o t ho ht
 exact ⟨fun i hi hd => (h t).1 i (hk i hi) hd, fun hno => (h t).2 fun j hj hd => hno j (hn j o t hj ho hd ht) hd⟩
theorem gV.read' (hs : ij ops n B = true) {S : Nat → Prop} {val base f : Nat → Value} (h : gV ops S val base f) {k : Nat} (hk : ∀ j, has (bk B k) j = true → S j) (hn : ∀ j, S j → has (bk B j) k = false) (hns : ¬ S k) :
  hM ops B val base k f := by
 refine h.read hs hk fun j o t hj ho hd ht => ?_
 rcases Nat.decEq j k with hjk | hjk
 ·rcases ((rz hs hd).2 k o ho (fun e => hjk e.symm)).2 ht with h1 | h1
  ·exact h1
  ·rw [hn j hj] at h1; cases h1
 ·subst hjk; exact absurd hj hns
theorem hM.congr {val val' base f : Nat → Value} {k : Nat} (h : hM ops B val base k f) (hv : ∀ i, has (bk B k) i = true → val' i = val i) : hM ops B val' base k f := by
 intro o t ho ht
 exact ⟨fun i hi hd => by rw [hv i hi]; exact (h o t ho ht).1 i hi hd, (h o t ho ht).2⟩
theorem hM.same {val base base' f g : Nat → Value} {k : Nat} {o : Oper} (ho : ops[k]? = some o) (h : hM ops B val base k f) (h' : hM ops B val base' k g) (hb : ∀ t, has (dY ops o) t = true → (∀ i, has (bk B k) i = true → dA ops i ≠ some t) → base t = base' t) :
  ∀ t, has (dY ops o) t = true → f t = g t := by
 intro t ht
 by_cases hw : ∃ i, has (bk B k) i = true ∧ dA ops i = some t
 ·obtain ⟨i, hi, hd⟩ := hw
  rw [(h o t ho ht).1 i hi hd, (h' o t ho ht).1 i hi hd]
 ·have hno : ∀ i, has (bk B k) i = true → dA ops i ≠ some t := fun i hi hd => hw ⟨i, hi, hd⟩
  rw [(h o t ho ht).2 hno, (h' o t ho ht).2 hno, hb t ht hno]
theorem gV.add {S : Nat → Prop} {val val' base f f' : Nat → Value} {i : Nat} (hs : ij ops n B = true) (h : gV ops S val base f) (hv : ∀ j, S j → val' j = val j) (hi : ¬ S i)
  (hf : ∀ t, (dA ops i = some t → f' t = val' i) ∧ (dA ops i ≠ some t → f' t = f t)) : gV ops (fun j => S j ∨ j = i) val' base f' := by
 intro t
 constructor
 ·rintro j (hj | rfl) hd
  ·by_cases e : dA ops i = some t
   ·exact absurd (QV hs hd e ▸ hj) hi
   ·rw [(hf t).2 e, (h t).1 j hj hd, hv j hj]
  ·exact (hf t).1 hd
 ·intro hno
  rw [(hf t).2 (hno i (.inr rfl))]
  exact (h t).2 fun j hj => hno j (.inl hj)
theorem gV.iff {S S' : Nat → Prop} {val base f : Nat → Value} (h : gV ops S val base f) (he : ∀ j, S' j ↔ S j) : gV ops S' val base f := fun t => ⟨fun j hj => (h t).1 j ((he j).1 hj), fun hno => (h t).2 fun j hj => hno j ((he j).2 hj)⟩
theorem GK (hs : ij ops n B = true) {i : Nat} {o : Oper} (hi : ops[i]? = some o) (env : Env) (v : Value) : ∀ t, (dA ops i = some t → env.set n o.dst v t = v) ∧ (dA ops i ≠ some t → env.set n o.dst v t = env t) := by
 intro t
 rw [mN hi]
 constructor
 ·intro hd
  have hlt := (rz hs (by rw [mN hi]; exact hd)).1
  rw [hd]
  have hb : Nat.blt t n = true := by simpa [Nat.blt_eq] using hlt
  simp [Env.set, hb, Nat.beq_refl]
 ·intro hd
  cases ho : o.dst with
  | none => rfl
  | some d =>
   have hne : Nat.beq t d = false := by
    cases hq : Nat.beq t d with
    | false => rfl
    | true => exact absurd (by rw [ho, Nat.eq_of_beq_eq_true hq]) hd
   simp only [Env.set]
   cases Nat.blt d n <;> simp [hne]
theorem JX (hs : ij ops n B = true) {i : Nat} {o : Oper} (hi : ops[i]? = some o) (a : Act) (ha : a.tmps.size = n) (v : Value) : ∀ t, (dA ops i = some t → (a.put o.dst v).tmps.getD t undef = v) ∧ (dA ops i ≠ some t → (a.put o.dst v).tmps.getD t undef = a.tmps.getD t undef) := by
 intro t
 rw [mN hi]
 constructor
 ·intro hd
  have hlt := (rz hs (by rw [mN hi]; exact hd)).1
  rw [hd]
  rw [← ha] at hlt
  simp [Act.put, Array.getD, hlt]
 ·intro hd; exact Mr a o.dst v t hd
def uP (P : Program) (ops : Array Oper) (B : List Nat) (val base : Nat → Value) (k : Nat) (H : aP) : Prop :=
 ∀ o (a : Act) (w : World), ops[k]? = some o → hM ops B val base k (fun t => a.tmps.getD t undef) → (w.heap = H ∨ fR P o = .F) → ni P ops o a w (val k)
structure Inv (P : Program) (ops : Array Oper) (n : Nat) (B : List Nat) (base abase : Nat → Value) (C : Nat) (D : Array Bool) (val : Nat → Value) (env : Env) (a : Act) (w : World) : Prop where
 eG : D.size = ops.size
 dc : ∀ k, D.getD k true = true → k < ops.size → has C k = true
 cl : ∀ k, has C k = true → k < ops.size
 cd : ∀ k, k < ops.size → has C k = true → ∀ j, has (bk B k) j = true → has C j = true
 dd : ∀ k o, ops[k]? = some o → D.getD k true = true → ∀ e ∈ o.after.toList, kX e = true → D.getD e.on false = true
 fc : gV ops (fun k => has C k = true) val base env
 fd : gV ops (fun k => D.getD k false = true) val abase (fun t => a.tmps.getD t undef)
 sz : a.tmps.size = n
 df : a.defers = []
 pend : ∀ k o, ops[k]? = some o → has C k = true → D.getD k true = false → fR P o ≠ .E ∧ uP P ops B val base k w.heap
theorem hU {D : Array Bool} {k : Nat} (h : k < D.size) : D.getD k true = D.getD k false := by simp [Array.getD, h]
theorem nv {D : Array Bool} {k : Nat} (h : ¬ k < D.size) : D.getD k false = false := by simp [Array.getD, h]
theorem jU {D : Array Bool} {i : Nat} (hi : i < D.size) (k : Nat) (b : Bool) : (D.setIfInBounds i true).getD k b = (if k = i then true else D.getD k b) := by
 by_cases h : k = i
 ·subst h; simp [Array.getD, hi]
 ·simp [Array.getD_eq_getD_getElem?, Array.getElem?_setIfInBounds_ne (show i ≠ k from fun e => h e.symm), h]
def left (D : Array Bool) (m : Nat) : Nat := ((List.range m).filter fun k => !D.getD k true).length
theorem yZ {D : Array Bool} {m i : Nat} (hi : i < m) (hD : D.size = m) (h : D.getD i true = false) : left (D.setIfInBounds i true) m + 1 = left D m := by
 unfold left
 have key : ∀ l : List Nat, l.Nodup → i ∈ l → (l.filter fun k => !(D.setIfInBounds i true).getD k true).length + 1 = (l.filter fun k => !D.getD k true).length := by
  intro l
  induction l with
  | nil => intro _ h; cases h
  | cons x l ih =>
   intro hnd hm
   rw [List.nodup_cons] at hnd
   rcases Nat.decEq x i with hx | hx
   ·have hm' : i ∈ l := by
     rcases List.mem_cons.1 hm with rfl | h
     ·exact absurd rfl hx
     ·exact h
    have e : (D.setIfInBounds i true).getD x true = D.getD x true := by rw [jU (by omega)]; simp [hx]
    have := ih hnd.2 hm'
    rw [List.filter_cons, List.filter_cons, e]
    cases D.getD x true
    ·simp only [Bool.not_false, if_true, List.length_cons]; omega
    ·simp only [Bool.not_true, Bool.false_eq_true, if_false]; exact this
   ·subst hx
    have e : (D.setIfInBounds x true).getD x true = true := by rw [jU (by omega)]; simp
    have e2 : (l.filter fun k => !(D.setIfInBounds x true).getD k true) = l.filter fun k => !D.getD k true := by
     apply List.filter_congr
     intro k hk
     rw [jU (by omega)]
     have : k ≠ x := fun e => hnd.1 (e ▸ hk)
     simp [this]
    rw [List.filter_cons, List.filter_cons, e, h, e2]
    simp only [Bool.not_true, Bool.not_false, Bool.false_eq_true, if_false, if_true, List.length_cons]
 exact key _ List.nodup_range (List.mem_range.2 hi)
theorem Dl {D : Array Bool} {m : Nat} (h : left D m = 0) : ∀ k, k < m → D.getD k true = true := by
 intro k hk
 unfold left at h
 have := List.eq_nil_of_length_eq_zero h
 have h2 := List.filter_eq_nil_iff.1 this k (List.mem_range.2 hk)
 simpa using h2
theorem zk (hb : jL ops B = true) {D : Array Bool} (hD : D.size = ops.size) (h : Region.ready .any ops D = []) : ∀ k, k < ops.size → D.getD k true = true := by
 intro k
 induction k using Nat.strongRecOn with
 | _ k ih =>
  intro hk
  cases hd : D.getD k true with
  | true => rfl
  | false =>
   exfalso
   have hk' : ops[k]? = some ops[k] := Array.getElem?_eq_getElem hk
   have : k ∈ Region.ready .any ops D := mem_ready.2 ⟨hd, ops[k], hk', fun e he hbe => by
    have hlt := (ua hb hk').2 e (by simpa using he) hbe
    have := ih e.on hlt (by omega)
    rw [← hU (by omega)]; exact this⟩
   rw [h] at this; cases this
theorem Inv.Av {base abase : Nat → Value} {C : Nat} {D : Array Bool} {val : Nat → Value} {env : Env} {a : Act} {w : World} (hb : jL ops B = true) (hs : ij ops n B = true) (h : Inv P ops n B base abase C D val env a w) (hbase : ∀ k o t, ops[k]? = some o → has (dY ops o) t = true → (∀ i, has (bk B k) i = true → dA ops i ≠ some t) → abase t = base t)
  {k : Nat} {o : Oper} (hk : ops[k]? = some o) (hr : k ∈ Region.ready .any ops D) :
  hM ops B val base k (fun t => a.tmps.getD t undef) ∧ (∀ j, has (bk B k) j = true → D.getD j false = true) := by
 obtain ⟨h1, o', hk', h2⟩ := mem_ready.1 hr
 have : o' = o := by rw [hk] at hk'; cases hk'; rfl
 subst this
 have hB : ∀ j, has (bk B k) j = true → D.getD j false = true := F6 hb (fun j => D.getD j false = true) (fun i o hi hS e he hbe => by
   have hlt := (Array.getElem?_eq_some_iff.1 hi).1
   have := h.dd i o hi (by rw [hU (by rw [h.eG]; exact hlt)]; exact hS) e he hbe
   exact this) k o' hk fun e he hbe => h2 e (by simpa using he) hbe
 refine ⟨?_, hB⟩
 have hdown : ∀ j, D.getD j false = true → has (bk B j) k = false := by
  intro j hj
  cases hq : has (bk B j) k with
  | false => rfl
  | true =>
   have hjs : j < ops.size := by
    rw [← h.eG]
    rcases Nat.lt_or_ge j D.size with hh | hh
    ·exact hh
    ·rw [nv (by omega)] at hj; cases hj
   have hj' : ops[j]? = some ops[j] := Array.getElem?_eq_getElem hjs
   have := F6 hb (fun j => D.getD j false = true) (fun i o hi hS e he hbe => h.dd i o hi (by rw [hU (by rw [h.eG]; exact (Array.getElem?_eq_some_iff.1 hi).1)]; exact hS) e he hbe) j _ hj' (fun e he hbe => h.dd j _ hj' (by rw [hU (by rw [h.eG]; exact hjs)]; exact hj) e he hbe) k hq
   have hks : k < D.size := by rw [h.eG]; exact (Array.getElem?_eq_some_iff.1 hk).1
   rw [← hU hks, h1] at this; cases this
 have hkD : ¬ (D.getD k false = true) := by
  have hks : k < D.size := by rw [h.eG]; exact (Array.getElem?_eq_some_iff.1 hk).1
  rw [← hU hks, h1]; simp
 have hr := h.fd.read' hs hB hdown hkD
 intro o'' t ho ht
 obtain ⟨r1, r2⟩ := hr o'' t ho ht
 refine ⟨r1, fun hno => ?_⟩
 rw [r2 hno]
 have : o'' = o' := by rw [hk] at ho; cases ho; rfl
 subst this
 exact hbase k o'' t hk ht hno
theorem uP.congr {val val' base : Nat → Value} {k : Nat} {H H' : aP} (h : uP P ops B val base k H) (hv : ∀ i, has (bk B k) i = true → val' i = val i) (hk : val' k = val k) (hH : H' = H) : uP P ops B val' base k H' := by
 subst hH
 intro o a w ho hr hh
 rw [hk]
 exact h o a w ho (hr.congr fun i hi => (hv i hi).symm) hh
theorem Inv.take {base abase : Nat → Value} {C : Nat} {D : Array Bool} {val : Nat → Value} {env : Env} {a : Act} {w : World} (hb : jL ops B = true) (hs : ij ops n B = true) (h : Inv P ops n B base abase C D val env a w) {K : Env → HP}
  {i : Nat} {o : Oper} (hi : ops[i]? = some o) (hc : has C i = false) (hsub : ∀ j, has (bk B i) j = true → has C j = true) (hcl : fR P o ≠ .E) (hx : jZ P tab ai ops n o K env w.heap) :
  ∃ v, K (env.set n o.dst v) w.heap ∧ Inv P ops n B base abase (C ||| bit i) D (fun k => if k = i then v else val k) (env.set n o.dst v) a w := by
 obtain ⟨v, h1, h2⟩ := O5 hx hcl
 have hlt := (Array.getElem?_eq_some_iff.1 hi).1
 refine ⟨v, h1, ?_⟩
 have hv : ∀ j, has C j = true → (fun k => if k = i then v else val k) j = val j := fun j hj => by
  have : j ≠ i := by rintro rfl; rw [hc] at hj; cases hj
  simp [this]
 have hD : D.getD i true = false := by
  cases hq : D.getD i true with
  | false => rfl
  | true => rw [h.dc i hq hlt] at hc; cases hc
 constructor
 ·exact h.eG
 ·exact fun k hk hl => by rw [cR, h.dc k hk hl]; rfl
 ·intro k hk; rw [cR, Bool.or_eq_true, ez, decide_eq_true_eq] at hk
  rcases hk with hk | rfl
  ·exact h.cl k hk
  ·exact hlt
 ·intro k hl hk j hj
  rw [cR, Bool.or_eq_true, ez, decide_eq_true_eq] at hk ⊢
  rcases hk with hk | rfl
  ·exact .inl (h.cd k hl hk j hj)
  ·exact .inl (hsub j hj)
 ·exact h.dd
 ·have := h.fc.add hs hv (by rw [hc]; simp) (f' := env.set n o.dst v) (i := i) (fun t => by
   have := GK (n := n) (B := B) hs hi env v t
   simpa using this)
  exact this.iff fun j => by rw [cR, Bool.or_eq_true, ez, decide_eq_true_eq]; exact ⟨fun h => h.imp id Eq.symm, fun h => h.imp id Eq.symm⟩
 ·intro t
  refine ⟨fun j hj hd => ?_, (h.fd t).2⟩
  have hjC : has C j = true := by
   have hjs : j < D.size := by
    rcases Nat.lt_or_ge j D.size with hh | hh
    ·exact hh
    ·have hj' : D.getD j false = true := hj
     rw [nv (by omega)] at hj'; cases hj'
   exact h.dc j (by rw [hU hjs]; exact hj) (by rw [← h.eG]; exact hjs)
  rw [(h.fd t).1 j hj hd, hv j hjC]
 ·exact h.sz
 ·exact h.df
 ·intro k o' hk hkC hkD
  rw [cR, Bool.or_eq_true, ez, decide_eq_true_eq] at hkC
  by_cases hki : k = i
  ·subst hki
   have : o' = o := by rw [hi] at hk; cases hk; rfl
   subst this
   refine ⟨hcl, fun o'' a' w' ho hr hh => ?_⟩
   have : o'' = o' := by rw [hi] at ho; cases ho; rfl
   subst this
   simp only [if_true]
   refine h2 a' w' (fun t ht => ?_) hh
   have hread : hM ops B val base k env := h.fc.read' hs hsub (fun j hj => by
    cases hq : has (bk B j) k with
    | false => rfl
    | true => rw [h.cd j (h.cl j hj) hj k hq] at hc; cases hc) (by rw [hc]; simp)
   have hr' : hM ops B val base k (fun t => a'.tmps.getD t undef) := hr.congr fun j hj => (hv j (hsub j hj)).symm
   exact hr'.same hi hread (fun _ _ _ => rfl) t ht
  ·have hkC' : has C k = true := hkC.resolve_right fun e => hki e.symm
   obtain ⟨p1, p2⟩ := h.pend k o' hk hkC' hkD
   refine ⟨p1, p2.congr (fun j hj => hv j (h.cd k (h.cl k hkC') hkC' j hj)) (hv k hkC') rfl⟩
theorem Inv.late {base abase : Nat → Value} {C : Nat} {D : Array Bool} {val : Nat → Value} {env : Env} {a : Act} {w : World} (hb : jL ops B = true) (hs : ij ops n B = true) (h : Inv P ops n B base abase C D val env a w)
  {k : Nat} {o : Oper} (hk : ops[k]? = some o) (hr : k ∈ Region.ready .any ops D) (hkC : has C k = true) : Inv P ops n B base abase C (D.setIfInBounds k true) val env (a.put o.dst (val k)) w := by
 have hlt := (Array.getElem?_eq_some_iff.1 hk).1
 have hkD : k < D.size := by rw [h.eG]; exact hlt
 obtain ⟨r1, o', hk', r2⟩ := mem_ready.1 hr
 have : o' = o := by rw [hk] at hk'; cases hk'; rfl
 subst this
 constructor
 ·simp [h.eG]
 ·intro j hj hl
  rw [jU hkD] at hj
  by_cases e : j = k
  ·subst e; exact hkC
  ·rw [if_neg e] at hj; exact h.dc j hj hl
 ·exact h.cl
 ·exact h.cd
 ·intro j oj hj hjD e he hbe
  rw [jU hkD] at hjD ⊢
  by_cases q : e.on = k
  ·simp [q]
  ·rw [if_neg q]
   by_cases e' : j = k
   ·subst e'
    have : oj = o' := by rw [hk] at hj; cases hj; rfl
    subst this
    exact r2 e (by simpa using he) hbe
   ·rw [if_neg e'] at hjD; exact h.dd j oj hj hjD e he hbe
 ·exact h.fc
 ·have := h.fd.add (val' := val) (f' := fun t => (a.put o'.dst (val k)).tmps.getD t undef) (i := k) hs (fun _ _ => rfl) (by rw [← hU hkD, r1]; simp) (JX hs hk a h.sz (val k))
  exact this.iff fun j => by
   rw [jU hkD]
   by_cases e : j = k
   ·simp [e]
   ·simp [e]
 ·rw [Am, h.sz]
 ·rw [CZ, h.df]
 ·intro j oj hj hjC hjD
  rw [jU hkD] at hjD
  by_cases e : j = k
  ·simp [e] at hjD
  ·rw [if_neg e] at hjD; exact h.pend j oj hj hjC hjD
theorem xI : ∀ (hs : List Nat) (env : Env) (K : HP) (H : aP), tu P tab ai ops hs env K H → (∀ k ∈ hs, recheck P tab ai ops k env H) ∧ K H
 | [], env, K, H, h => ⟨by simp, h⟩
 | i :: r, env, K, H, h => by
  obtain ⟨h1, h2⟩ := xI r env K H h.2
  refine ⟨fun k hk => ?_, h2⟩
  rcases List.mem_cons.1 hk with rfl | hk
  ·exact h.1
  ·exact h1 k hk
theorem WB {C i : Nat} {hl : List Nat} (h : qa P ops B C i hl = true) {k : Nat} {o : Oper} (hk : ops[k]? = some o) (hC : has C k = true) (hR : fR P o = .R) (hB : has (bk B i) k = false) :
  k ∈ hl ∧ (∃ d, o.dst = some d) ∧ ∀ j d, (has C j = true ∨ j = i) → dA ops j = some d → has (dY ops o) d = true → has (bk B j) k = false ∧ j ≠ k := by
 unfold qa at h
 have h1 := List.all_eq_true.1 h k (List.mem_range.2 (Array.getElem?_eq_some_iff.1 hk).1)
 rw [hC, hk] at h1
 simp only [hR, hB, Bool.not_true, Bool.false_or, Bool.and_eq_true] at h1
 obtain ⟨⟨h2, h3⟩, h4⟩ := h1
 refine ⟨by simpa using h2, Option.isSome_iff_exists.1 h3, fun j d hj hd hr => ?_⟩
 have h5 := List.all_eq_true.1 h4 j (List.mem_range.2 (IN hd))
 rw [hd] at h5
 have h6 : (has C j || Nat.beq j i) = true := by
  rcases hj with hj | rfl
  ·rw [hj]; rfl
  ·rw [Nat.beq_refl]; simp
 rw [h6] at h5
 simp only [hr, Bool.not_true, Bool.false_or, Bool.and_eq_true, Bool.not_eq_true'] at h5
 exact ⟨h5.1, fun e => by rw [e, Nat.beq_refl] at h5; cases h5.2⟩
theorem Inv.aM {base abase : Nat → Value} {C : Nat} {D : Array Bool} {val : Nat → Value} {env : Env} {a : Act} {w w' : World} (hb : jL ops B = true) (hs : ij ops n B = true) (h : Inv P ops n B base abase C D val env a w)
  {i : Nat} {o : Oper} {hl : List Nat} (hi : ops[i]? = some o) (hr : i ∈ Region.ready .any ops D) (hBD : ∀ j, has (bk B i) j = true → D.getD j false = true) (hc : has C i = false) (hheld : qa P ops B C i hl = true) {v : Value} (hre : ∀ k ∈ hl, recheck P tab ai ops k (env.set n o.dst v) w'.heap) :
  Inv P ops n B base abase (C ||| bit i) (D.setIfInBounds i true) (fun k => if k = i then v else val k) (env.set n o.dst v) (a.put o.dst v) w' := by
 have hlt := (Array.getElem?_eq_some_iff.1 hi).1
 have hiD : i < D.size := by rw [h.eG]; exact hlt
 have inD : ∀ j, D.getD j false = true → has C j = true := fun j hj => by
  have hjs : j < D.size := by
   rcases Nat.lt_or_ge j D.size with hh | hh
   ·exact hh
   ·rw [nv (by omega)] at hj; cases hj
  exact h.dc j (by rw [hU hjs]; exact hj) (by rw [← h.eG]; exact hjs)
 have hsub : ∀ j, has (bk B i) j = true → has C j = true := fun j hj => inD j (hBD j hj)
 have hv : ∀ j, has C j = true → (fun k => if k = i then v else val k) j = val j := fun j hj => by
  have : j ≠ i := by rintro rfl; rw [hc] at hj; cases hj
  simp [this]
 obtain ⟨r1, o', hk', r2⟩ := mem_ready.1 hr
 have : o' = o := by rw [hi] at hk'; cases hk'; rfl
 subst this
 have hfc : gV ops (fun j => has C j = true ∨ j = i) (fun k => if k = i then v else val k) base (env.set n o'.dst v) :=
  h.fc.add hs hv (by rw [hc]; simp) (f' := env.set n o'.dst v) (i := i) (fun t => by
   have := GK (n := n) (B := B) hs hi env v t
   simpa using this)
 constructor
 ·simp [h.eG]
 ·intro j hj hl'
  rw [jU hiD] at hj
  rw [cR, Bool.or_eq_true, ez, decide_eq_true_eq]
  by_cases e : j = i
  ·exact .inr e.symm
  ·rw [if_neg e] at hj; exact .inl (h.dc j hj hl')
 ·intro k hk; rw [cR, Bool.or_eq_true, ez, decide_eq_true_eq] at hk
  rcases hk with hk | rfl
  ·exact h.cl k hk
  ·exact hlt
 ·intro k hl' hk j hj
  rw [cR, Bool.or_eq_true, ez, decide_eq_true_eq] at hk ⊢
  rcases hk with hk | rfl
  ·exact .inl (h.cd k hl' hk j hj)
  ·exact .inl (hsub j hj)
 ·intro j oj hj hjD e he hbe
  rw [jU hiD] at hjD ⊢
  by_cases q : e.on = i
  ·simp [q]
  ·rw [if_neg q]
   by_cases e' : j = i
   ·subst e'
    have : oj = o' := by rw [hi] at hj; cases hj; rfl
    subst this
    exact r2 e (by simpa using he) hbe
   ·rw [if_neg e'] at hjD; exact h.dd j oj hj hjD e he hbe
 ·exact hfc.iff fun j => by rw [cR, Bool.or_eq_true, ez, decide_eq_true_eq]; exact ⟨fun h => h.imp id Eq.symm, fun h => h.imp id Eq.symm⟩
 ·have := h.fd.add (val' := fun k => if k = i then v else val k) (f' := fun t => (a.put o'.dst v).tmps.getD t undef) (i := i) hs (fun j hj => hv j (inD j hj)) (by rw [← hU hiD, r1]; simp) (fun t => by
   have := JX (n := n) (B := B) hs hi a h.sz v t
   simpa using this)
  exact this.iff fun j => by
   rw [jU hiD]
   by_cases e : j = i
   ·simp [e]
   ·simp [e]
 ·rw [Am, h.sz]
 ·rw [CZ, h.df]
 ·intro k ok hk hkC hkD
  rw [jU hiD] at hkD
  by_cases e : k = i
  ·simp [e] at hkD
  ·rw [if_neg e] at hkD
   rw [cR, Bool.or_eq_true, ez, decide_eq_true_eq] at hkC
   have hkC' : has C k = true := hkC.resolve_right fun q => e q.symm
   obtain ⟨p1, p2⟩ := h.pend k ok hk hkC' hkD
   refine ⟨p1, ?_⟩
   cases hcl : fR P ok with
   | E => exact absurd hcl p1
   | F =>
    intro o'' a' w'' ho hrd hh
    have : o'' = ok := by rw [hk] at ho; cases ho; rfl
    subst this
    rw [hv k hkC']
    exact p2 o'' a' w'' ho (hrd.congr fun j hj => (hv j (h.cd k (h.cl k hkC') hkC' j hj)).symm) (.inr hcl)
   | R =>
    have hBk : has (bk B i) k = false := by
     cases hq : has (bk B i) k with
     | false => rfl
     | true =>
      have := hBD k hq
      have hks : k < D.size := by rw [h.eG]; exact (Array.getElem?_eq_some_iff.1 hk).1
      rw [← hU hks, hkD] at this; cases this
    obtain ⟨q1, ⟨d, q2⟩, q3⟩ := WB hheld hk hkC' hcl hBk
    have hrc := hre k q1
    have hread : hM ops B (fun k => if k = i then v else val k) base k (env.set n o'.dst v) := by
     refine hfc.read hs (fun j hj => .inl (h.cd k (h.cl k hkC') hkC' j hj)) fun j oj t hj ho hd ht => ?_
     have : oj = ok := by rw [hk] at ho; cases ho; rfl
     subst this
     have q4 := q3 j t hj hd ht
     rcases ((rz hs hd).2 k oj ho (fun e => q4.2 e.symm)).2 ht with h1 | h1
     ·exact h1
     ·rw [q4.1] at h1; cases h1
    intro o'' a' w'' ho hrd hh
    have : o'' = ok := by rw [hk] at ho; cases ho; rfl
    subst this
    have hw'' : w''.heap = w'.heap := hh.resolve_right (by rw [hcl]; simp)
    have hag : Ag (dY ops o'') a' (env.set n o'.dst v) := fun t ht => hrd.same ho hread (fun _ _ _ => rfl) t ht
    have hval : env.set n o'.dst v d = (fun k => if k = i then v else val k) k := (hfc d).1 k (.inl hkC') (by rw [mN ho]; exact q2)
    refine Qi ho q2 hcl hrc a' w'' hag hw'' hval fun j want t hg ht hno => ?_
    rw [hv k hkC']
    have := p2 o'' a' { w with drawn := w.drawn } ho (hrd.congr fun j hj => (hv j (h.cd k (h.cl k hkC') hkC' j hj)).symm) (.inl rfl)
    rcases this with ⟨y1, _⟩ | ⟨_, y2⟩
    ·exfalso
     have hat : a'.tmps.getD t undef = env.set n o'.dst v t := by
      refine hag t ?_
      simp [dY, cR, sD, hg, ht, ez]
     rw [vk (a := a') hg ht hat, hno] at y1
     cases y1
    ·exact y2
theorem Vq (hb : jL ops B = true) (hs : ij ops n B = true) {K : Env → HP} {base abase : Nat → Value} (hbase : ∀ k o t, ops[k]? = some o → has (dY ops o) t = true → (∀ i, has (bk B k) i = true → dA ops i ≠ some t) → abase t = base t)
  {Q : Exit → Act → World → Prop} {w0 : World} (hq : ∀ a w env val, cS w0 w → a.tmps.size = n → a.defers = [] → gV ops (fun k => k < ops.size) val base env → gV ops (fun k => k < ops.size) val abase (fun t => a.tmps.getD t undef) → K env w.heap → Q .normal a w) :
  ∀ (fuel : Nat) (p : ke) (C : Nat) (D : Array Bool) (val : Nat → Value) (env : Env) (a : Act) (w : World), iU P ops B C p = true → jG P tab ai ops n p K env w.heap → Inv P ops n B base abase C D val env a w → cS w0 w → left D ops.size ≤ fuel →
   wpAny P .any ops Q fuel D a w := by
 intro fuel
 induction fuel with
 | zero =>
  intro p
  induction p with
  | done =>
   intro C D val env a w hp hx hI hsame hleft
   have hall := Dl (Nat.le_zero.1 hleft)
   have hfull : ∀ k, k < ops.size → has C k = true := fun k hk => List.all_eq_true.1 hp k (List.mem_range.2 hk)
   refine ⟨?_, hq a w env val hsame hI.sz hI.df (hI.fc.iff fun j => ⟨hfull j, hI.cl j⟩) (hI.fd.iff fun j => ⟨fun hj => by rw [← hU (by rw [hI.eG]; exact hj)]; exact hall j hj, fun hj => ?_⟩) hx⟩
   ·cases hr : Region.ready .any ops D with
    | nil => rfl
    | cons i l =>
     have : i ∈ Region.ready .any ops D := by rw [hr]; exact List.mem_cons_self
     obtain ⟨h1, o, h2, _⟩ := mem_ready.1 this
     rw [hall i (Array.getElem?_eq_some_iff.1 h2).1] at h1; cases h1
   ·rcases Nat.lt_or_ge j D.size with hh | hh
    ·rw [← hI.eG]; exact hh
    ·rw [nv (by omega)] at hj; cases hj
  | take i p ih =>
   intro C D val env a w hp hx hI hsame hleft
   simp only [iU, Bool.and_eq_true, Bool.not_eq_true'] at hp
   obtain ⟨⟨⟨⟨h1, h2⟩, h3⟩, h4⟩, h5⟩ := hp
   have hlt : i < ops.size := by simpa [Nat.blt_eq] using h1
   have hi : ops[i]? = some ops[i] := Array.getElem?_eq_getElem hlt
   simp only [jG, hi] at hx
   obtain ⟨v, h6, h7⟩ := hI.take hb hs hi h2 (fun j hj => KI h3 j (by have := HY hb i hlt j hj; omega) hj) (fun e => by simp [C4, hi, e] at h4) hx
   exact ih _ _ _ _ _ _ h5 h6 h7 hsame hleft
  | aM i hs' p ih =>
   intro C D val env a w hp hx hI hsame hleft
   simp only [iU, Bool.and_eq_true, Bool.not_eq_true'] at hp
   have hlt : i < ops.size := by simpa [Nat.blt_eq] using hp.1.1.1.1.1
   have := hI.dc i (Dl (Nat.le_zero.1 hleft) i hlt) hlt
   rw [hp.1.1.1.1.2] at this; cases this
  | alt i hs' p j hs'' q ih1 ih2 =>
   intro C D val env a w hp hx hI hsame hleft
   simp only [iU, Bool.and_eq_true, Bool.not_eq_true'] at hp
   have hlt : i < ops.size := by simpa [Nat.blt_eq] using hp.1.1.1.1.1.1.1.1.1.1
   have := hI.dc i (Dl (Nat.le_zero.1 hleft) i hlt) hlt
   rw [hp.1.1.1.1.1.1.1.1.1.2] at this; cases this
 | succ fuel ihf =>
  intro p
  have pending : ∀ (p : ke) (C : Nat) (D : Array Bool) (val : Nat → Value) (env : Env) (a : Act) (w : World), iU P ops B C p = true → jG P tab ai ops n p K env w.heap → Inv P ops n B base abase C D val env a w → cS w0 w → left D ops.size ≤ fuel + 1 →
    ∀ k o, ops[k]? = some o → k ∈ Region.ready .any ops D → has C k = true → wpOp P ops Q k (wpAny P .any ops Q fuel (D.setIfInBounds k true)) a w := by
   intro p C D val env a w hp hx hI hsame hleft k o hk hr hkC
   have hlt := (Array.getElem?_eq_some_iff.1 hk).1
   have hkD := (mem_ready.1 hr).1
   obtain ⟨hrd, _⟩ := hI.Av hb hs hbase hk hr
   obtain ⟨_, p2⟩ := hI.pend k o hk hkC hkD
   refine (p2 o a w hk hrd (.inl rfl)).wpOp hk ?_
   refine ihf p C _ val env _ w hp hx (hI.late hb hs hk hr hkC) hsame ?_
   have := yZ hlt hI.eG hkD
   omega
  induction p with
  | done =>
   intro C D val env a w hp hx hI hsame hleft
   have hfull : ∀ k, k < ops.size → has C k = true := fun k hk => List.all_eq_true.1 hp k (List.mem_range.2 hk)
   refine ⟨fun hr => ?_, fun k hr => ?_⟩
   ·have hall := zk hb hI.eG hr
    refine hq a w env val hsame hI.sz hI.df (hI.fc.iff fun j => ⟨hfull j, hI.cl j⟩) (hI.fd.iff fun j => ⟨fun hj => by rw [← hU (by rw [hI.eG]; exact hj)]; exact hall j hj, fun hj => ?_⟩) hx
    rcases Nat.lt_or_ge j D.size with hh | hh
    ·rw [← hI.eG]; exact hh
    ·rw [nv (by omega)] at hj; cases hj
   ·obtain ⟨_, o, hk, _⟩ := mem_ready.1 hr
    exact pending _ C D val env a w hp hx hI hsame hleft k o hk hr (hfull k (Array.getElem?_eq_some_iff.1 hk).1)
  | take i p ih =>
   intro C D val env a w hp hx hI hsame hleft
   simp only [iU, Bool.and_eq_true, Bool.not_eq_true'] at hp
   obtain ⟨⟨⟨⟨h1, h2⟩, h3⟩, h4⟩, h5⟩ := hp
   have hlt : i < ops.size := by simpa [Nat.blt_eq] using h1
   have hi : ops[i]? = some ops[i] := Array.getElem?_eq_getElem hlt
   simp only [jG, hi] at hx
   obtain ⟨v, h6, h7⟩ := hI.take hb hs hi h2 (fun j hj => KI h3 j (by have := HY hb i hlt j hj; omega) hj) (fun e => by simp [C4, hi, e] at h4) hx
   exact ih _ _ _ _ _ _ h5 h6 h7 hsame hleft
  | aM i hs' p ih =>
   intro C D val env a w hp0 hx0 hI hsame hleft
   have hp := hp0
   have hx := hx0
   simp only [iU, Bool.and_eq_true, Bool.not_eq_true'] at hp
   obtain ⟨⟨⟨⟨⟨h1, h2⟩, h3⟩, h4⟩, h5⟩, h6⟩ := hp
   have hlt : i < ops.size := by simpa [Nat.blt_eq] using h1
   have hi : ops[i]? = some ops[i] := Array.getElem?_eq_getElem hlt
   simp only [jG, hi] at hx
   refine ⟨fun hr => ?_, fun k hr => ?_⟩
   ·have := hI.dc i (zk hb hI.eG hr i hlt) hlt
    rw [h2] at this; cases this
   ·obtain ⟨hkD, o, hk, _⟩ := mem_ready.1 hr
    have hklt := (Array.getElem?_eq_some_iff.1 hk).1
    cases hkC : has C k with
    | true => exact pending _ C D val env a w hp0 hx0 hI hsame hleft k o hk hr hkC
    | false =>
     obtain ⟨hrd, hBD⟩ := hI.Av hb hs hbase hk hr
     have inC : ∀ j, has (bk B k) j = true → has C j = true := fun j hj => by
      have hj' := hBD j hj
      have hjs : j < D.size := by
       rcases Nat.lt_or_ge j D.size with hh | hh
       ·exact hh
       ·rw [nv (by omega)] at hj'; cases hj'
      exact hI.dc j (by rw [hU hjs]; exact hj') (by rw [← hI.eG]; exact hjs)
     have hki : k = i := by
      have := List.all_eq_true.1 h4 k (List.mem_range.2 hklt)
      rw [hkC, Mb fun j _ hj => inC j hj] at this
      exact Nat.eq_of_beq_eq_true (by simpa using this)
     subst hki
     have : o = ops[k] := by rw [hi] at hk; cases hk; rfl
     subst this
     have hread : hM ops B val base k env := hI.fc.read' hs inC (fun j hj => by
      cases hq : has (bk B j) k with
      | false => rfl
      | true => rw [hI.cd j (hI.cl j hj) hj k hq] at hkC; cases hkC) (by rw [hkC]; simp)
     have hag : Ag (dY ops ops[k]) a env := fun t ht => hrd.same hk hread (fun _ _ _ => rfl) t ht
     refine wpOp_mono (fun a' w' ⟨e1, v, e2, e3⟩ => ?_) (wE hk hx hag)
     subst e2
     obtain ⟨e4, e5⟩ := xI hs' _ _ _ e3
     refine ihf p _ _ _ _ _ w' h6 e5 (hI.aM hb hs hk hr hBD hkC h5 e4) (hsame.trans e1) ?_
     have := yZ hklt hI.eG hkD
     omega
  | alt i hs' p j hs'' q ih1 ih2 =>
   intro C D val env a w hp0 hx0 hI hsame hleft
   have hp := hp0
   have hx := hx0
   simp only [iU, Bool.and_eq_true, Bool.not_eq_true'] at hp
   obtain ⟨⟨⟨⟨⟨⟨⟨⟨⟨⟨h1, h2⟩, h3⟩, h4⟩, h5⟩, h6⟩, h7⟩, h8⟩, h9⟩, h10⟩, h11⟩ := hp
   have hlt : i < ops.size := by simpa [Nat.blt_eq] using h1
   have hlt2 : j < ops.size := by simpa [Nat.blt_eq] using h3
   have hi : ops[i]? = some ops[i] := Array.getElem?_eq_getElem hlt
   have hj : ops[j]? = some ops[j] := Array.getElem?_eq_getElem hlt2
   simp only [jG, hi, hj] at hx
   refine ⟨fun hr => ?_, fun k hr => ?_⟩
   ·have := hI.dc i (zk hb hI.eG hr i hlt) hlt
    rw [h2] at this; cases this
   ·obtain ⟨hkD, o, hk, _⟩ := mem_ready.1 hr
    have hklt := (Array.getElem?_eq_some_iff.1 hk).1
    cases hkC : has C k with
    | true => exact pending _ C D val env a w hp0 hx0 hI hsame hleft k o hk hr hkC
    | false =>
     obtain ⟨hrd, hBD⟩ := hI.Av hb hs hbase hk hr
     have inC : ∀ j, has (bk B k) j = true → has C j = true := fun j hj => by
      have hj' := hBD j hj
      have hjs : j < D.size := by
       rcases Nat.lt_or_ge j D.size with hh | hh
       ·exact hh
       ·rw [nv (by omega)] at hj'; cases hj'
      exact hI.dc j (by rw [hU hjs]; exact hj') (by rw [← hI.eG]; exact hjs)
     have hread : hM ops B val base k env := hI.fc.read' hs inC (fun j hj => by
      cases hq : has (bk B j) k with
      | false => rfl
      | true => rw [hI.cd j (hI.cl j hj) hj k hq] at hkC; cases hkC) (by rw [hkC]; simp)
     have hki : k = i ∨ k = j := by
      have := List.all_eq_true.1 h5 k (List.mem_range.2 hklt)
      rw [hkC, Mb fun j _ hj => inC j hj] at this
      simp only [Bool.false_or, Bool.not_true, Bool.or_false, Bool.or_eq_true] at this
      exact this.imp Nat.eq_of_beq_eq_true Nat.eq_of_beq_eq_true
     have hleft' : left (D.setIfInBounds k true) ops.size ≤ fuel := by
      have := yZ hklt hI.eG hkD
      omega
     rcases hki with rfl | rfl
     ·have : o = ops[k] := by rw [hi] at hk; cases hk; rfl
      subst this
      have hag : Ag (dY ops ops[k]) a env := fun t ht => hrd.same hk hread (fun _ _ _ => rfl) t ht
      refine wpOp_mono (fun a' w' ⟨e1, v, e2, e3⟩ => ?_) (wE hk hx.1 hag)
      subst e2
      obtain ⟨e4, e5⟩ := xI hs' _ _ _ e3
      exact ihf p _ _ _ _ _ w' h7 e5 (hI.aM hb hs hk hr hBD hkC h6 e4) (hsame.trans e1) hleft'
     ·have : o = ops[k] := by rw [hj] at hk; cases hk; rfl
      subst this
      have hag : Ag (dY ops ops[k]) a env := fun t ht => hrd.same hk hread (fun _ _ _ => rfl) t ht
      refine wpOp_mono (fun a' w' ⟨e1, v, e2, e3⟩ => ?_) (wE hk hx.2 hag)
      subst e2
      obtain ⟨e4, e5⟩ := xI hs'' _ _ _ e3
      exact ihf q _ _ _ _ _ w' h9 e5 (hI.aM hb hs hk hr hBD hkC h8 e4) (hsame.trans e1) hleft'
end
end Go.Ph
end
section
set_option linter.all false
namespace Go.Ph
open Go
def ru : List (Nat × Nat) → Nat → Nat
 | [], _ => 0
 | (j, L) :: r, i => bif Nat.beq j i then L else ru r i
def ji (n : Nat) (au : aA) : Nat → Code → Nat → Nat → List (Nat × Nat) → Nat
 | _, .skip, L, _, _ => L
 | _, .region id ops dr, L, _, _ => match dr with
  | false => Aq n ops ops.toList L
  | true => C5 ops (qz ops.toList []) L
 | c, .seq a b, L, r, ex => ji n au c a (ji n au c b L r ex) r ex
 | c, .cond x a b, L, r, ex => mF [x] ||| (ji n au c a L r ex ||| ji n au c b L r ex)
 | _, .block id a, L, r, ex => ji n au id a L r ((id, L) :: ex)
 | c, .loop a, _, _, _ => (au.spec c).lf
 | _, .exit i, _, _, ex => ru ex i
 | _, .ret, _, r, _ => r
 | _, _, _, _, _ => 0
def eU : Code → Nat
 | .region _ ops _ => jy ops.toList
 | .seq a b => eU a ||| eU b
 | .cond _ a b => eU a ||| eU b
 | .block _ a => eU a
 | .loop a => eU a
 | _ => 0
def kE : List (Nat × fL) → Nat
 | [] => 0
 | x :: r => bit x.1 ||| kE r
def within (A B : Nat) : Bool := Nat.beq (A &&& B) A
theorem CJ {A B t : Nat} (h : within A B = true) (ht : has A t = true) : has B t = true := by
 have := Nat.eq_of_beq_eq_true h
 unfold has at *
 rw [← this, Nat.testBit_and, Bool.and_eq_true] at ht
 exact ht.2
def jr (P : Program) (n : Nat) (au : aA) : Nat → Code → Nat → Nat → List (Nat × Nat) → Bool
 | _, .region id ops dr, _, _, _ => match dr with
  | false => true
  | true => Jr P ops n (au.plan id)
 | c, .seq a b, L, r, ex => jr P n au c a (ji n au c b L r ex) r ex && jr P n au c b L r ex
 | c, .cond _ a b, L, r, ex => jr P n au c a L r ex && jr P n au c b L r ex
 | _, .block id a, L, r, ex => jr P n au id a L r ((id, L) :: ex)
 | c, .loop a, _, r, ex => within (ji n au c a (au.spec c).lf r ex) (au.spec c).lf && within ((au.spec c).lf &&& eU a) (kE (au.spec c).vars) && within (kE (au.spec c).vars) (au.spec c).lf && jr P n au c a (au.spec c).lf r ex
 | _, _, _, _, _ => true
def vq (n : Nat) (a : Act) (w : World) (asg : Nat) (L r : Nat) (ex : List (Nat × Nat)) (Q : Ex → Env → HP) : Exit → Act → World → Prop
 | .normal, a', w' => eN n a w asg a' w' ∧ ∃ env', Ag L a' env' ∧ Q .normal env' w'.heap
 | .exit i, a', w' => eN n a w asg a' w' ∧ ∃ env', Ag (ru ex i) a' env' ∧ Q (.exit i) env' w'.heap
 | .ret, a', w' => eN n a w asg a' w' ∧ ∃ env', Ag r a' env' ∧ Q .ret env' w'.heap
 | _, _, _ => False
theorem CD {t : Nat} : ∀ (l : List Oper), has (jy l) t = true ↔ ∃ o ∈ l, o.dst = some t
 | [] => by simp [jy, iP]
 | o :: r => by
  simp only [jy, cR, Bool.or_eq_true, CD r, List.mem_cons]
  constructor
  ·rintro (h | ⟨o', h1, h2⟩)
   ·refine ⟨o, .inl rfl, ?_⟩
    cases hd : o.dst with
    | none => rw [hd] at h; simp [jS, iP] at h
    | some d => rw [hd] at h; simp [jS, ez] at h; rw [h]
   ·exact ⟨o', .inr h1, h2⟩
  ·rintro ⟨o', rfl | h1, h2⟩
   ·left; rw [h2]; simp [jS, ez]
   ·exact .inr ⟨o', h1, h2⟩
theorem KB {ops : Array Oper} {B : List Nat} {t : Nat} : ∀ (l : List Nat) (k : Nat) (o : Oper), k ∈ l → ops[k]? = some o → has (dY ops o) t = true → (∀ i, has (bk B k) i = true → dA ops i ≠ some t) → has (uZ ops B l) t = true
 | [], k, o, h, _, _, _ => by cases h
 | x :: r, k, o, h, hk, ht, hno => by
  simp only [uZ, cR, Bool.or_eq_true]
  rcases List.mem_cons.1 h with rfl | h
  ·left
   rw [hk]
   simp only [Fg, ht, Bool.true_and, Bool.not_eq_true']
   cases hq : has (dstsOf ops (bk B k) (List.range ops.size)) t with
   | false => rfl
   | true =>
    obtain ⟨i, _, h2, h3⟩ := (Hw ops (bk B k) t _).1 hq
    exact absurd h3 (hno i h2)
  ·exact .inr (KB r k o h hk ht hno)
theorem Ht {vs : List Value} {K : List Value → HP} {H : aP} : ∀ (l : List (Nat × fL)) (i : Nat), yX vs i l K H → K ((List.range' i l.length).map fun j => vs.getD j undef) H
 | [], i, h => h
 | x :: r, i, h => by
  have h1 := EO h
  have h2 := Ht (vs := vs) (K := fun rest => K (vs.getD i undef :: rest)) r (i + 1) h1
  simpa [List.range'_succ] using h2
theorem E1 {α : Type} (f : Nat → α) (d : α) : ∀ (l : List (Nat × fL)) (vs : List α) (i : Nat), vs.length = i + l.length → (List.range' i l.length).map (fun j => vs.getD j d) = vs.drop i
 | [], vs, i, h => by simp at h; simp [h]
 | x :: r, vs, i, h => by
  simp only [List.length_cons] at h ⊢
  have hlt : i < vs.length := by omega
  rw [List.range'_succ, List.map_cons, E1 f d r vs (i + 1) (by omega), List.drop_eq_getElem_cons hlt]
  simp [List.getD_eq_getElem?_getD, hlt]
theorem FG (env : Env) (f : Nat → Value) : ∀ (l : List (Nat × fL)) (t : Nat), Env.bG env l (l.map fun x => f x.1) t = if has (kE l) t = true then f t else env t
 | [], t => by simp [Env.bG, kE, iP]
 | x :: r, t => by
  simp only [List.map_cons, Env.bG, kE, cR, ez, Bool.or_eq_true, decide_eq_true_eq]
  cases hb : Nat.beq t x.1 with
  | true => have := Nat.eq_of_beq_eq_true hb; simp [this]
  | false =>
   have hne : ¬ x.1 = t := fun e => by rw [e, Nat.beq_refl] at hb; cases hb
   simp only [cond_false, FG env f r t, hne, false_or]
theorem RZ {P : Program} (hm : P.follows .mixedOrders = true) {tab : ax P} {au : aA} {n : Nat} : ∀ (c : Code) (cur : Nat) (Q : Ex → Env → HP) (env : Env) (a : Act) (w : World) (L r : Nat) (ex : List (Nat × Nat)),
  X P tab au n cur c Q env w.heap → jr P n au cur c L r ex = true → Ag (ji n au cur c L r ex) a env → a.tmps.size = n → a.defers = [] → c.wp P (vq n a w (eU c) L r ex Q) a w := by
 intro c
 induction c with
 | skip => intro cur Q env a w L r ex h _ hg hs hd; exact wp_skip ⟨eN.refl hs hd _, env, hg, h⟩
 | region id ops dr =>
  intro cur Q env a w L r ex h hok hg hs hd
  cases dr with
  | false =>
   refine wp_region ?_
   rw [List.range_eq_range']
   have := J6 (P := P) (tab := tab) (ai := au.iter) (ops := ops) (n := n) (K := Q .normal) (L := L) (Q := vq n a w (eU (.region id ops false)) L r ex Q) (a0 := a) (w0 := w) (asg := jy ops.toList)
    (fun a' w' env' h1 h2 h3 => ⟨h1, env', h2, h3⟩) ops.toList 0 a w env 0 rfl h hg (eN.refl hs hd 0) (fun t ht => by simpa [cR, iP] using ht)
   simpa using this
  | true =>
   refine wp_region_any hm ?_
   simp only [jr, Jr, Bool.and_eq_true] at hok
   obtain ⟨⟨h1, h2⟩, h3⟩ := hok
   have hbase : ∀ k o t, ops[k]? = some o → has (dY ops o) t = true → (∀ i, has (bk (qz ops.toList []) k) i = true → dA ops i ≠ some t) → a.tmps.getD t undef = env t := fun k o t hk ht hno =>
    hg t (by simp only [ji, C5, cR, Bool.or_eq_true]; exact .inr (KB _ k o (List.mem_range.2 (Array.getElem?_eq_some_iff.1 hk).1) hk ht hno))
   refine Vq (tab := tab) (ai := au.iter) (n := n) (K := Q .normal) (base := env) (abase := fun t => a.tmps.getD t undef) h1 h2 hbase (w0 := w) ?_ ops.size (au.plan id) 0 (Array.replicate ops.size false) (fun _ => undef) env a _ h3 h ?_ ⟨rfl, rfl, rfl⟩ ?_
   ·intro a' w' env' val q1 q2 q3 q4 q5 q6
    refine ⟨⟨q1, q2, q3, fun t ht => ?_⟩, env', fun t ht => ?_, q6⟩
    ·refine (q5 t).2 fun j hj hdj => ?_
     have : has (jy ops.toList) t = true := (CD _).2 ⟨ops[j], by simp, by rw [← mN (Array.getElem?_eq_getElem hj)]; exact hdj⟩
     simp only [eU] at ht
     rw [this] at ht; cases ht
    ·by_cases hw : ∃ j, j < ops.size ∧ dA ops j = some t
     ·obtain ⟨j, hj, hdj⟩ := hw
      rw [(q4 t).1 j hj hdj]; exact (q5 t).1 j hj hdj
     ·have hno : ∀ j, j < ops.size → dA ops j ≠ some t := fun j hj hdj => hw ⟨j, hj, hdj⟩
      rw [(q4 t).2 hno]
      have := (q5 t).2 hno
      simp only at this
      rw [this]
      refine hg t ?_
      simp only [ji, C5, cR, Fg, ht, Bool.true_and, Bool.or_eq_true, Bool.not_eq_true']
      left
      cases hq : has (jy ops.toList) t with
      | false => rfl
      | true =>
       obtain ⟨o, ho, hdo⟩ := (CD _).1 hq
       obtain ⟨j, hj, e⟩ := List.getElem_of_mem ho
       simp at hj
       exact absurd (by rw [mN (Array.getElem?_eq_getElem hj)]; simp at e; rw [e]; exact hdo) (hno j hj)
   ·have hf : ∀ k b, (Array.replicate ops.size false).getD k b = if k < ops.size then false else b := fun k b => by
     by_cases hk : k < ops.size <;> simp [Array.getD, hk]
    constructor
    ·simp
    ·intro k hk hl; rw [hf, if_pos hl] at hk; cases hk
    ·intro k hk; rw [iP] at hk; cases hk
    ·intro k _ hk; rw [iP] at hk; cases hk
    ·intro k o hk hD e _ _
     rw [hf, if_pos (Array.getElem?_eq_some_iff.1 hk).1] at hD; cases hD
    ·intro t
     refine ⟨fun j hj => ?_, fun _ => rfl⟩
     have hj' : has 0 j = true := hj
     rw [iP] at hj'; cases hj'
    ·intro t
     refine ⟨fun j hj => ?_, fun _ => rfl⟩
     have hj' : (Array.replicate ops.size false).getD j false = true := hj
     rw [hf] at hj'; split at hj' <;> cases hj'
    ·exact hs
    ·exact hd
    ·intro k o _ hk; rw [iP] at hk; cases hk
   ·unfold left
    exact Nat.le_trans (List.length_filter_le _ _) (by simp)
 | seq x y ihx ihy =>
  intro cur Q env a w L r ex h hok hg hs hd
  simp only [jr, Bool.and_eq_true] at hok
  refine wp_seq ?_
  refine wp_mono (ihx cur _ env a w (ji n au cur y L r ex) r ex h hok.1 hg hs hd) fun e a' w' hp => ?_
  cases e with
  | normal =>
   obtain ⟨hb, env', hg', hx⟩ := hp
   refine wp_mono (ihy cur Q env' a' w' L r ex hx hok.2 hg' hb.2.1 hb.2.2.1) fun e a'' w'' hp' => ?_
   cases e with
   | normal => obtain ⟨hb', h'⟩ := hp'; exact ⟨hb.trans hb', h'⟩
   | exit i => obtain ⟨hb', h'⟩ := hp'; exact ⟨hb.trans hb', h'⟩
   | ret => obtain ⟨hb', h'⟩ := hp'; exact ⟨hb.trans hb', h'⟩
   | goto l => exact hp'
   | panic c => exact hp'
   | outgrown => exact hp'
  | exit i => obtain ⟨hb', h'⟩ := hp; exact ⟨hb'.mono fun t ht => by simp [eU, cR, ht], h'⟩
  | ret => obtain ⟨hb', h'⟩ := hp; exact ⟨hb'.mono fun t ht => by simp [eU, cR, ht], h'⟩
  | goto l => exact hp
  | panic c => exact hp
  | outgrown => exact hp
 | cond x y z ihy ihz =>
  intro cur Q env a w L r ex h hok hg hs hd
  simp only [jr, Bool.and_eq_true] at hok
  simp only [X] at h
  have hx : a.eval x = ev env x := Gy (hg.yH) x fun t ht => by subst ht; simp [mF, cR, ez]
  generalize hv : ev env x = v at h hx
  cases v <;> first | exact absurd h id | skip
  rename_i t
  have lift : ∀ {m : Nat} {c : Code}, (∀ u, has m u = true → has (eU (.cond x y z)) u = true) → c.wp P (vq n a w m L r ex Q) a w → c.wp P (vq n a w (eU (.cond x y z)) L r ex Q) a w := by
   intro m c hm' hc
   refine wp_mono hc fun e a' w' hp => ?_
   cases e <;> first | exact hp | (obtain ⟨hb, h'⟩ := hp; exact ⟨hb.mono hm', h'⟩)
  cases t with
  | true => exact wp_cond_true hx (lift (fun u hu => by simp [eU, cR, hu]) (ihy cur Q env a w L r ex h hok.1 hg.uC.yH hs hd))
  | false => exact wp_cond_false hx (lift (fun u hu => by simp [eU, cR, hu]) (ihz cur Q env a w L r ex h hok.2 hg.uC.uC hs hd))
 | block id x ih =>
  intro cur Q env a w L r ex h hok hg hs hd
  refine wp_block ?_
  refine wp_mono (ih id _ env a w L r ((id, L) :: ex) h hok hg hs hd) fun e a' w' hp => ?_
  cases e with
  | normal => exact hp
  | exit i =>
   obtain ⟨hb, env', hg', hx⟩ := hp
   simp only [Exit.inBlock]
   cases hq : Nat.beq i id with
   | true =>
    have := Nat.eq_of_beq_eq_true hq
    subst this
    simp only [if_true]
    simp only [hq] at hx
    simp only [ru, Nat.beq_refl, cond_true] at hg'
    exact ⟨hb, env', hg', hx⟩
   | false =>
    have hne : ¬ i = id := fun e => by rw [e, Nat.beq_refl] at hq; cases hq
    rw [if_neg hne]
    simp only [hq] at hx
    have hq' : Nat.beq id i = false := by
     cases hq2 : Nat.beq id i with
     | false => rfl
     | true => exact absurd (Nat.eq_of_beq_eq_true hq2).symm hne
    simp only [ru, hq', cond_false] at hg'
    exact ⟨hb, env', hg', hx⟩
  | ret => exact hp
  | goto l => exact hp
  | panic c => exact hp
  | outgrown => exact hp
 | loop x ih =>
  intro cur Q env a w L r ex h hok hg hs hd
  simp only [jr, Bool.and_eq_true] at hok
  obtain ⟨⟨⟨h1, h2⟩, h3⟩, h4⟩ := hok
  obtain ⟨I, μ, hI, hr⟩ := h
  simp only [ji] at hg
  have hvm : ∀ y ∈ (au.spec cur).vars, has (kE (au.spec cur).vars) y.1 = true := by
   intro y hy
   generalize (au.spec cur).vars = l at hy
   induction l with
   | nil => cases hy
   | cons z l ihl =>
    rcases List.mem_cons.1 hy with rfl | hy
    ·simp [kE, cR, ez]
    ·simp [kE, cR, ihl hy]
  have hslots : ∀ (a' : Act) (env' : Env), Ag (au.spec cur).lf a' env' → ((au.spec cur).vars.map fun y => env' y.1) = (au.spec cur).vars.map fun y => a'.tmps.getD y.1 undef := by
   intro a' env' hag
   refine List.map_congr_left fun y hy => ?_
   exact (hag y.1 (CJ h3 (hvm y hy))).symm
  refine wp_loop (fun a' w' => eN n a w (eU x) a' w' ∧ I ((au.spec cur).vars.map fun y => a'.tmps.getD y.1 undef) w'.heap) (fun a' w' => μ ((au.spec cur).vars.map fun y => a'.tmps.getD y.1 undef) w'.heap)
   ⟨eN.refl hs hd _, by rw [← hslots a env hg]; exact hI⟩ ?_
  rintro a' w' ⟨hb, hI'⟩
  have hst := Ht _ _ (hr _ _ hI')
  rw [E1 (fun _ => undef) undef _ _ 0 (by simp)] at hst
  simp only [List.drop_zero] at hst
  have hag : Ag (au.spec cur).lf a' (env.bG (au.spec cur).vars ((au.spec cur).vars.map fun y => a'.tmps.getD y.1 undef)) := by
   intro t ht
   rw [FG env (fun t => a'.tmps.getD t undef)]
   by_cases hv : has (kE (au.spec cur).vars) t = true
   ·rw [if_pos hv]
   ·rw [if_neg hv]
    have hna : has (eU x) t = false := by
     cases hq : has (eU x) t with
     | false => rfl
     | true =>
      exact absurd (CJ h2 (by unfold has at *; rw [Nat.testBit_and, ht, hq]; rfl)) hv
    rw [hb.2.2.2 t hna]
    exact hg t ht
  refine wp_mono (ih cur _ _ a' w' (au.spec cur).lf r ex hst h4 (hag.mono fun t ht => CJ h1 ht) hb.2.1 hb.2.2.1) fun e a'' w'' hp => ?_
  have dup : ∀ {t}, has (eU x ||| eU x) t = true → has (eU x) t = true := fun {t} ht => by simpa [cR] using ht
  cases e with
  | normal =>
   obtain ⟨hb', env', hg', hx1, hx2⟩ := hp
   rw [hslots a'' env' hg'] at hx1 hx2
   exact ⟨⟨(hb.trans hb').mono fun t => dup, hx1⟩, hx2⟩
  | exit i => obtain ⟨hb', h'⟩ := hp; exact ⟨(hb.trans hb').mono fun t => dup, h'⟩
  | ret => obtain ⟨hb', h'⟩ := hp; exact ⟨(hb.trans hb').mono fun t => dup, h'⟩
  | goto l => exact hp
  | panic c => exact hp
  | outgrown => exact hp
 | exit i => intro cur Q env a w L r ex h _ hg hs hd; exact wp_exit ⟨eN.refl hs hd _, env, hg, h⟩
 | ret => intro cur Q env a w L r ex h _ hg hs hd; exact wp_ret ⟨eN.refl hs hd _, env, hg, h⟩
 | rangeFunc f ps x y _ _ => intro cur Q env a w L r ex h _ _ _ _; exact absurd h id
 | scope x _ => intro cur Q env a w L r ex h _ _ _ _; exact absurd h id
 | label l => intro cur Q env a w L r ex h _ _ _ _; exact absurd h id
 | goto l => intro cur Q env a w L r ex h _ _ _ _; exact absurd h id
 | refuse why => intro cur Q env a w L r ex h _ _ _ _; exact absurd h id
end Go.Ph
end
section
set_option linter.all false
namespace Go.Ph
open Go
def kH : List ResultVar → Nat
 | [] => 0
 | .tmp t :: r => bit t ||| kH r
 | .cell a _ :: r => bit a ||| kH r
def wu (tmps : Array Value) : ResultVar → Sem Value
 | .tmp t => Pure.pure (tmps.getD t undef)
 | .cell a t => do loadVar t (← Go.asAddr (tmps.getD a undef))
theorem aaU (fn : Func) (tmps : Array Value) : results fn tmps = (do let vs ← fn.results.toList.mapM (wu tmps); Pure.pure (if h : vs.length = 1 then vs[0] else .tuple vs.toArray)) := by
 unfold results
 rw [Array.mapM_eq_mapM_toList]
 simp only [bind_map_left]
 refine congr (congrArg _ (congrFun (congrArg _ (funext fun x => ?_)) _)) (funext fun vs => ?_)
 ·cases x <;> rfl
 ·congr 1
theorem zO {P : Program} {a : Act} {env : Env} {K : Value → HP} {w : World} : ∀ (rs : List ResultVar) (acc : List Value), lJ P rs acc env K w.heap → Ag (kH rs) a env →
  ∃ vs : List Value, (rs.mapM (wu a.tmps)).run P w = .ok vs w ∧ K (if h : (acc.reverse ++ vs).length = 1 then (acc.reverse ++ vs)[0] else .tuple (acc.reverse ++ vs).toArray) w.heap
 | [], acc, h, hg => by
  refine ⟨[], by simp, ?_⟩
  unfold lJ at h
  split at h
  ·simpa using h
  ·rename_i vs hvs
   rw [dif_neg (by
    intro e
    simp at e
    obtain ⟨v, rfl⟩ := List.length_eq_one_iff.1 e
    exact hvs v rfl)]
   simpa using h
 | .tmp t :: r, acc, h, hg => by
  obtain ⟨vs, h1, h2⟩ := zO r (env t :: acc) h (hg.mono fun u hu => by simp [kH, cR, hu])
  have ht : a.tmps.getD t undef = env t := hg t (by simp [kH, cR, ez])
  refine ⟨env t :: vs, ?_, by simpa using h2⟩
  simp only [List.mapM_cons, wu, pure_bind, ht, Sem.run_bind, h1, Result.andThen_ok, Sem.run_pure]
 | .cell x ty :: r, acc, h, hg => by
  simp only [lJ] at h
  have ht : a.tmps.getD x undef = env x := hg x (by simp [kH, cR, ez])
  generalize hv : env x = v at h ht
  cases v <;> first | exact absurd h id | skip
  rename_i p
  cases p <;> first | exact absurd h id | skip
  rename_i ad
  obtain ⟨v, h1, h2⟩ := IL h
  obtain ⟨vs, h3, h4⟩ := zO r (v :: acc) h2 (hg.mono fun u hu => by simp [kH, cR, hu])
  refine ⟨v :: vs, ?_, by simpa using h4⟩
  simp only [List.mapM_cons, wu, Sem.run_bind, ht, Go.asAddr, Sem.run_pure, Result.andThen_ok, h1 w rfl, h3]
def aE (P : Program) (tab : ax P) (au : aA) (fn : Func) (args : List Value) (K : Value → HP) : HP :=
 match fn.body with
 | some c => X P tab au fn.ntmps 0 c (Qj P fn.results.toList K) (xP args)
 | none => no
def aF (P : Program) (au : aA) (fn : Func) (arity : Nat) : Bool :=
 match fn.body with
 | some c => jr P fn.ntmps au 0 c (kH fn.results.toList) (kH fn.results.toList) [] && Nat.ble arity fn.ntmps
 | none => false
theorem aG {P : Program} (hm : P.follows .mixedOrders = true) {tab : ax P} {au : aA} {f : FuncId} {fn : Func} (hf : P.funcs[f]? = some fn) {m : Nat} (hok : aF P au fn m = true)
  (hcall : ∀ args w, (callFunc f args).run P w = .ok (.enter f args) w) {args : List Value} {K : Value → HP} {w : World} (hargs : args.length = m) (h : aE P tab au fn args K w.heap) : iY P f args w K := by
 unfold aE at h
 unfold aF at hok
 cases hb : fn.body with
 | none => rw [hb] at h; exact absurd h id
 | some c =>
  simp only [hb] at h hok
  rw [Bool.and_eq_true] at hok
  obtain ⟨h1, h2⟩ := hok
  have h2' := Nat.le_of_ble_eq_true h2
  refine .inr ⟨f, args.toArray, hcall _ w, calls_of_wp hf hb ?_⟩
  have hsz : (args.toArray ++ Array.replicate (fn.ntmps - args.toArray.size) undef).size = fn.ntmps := by simp; omega
  have hag : ∀ L, Ag L { tmps := args.toArray ++ Array.replicate (fn.ntmps - args.toArray.size) undef, defers := [] } (xP args) := by
   intro L t _
   simp only [xP, Array.getD_eq_getD_getElem?, List.getD_eq_getElem?_getD]
   by_cases ht : t < args.length
   ·rw [Array.getElem?_append_left (by simpa using ht)]; simp
   ·rw [Array.getElem?_append_right (by simp; omega)]
    rw [List.getElem?_eq_none (by omega)]
    cases hq : (Array.replicate (fn.ntmps - args.toArray.size) undef)[t - args.toArray.size]? with
    | none => rfl
    | some v =>
     have := Array.mem_of_getElem? hq
     simp at this
     simp [this.2]
  refine wp_mono (RZ hm c 0 _ (xP args) _ w _ _ [] h h1 (hag _) hsz rfl) fun e a' w' hp => ?_
  have fin : ∀ env', eN fn.ntmps { tmps := args.toArray ++ Array.replicate (fn.ntmps - args.toArray.size) undef, defers := [] } w (eU c) a' w' → Ag (kH fn.results.toList) a' env' → lJ P fn.results.toList [] env' K w'.heap →
    a'.defers = [] ∧ ∃ v, (results fn a'.tmps).run P w' = .ok v w' ∧ wH w K (.returned v) w' := by
   intro env' hb' hg' hx
   refine ⟨hb'.2.2.1, ?_⟩
   obtain ⟨vs, h3, h4⟩ := zO fn.results.toList [] hx hg'
   refine ⟨_, ?_, _, rfl, hb'.1, h4⟩
   rw [aaU]
   simp only [Sem.run_bind, h3, Result.andThen_ok, Sem.run_pure, List.reverse_nil, List.nil_append]
   rfl
  cases e with
  | normal => obtain ⟨hb', env', hg', hx⟩ := hp; exact fin env' hb' hg' hx
  | ret => obtain ⟨hb', env', hg', hx⟩ := hp; exact fin env' hb' hg' hx
  | exit i => obtain ⟨hb', env', hg', hx⟩ := hp; exact absurd hx id
  | goto l => exact hp
  | panic ch => exact absurd hp id
  | outgrown => exact absurd hp id
theorem mj {as : List Value} {n : Nat} {K : HP} {H : aP} (h : arity as n K H) : as.length = n ∧ K H := by
 unfold arity at h
 cases hb : Nat.beq as.length n with
 | true => rw [hb] at h; exact ⟨Nat.eq_of_beq_eq_true hb, h⟩
 | false => rw [hb] at h; exact absurd h id
theorem aU {k : IntKind} {v : Value} {K : Int → HP} {H : aP} (h : ak k v K H) : ∃ n, v = .int k n ∧ K n H := by
 unfold ak at h
 cases v <;> simp only at h <;> first | exact absurd h id | skip
 rename_i j n
 generalize hb : decide (j = k) = b at h
 cases b with
 | true => have := of_decide_eq_true hb; subst this; exact ⟨n, rfl, h⟩
 | false => exact absurd h id
theorem I5 {v : Value} {K : Bool → HP} {H : aP} (h : jk v K H) : ∃ n, v = .bool n ∧ K n H := by
 unfold jk at h; cases v <;> simp only at h <;> first | exact absurd h id | exact ⟨_, rfl, h⟩
theorem cw {v : Value} {K : ByteArray → HP} {H : aP} (h : bX v K H) : ∃ n, v = .string n ∧ K n H := by
 unfold bX at h; cases v <;> simp only at h <;> first | exact absurd h id | exact ⟨_, rfl, h⟩
theorem bw {v : Value} {K : Option Addr → HP} {H : aP} (h : bu v K H) : ∃ n, v = .pointer n ∧ K n H := by
 unfold bu at h; cases v <;> simp only at h <;> first | exact absurd h id | exact ⟨_, rfl, h⟩
theorem ep {v : Value} {K : Addr → HP} {H : aP} (h : dU v K H) : ∃ n, v = .pointer (some n) ∧ K n H := by
 unfold dU at h
 split at h
 ·exact ⟨_, rfl, h⟩
 ·exact absurd h id
theorem cg {v : Value} {K : Sl → HP} {H : aP} (h : bA v K H) : ∃ n : Sl, v = n.v ∧ K n H := by
 unfold bA at h; cases v <;> simp only at h <;> first | exact absurd h id | exact ⟨⟨_, _, _⟩, rfl, h⟩
theorem A4 {v : Value} {K : Option Nat → HP} {H : aP} (h : mB v K H) : ∃ n, v = .map n ∧ K n H := by
 unfold mB at h; cases v <;> simp only at h <;> first | exact absurd h id | exact ⟨_, rfl, h⟩
theorem oM {v : Value} {K : FV → HP} {H : aP} (h : j9 v K H) : ∃ n : FV, v = n.v ∧ K n H := by
 unfold j9 at h; cases v <;> simp only at h <;> first | exact absurd h id | exact ⟨⟨_, _, _⟩, rfl, h⟩
theorem qS {v : Value} {n : Nat} {K : List Value → HP} {H : aP} (h : asAgg v n K H) : ∃ cs : List Value, v = .agg cs.toArray ∧ cs.length = n ∧ K cs H := by
 unfold asAgg at h
 cases v <;> simp only at h <;> first | exact absurd h id | skip
 rename_i cs
 generalize hb : Nat.beq cs.toList.length n = b at h
 cases b with
 | true => exact ⟨cs.toList, by simp, Nat.eq_of_beq_eq_true hb, h⟩
 | false => exact absurd h id
theorem jM (as : List Value) : as = (List.range as.length).map fun i => as.getD i undef := by
 apply List.ext_getElem
 ·simp
 ·intro i h1 h2
  simp [List.getD_eq_getElem?_getD, h1]
end Go.Ph
end
section
set_option linter.all false
namespace Go.Ph
def Vl (H : aP) (s : Sl) (l : List ByteArray) : Prop := s.len = l.length ∧ s.len ≤ s.cap ∧
 match s.a with
 | none => l = [] ∧ s.cap = 0
 | some a => a.spot = none ∧ ∀ j x, l[j]? = some x → cell H (a.add j) = some (.string x)
def eT (a b : ByteArray) : Bool := !slt b a
namespace S
def CW (p0 : ByteArray) (p1 : Int) (K : Int → HP) : HP := K (Go.firstIdx p0 p1.toNat.toUInt8)
def afN (xs : List Value) (K : Value → HP) : HP :=
 arity xs 2 <| bX (xs.getD 0 undef) fun p0 => ak .u8 (xs.getD 1 undef) fun p1 => CW p0 p1 (fun r => K (.int .i64 r))
def BW (p0 : Int) (K : Sl → HP) : HP := fun H => (0 ≤ p0 ∧ p0 ≤ 281474976710656) ∧
 ∀ (cap : Nat) t (cs : List Int), p0.toNat ≤ cap → cs.length = cap → K ⟨some (af H.size), p0.toNat, cap⟩ (H.push (.cells (cs.map (Value.int .u8)).toArray t (0, 0)))
def Qn (xs : List Value) (K : Value → HP) : HP :=
 arity xs 1 <| ak .i64 (xs.getD 0 undef) fun p0 => BW p0 (fun r => K r.v)
def Ka (xs : List Value) (K : Value → HP) : HP :=
 match xs with
 | [.iface t (.map r)] => DN r fun b => K (.iface t (.map (some b)))
 | _ => no
def Dn (C : Cx) (p0 : Option Nat) (K : FV → HP) : HP := az #[.map p0] fun b => K ⟨C.fn "maps_Keys_vdisk_names_string_int", #[], #[.pointer (some (af b))]⟩
def PS (C : Cx) (xs : List Value) (K : Value → HP) : HP :=
 arity xs 1 <| mB (xs.getD 0 undef) fun p0 => Dn C p0 (fun r => K r.v)
def Il (C : Cx) (p0 : FV) (K : Sl → HP) : HP := fun H => ∃ (b m : Nat) (es : Array MapEntry) (cl : Nat) (ks : List ByteArray), p0.fn = C.fn "maps_Keys_vdisk_names_string_int" ∧ p0.first = #[] ∧ p0.cap = #[.pointer (some (af b))] ∧
 cell H (af b) = some (.map (some m)) ∧ H[m]? = some (.map es cl) ∧ es.toList.map (·.key) = ks.map Value.string ∧
 (∀ x ∈ es.toList, x.born < cl) ∧ (es.toList.map (·.born)).Nodup ∧ ks.Nodup ∧ (∀ k ∈ ks, k.size ≤ 9223372036854775807) ∧ ks.length ≤ 1000000 ∧
 ∀ s H', H.size ≤ H'.size → (∀ i, i < H.size → H'[i]? = H[i]?) → Vl H' s (ks.mergeSort eT) → (∀ a, s.a = some a → H.size ≤ a.block) → K s H'
def GH (C : Cx) (xs : List Value) (K : Value → HP) : HP :=
 arity xs 1 <| j9 (xs.getD 0 undef) fun p0 => Il C p0 (fun r => K r.v)
end S
end Go.Ph
end
section
set_option linter.all false
namespace Go.Ph
open Go
def Qo {P : Program} {f : FuncId} {fn : Func} (hf : P.funcs[f]? = some fn) (hn : (fn.name == "runtime.NumGoroutine") = false) (hb : fn.body.isNone = true) (h1 : Extern.findNext fn = none) (h2 : Extern.find fn = some Extern.BytealgIndexByte.indexByte) : Entry P :=
 ⟨f, S.afN, fun xs K w h => by
  obtain ⟨hl, h⟩ := mj h
  obtain ⟨p0, e0, h⟩ := cw h
  obtain ⟨p1, e1, h⟩ := aU h
  have ea := jM xs
  rw [hl] at ea
  have eb : xs = [xs.getD 0 undef, xs.getD 1 undef] := ea
  rw [e0, e1] at eb
  subst eb
  refine .inl ⟨_, w, ?_, cS.refl w, h⟩
  rw [run_callFunc_extern hf hn hb h1 h2]
  simp [run_indexByte_string]⟩
def afL {P : Program} {f : FuncId} {fn : Func} (hf : P.funcs[f]? = some fn) (hn : (fn.name == "runtime.NumGoroutine") = false) (hb : fn.body.isNone = true) (h1 : Extern.findNext fn = none) (h2 : Extern.find fn = some Extern.MapsClone.clone) : Entry P :=
 ⟨f, S.Ka, fun xs K w h => by
  unfold S.Ka at h
  split at h
  ·rename_i t r
   obtain ⟨b, es, cl, rfl, h3, h4⟩ := h
   refine .inl ⟨.iface t (.map (some w.heap.size)), { w with heap := w.heap.push (.map es cl) }, ?_, ⟨rfl, rfl, rfl⟩, h4⟩
   rw [run_callFunc_extern hf hn hb h1 h2]
   have := jO (P := P) h3 w rfl
   have e : Extern.MapsClone.clone ([Value.iface t (.map (some b))] : List Value).toArray = (getObj b >>= fun o => match o with | .map entries clock => (newObj (.map entries clock) >>= fun n => Pure.pure (.iface t (.map (some n)))) | _ => stuck "maps.clone: a map expected") := rfl
   rw [e]
   simp [this]
  ·exact absurd h id⟩
theorem KE : ∀ (n t : Nat) (acc : List Int), ∃ cs : List Int, Extern.BytealgMakeNoZero.digits n t (acc.map (Value.int .u8)).toArray = (cs.map (Value.int .u8)).toArray ∧ cs.length = n + acc.length
 | 0, t, acc => ⟨acc, rfl, by simp⟩
 | n + 1, t, acc => by
  obtain ⟨cs, h1, h2⟩ := KE n (t / 256) (acc ++ [Int.ofNat (t % 256)])
  refine ⟨cs, ?_, by simp at h2; omega⟩
  rw [← h1]
  simp [Extern.BytealgMakeNoZero.digits]
def QI {P : Program} {f : FuncId} {fn : Func} {t e : TypeId} (hf : P.funcs[f]? = some fn) (hn : (fn.name == "runtime.NumGoroutine") = false) (hb : fn.body.isNone = true) (h1 : Extern.findNext fn = none) (h2 : Extern.find fn = some (Extern.BytealgMakeNoZero.makeNoZero fn.params fn.resultTypes))
  (h3 : fn.resultTypes[0]? = some t) (h4 : P.underlying t = some (.slice e)) : Entry P :=
 ⟨f, S.Qn, fun xs K w h => by
  obtain ⟨hl, h⟩ := mj h
  obtain ⟨p0, e0, h⟩ := aU h
  have ea := jM xs
  rw [hl] at ea
  have eb : xs = [xs.getD 0 undef] := ea
  rw [e0] at eb
  subst eb
  obtain ⟨⟨h5, h6⟩, h7⟩ := h
  have hrun : Ok P (Extern.BytealgMakeNoZero.makeNoZero fn.params fn.resultTypes #[.int .i64 p0]) w fun v H => ∃ s : Sl, v = s.v ∧ K s.v H := by
   have e1 : Extern.BytealgMakeNoZero.makeNoZero fn.params fn.resultTypes #[.int .i64 p0] = (do
     let some t := fn.resultTypes[0]? | stuck "bytealg.MakeNoZero: no result type"
     let .slice elem ← underlying t | stuck "bytealg.MakeNoZero: slice type expected"
     if p0 < 0 || p0 > 2 ^ 48 then runtimePanic (.error "makeslice: len out of range")
     let cap ← choose (.appendCap p0.toNat 0 elem)
     askRoom cap
     let bytes ← choose (.extern "internal/bytealg.MakeNoZero.bytes" 0)
     let a ← newRow elem (Extern.BytealgMakeNoZero.digits cap bytes #[])
     Pure.pure (.slice (some a) p0.toNat cap)) := rfl
   rw [e1]
   simp only [h3]
   refine .step (Go.run_underlying h4 w) ?_
   simp only
   rw [if_neg (by simp; omega)]
   obtain ⟨c, w1, q1, q2, q3, q4⟩ := DK (P := P) p0.toNat 0 e w
   refine .bind ⟨c, w1, q1, q2, ?_⟩
   refine .step (v := ()) (by simp) ?_
   have hch : ∃ b w2, (choose (.extern "internal/bytealg.MakeNoZero.bytes" 0)).run P w1 = .ok b w2 ∧ cS w1 w2 ∧ w2.heap = w1.heap := by
    rw [run_choose]
    split
    ·exact ⟨_, _, rfl, cS.refl _, rfl⟩
    ·exact ⟨_, _, rfl, ⟨rfl, rfl, rfl⟩, rfl⟩
   obtain ⟨b, w2, r1, r2, r3⟩ := hch
   refine .bind ⟨b, w2, r1, r2, ?_⟩
   obtain ⟨cs, d1, d2⟩ := KE c b []
   simp only [List.map_nil] at d1
   rw [d1]
   refine .bind ⟨_, _, kV e _ w2, ⟨rfl, rfl, rfl⟩, .pure ⟨⟨some ⟨w2.heap.size, 0, none⟩, p0.toNat, c⟩, rfl, ?_⟩⟩
   have := h7 c e cs q4 (by simpa using d2)
   rw [r3, q3]
   exact this
  obtain ⟨v, w', k1, k2, s, k3, k4⟩ := hrun
  subst k3
  refine .inl ⟨_, w', ?_, k2, k4⟩
  rw [run_callFunc_extern hf hn hb h1 h2, k1]
  rfl⟩
end Go.Ph
end

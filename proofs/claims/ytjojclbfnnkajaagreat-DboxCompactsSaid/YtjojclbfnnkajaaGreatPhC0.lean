/- Parts of the proof that pigeonholelaw18.DboxCompacts returns true at every input and leaves the input as it was: what the words of the functions tell, part 0. -/
import Derived.Test.YtjojclbfnnkajaaGreatPhB
section
set_option linter.all false
namespace Go.Ph
inductive Xo
 | v (v : Value)
 | o (o : Obj)
def pk (H : aP) (b i : Nat) : Option Xo :=
 match H[b]? with
 | some (.cells c _ _) => c[i]?.map .v
 | some o => if i = 0 then some (.o o) else none
 | none => none
def sh (H : aP) (b : Nat) : Option (TypeId × (Nat × Nat)) :=
 match H[b]? with
 | some (.cells _ t f) => some (t, f)
 | _ => none
abbrev View := Nat → Nat → Option Xo
def eE (V V' : View) : Prop := ∀ b i x, V b i = some x → V' b i = some x
theorem eE.refl (V : View) : eE V V := fun _ _ _ h => h
theorem eE.trans {A B C : View} (h : eE A B) (k : eE B C) : eE A C := fun b i x h1 => k b i x (h b i x h1)
structure St where
 H : aP
 c : Nat → Nat → Nat
 wf : ∀ b i, b < H.size → c b i < 1152921504606846976 + 1152921504606846976 * H.size
 fz : ∀ b i, c b i ≠ 0 → kA H ⟨b, i, none⟩ = false
def St.w (s : St) (k : Nat) : View := fun b i => if s.c b i = k then pk s.H b i else none
structure Step (S : List Nat) (s s' : St) : Prop where
 sz : s.H.size ≤ s'.H.size
 old : ∀ b i, b < s.H.size → (s.c b i = 0 ∨ s.c b i ∉ S) → s'.c b i = s.c b i ∧ pk s'.H b i = pk s.H b i
 gS : ∀ b, b < s.H.size → sh s'.H b = sh s.H b
theorem Step.refl {S : List Nat} {s : St} : Step S s s := ⟨Nat.le_refl _, fun _ _ _ _ => ⟨rfl, rfl⟩, fun _ _ => rfl⟩
theorem Step.mono {S S' : List Nat} {a b : St} (h : Step S a b) (hs : ∀ x, x ∈ S → x ∈ S') : Step S' a b :=
 ⟨h.sz, fun x i hi hn => h.old x i hi (hn.imp id fun hn hx => hn (hs _ hx)), h.gS⟩
theorem Step.trans {S : List Nat} {a b c : St} (h : Step S a b) (k : Step S b c) : Step S a c :=
 ⟨Nat.le_trans h.sz k.sz, fun x i hi hn => by
  have h1 := h.old x i hi hn
  have h2 := k.old x i (Nat.lt_of_lt_of_le hi h.sz) (by rw [h1.1]; exact hn)
  exact ⟨h2.1.trans h1.1, h2.2.trans h1.2⟩, fun x hx => (k.gS x (Nat.lt_of_lt_of_le hx h.sz)).trans (h.gS x hx)⟩
theorem Step.tr {A B S : List Nat} {a b c : St} (h : Step A a b) (k : Step B b c) (hA : ∀ x, x ∈ A → x ∈ S := by simp) (hB : ∀ x, x ∈ B → x ∈ S := by simp) : Step S a c :=
 (h.mono hA).trans (k.mono hB)
theorem Step.n {S : List Nat} {a b : St} (h : Step [] a b) : Step S a b := h.mono fun x hx => by cases hx
def own (s : St) : Nat := 1152921504606846976 + 1152921504606846976 * s.H.size
theorem Step.loc {S : List Nat} {a b : St} {q : Nat} (h : Step (q :: S) a b) (hq : own a ≤ q := by first | exact Nat.le_refl _ | omega) : Step S a b :=
 ⟨h.sz, fun x i hi hn => h.old x i hi (hn.imp id fun hn hx => by
  rcases List.mem_cons.1 hx with hx | hx
  ·have := a.wf x i hi; unfold own at hq; omega
  ·exact hn hx), h.gS⟩
theorem zw {H : aP} {b i : Nat} {x : Xo} (h : pk H b i = some x) : b < H.size := by
 unfold pk at h
 by_cases e : b < H.size
 ·exact e
 ·rw [Array.getElem?_eq_none (by omega)] at h; simp at h
theorem bY {s : St} {k b i : Nat} {x : Xo} (h : s.w k b i = some x) : pk s.H b i = some x ∧ s.c b i = k := by
 unfold St.w at h
 split at h
 ·rename_i hc; exact ⟨h, hc⟩
 ·cases h
theorem dP {s : St} {k b i : Nat} {x : Xo} (h : pk s.H b i = some x) (hc : s.c b i = k) : s.w k b i = some x := by
 unfold St.w; rw [if_pos hc]; exact h
theorem mq {s : St} {k b i : Nat} {x : Xo} (h : s.w k b i = some x) : b < s.H.size := zw (bY h).1
theorem Step.view {S : List Nat} {a b : St} (h : Step S a b) {k : Nat} (hk : k ∉ S) : eE (a.w k) (b.w k) := by
 intro x i o hi
 obtain ⟨h1, h2⟩ := bY hi
 have := h.old x i (zw h1) (.inr (by rw [h2]; exact hk))
 exact dP (this.2.trans h1) (this.1.trans h2)
theorem Step.v0 {S : List Nat} {a b : St} (h : Step S a b) : eE (a.w 0) (b.w 0) := by
 intro x i o hi
 obtain ⟨h1, h2⟩ := bY hi
 have := h.old x i (zw h1) (.inl h2)
 exact dP (this.2.trans h1) (this.1.trans h2)
theorem No {H : aP} {b i : Nat} {v : Value} (h : pk H b i = some (.v v)) : cell H ⟨b, i, none⟩ = some v := by
 unfold pk at h
 unfold cell
 cases e : H[b]? with
 | none => rw [e] at h; cases h
 | some o =>
  rw [e] at h
  cases o with
  | cells c t f =>
   simp only at h ⊢
   cases e2 : c[i]? with
   | none => rw [e2] at h; cases h
   | some y => rw [e2] at h; simp at h; simp [h]
  | _ => simp at h
theorem EG {H : aP} {b i : Nat} {v : Value} (h : cell H ⟨b, i, none⟩ = some v) : pk H b i = some (.v v) := by
 unfold cell at h
 unfold pk
 simp only at h
 split at h
 ·rename_i c t f e
  rw [e]
  simp at h
  simp [h]
 ·cases h
theorem ue {s : St} {k b i : Nat} {v : Value} (h : s.w k b i = some (.v v)) : cell s.H ⟨b, i, none⟩ = some v := No (bY h).1
theorem dK (b i n : Nat) : (⟨b, i, none⟩ : Addr).add n = ⟨b, i + n, none⟩ := by
 unfold Addr.add; split <;> simp_all
theorem BH (b n : Nat) : (af b).add n = ⟨b, n, none⟩ := by rw [dK]; simp
def At (V : View) (b o : Nat) (vs : List Value) : Prop := ∀ i v, vs[i]? = some v → V b (o + i) = some (.v v)
theorem At.mono {V V' : View} {b o : Nat} {vs : List Value} (h : At V b o vs) (hv : eE V V') : At V' b o vs := fun i v hi => hv _ _ _ (h i v hi)
theorem At.cell {s : St} {k b o : Nat} {vs : List Value} (h : At (s.w k) b o vs) (i : Nat) {v : Value} (hi : vs[i]? = some v) : cell s.H (Addr.add ⟨b, o, none⟩ i) = some v := by
 rw [dK]; exact ue (h i v hi)
theorem At.cons {V : View} {b o : Nat} {v : Value} {vs : List Value} (h : V b o = some (.v v)) (h' : At V b (o + 1) vs) : At V b o (v :: vs) := by
 intro i x hi
 cases i with
 | zero => simp at hi; subst hi; exact h
 | succ i => have := h' i x (by simpa using hi); rw [show o + (i + 1) = o + 1 + i by omega]; exact this
theorem At.nil {V : View} {b o : Nat} : At V b o [] := fun i x hi => by simp at hi
theorem At.append {V : View} {b o : Nat} {vs ws : List Value} (h : At V b o vs) (h' : At V b (o + vs.length) ws) : At V b o (vs ++ ws) := by
 intro i x hi
 by_cases e : i < vs.length
 ·exact h i x (by rwa [List.getElem?_append_left e] at hi)
 ·rw [List.getElem?_append_right (by omega)] at hi
  have := h' _ x hi
  rw [show o + vs.length + (i - vs.length) = o + i by omega] at this; exact this
structure ql (s s' : St) (b : Nat) (κ : Nat → Nat) (cs : List Value) : Prop where
 hb : b = s.H.size
 sz : s'.H.size = s.H.size + 1
 col : ∀ i, s'.c b i = κ i
 here : ∀ i, pk s'.H b i = cs[i]?.map .v
 old : ∀ x i, x ≠ b → x < s.H.size → s'.c x i = s.c x i ∧ pk s'.H x i = pk s.H x i
 gS : ∀ x, x < s.H.size → sh s'.H x = sh s.H x
theorem ql.step {s s' : St} {b : Nat} {κ : Nat → Nat} {cs : List Value} (h : ql s s' b κ cs) : Step [] s s' :=
 ⟨by have := h.sz; omega, fun x i hx _ => h.old x i (by have := h.hb; omega) hx, h.gS⟩
def CS (o : Obj) (i : Nat) : Prop := match o with
 | .cells _ _ f => f.1 ≤ i ∧ i < f.2
 | _ => False
def St.push (s : St) (o : Obj) (κ : Nat → Nat) (hk : ∀ i, κ i < 2305843009213693952 + 1152921504606846976 * s.H.size) (hf : ∀ i, κ i ≠ 0 → ¬CS o i) : St :=
 ⟨s.H.push o, fun x i => if x = s.H.size then κ i else if x < s.H.size then s.c x i else 0, fun x i hx => by
  simp only [Array.size_push] at hx ⊢
  split
  ·have := hk i; omega
  ·have := s.wf x i (by omega)
   split <;> omega, fun x i hx => by
  by_cases e : x = s.H.size
  ·subst e
   simp only [if_true] at hx
   have := hf i hx
   unfold CS at this
   unfold kA
   simp only [Array.getElem?_push_size]
   cases o with
   | cells c t f =>
    obtain ⟨lo, hi⟩ := f
    simp only [Bool.and_eq_false_iff, decide_eq_false_iff_not] at this ⊢
    by_cases e2 : lo ≤ i
    ·exact .inr fun h2 => this ⟨e2, h2⟩
    ·exact .inl e2
   | _ => rfl
  ·simp only [e, if_false] at hx
   split at hx
   ·have := s.fz x i hx
    unfold kA at this ⊢
    rw [Array.getElem?_push, if_neg e]
    exact this
   ·exact absurd rfl hx⟩
theorem IY {H : aP} {o : Obj} {x : Nat} (i : Nat) (h : x ≠ H.size) : pk (H.push o) x i = pk H x i := by
 unfold pk; rw [Array.getElem?_push, if_neg h]
theorem K3 {H : aP} {o : Obj} {x : Nat} (h : x < H.size) : sh (H.push o) x = sh H x := by
 unfold sh; rw [Array.getElem?_push, if_neg (by omega)]
theorem pZ {s : St} {cs : List Value} {K : Nat → HP} (κ : Nat → Nat) (hk : ∀ i, κ i < 2305843009213693952 + 1152921504606846976 * s.H.size) {lo hi : Nat} (hf : ∀ i, κ i ≠ 0 → ¬(lo ≤ i ∧ i < hi)) {t : TypeId}
  (h : ∀ (s' : St) (b : Nat), ql s s' b κ cs → K b s'.H) : K s.H.size (s.H.push (.cells cs.toArray t (lo, hi))) := by
 refine h (s.push (.cells cs.toArray t (lo, hi)) κ hk hf) s.H.size ⟨rfl, by simp [St.push], fun i => by simp [St.push], fun i => ?_, fun x i hx hlt => ⟨by simp [St.push, hx, hlt], IY i hx⟩, fun x hx => K3 hx⟩
 simp only [pk, St.push, Array.getElem?_push_size]
 simp
theorem HS {s : St} {cs : Array Value} {K : Nat → HP} (κ : Nat → Nat) (hk : ∀ i, κ i < 2305843009213693952 + 1152921504606846976 * s.H.size)
  (h : ∀ (s' : St) (b : Nat), ql s s' b κ cs.toList → K b s'.H) : az cs K s.H := by
 intro t
 exact pZ (cs := cs.toList) κ hk (lo := 0) (hi := 0) (by simp) h
theorem bZ {s : St} {cs : Array Value} {K : Nat → HP} (h : ∀ (s' : St) (b : Nat), ql s s' b (fun _ => 0) cs.toList → At (s'.w 0) b 0 cs.toList → K b s'.H) : az cs K s.H :=
 HS (fun _ => 0) (fun _ => by omega) fun s' b hn => h s' b hn fun i v hi => dP (by rw [hn.here]; simp [hi]) (hn.col _)
theorem dm {s : St} {cs : Array Value} {K : Nat → HP} (k : Nat) (hk : k < 2305843009213693952 + 1152921504606846976 * s.H.size) (h : ∀ (s' : St) (b : Nat), ql s s' b (fun _ => k) cs.toList → At (s'.w k) b 0 cs.toList → K b s'.H) : az cs K s.H :=
 HS (fun _ => k) (fun _ => hk) fun s' b hn => h s' b hn fun i v hi => dP (by rw [hn.here]; simp [hi]) (hn.col _)
structure wQ (s s' : St) (b k : Nat) (o : Obj) : Prop where
 hb : b = s.H.size
 sz : s'.H.size = s.H.size + 1
 here : s'.w k b 0 = some (.o o)
 old : ∀ x i, x ≠ b → x < s.H.size → s'.c x i = s.c x i ∧ pk s'.H x i = pk s.H x i
 gS : ∀ x, x < s.H.size → sh s'.H x = sh s.H x
theorem wQ.step {s s' : St} {b k : Nat} {o : Obj} (h : wQ s s' b k o) : Step [] s s' :=
 ⟨by have := h.sz; omega, fun x i hx _ => h.old x i (by have := h.hb; omega) hx, h.gS⟩
def Obj.cl : Obj → Bool
 | .cells .. => true
 | _ => false
theorem zG {H : aP} {b : Nat} {o : Obj} (h : H[b]? = some o) (ho : Obj.cl o = false) : pk H b 0 = some (.o o) := by
 unfold pk; rw [h]; cases o <;> simp_all [Obj.cl]
theorem mU {H : aP} {b i : Nat} {o : Obj} (h : pk H b i = some (.o o)) : H[b]? = some o ∧ i = 0 ∧ Obj.cl o = false := by
 unfold pk at h
 cases e : H[b]? with
 | none => rw [e] at h; cases h
 | some o' =>
  rw [e] at h
  cases o' with
  | cells c t f =>
   simp only at h
   cases e2 : c[i]? <;> rw [e2] at h <;> simp at h
  | _ => simp at h; obtain ⟨h1, rfl⟩ := h; exact ⟨rfl, h1, rfl⟩
theorem Ar {s : St} {o : Obj} {K : Nat → HP} (k : Nat) (hk : k < 2305843009213693952 + 1152921504606846976 * s.H.size) (ho : Obj.cl o = false) (h : ∀ (s' : St) (b : Nat), wQ s s' b k o → K b s'.H) : K s.H.size (s.H.push o) :=
 h (s.push o (fun _ => k) (fun _ => hk) (fun i _ => by cases o <;> simp_all [CS, Obj.cl])) s.H.size ⟨rfl, by simp [St.push], dP (zG (by simp [St.push]) ho) (by simp [St.push]), fun x i hx hlt => ⟨by simp [St.push, hx, hlt], IY i hx⟩, fun x hx => K3 hx⟩
structure Sets (s s' : St) (b o k : Nat) (vs : List Value) : Prop where
 sz : s'.H.size = s.H.size
 here : At (s'.w k) b o vs
 old : ∀ x i, ¬(x = b ∧ o ≤ i ∧ i < o + vs.length) → s'.c x i = s.c x i ∧ pk s'.H x i = pk s.H x i
 gS : ∀ x, sh s'.H x = sh s.H x
theorem Sets.step {s s' : St} {b o k : Nat} {vs : List Value} (h : Sets s s' b o k vs) {q : Nat} {S : List Nat} (hq : q ∈ S) (h0 : q ≠ 0) (hc : ∀ i, i < vs.length → s.c b (o + i) = q) : Step S s s' :=
 ⟨by rw [h.sz]; exact Nat.le_refl _, fun x i hx hn => h.old x i fun ⟨e, h1, h2⟩ => by
  subst e
  have := hc (i - o) (by omega)
  rw [show o + (i - o) = i by omega] at this
  rw [this] at hn
  rcases hn with hn | hn
  ·exact h0 hn
  ·exact hn hq, fun x _ => h.gS x⟩
theorem Se {H : aP} {a : Addr} {v : Value} (x : Nat) : sh (ja H a v) x = sh H x := by
 unfold sh ja
 simp only [Array.getElem?_modify]
 by_cases e : a.block = x
 ·rw [if_pos e]
  cases H[x]? with
  | none => rfl
  | some o => cases o <;> rfl
 ·rw [if_neg e]
theorem PU {H : aP} {b i : Nat} {v : Value} (x j : Nat) : kA (ja H ⟨b, i, none⟩ v) ⟨x, j, none⟩ = kA H ⟨x, j, none⟩ := by
 unfold kA ja
 simp only [Option.isSome_none, Bool.false_eq_true, if_false, Array.getElem?_modify]
 by_cases e : b = x
 ·subst e
  simp only [if_true]
  cases H[b]? with
  | none => rfl
  | some o => cases o <;> rfl
 ·simp only [e, if_false]
def St.set (s : St) (b i k : Nat) (v : Value) (hk : k < 1152921504606846976 + 1152921504606846976 * s.H.size) (hf : s.c b i ≠ 0) : St :=
 ⟨ja s.H ⟨b, i, none⟩ v, fun x j => if x = b ∧ j = i then k else s.c x j, fun x j hx => by
  simp only [ja, Array.size_modify] at hx ⊢
  split
  ·exact hk
  ·exact s.wf x j hx, fun x j hx => by
  rw [PU]
  by_cases e : x = b ∧ j = i
  ·obtain ⟨rfl, rfl⟩ := e; exact s.fz _ _ hf
  ·simp only [e, if_false] at hx; exact s.fz _ _ hx⟩
theorem Gt {H : aP} {b i : Nat} {v : Value} {v0 : Value} (h : pk H b i = some (.v v0)) (x j : Nat) :
  pk (ja H ⟨b, i, none⟩ v) x j = if x = b ∧ j = i then some (.v v) else pk H x j := by
 unfold pk ja
 simp only [Option.isSome_none, Bool.false_eq_true, if_false, Array.getElem?_modify]
 unfold pk at h
 by_cases e : b = x
 ·subst e
  cases e1 : H[b]? with
  | none => rw [e1] at h; cases h
  | some o =>
   rw [e1] at h
   cases o with
   | cells c t f =>
    simp only [if_true, Option.map_some, true_and] at h ⊢
    by_cases e2 : j = i
    ·subst e2
     rw [if_pos rfl, Array.getElem?_setIfInBounds_self]
     cases e3 : c[j]? with
     | none => rw [e3] at h; cases h
     | some y => simp [(Array.getElem?_eq_some_iff.1 e3).1]
    ·rw [if_neg e2, Array.getElem?_setIfInBounds_ne (Ne.symm e2)]
   | _ => simp at h
 ·simp only [e, if_false]
  rw [if_neg (fun h => e h.1.symm)]
theorem acY {s : St} {k k' b i : Nat} {v0 v : Value} {K : HP} (h : s.w k b i = some (.v v0)) (hv : one v = true) (hk : k' < 1152921504606846976 + 1152921504606846976 * s.H.size) (hk0 : k ≠ 0)
  (hK : ∀ s' : St, Sets s s' b i k' [v] → K s'.H) : st ⟨b, i, none⟩ v K s.H := by
 have h1 := (bY h).1
 have hc : s.c b i ≠ 0 := by rw [(bY h).2]; exact hk0
 refine ⟨hv, by rw [No h1]; rfl, s.fz _ _ hc, hK (s.set b i k' v hk hc) ⟨by simp [St.set, ja], ?_, ?_, fun x => Se x⟩⟩
 ·intro j x hj
  have e : j = 0 := by cases j with
   | zero => rfl
   | succ j => simp at hj
  subst e
  simp at hj; subst hj
  refine dP ?_ ?_
  ·rw [St.set]; simp only; rw [Gt h1]; simp
  ·simp [St.set]
 ·intro x j hn
  have hn' : ¬(x = b ∧ j = i) := fun ⟨e1, e2⟩ => hn ⟨e1, by omega, by simp; omega⟩
  refine ⟨by simp [St.set, hn'], ?_⟩
  rw [St.set]; simp only; rw [Gt h1, if_neg hn']
theorem kJ {k k' b : Nat} {K : HP} : ∀ (vs : List Value) {s : St} {o i : Nat}, (∀ j, j < vs.length → ∃ v0, s.w k b (o + i + j) = some (.v v0)) → (∀ v ∈ vs, one v = true) → k' < 1152921504606846976 + 1152921504606846976 * s.H.size → k ≠ 0 →
  (∀ s' : St, Sets s s' b (o + i) k' vs → K s'.H) → aq ⟨b, o, none⟩ i vs K s.H
 | [], s, o, i, h, hv, hk, hk0, hK => hK s ⟨rfl, At.nil, fun _ _ _ => ⟨rfl, rfl⟩, fun _ => rfl⟩
 | v :: r, s, o, i, h, hv, hk, hk0, hK => by
  simp only [aq, dK]
  obtain ⟨v0, h0⟩ := h 0 (by simp)
  refine acY (by simpa using h0) (hv v List.mem_cons_self) hk hk0 fun s1 h1 => ?_
  refine kJ (k := k) (k' := k') r (o := o) (i := i + 1) (fun j hj => ?_) (fun v hv' => hv v (List.mem_cons_of_mem _ hv')) (by rw [h1.sz]; exact hk) hk0 fun s2 h2 => ?_
  ·obtain ⟨v1, h3⟩ := h (j + 1) (by simp; omega)
   refine ⟨v1, ?_⟩
   have := h1.old b (o + (i + 1) + j) (fun ⟨_, h4, h5⟩ => by simp at h5; omega)
   rw [show o + i + (j + 1) = o + (i + 1) + j by omega] at h3
   exact dP (this.2.trans (bY h3).1) (this.1.trans (bY h3).2)
  ·refine hK s2 ⟨h2.sz.trans h1.sz, ?_, ?_, fun x => (h2.gS x).trans (h1.gS x)⟩
   ·refine At.cons ?_ (by rw [show o + i + 1 = o + (i + 1) by omega]; exact h2.here)
    have h4 := h1.here 0 v (by simp)
    have h5 := h2.old b (o + i) (fun ⟨_, h4, h5⟩ => by omega)
    rw [Nat.add_zero] at h4
    exact dP (h5.2.trans (bY h4).1) (h5.1.trans (bY h4).2)
   ·intro x j hn
    have h4 := h2.old x j (fun ⟨e1, e2, e3⟩ => hn ⟨e1, by omega, by simp; omega⟩)
    have h5 := h1.old x j (fun ⟨e1, e2, e3⟩ => hn ⟨e1, by omega, by simp at e3 ⊢; omega⟩)
    exact ⟨h4.1.trans h5.1, h4.2.trans h5.2⟩
structure AF (s s' : St) (b k : Nat) (o : Obj) : Prop where
 sz : s'.H.size = s.H.size
 here : s'.w k b 0 = some (.o o)
 old : ∀ x i, x ≠ b → s'.c x i = s.c x i ∧ pk s'.H x i = pk s.H x i
 rest : ∀ i, s'.c b i = s.c b i ∧ (i ≠ 0 → pk s'.H b i = none)
 gS : ∀ x, sh s'.H x = sh s.H x
theorem AF.step {s s' : St} {b k : Nat} {o : Obj} (h : AF s s' b k o) {S : List Nat} (hq : k ∈ S) (h0 : k ≠ 0) (hp : ∀ i, i ≠ 0 → pk s.H b i = none) : Step S s s' :=
 ⟨by rw [h.sz]; exact Nat.le_refl _, fun x i hx hn => by
  by_cases e : x = b
  ·subst e
   by_cases e2 : i = 0
   ·subst e2
    have hc := (h.rest 0).1
    rw [(bY h.here).2] at hc
    rw [← hc] at hn
    rcases hn with hn | hn
    ·exact absurd hn h0
    ·exact absurd hq hn
   ·exact ⟨(h.rest i).1, ((h.rest i).2 e2).trans (hp i e2).symm⟩
  ·exact h.old x i e, fun x _ => h.gS x⟩
theorem tg {s : St} {b k : Nat} {o0 o : Obj} {K : HP} (h : s.w k b 0 = some (.o o0)) (ho : Obj.cl o = false) (hK : ∀ s' : St, AF s s' b k o → K s'.H) : K (s.H.setIfInBounds b o) := by
 have hlt := mq h
 have hc := (bY h).2
 have hg : (s.H.setIfInBounds b o)[b]? = some o := by rw [Array.getElem?_setIfInBounds_self]; simp [hlt]
 refine hK ⟨s.H.setIfInBounds b o, s.c, fun x i hx => by simp at hx ⊢; exact s.wf x i hx, fun x i hx => by
  have := s.fz x i hx
  unfold kA at this ⊢
  by_cases e : x = b
  ·subst e
   rw [hg]
   cases o <;> simp_all [Obj.cl]
  ·simp only [Array.getElem?_setIfInBounds_ne (Ne.symm e)]; exact this⟩ ⟨by simp, dP (zG hg ho) hc, fun x i hx => ⟨rfl, ?_⟩, fun i => ⟨rfl, fun hi => ?_⟩, fun x => ?_⟩
 ·unfold pk; rw [Array.getElem?_setIfInBounds_ne (Ne.symm hx)]
 ·unfold pk; rw [hg]; cases o <;> simp_all [Obj.cl]
 ·by_cases e : x = b
  ·subst e
   obtain ⟨e1, _, e2⟩ := mU (bY h).1
   unfold sh
   simp only [hg, e1]
   cases o <;> cases o0 <;> simp_all [Obj.cl]
  ·unfold sh
   simp only [Array.getElem?_setIfInBounds_ne (Ne.symm e)]
theorem rK {s : St} {b k : Nat} {o : Obj} (h : s.w k b 0 = some (.o o)) (i : Nat) (hi : i ≠ 0) : pk s.H b i = none := by
 obtain ⟨h1, _, h3⟩ := mU (bY h).1
 unfold pk; rw [h1]; cases o <;> simp_all [Obj.cl]
theorem vG {a : Addr} {K : Addr → HP} {H : aP} : nn (some a) K H ↔ K a H := by simp [nn]
theorem yJ {k : IntKind} {a : Addr} {K : Int → HP} {H : aP} {n : Int} (h : cell H a = some (.int k n)) : ag k a K H ↔ K n H := by simp [ag, h]
theorem aY {n : Int} (h1 : -9223372036854775808 ≤ n) (h2 : n < 9223372036854775808) : ay n = n := by
 unfold ay IntKind.wrap
 simp [IntKind.bits, IntKind.signed]
 omega
end Go.Ph
end
section
set_option linter.all false
namespace Go.Ph
structure Ty (α : Type) where
 n : Nat
 R : View → α → List Value → Prop
 len : ∀ {V x vs}, R V x vs → vs.length = n
 mono : ∀ {V V' x vs}, eE V V' → R V x vs → R V' x vs
 one : ∀ {V x vs}, R V x vs → ∀ v ∈ vs, Go.Ph.one v = true
def El {α : Type} (t : Ty α) (V W : View) (x : α) (b o : Nat) : Prop := ∃ vs, t.R V x vs ∧ At W b o vs
theorem El.mono {α : Type} {t : Ty α} {V V' W W' : View} {x : α} {b o : Nat} (h : El t V W x b o) (hV : eE V V') (hW : eE W W') : El t V' W' x b o := by
 obtain ⟨vs, h1, h2⟩ := h
 exact ⟨vs, t.mono hV h1, h2.mono hW⟩
structure bz {α : Type} (t : Ty α) (V W : View) (l : List α) (sl : Sl) : Prop where
 len : sl.len = l.length
 cap : sl.len ≤ sl.cap
 nil : sl.a = none → sl.cap = 0
 at_ : ∀ a, sl.a = some a → (0 < sl.cap → a.spot = none) ∧ ∀ j x, l[j]? = some x → El t V W x a.block (a.off + j * t.n)
abbrev Ls {α : Type} (t : Ty α) (V : View) (l : List α) (sl : Sl) : Prop := bz t V V l sl
theorem bz.mono {α : Type} {t : Ty α} {V V' W W' : View} {l : List α} {sl : Sl} (h : bz t V W l sl) (hV : eE V V') (hW : eE W W') : bz t V' W' l sl :=
 ⟨h.len, h.cap, h.nil, fun a ha => ⟨(h.at_ a ha).1, fun j x hx => ((h.at_ a ha).2 j x hx).mono hV hW⟩⟩
theorem Ls.st {α : Type} {t : Ty α} {s s' : St} {l : List α} {sl : Sl} {S : List Nat} (h : Ls t (s.w 0) l sl) (hs : Step S s s') : Ls t (s'.w 0) l sl := bz.mono h hs.v0 hs.v0
theorem Ls.iO {α : Type} {t : Ty α} {V W : View} : bz t V W [] ⟨none, 0, 0⟩ := ⟨rfl, Nat.le_refl _, fun _ => rfl, fun a ha => by cases ha⟩
theorem Ls.lt {α : Type} {t : Ty α} {V W : View} {l : List α} {sl : Sl} (h : bz t V W l sl) {j : Nat} (hj : j < l.length) : ∃ b o, sl.a = some ⟨b, o, none⟩ := by
 cases e : sl.a with
 | none => have := h.nil e; have := h.len; have := h.cap; omega
 | some a =>
  obtain ⟨b, o, sp⟩ := a
  have := (h.at_ _ e).1 (by have := h.len; have := h.cap; omega)
  simp at this; subst this
  exact ⟨b, o, rfl⟩
def tI (k : IntKind) : Ty Int := ⟨1, fun _ n vs => vs = [.int k n], by rintro _ _ _ rfl; rfl, fun _ h => h, by rintro _ _ _ rfl; simp [one]⟩
def tS : Ty ByteArray := ⟨1, fun _ n vs => vs = [.string n], by rintro _ _ _ rfl; rfl, fun _ h => h, by rintro _ _ _ rfl; simp [one]⟩
def tB : Ty Bool := ⟨1, fun _ n vs => vs = [.bool n], by rintro _ _ _ rfl; rfl, fun _ h => h, by rintro _ _ _ rfl; simp [one]⟩
def tP : Ty (Option Addr) := ⟨1, fun _ n vs => vs = [.pointer n], by rintro _ _ _ rfl; rfl, fun _ h => h, by rintro _ _ _ rfl; simp [one]⟩
def tM : Ty (Option Nat) := ⟨1, fun _ n vs => vs = [.map n], by rintro _ _ _ rfl; rfl, fun _ h => h, by rintro _ _ _ rfl; simp [one]⟩
def bf : Ty UInt8 := ⟨1, fun _ n vs => vs = [.int .u8 n.toNat], by rintro _ _ _ rfl; rfl, fun _ h => h, by rintro _ _ _ rfl; simp [one]⟩
theorem bz.cells {α : Type} {t : Ty α} {V W : View} : ∀ (l : List α) (b o : Nat), (∀ j x, l[j]? = some x → El t V W x b (o + j * t.n)) →
  ∃ vs, vs.length = l.length * t.n ∧ At W b o vs ∧ (∀ v ∈ vs, one v = true) ∧ ∀ (W' : View) (b' o' : Nat), At W' b' o' vs → ∀ j x, l[j]? = some x → El t V W' x b' (o' + j * t.n)
 | [], b, o, h => ⟨[], by simp, At.nil, by simp, fun _ _ _ _ j x hx => by simp at hx⟩
 | y :: l, b, o, h => by
  obtain ⟨ws, h1, h2⟩ := h 0 y rfl
  have hl := t.len h1
  obtain ⟨vs, g1, g2, g3, g4⟩ := bz.cells (t := t) (V := V) (W := W) l b (o + t.n) (fun j x hx => by
   have := h (j + 1) x (by simpa using hx)
   rwa [show o + (j + 1) * t.n = o + t.n + j * t.n by rw [Nat.add_mul]; omega] at this)
  refine ⟨ws ++ vs, by simp [hl, g1, Nat.add_mul]; omega, At.append (by simpa using h2) (by rw [hl]; exact g2), ?_, ?_⟩
  ·intro v hv
   rcases List.mem_append.1 hv with hv | hv
   ·exact t.one h1 v hv
   ·exact g3 v hv
  ·intro W' b' o' hw j x hx
   have hw1 : At W' b' o' ws := fun i v hi => hw i v (by rw [List.getElem?_append_left (List.getElem?_eq_some_iff.1 hi).1]; exact hi)
   have hw2 : At W' b' (o' + t.n) vs := fun i v hi => by
    have := hw (t.n + i) v (by rw [List.getElem?_append_right (by omega), hl]; simpa using hi)
    rwa [← Nat.add_assoc] at this
   cases j with
   | zero => simp at hx; subst hx; exact ⟨ws, h1, by simpa using hw1⟩
   | succ j =>
    have := g4 W' b' (o' + t.n) hw2 j x (by simpa using hx)
    rwa [show o' + (j + 1) * t.n = o' + t.n + j * t.n by rw [Nat.add_mul]; omega]
theorem bz.row {α : Type} {t : Ty α} {s : St} {V : View} {k : Nat} {l : List α} {sl : Sl} (h : bz t V (s.w k) l sl) :
  ∃ vs, vs.length = l.length * t.n ∧ Row s.H sl.a (sl.len * t.n) vs ∧ (∀ v ∈ vs, one v = true) ∧ ∀ (W' : View) (b' o' : Nat), At W' b' o' vs → ∀ j x, l[j]? = some x → El t V W' x b' (o' + j * t.n) := by
 cases e : sl.a with
 | none =>
  have : l = [] := by have := h.nil e; have := h.len; have := h.cap; exact List.eq_nil_of_length_eq_zero (by omega)
  subst this
  exact ⟨[], by simp, rfl, by simp, fun _ _ _ _ j x hx => by simp at hx⟩
 | some a =>
  obtain ⟨h1, h2⟩ := h.at_ a e
  obtain ⟨vs, g1, g2, g3, g4⟩ := bz.cells l a.block a.off h2
  refine ⟨vs, g1, ⟨by rw [g1, h.len], fun j v hj => ?_⟩, g3, g4⟩
  obtain ⟨b, o, sp⟩ := a
  have h1 := h1 (by
   have h3 := (List.getElem?_eq_some_iff.1 hj).1
   rw [g1] at h3
   have : 0 < l.length := by rcases Nat.eq_zero_or_pos l.length with e | e; rw [e, Nat.zero_mul] at h3; omega; exact e
   have := h.len; have := h.cap; omega)
  simp at h1; subst h1
  exact g2.cell j hj
theorem bz.take {α : Type} {t : Ty α} {V W : View} {l : List α} {sl : Sl} (h : bz t V W l sl) (m : Nat) (hm : m ≤ l.length) : bz t V W (l.take m) ⟨sl.a, m, sl.cap⟩ :=
 ⟨by simp; omega, by have := h.cap; have := h.len; simp; omega, h.nil, fun a ha => ⟨(h.at_ a ha).1, fun j x hx => (h.at_ a ha).2 j x (by
  rw [List.getElem?_take] at hx
  split at hx
  ·exact hx
  ·cases hx)⟩⟩
structure bF {α : Type} (t : Ty α) (q : Nat) (s : St) (l : List α) (sl : Sl) : Prop where
 ls : Ls t (s.w 0) l sl
 own : ∀ a, sl.a = some a → ∀ i, l.length * t.n ≤ i → i < sl.cap * t.n → ∃ v, s.w q a.block (a.off + i) = some (.v v)
theorem bF.nil {α : Type} {t : Ty α} {q : Nat} {s : St} : bF t q s [] ⟨none, 0, 0⟩ := ⟨Ls.iO, fun a ha => by cases ha⟩
theorem bF.st {α : Type} {t : Ty α} {q : Nat} {s s' : St} {l : List α} {sl : Sl} {S : List Nat} (h : bF t q s l sl) (hs : Step S s s') (hq : q ∉ S) : bF t q s' l sl :=
 ⟨Ls.st h.ls hs, fun a ha i h1 h2 => (h.own a ha i h1 h2).imp fun v hv => hs.view hq _ _ _ hv⟩
theorem zh (z : Array Value) : ∀ n, (eO z n).length = n * z.size
 | 0 => by simp [eO]
 | n + 1 => by simp [eO, zh z n, Nat.add_mul]; omega
theorem jl {α : Type} {t : Ty α} {q kx : Nat} {s : St} {l m : List α} {sl xs : Sl} {size bytes : Nat} {zero : Array Value} {K : Sl → HP}
  (hB : bF t q s l sl) (hx : bz t (s.w 0) (s.w kx) m xs)
  (hK : ∀ s' sl', Step [q] s s' → bF t q s' (l ++ m) sl' → K sl' s'.H)
  (hn : size = t.n := by rfl) (hz : zero.size = t.n := by rfl) (hb : (l.length + m.length) * bytes ≤ 140737488355328 := by first | omega | (simp; omega))
  (hl : l.length + m.length < 4611686018427387904 := by first | omega | (simp; omega)) (hq : q < 2305843009213693952 + 1152921504606846976 * s.H.size := by first | omega | (unfold own; omega)) (hq0 : q ≠ 0 := by first | assumption | omega | (unfold own; omega)) : app size bytes zero sl xs K s.H := by
 subst hn
 obtain ⟨new, n1, n2, n3, n4⟩ := hx.row
 have hxl := hx.len
 have hsl := hB.ls.len
 refine ⟨new, n2, fun hc => ?_, fun hc => ?_⟩
 ·cases e : sl.a with
  | none =>
   have h0 := hB.ls.nil e
   have hm : m = [] := List.eq_nil_of_length_eq_zero (by omega)
   have hl0 : l = [] := List.eq_nil_of_length_eq_zero (by omega)
   subst hm hl0
   simp only
   have := hK s ⟨none, sl.len + xs.len, sl.cap⟩ Step.refl ⟨⟨by simp; simp at hxl hsl; omega, by simp at hxl hsl ⊢; omega, fun _ => h0, fun a ha => by cases ha⟩, fun a ha => by cases ha⟩
   exact this
  | some a =>
   obtain ⟨g1, g2⟩ := hB.ls.at_ a e
   have hown := hB.own a e
   obtain ⟨b, o, sp⟩ := a
   by_cases hc0 : sl.cap = 0
   ·have hm : m = [] := List.eq_nil_of_length_eq_zero (by omega)
    have hl0 : l = [] := List.eq_nil_of_length_eq_zero (by omega)
    subst hm hl0
    have hnew : new = [] := List.eq_nil_of_length_eq_zero (by simpa using n1)
    subst hnew
    exact hK s ⟨some ⟨b, o, sp⟩, sl.len + xs.len, sl.cap⟩ Step.refl ⟨⟨by simp at hxl hsl ⊢; omega, hc, fun h => (by cases h), fun a ha => ⟨fun h => by simp only at h; omega, fun j x hx => by simp at hx⟩⟩, fun a ha i h1 h2 => by simp only [hc0, Nat.zero_mul] at h2; omega⟩
   have g1 := g1 (by omega)
   simp at g1; subst g1
   simp only [dK]
   simp only at hown g2
   rw [hsl]
   have hcap : (l.length + m.length) * t.n ≤ sl.cap * t.n := Nat.mul_le_mul_right _ (by omega)
   rw [Nat.add_mul] at hcap
   refine kJ (k := q) (k' := 0) new (fun j hj => ?_) n3 (by omega) hq0 fun s' h' => ?_
   ·have := hown (l.length * t.n + j) (by omega) (by rw [n1] at hj; omega)
    rwa [show o + l.length * t.n + 0 + j = o + (l.length * t.n + j) by omega]
   ·have hst : Step [q] s s' := h'.step (q := q) (by simp) hq0 fun i hi => by
     obtain ⟨v, hv⟩ := hown (l.length * t.n + i) (by omega) (by rw [n1] at hi; omega)
     rw [show o + l.length * t.n + 0 + i = o + (l.length * t.n + i) by omega]
     exact (bY hv).2
    refine hK s' _ hst ⟨⟨by simp [hxl], by simp; omega, fun h => (by cases h), fun a ha => ?_⟩, fun a ha i hi1 hi2 => ?_⟩
    ·simp at ha; subst ha
     refine ⟨fun _ => rfl, fun j x hj => ?_⟩
     by_cases ej : j < l.length
     ·rw [List.getElem?_append_left ej] at hj
      exact (g2 j x hj).mono hst.v0 hst.v0
     ·rw [List.getElem?_append_right (by omega)] at hj
      have := n4 (s'.w 0) b (o + l.length * t.n) (by have := h'.here; rwa [Nat.add_zero] at this) _ _ hj
      have e2 : o + j * t.n = o + l.length * t.n + (j - l.length) * t.n := by
       rw [Nat.sub_mul]
       have : l.length * t.n ≤ j * t.n := Nat.mul_le_mul_right _ (by omega)
       omega
      simp only
      rw [e2]
      exact this.mono hst.v0 (eE.refl _)
    ·simp at ha; subst ha
     simp only at hi2 ⊢
     rw [List.length_append, Nat.add_mul] at hi1
     obtain ⟨v, hv⟩ := hown i (by omega) hi2
     refine ⟨v, ?_⟩
     have := h'.old b (o + i) (fun ⟨_, h1, h2⟩ => by rw [n1] at h2; omega)
     exact dP (this.2.trans (bY hv).1) (this.1.trans (bY hv).2)
 ·refine ⟨growslice_fits hc (by rw [hsl, hxl]; exact hb), by omega, ?_⟩
  obtain ⟨old, o1, o2, o3, o4⟩ := hB.ls.row
  refine ⟨old, o2, fun ty c hcc => ?_⟩
  refine pZ (K := fun b => K ⟨some (af b), sl.len + xs.len, c⟩) (κ := fun i => if i < (l.length + m.length) * t.n then 0 else q) (lo := 0) (hi := 0) (fun i => ?_) (fun i _ => by simp) fun s' b hnew => ?_
  ·split <;> omega
  ·have hst : Step [q] s s' := hnew.step.n
   have hat : At (s'.w 0) b 0 (old ++ new) := fun i v hi => by
    have hlt := (List.getElem?_eq_some_iff.1 hi).1
    rw [List.length_append] at hlt
    refine dP ?_ ?_
    ·rw [Nat.zero_add, hnew.here, List.getElem?_append_left (by simpa using hlt), hi]; rfl
    ·rw [Nat.zero_add, hnew.col, if_pos (by rw [Nat.add_mul]; omega)]
   refine hK s' ⟨some (af b), sl.len + xs.len, c⟩ hst ⟨⟨by simp [hsl, hxl], by simp; omega, fun h => (by cases h), fun a ha => ?_⟩, fun a ha i hi1 hi2 => ?_⟩
   ·simp at ha; subst ha
    refine ⟨fun _ => rfl, fun j x hj => ?_⟩
    simp only
    by_cases ej : j < l.length
    ·rw [List.getElem?_append_left ej] at hj
     have := o4 (s'.w 0) b 0 (fun i v hi => hat i v (by rw [List.getElem?_append_left (List.getElem?_eq_some_iff.1 hi).1]; exact hi)) j x hj
     exact this.mono hst.v0 (eE.refl _)
    ·rw [List.getElem?_append_right (by omega)] at hj
     have := n4 (s'.w 0) b (l.length * t.n) (fun i v hi => by
      have := hat (old.length + i) v (by rw [List.getElem?_append_right (by omega)]; simpa using hi)
      rwa [Nat.zero_add, o1] at this) _ x hj
     have e2 : 0 + j * t.n = l.length * t.n + (j - l.length) * t.n := by
      rw [Nat.sub_mul]
      have : l.length * t.n ≤ j * t.n := Nat.mul_le_mul_right _ (by omega)
      omega
     rw [e2]
     exact this.mono hst.v0 (eE.refl _)
   ·simp at ha; subst ha
    simp only at hi2 ⊢
    rw [List.length_append] at hi1
    have hlen : (old ++ new ++ eO zero (c - (sl.len + xs.len))).length = c * t.n := by
     rw [List.length_append, List.length_append, zh, o1, n1, hz, ← Nat.add_mul, ← Nat.add_mul]
     congr 1; omega
    rw [Nat.zero_add]
    refine ⟨(old ++ new ++ eO zero (c - (sl.len + xs.len)))[i]'(by omega), dP ?_ ?_⟩
    ·rw [hnew.here, List.getElem?_eq_getElem (by omega)]; rfl
    ·rw [hnew.col, if_neg (by omega)]
theorem Ls.single {α : Type} {t : Ty α} {V W : View} {x : α} {vs : List Value} {b : Nat} (h : t.R V x vs) (ha : At W b 0 vs) : bz t V W [x] ⟨some (af b), 1, 1⟩ :=
 ⟨rfl, Nat.le_refl _, fun h => (by cases h), fun a e => by
  simp at e; subst e
  refine ⟨fun _ => rfl, fun j y hj => ?_⟩
  cases j with
  | zero => simp at hj; subst hj; exact ⟨vs, h, by simpa using ha⟩
  | succ j => simp at hj⟩
theorem jv {α : Type} {t : Ty α} {q : Nat} {s : St} {l : List α} (x : α) {cs : Array Value} {sl : Sl} {size bytes : Nat} {zero : Array Value} {K : Sl → HP}
  (hB : bF t q s l sl) (hx : t.R (s.w 0) x cs.toList)
  (hK : ∀ s' sl', Step [q] s s' → bF t q s' (l ++ [x]) sl' → K sl' s'.H) (hn : size = t.n := by rfl) (hz : zero.size = t.n := by rfl)
  (hb : (l.length + 1) * bytes ≤ 140737488355328 := by first | omega | (simp; omega))
  (hl : l.length < 4611686018427387903 := by first | omega | (simp; omega)) (hq : q < 2305843009213693952 + 1152921504606846976 * s.H.size := by first | omega | (unfold own; omega)) (hq0 : q ≠ 0 := by first | assumption | omega | (unfold own; omega)) :
  az cs (fun b => app size bytes zero sl ⟨some (af b), 1, 1⟩ K) s.H := by
 refine dm 1 (by omega) fun s1 b h1 h2 => ?_
 have e1 : Step [] s s1 := h1.step
 refine jl (hB.st e1 (by simp)) (Ls.single (t.mono e1.v0 hx) h2) (fun s2 sl2 h3 h4 => hK s2 sl2 (e1.n.trans h3) h4) hn hz (by simpa using hb) (by simp; omega) (by rw [h1.sz]; omega) hq0
theorem bU {α : Type} {t : Ty α} {V W : View} {l : List α} {sl : Sl} {size : Nat} {i : Int} {K : Addr → HP} {H : aP} (h : bz t V W l sl) (h0 : 0 ≤ i) (h1 : i < l.length)
  (hK : ∀ b o x, l[i.toNat]? = some x → El t V W x b o → K ⟨b, o, none⟩ H) (hn : size = t.n := by rfl) : aL sl size i K H := by
 subst hn
 obtain ⟨b, o, ha⟩ := Ls.lt h (j := i.toNat) (by omega)
 refine ⟨_, ha, h0, by rw [h.len]; exact h1, ?_⟩
 rw [dK]
 have hx : l[i.toNat]? = some (l[i.toNat]'(by omega)) := List.getElem?_eq_getElem _
 exact hK _ _ _ hx ((h.at_ _ ha).2 _ _ hx)
theorem sX (s : ByteArray) : (dO s).length = s.size := by simp [dO]
theorem k8 {s : St} {V : View} {k : Nat} {l : List UInt8} {sl : Sl} {K : ByteArray → HP} (h : bz bf V (s.w k) l sl) (hK : K ⟨l.toArray⟩ s.H) : ef sl K s.H := by
 refine ⟨⟨l.toArray⟩, ?_, hK⟩
 obtain ⟨vs, h1, h2, h3, h4⟩ := h.row
 have hvs : vs = dO ⟨l.toArray⟩ := by
  apply List.ext_getElem?
  intro j
  by_cases hj : j < l.length
  ·have hb : j < vs.length := by rw [h1]; simp [bf]; exact hj
   let W' : View := fun b i => (vs[i]?).map .v
   obtain ⟨ws, g1, g2⟩ := h4 W' 0 0 (fun i v hi => by simp [W', hi]) j l[j] (List.getElem?_eq_getElem hj)
   change ws = _ at g1
   subst g1
   have := g2 0 _ rfl
   simp only [W', bf, Nat.mul_one, Nat.zero_add, Nat.add_zero, Option.map_eq_some_iff, Xo.v.injEq] at this
   obtain ⟨v, hv, rfl⟩ := this
   rw [hv]
   simp [dO, hj]
  ·rw [List.getElem?_eq_none (by rw [h1]; simp [bf]; omega), List.getElem?_eq_none (by rw [sX]; simp [ByteArray.size]; omega)]
 rw [← hvs]
 simpa [bf] using h2
theorem At.bytes {W : View} {b o : Nat} {bs : ByteArray} (h : At W b o (dO bs)) {V : View} (j : Nat) (x : UInt8) (hx : bs.data.toList[j]? = some x) : El bf V W x b (o + j * bf.n) := by
 refine ⟨[.int .u8 x.toNat], rfl, fun i v hi => ?_⟩
 have e : i = 0 := by cases i with
  | zero => rfl
  | succ j => simp at hi
 subst e
 simp at hi; subst hi
 simp only [bf, Nat.mul_one, Nat.add_zero]
 exact h j _ (by simp only [dO, List.getElem?_map, hx, Option.map_some])
theorem Hx {s : St} {bs : ByteArray} {K : Sl → HP} (q : Nat) (hq : q < 2305843009213693952 + 1152921504606846976 * s.H.size) (hK : ∀ s' sl, Step [] s s' → s'.H.size = s.H.size + 1 → bF bf q s' bs.data.toList sl → K sl s'.H) : kD bs K s.H := by
 intro cap ty hc
 refine pZ (K := fun b => K ⟨some (af b), bs.size, cap⟩) (cs := dO bs ++ List.replicate (cap - bs.size) (Value.int .u8 0)) (lo := cap) (hi := cap + 1) (κ := fun i => if i < bs.size then 0 else if i < cap then q else 0) (fun i => by split; omega; split <;> omega) (fun i hi => ?_) fun s' b hnew => ?_
 ·split at hi
  ·exact absurd rfl hi
  ·split at hi
   ·omega
   ·exact absurd rfl hi
 ·have hat : At (s'.w 0) b 0 (dO bs) := fun i v hi => by
   have hlt := (List.getElem?_eq_some_iff.1 hi).1
   rw [sX] at hlt
   refine dP ?_ ?_
   ·rw [Nat.zero_add, hnew.here, List.getElem?_append_left (by rw [sX]; exact hlt), hi]; rfl
   ·rw [Nat.zero_add, hnew.col, if_pos hlt]
  have hsz : bs.data.toList.length = bs.size := by simp
  refine hK s' ⟨some (af b), bs.size, cap⟩ hnew.step hnew.sz ⟨⟨hsz.symm, hc, fun h => (by cases h), fun a ha => ?_⟩, fun a ha i h1 h2 => ?_⟩
  ·simp at ha; subst ha
   exact ⟨fun _ => rfl, fun j x hj => hat.bytes j x hj⟩
  ·simp at ha; subst ha
   simp only [bf, Nat.mul_one] at h1 h2
   rw [hsz] at h1
   simp only [Nat.zero_add]
   refine ⟨(dO bs ++ List.replicate (cap - bs.size) (Value.int .u8 0))[i]'(by simp [sX]; omega), dP ?_ ?_⟩
   ·rw [hnew.here, List.getElem?_eq_getElem (by simp [sX]; omega)]; rfl
   ·rw [hnew.col, if_neg (by omega), if_pos h2]
theorem lY {α : Type} {t : Ty α} {V W : View} {l : List α} {sl : Sl} {size : Nat} {lo hi mx : Int} {K : Sl → HP} {H : aP} (h : bz t V W l sl) (h0 : 0 ≤ lo) (h1 : lo ≤ hi) (h2 : hi ≤ l.length) (h3 : hi ≤ mx) (h4 : mx ≤ sl.cap)
  (hK : ∀ sl', bz t V W ((l.take hi.toNat).drop lo.toNat) sl' → sl'.cap = mx.toNat - lo.toNat → K sl' H) (hn : size = t.n := by rfl) : eY sl size lo hi mx K H := by
 subst hn
 refine ⟨⟨h0, h1, h3, h4⟩, hK _ ⟨?_, ?_, ?_, ?_⟩ rfl⟩
 ·simp; omega
 ·simp; omega
 ·intro he
  simp only at he ⊢
  split at he
  ·omega
  ·simp only [Option.map_eq_none_iff] at he
   have := h.nil he; omega
 ·intro a ha
  simp only at ha
  cases e : sl.a with
  | none => rw [e] at ha; simp at ha
  | some a' =>
   obtain ⟨g1, g2⟩ := h.at_ a' e
   obtain ⟨b, o, sp⟩ := a'
   rw [e] at ha
   simp only [Option.map_some] at ha
   by_cases em : mx.toNat = lo.toNat
   ·rw [if_pos em] at ha
    refine ⟨fun h => by simp only at h; omega, fun j x hj => ?_⟩
    rw [List.getElem?_drop, List.getElem?_eq_none (by simp; omega)] at hj
    cases hj
   ·rw [if_neg em] at ha
    have g1 := g1 (by omega)
    simp at g1; subst g1
    rw [dK] at ha
    simp at ha; subst ha
    refine ⟨fun _ => rfl, fun j x hj => ?_⟩
    rw [List.getElem?_drop, List.getElem?_take] at hj
    split at hj
    ·have := g2 _ _ hj
     simp only at this ⊢
     rwa [show o + lo.toNat * t.n + j * t.n = o + (lo.toNat + j) * t.n by rw [Nat.add_mul]; omega]
    ·cases hj
theorem least {P : Nat → Prop} : ∀ n, P n → ∃ m, P m ∧ ∀ k, P k → m ≤ k := by
 intro n
 induction n using Nat.strongRecOn with
 | ind n ih =>
  intro h
  by_cases e : ∃ k, k < n ∧ P k
  ·obtain ⟨k, h1, h2⟩ := e; exact ih k h1 h2
  ·exact ⟨n, h, fun k hk => by
    by_cases h3 : k < n
    ·exact absurd ⟨k, h3, hk⟩ e
    ·omega⟩
open Classical in
theorem cD {σ : Type} {step : (σ → HP) → σ → HP} {ι : Type} (enc : ι → σ) (I : ι → St → Prop) (μ : ι → St → Nat) {v0 : σ} (i0 : ι) {s0 : St} (hv : v0 = enc i0) (h0 : I i0 s0)
  (h : ∀ i s, I i s → ∀ R : σ → HP, (∀ i' s', I i' s' → μ i' s' < μ i s → R (enc i') s'.H) → step R (enc i) s.H) : loop step v0 s0.H := by
 subst hv
 let P : σ → aP → Nat → Prop := fun v H n => ∃ i s, v = enc i ∧ H = s.H ∧ I i s ∧ μ i s = n
 have hl : ∀ v H, (∃ n, P v H n) → ∃ m, P v H m ∧ ∀ k, P v H k → m ≤ k := fun v H ⟨n, hn⟩ => least n hn
 let M : σ → aP → Nat := fun v H => if hh : ∃ n, P v H n then (hl v H hh).choose else 0
 refine ⟨fun v H => ∃ n, P v H n, M, ⟨_, i0, s0, rfl, rfl, h0, rfl⟩, ?_⟩
 intro v H hI
 have e1 : M v H = (hl v H hI).choose := dif_pos hI
 have h2 := (hl v H hI).choose_spec
 rw [← e1] at h2
 obtain ⟨⟨i, s, hv1, hH1, hi, hn⟩, _⟩ := h2
 rw [← hn, hv1, hH1]
 refine h i s hi _ fun i' s' hi' hlt => ?_
 have hex : ∃ n, P (enc i') s'.H n := ⟨_, i', s', rfl, rfl, hi', rfl⟩
 refine ⟨hex, ?_⟩
 have e2 : M (enc i') s'.H = (hl _ _ hex).choose := dif_pos hex
 have h3 := (hl _ _ hex).choose_spec
 rw [← e2] at h3
 have := h3.2 _ ⟨i', s', rfl, rfl, hi', rfl⟩
 omega
end Go.Ph
end
section
set_option linter.all false
namespace Go.Ph
theorem cI {k : IntKind} {n : Int} {K : Int → HP} : ak k (.int k n) K = K n := by simp [ak]
theorem cN {a : Option Addr} {n c : Nat} {K : Sl → HP} : bA (.slice a n c) K = K ⟨a, n, c⟩ := rfl
theorem cK {n : ByteArray} {K : ByteArray → HP} : bX (.string n) K = K n := rfl
theorem cH {n : Bool} {K : Bool → HP} : jk (.bool n) K = K n := rfl
theorem cJ {n : Option Nat} {K : Option Nat → HP} : mB (.map n) K = K n := rfl
theorem cO {n : Option Addr} {K : Option Addr → HP} : bu (.pointer n) K = K n := rfl
theorem aj {b o : Nat} {K : Addr → HP} {H : aP} (h : K ⟨b, o, none⟩ H) : nn (some ⟨b, o, none⟩) K H := ⟨_, rfl, h⟩
theorem av {s : St} {q b o i : Nat} {vs : List Value} {k : IntKind} {K : Int → HP} {n : Int} (h : At (s.w q) b o vs) (hi : vs[i]? = some (.int k n)) (hK : K n s.H) : ag k (Addr.add ⟨b, o, none⟩ i) K s.H := ⟨n, h.cell i hi, hK⟩
theorem aK {s : St} {q b o i : Nat} {vs : List Value} {K : Bool → HP} {n : Bool} (h : At (s.w q) b o vs) (hi : vs[i]? = some (.bool n)) (hK : K n s.H) : fX (Addr.add ⟨b, o, none⟩ i) K s.H := ⟨n, h.cell i hi, hK⟩
theorem aH {s : St} {q b o i : Nat} {vs : List Value} {K : ByteArray → HP} {n : ByteArray} (h : At (s.w q) b o vs) (hi : vs[i]? = some (.string n)) (hK : K n s.H) : bE (Addr.add ⟨b, o, none⟩ i) K s.H := ⟨n, h.cell i hi, hK⟩
theorem aI {s : St} {q b o i : Nat} {vs : List Value} {K : Option Addr → HP} {n : Option Addr} (h : At (s.w q) b o vs) (hi : vs[i]? = some (.pointer n)) (hK : K n s.H) : ct (Addr.add ⟨b, o, none⟩ i) K s.H := ⟨n, h.cell i hi, hK⟩
theorem aJ {s : St} {q b o i : Nat} {vs : List Value} {K : Option Nat → HP} {n : Option Nat} (h : At (s.w q) b o vs) (hi : vs[i]? = some (.map n)) (hK : K n s.H) : gp (Addr.add ⟨b, o, none⟩ i) K s.H := ⟨n, h.cell i hi, hK⟩
theorem aC {s : St} {q b o i : Nat} {vs : List Value} {K : Sl → HP} {n : Sl} (h : At (s.w q) b o vs) (hi : vs[i]? = some (.slice n.a n.len n.cap)) (hK : K n s.H) : aB (Addr.add ⟨b, o, none⟩ i) K s.H := ⟨n, h.cell i hi, hK⟩
theorem dR {s : St} {q b o : Nat} {vs : List Value} {K : Option Addr → HP} {n : Option Addr} (h : At (s.w q) b o vs) (hi : vs[0]? = some (.pointer n)) (hK : K n s.H) : ct ⟨b, o, none⟩ K s.H := ⟨n, by have := h.cell 0 hi; rwa [dK, Nat.add_zero] at this, hK⟩
theorem iQ {s : St} {q b o : Nat} {vs : List Value} {k : IntKind} {K : Int → HP} {n : Int} (h : At (s.w q) b o vs) (hi : vs[0]? = some (.int k n)) (hK : K n s.H) : ag k ⟨b, o, none⟩ K s.H := ⟨n, by have := h.cell 0 hi; rwa [dK, Nat.add_zero] at this, hK⟩
theorem VU {s : St} {q b o : Nat} {vs : List Value} {K : Bool → HP} {n : Bool} (h : At (s.w q) b o vs) (hi : vs[0]? = some (.bool n)) (hK : K n s.H) : fX ⟨b, o, none⟩ K s.H := ⟨n, by have := h.cell 0 hi; rwa [dK, Nat.add_zero] at this, hK⟩
theorem eW {s : St} {q b o : Nat} {vs : List Value} {K : ByteArray → HP} {n : ByteArray} (h : At (s.w q) b o vs) (hi : vs[0]? = some (.string n)) (hK : K n s.H) : bE ⟨b, o, none⟩ K s.H := ⟨n, by have := h.cell 0 hi; rwa [dK, Nat.add_zero] at this, hK⟩
theorem VJ {s : St} {q b o : Nat} {vs : List Value} {K : Option Nat → HP} {n : Option Nat} (h : At (s.w q) b o vs) (hi : vs[0]? = some (.map n)) (hK : K n s.H) : gp ⟨b, o, none⟩ K s.H := ⟨n, by have := h.cell 0 hi; rwa [dK, Nat.add_zero] at this, hK⟩
theorem kN {s : St} {q b o : Nat} {vs : List Value} {K : Sl → HP} {n : Sl} (h : At (s.w q) b o vs) (hi : vs[0]? = some (.slice n.a n.len n.cap)) (hK : K n s.H) : aB ⟨b, o, none⟩ K s.H := ⟨n, by have := h.cell 0 hi; rwa [dK, Nat.add_zero] at this, hK⟩
theorem js {c : Bool} {A B : HP} {H : aP} (h1 : c = true → A H) (h2 : c = false → B H) : (bif c then A else B) H := by cases c <;> simp_all
theorem aN {p : Prop} [Decidable p] {A B : HP} {H : aP} (h1 : p → A H) (h2 : ¬p → B H) : (bif decide p then A else B) H := by by_cases h : p <;> simp_all
theorem bK {p : Prop} [Decidable p] {A B : HP} {H : aP} (h1 : ¬p → A H) (h2 : p → B H) : (bif !decide p then A else B) H := by by_cases h : p <;> simp_all
theorem bH {A B : HP} {H : aP} (h1 : A H) : (bif true then A else B) H := h1
theorem bt {A B : HP} {H : aP} (h1 : B H) : (bif false then A else B) H := h1
theorem fD {A K : HP} {H : aP} (h1 : A H) (h2 : K H) : held A K H := ⟨h1, h2⟩
theorem vO {x y : ByteArray} {K : ByteArray → HP} {H : aP} (h : x.size + y.size ≤ 9223372036854775807) (hK : K (x ++ y) H) : cat x y K H := ⟨h, hK⟩
def lu (b : Nat) (s s' : St) : Prop := ∀ x i, x ≠ b → s'.c x i = s.c x i ∧ pk s'.H x i = pk s.H x i
theorem lu.w {b : Nat} {s s' : St} (h : lu b s s') {k x i : Nat} (hx : x ≠ b) : s'.w k x i = s.w k x i := by
 unfold St.w; rw [(h x i hx).1, (h x i hx).2]
theorem cP {s : St} {k b i : Nat} {vs : List Value} {v : Value} {K : HP} (h : At (s.w k) b 0 vs) (hi : i < vs.length) (hv : one v = true) (hk : k ≠ 0)
  (hK : ∀ s' : St, Step [k] s s' → s'.H.size = s.H.size → At (s'.w k) b 0 (vs.set i v) → lu b s s' → K s'.H) : aq (Addr.add ⟨b, 0, none⟩ i) 0 [v] K s.H := by
 rw [dK]
 have h0 := h i _ (List.getElem?_eq_getElem hi)
 have hc := (bY h0).2
 have hlt := mq h0
 refine kJ (k := k) (k' := k) [v] (fun j hj => ?_) (by simpa using hv) ?_ hk fun s' h' => ?_
 ·have e : j = 0 := by simp at hj; exact hj
  subst e
  exact ⟨_, h0⟩
 ·rw [← hc]; exact s.wf _ _ hlt
 ·refine hK s' (h'.step (q := k) (by simp) hk fun j hj => ?_) h'.sz ?_ fun x j hx => h'.old x j fun h => hx h.1
  ·have e : j = 0 := by simp at hj; exact hj
   subst e; exact hc
  ·intro j y hj
   by_cases e : j = i
   ·subst e
    have : y = v := by rw [List.getElem?_set_self hi] at hj; simpa using hj.symm
    subst this
    have := h'.here 0 y rfl
    simpa using this
   ·rw [List.getElem?_set_ne (Ne.symm e)] at hj
    have h2 := h j y hj
    have h3 := h'.old b (0 + j) (fun ⟨_, h4, h5⟩ => by simp at h5; omega)
    exact dP (h3.2.trans (bY h2).1) (h3.1.trans (bY h2).2)
theorem mM {a b : ByteArray} (h : a.data.toList = b.data.toList) : a = b := by
 cases a; cases b; simp at h; simp [h]
theorem dw (p : ByteArray) : p.data.toList.length = p.size := by simp
theorem uY (p : ByteArray) : p = ⟨#[]⟩ ↔ p.size = 0 := by
 constructor
 ·rintro rfl; rfl
 ·intro h; apply mM; simpa using List.eq_nil_of_length_eq_zero ((dw p).trans h)
theorem ae3 {p : ByteArray} {i : Int} {K : Int → HP} {H : aP} (h0 : 0 ≤ i) (h1 : i < p.size) (hK : ∀ c : UInt8, p.data.toList[i.toNat]? = some c → K c.toNat H) : nR p i K H :=
 ⟨h0, by omega, hK _ (by rw [List.getElem?_eq_getElem (by rw [dw]; omega)]; simp; rfl)⟩
end Go.Ph
end
section
set_option linter.all false
namespace Go.Ph
open S
abbrev aR := jR
abbrev cT := jf
def Bj : Ty aR := ⟨2, fun _ x vs => vs = [.string x.Name, .int .i64 x.aO], by rintro _ _ _ rfl; rfl, fun _ h => h, by rintro _ _ _ rfl; simp [one]⟩
def Yg : Ty cT := ⟨3, fun _ x vs => vs = [.string x.cV, .string x.To, .int .i64 x.aO], by rintro _ _ _ rfl; rfl, fun _ h => h, by rintro _ _ _ rfl; simp [one]⟩
structure xW where
 At : Int
 B : ByteArray
def Nw : Ty xW := ⟨2, fun _ x vs => vs = [.int .i64 x.At, .string x.B], by rintro _ _ _ rfl; rfl, fun _ h => h, by rintro _ _ _ rfl; simp [one]⟩
structure dV where
 now : ByteArray
 sure : ByteArray
 waits : List xW
def aae : Ty dV := ⟨3, fun V x vs => ∃ sl : Sl, vs = [.string x.now, .string x.sure, sl.v] ∧ Ls Nw V x.waits sl, by rintro _ _ _ ⟨_, rfl, _⟩; rfl, by rintro _ _ _ _ h ⟨sl, rfl, h1⟩; exact ⟨sl, rfl, h1.mono h h⟩, by rintro _ _ _ ⟨_, rfl, _⟩; simp [one]⟩
namespace R
def find (l : List aR) (n : ByteArray) : Int := match l.find? (fun e => decide (e.Name = n)) with | some e => e.aO | none => -1
def bD (l : List aR) (n : ByteArray) : List aR := l.filter (fun e => !decide (e.Name = n))
def gt (a b : ByteArray) : Bool := !(slt a b || decide (a = b))
def gG (m : List aR) (x : ByteArray) : Nat → Nat
 | 0 => 0
 | k + 1 => match m[k]? with
  | some e => if gt e.Name x then gG m x k else k + 1
  | none => k + 1
def put (l : List aR) (x : aR) : List aR := (bD l x.Name).take (gG (bD l x.Name) x.Name (bD l x.Name).length) ++ [x] ++ (bD l x.Name).drop (gG (bD l x.Name) x.Name (bD l x.Name).length)
def cX (l : List aR) (t : cT) : List aR :=
 if t.aO < 0 then
  if find l t.cV < 0 then l
  else if t.To = ⟨#[]⟩ then bD l t.cV else put (bD l t.cV) ⟨t.To, find l t.cV⟩
 else if t.To = ⟨#[]⟩ then l else put l ⟨t.To, t.aO⟩
end R
theorem yK {s : St} {l : List aR} {n : ByteArray} {sl : Sl} {K : Int → HP} (h : Ls Bj (s.w 0) l sl) (hb : l.length ≤ 1000000000000) (hK : K (R.find l n) s.H) : nI sl n K s.H := by
 unfold nI
 refine cD (fun i : Nat => [.int .i64 i]) (fun i s' => s' = s ∧ i ≤ l.length ∧ R.find (l.drop i) n = R.find l n) (fun i _ => l.length - i) 0 rfl ⟨rfl, Nat.zero_le _, rfl⟩ ?_
 rintro i s' ⟨rfl, hi, hf⟩ G hG
 simp only [List.getD_cons_zero, List.getD_cons_succ, cI, cN, cK, cH, cJ, cO]
 rw [h.len]
 refine aN (fun hc => ?_) (fun hc => ?_)
 ·refine bU h (by omega) (by omega) fun b o x hx he => ?_
  obtain ⟨_, rfl, ha⟩ := he
  rw [Int.toNat_natCast] at hx
  have hd : l.drop i = x :: l.drop (i + 1) := by
   obtain ⟨h1, h2⟩ := List.getElem?_eq_some_iff.1 hx
   rw [List.drop_eq_getElem_cons h1, h2]
  rw [hd] at hf
  repeat (first|refine aj ?_|refine av ha rfl ?_|refine aK ha rfl ?_|refine aH ha rfl ?_|refine aI ha rfl ?_|refine aJ ha rfl ?_|refine aC ha rfl ?_)
  refine aN (fun hn => ?_) (fun hn => ?_)
  ·refine bU h (by omega) (by omega) fun b o x' hx' he => ?_
   obtain ⟨_, rfl, ha⟩ := he
   rw [Int.toNat_natCast, hx] at hx'
   simp at hx'; subst hx'
   repeat (first|refine aj ?_|refine av ha rfl ?_|refine aK ha rfl ?_|refine aH ha rfl ?_|refine aI ha rfl ?_|refine aJ ha rfl ?_|refine aC ha rfl ?_)
   rw [← hf] at hK
   simpa [R.find, hn] using hK
  ·rw [aY (by omega) (by omega)]
   refine hG (i + 1) s' ⟨rfl, by omega, ?_⟩ (by omega)
   rw [← hf]
   simp [R.find, hn]
 ·have : i = l.length := by omega
  subst this
  rw [← hf] at hK
  simpa [R.find] using hK
theorem HL (l : List aR) (x : aR) : (R.put l x).length ≤ l.length + 1 := by
 have : (R.bD l x.Name).length ≤ l.length := List.length_filter_le _ _
 simp [R.put]; omega
structure ah where
 files : List dV
 now : List aR
 sure : List aR
 waits : List cT
 cap : Int
 down : Bool
 calls : Int
 fail : Int
 br : Int
 err : Int
structure RD (k : Nat) (s : St) (b : Nat) (d : ah) : Prop where
 k0 : k ≠ 0
 at_ : ∃ f n u w : Sl, At (s.w k) b 0 [.slice f.a f.len f.cap, .slice n.a n.len n.cap, .slice u.a u.len u.cap, .slice w.a w.len w.cap, .int .i64 d.cap, .bool d.down, .int .i64 d.calls, .int .i64 d.fail, .int .i64 d.br, .int .i64 d.err] ∧
  Ls aae (s.w 0) d.files f ∧ Ls Bj (s.w 0) d.now n ∧ Ls Bj (s.w 0) d.sure u ∧ Ls Yg (s.w 0) d.waits w
theorem RD.st {k : Nat} {s s' : St} {b : Nat} {d : ah} {S : List Nat} (h : RD k s b d) (hs : Step S s s') (hk : k ∉ S) : RD k s' b d := by
 obtain ⟨k0, f, n, u, w, h1, h2, h3, h4, h5⟩ := h
 exact ⟨k0, f, n, u, w, h1.mono (hs.view hk), h2.st hs, h3.st hs, h4.st hs, h5.st hs⟩
structure ah.Ok (d : ah) : Prop where
 now : d.now.length ≤ 1024
 sure : d.sure.length ≤ 1024
 agF : 0 ≤ d.calls
 calls : d.calls ≤ 1000000000000
 waits : d.waits.length ≤ d.calls
 files : d.files.length ≤ 1024 + d.calls
 fail : -1 ≤ d.fail ∧ d.fail < 9223372036854775808
 br : -1 ≤ d.br ∧ d.br < 9223372036854775808
namespace R
def begin (d : ah) : ah × Int :=
 if d.down then (d, 11)
 else
  let d' := { d with calls := d.calls + 1, br := if 0 ≤ d.br then d.br - 1 else d.br, fail := if 0 ≤ d.fail then d.fail - 1 else d.fail }
  if d.br = 0 then ({ d' with down := true }, 11) else if d.fail = 0 then (d', d.err) else (d', 0)
def cM (d : ah) (t : cT) : ah := { d with waits := d.waits ++ [t], now := cX d.now t }
def unlink (d : ah) (n : ByteArray) : ah × Int :=
 let (d', e) := begin d
 if e ≠ 0 then (d', e) else if find d'.now n < 0 then (d', 7) else (cM d' ⟨n, ⟨#[]⟩, -1⟩, 0)
def cy (d : ah) : ah × Int :=
 let (d', e) := begin d
 if e ≠ 0 then (d', e) else ({ d' with sure := d'.now, waits := [] }, 0)
end R
theorem R.oS (d : ah) : (R.begin d).1.now = d.now := by
 unfold R.begin; split
 ·rfl
 ·dsimp only; split
  ·rfl
  ·split <;> rfl
end Go.Ph
end
section
set_option linter.all false
namespace Go.Ph
structure DM (es : List MapEntry) (m : List (ByteArray × Int)) : Prop where
 kv : es.map (fun e => (e.key, e.val)) = m.map (fun x => (Value.string x.1, Value.int .i64 x.2))
 nd : (m.map (·.1)).Nodup
structure ee (k : Nat) (s : St) (b : Nat) (es : List MapEntry) (cl : Nat) (m : List (ByteArray × Int)) : Prop where
 here : s.w k b 0 = some (.o (.map es.toArray cl))
 dH : DM es m
 born : ∀ e ∈ es, e.born < cl
 uniq : (es.map (·.born)).Nodup
theorem ee.st {k : Nat} {s s' : St} {b : Nat} {es : List MapEntry} {cl : Nat} {m : List (ByteArray × Int)} {S : List Nat} (h : ee k s b es cl m) (hs : Step S s s') (hk : k ∉ S) : ee k s' b es cl m :=
 ⟨hs.view hk _ _ _ h.here, h.dH, h.born, h.uniq⟩
theorem ee.obj {k : Nat} {s : St} {b : Nat} {es : List MapEntry} {cl : Nat} {m : List (ByteArray × Int)} (h : ee k s b es cl m) : s.H[b]? = some (.map es.toArray cl) := (mU (bY h.here).1).1
def look (m : List (ByteArray × Int)) (n : ByteArray) : Option Int := (m.find? (fun x => decide (x.1 = n))).map (·.2)
def gi (m : List (ByteArray × Int)) (n : ByteArray) (i : Int) : List (ByteArray × Int) :=
 if (look m n).isSome then m.map (fun x => if x.1 = n then (n, i) else x) else m ++ [(n, i)]
theorem JY (a b : ByteArray) : Instr.sameNow .string (.string a) (.string b) = some (decide (a = b)) := by
 have : (a == b) = decide (a = b) := by
  cases a; cases b
  show ((_ : Array UInt8) == _) = _
  rw [Bool.eq_iff_iff]; simp
 simp [Instr.sameNow, this]
theorem xC : ∀ (es : List MapEntry) (m : List (ByteArray × Int)) (n : ByteArray) (i : Nat), es.map (fun e => (e.key, e.val)) = m.map (fun x => (Value.string x.1, Value.int .i64 x.2)) →
  look m n = none → Instr.findNow .string (.string n) es i = some none
 | [], m, n, i, h, hl => rfl
 | e :: es, [], n, i, h, hl => by simp at h
 | e :: es, x :: m, n, i, h, hl => by
  simp only [List.map_cons, List.cons.injEq, Prod.mk.injEq] at h
  obtain ⟨⟨h1, h2⟩, h3⟩ := h
  simp only [Instr.findNow, h1, JY]
  by_cases hx : x.1 = n
  ·simp [look, hx] at hl
  ·rw [decide_eq_false (fun h => hx h.symm)]
   exact xC es m n (i + 1) h3 (by simpa [look, hx] using hl)
theorem vN : ∀ (es : List MapEntry) (m : List (ByteArray × Int)) (n : ByteArray) (i : Nat) (v : Int), es.map (fun e => (e.key, e.val)) = m.map (fun x => (Value.string x.1, Value.int .i64 x.2)) →
  look m n = some v → ∃ j, j < es.length ∧ m[j]? = some (n, v) ∧ Instr.findNow .string (.string n) es i = some (some (i + j, .int .i64 v))
 | [], [], n, i, v, h, hl => by simp [look] at hl
 | [], x :: m, n, i, v, h, hl => by simp at h
 | e :: es, [], n, i, v, h, hl => by simp at h
 | e :: es, x :: m, n, i, v, h, hl => by
  simp only [List.map_cons, List.cons.injEq, Prod.mk.injEq] at h
  obtain ⟨⟨h1, h2⟩, h3⟩ := h
  simp only [Instr.findNow, h1, JY]
  by_cases hx : x.1 = n
  ·simp [look, hx] at hl
   exact ⟨0, by simp, by simp [← hx, ← hl], by simp [hx, h2, hl]⟩
  ·rw [decide_eq_false (fun h => hx h.symm)]
   obtain ⟨j, g1, g2, g3⟩ := vN es m n (i + 1) v h3 (by simpa [look, hx] using hl)
   exact ⟨j + 1, by simpa using g1, by simpa using g2, by rw [show i + (j + 1) = i + 1 + j by omega]; exact g3⟩
theorem BO {k : Nat} {s : St} {b : Nat} {es : List MapEntry} {cl : Nat} {m : List (ByteArray × Int)} {n : ByteArray} {K0 : HP} {K1 : Value → HP} (h : ee k s b es cl m)
  (h0 : look m n = none → K0 s.H) (h1 : ∀ i, look m n = some i → K1 (.int .i64 i) s.H) : qZ .string (some b) (.string n) K0 K1 s.H := by
 cases e : look m n with
 | none => exact ⟨_, _, none, h.obj, xC _ _ _ _ h.dH.kv e, h0 e⟩
 | some v =>
  obtain ⟨j, g1, g2, g3⟩ := vN _ _ _ 0 _ h.dH.kv e
  exact ⟨_, _, some (0 + j, .int .i64 v), h.obj, g3, h1 v e⟩
theorem ado {k : Nat} {s : St} {b : Nat} {es : List MapEntry} {cl : Nat} {m : List (ByteArray × Int)} {K : Int → HP} (h : ee k s b es cl m) (hK : K m.length s.H) : A6 (some b) K s.H := by
 refine ⟨_, _, h.obj, ?_⟩
 have := congrArg List.length h.dH.kv
 simp at this
 simpa [this] using hK
theorem qt {m : List (ByteArray × Int)} {n : ByteArray} (h : look m n = none) : ∀ x ∈ m, x.1 ≠ n := by
 simp [look] at h
 intro x hx e
 exact h x.1 x.2 hx e
theorem nY {α : Type} {l : List α} (h : l.Nodup) {i j : Nat} {x : α} (hi : l[i]? = some x) (hj : l[j]? = some x) : i = j := by
 obtain ⟨h1, h2⟩ := List.getElem?_eq_some_iff.1 hi
 obtain ⟨h3, h4⟩ := List.getElem?_eq_some_iff.1 hj
 exact (List.getElem_inj h).1 (h2.trans h4.symm)
theorem Lk {k : Nat} {s : St} {b : Nat} {es : List MapEntry} {cl : Nat} {m : List (ByteArray × Int)} {n : ByteArray} {i : Int} {K : HP} (h : ee k s b es cl m) (hk : k ≠ 0)
  (hK : ∀ s' es' cl', Step [k] s s' → s'.H.size = s.H.size → lu b s s' → ee k s' b es' cl' (gi m n i) → K s'.H) : vY .string (some b) (.string n) (.int .i64 i) K s.H := by
 have hlen := congrArg List.length h.dH.kv
 simp at hlen
 cases e : look m n with
 | none =>
  refine ⟨b, _, _, none, rfl, h.obj, xC _ _ _ _ h.dH.kv e, ?_⟩
  simp only
  refine tg h.here rfl fun s' h' => ?_
  refine hK s' (es ++ [⟨.string n, .int .i64 i, cl⟩]) (cl + 1) (h'.step (by simp) hk (rK h.here)) h'.sz (fun x j hx => h'.old x j hx) ⟨by simpa using h'.here, ?_, ?_, ?_⟩
  ·have hm : gi m n i = m ++ [(n, i)] := by simp [gi, e]
   rw [hm]
   refine ⟨by simp [h.dH.kv], ?_⟩
   rw [List.map_append, List.nodup_append]
   refine ⟨h.dH.nd, by simp, ?_⟩
   intro x hx y hy
   simp at hy; subst hy
   obtain ⟨z, hz, rfl⟩ := List.mem_map.1 hx
   exact qt e z hz
  ·intro x hx
   rcases List.mem_append.1 hx with hx | hx
   ·have := h.born x hx; omega
   ·simp at hx; subst hx; simp
  ·rw [List.map_append, List.nodup_append]
   refine ⟨h.uniq, by simp, ?_⟩
   intro x hx y hy
   simp at hy; subst hy
   obtain ⟨z, hz, rfl⟩ := List.mem_map.1 hx
   have := h.born z hz; omega
 | some v =>
  obtain ⟨j, g1, g2, g3⟩ := vN _ _ _ 0 _ h.dH.kv e
  refine ⟨b, _, _, some (0 + j, .int .i64 v), rfl, h.obj, g3, ?_⟩
  simp only
  refine tg h.here rfl fun s' h' => ?_
  refine hK s' (es.modify j fun e => { e with key := .string n, val := .int .i64 i }) cl (h'.step (by simp) hk (rK h.here)) h'.sz (fun x j hx => h'.old x j hx) ⟨by simpa using h'.here, ?_, ?_, ?_⟩
  ·have hm : gi m n i = m.map (fun x => if x.1 = n then (n, i) else x) := by simp [gi, e]
   rw [hm]
   have hk1 : (m.map (fun x => if x.1 = n then (n, i) else x)).map (·.1) = m.map (·.1) := by
    rw [List.map_map]
    apply List.map_congr_left
    intro x _
    simp only [Function.comp]
    split
    ·rename_i h; exact h.symm
    ·rfl
   refine ⟨?_, by rw [hk1]; exact h.dH.nd⟩
   apply List.ext_getElem?
   intro a
   have ha := congrArg (fun l => l[a]?) h.dH.kv
   simp only [List.getElem?_map] at ha
   simp only [List.getElem?_map, List.getElem?_modify]
   cases hma : m[a]? with
   | none => rw [hma] at ha; simp at ha; simp [ha]
   | some x =>
    rw [hma] at ha
    cases hea : es[a]? with
    | none => rw [hea] at ha; simp at ha
    | some y =>
     rw [hea] at ha
     simp only [Option.map_some, Option.some.injEq, Prod.mk.injEq] at ha ⊢
     by_cases hx : x.1 = n
     ·have haj : a = j := nY h.dH.nd (x := n) (by simp [hma, hx]) (by simp [g2])
      subst haj
      simp [hx]
     ·have haj : j ≠ a := by
       rintro rfl
       rw [g2] at hma
       simp at hma
       exact hx (by rw [← hma])
      simp [haj, hx, ha]
  ·intro x hx
   rw [List.mem_iff_getElem?] at hx
   obtain ⟨a, ha⟩ := hx
   rw [List.getElem?_modify] at ha
   cases hea : es[a]? with
   | none => rw [hea] at ha; simp at ha
   | some y =>
    rw [hea] at ha
    simp at ha
    have := h.born y (List.mem_iff_getElem?.2 ⟨a, hea⟩)
    rw [← ha]
    split <;> exact this
  ·have : (es.modify j fun e => { e with key := .string n, val := .int .i64 i }).map (·.born) = es.map (·.born) := by
    apply List.ext_getElem?
    intro a
    simp only [List.getElem?_map, List.getElem?_modify]
    cases es[a]? with
    | none => rfl
    | some y => simp only [Option.map_some, Option.some.injEq]; split <;> rfl
   rw [this]; exact h.uniq
def yc (m : List (ByteArray × Int)) (n : ByteArray) : List (ByteArray × Int) := m.filter (fun x => !decide (x.1 = n))
theorem erase_filter {α : Type} (p : α → Bool) : ∀ (l : List α) (j : Nat), (∀ a x, l[a]? = some x → (p x = false ↔ a = j)) → j < l.length → l.eraseIdx j = l.filter p
 | [], j, h, hj => by simp at hj
 | y :: l, 0, h, hj => by
  have h0 : p y = false := (h 0 y rfl).2 rfl
  have : l.filter p = l := List.filter_eq_self.2 fun x hx => by
   obtain ⟨a, ha⟩ := List.mem_iff_getElem?.1 hx
   have := h (a + 1) x (by simpa using ha)
   cases hp : p x
   ·have := this.1 hp; omega
   ·rfl
  simp [h0, this]
 | y :: l, j + 1, h, hj => by
  have h0 : p y = true := by
   cases hp : p y
   ·have := (h 0 y rfl).1 hp; omega
   ·rfl
  have hj' : j < l.length := by simp at hj; omega
  simp only [List.eraseIdx_cons_succ, List.filter_cons, h0, if_true]
  rw [erase_filter p l j (fun a x ha => by rw [h (a + 1) x (by simpa using ha)]; omega) hj']
def isKey (n : ByteArray) : Value → Bool
 | .string s => decide (s = n)
 | _ => false
theorem aeB {k : Nat} {s : St} {b : Nat} {es : List MapEntry} {cl : Nat} {m : List (ByteArray × Int)} {n : ByteArray} {K : HP} (h : ee k s b es cl m) (hk : k ≠ 0)
  (hK : ∀ s', Step [k] s s' → s'.H.size = s.H.size → lu b s s' → ee k s' b (es.filter fun e => !isKey n e.key) cl (yc m n) → K s'.H) : Ah .string (some b) (.string n) K s.H := by
 have hkv : ∀ (a : Nat) (y : MapEntry) (x : ByteArray × Int), es[a]? = some y → m[a]? = some x → y.key = .string x.1 := fun a y x hy hx => by
  have ha := congrArg (fun l => l[a]?) h.dH.kv
  simp only [List.getElem?_map, hy, hx, Option.map_some, Option.some.injEq, Prod.mk.injEq] at ha
  exact ha.1
 have hlen := congrArg List.length h.dH.kv
 simp at hlen
 have hkey : ∀ (a : Nat) (y : MapEntry), es[a]? = some y → ∃ x, m[a]? = some x ∧ y.key = .string x.1 := fun a y hy => by
  have hlt := (List.getElem?_eq_some_iff.1 hy).1
  exact ⟨m[a]'(by omega), List.getElem?_eq_getElem (by omega), hkv _ _ _ hy (List.getElem?_eq_getElem (by omega))⟩
 have fin : ee k s b es cl m → ∀ s' : St, s'.w k b 0 = some (.o (.map (es.filter fun e => !isKey n e.key).toArray cl)) → ee k s' b (es.filter fun e => !isKey n e.key) cl (yc m n) := fun _ s' hh => by
  refine ⟨hh, ⟨?_, ?_⟩, fun e he => h.born e (List.mem_filter.1 he).1, ?_⟩
  ·have e1 : (es.filter fun e => !isKey n e.key).map (fun e => (e.key, e.val)) = (es.map (fun e => (e.key, e.val))).filter (fun x => !isKey n x.1) := by
    rw [List.filter_map]; rfl
   have e2 : (m.filter fun x => !decide (x.1 = n)).map (fun x => (Value.string x.1, Value.int IntKind.i64 x.2)) = (m.map (fun x => (Value.string x.1, Value.int IntKind.i64 x.2))).filter (fun x => !isKey n x.1) := by
    rw [List.filter_map]
    rfl
   rw [e1, h.dH.kv, yc, e2]
  ·exact h.dH.nd.sublist (List.Sublist.map _ List.filter_sublist)
  ·exact h.uniq.sublist (List.Sublist.map _ List.filter_sublist)
 cases e : look m n with
 | none =>
  refine ⟨b, _, _, none, rfl, h.obj, xC _ _ _ _ h.dH.kv e, ?_⟩
  simp only
  have hes : (es.filter fun e => !isKey n e.key) = es := List.filter_eq_self.2 fun y hy => by
   obtain ⟨a, ha⟩ := List.mem_iff_getElem?.1 hy
   obtain ⟨x, hx, hxy⟩ := hkey a y ha
   rw [hxy]
   have := qt e x (List.mem_iff_getElem?.2 ⟨a, hx⟩)
   simp [isKey, this]
  refine tg h.here rfl fun s' h' => ?_
  exact hK s' (h'.step (by simp) hk (rK h.here)) h'.sz (fun x j hx => h'.old x j hx) (fin h s' (by rw [hes]; exact h'.here))
 | some v =>
  obtain ⟨j, g1, g2, g3⟩ := vN _ _ _ 0 _ h.dH.kv e
  refine ⟨b, _, _, some (0 + j, .int .i64 v), rfl, h.obj, g3, ?_⟩
  simp only
  have hes : (es.toArray.eraseIdxIfInBounds (0 + j)) = (es.filter fun e => !isKey n e.key).toArray := by
   rw [Nat.zero_add, Array.eraseIdxIfInBounds, dif_pos (by simpa using g1)]
   rw [List.eraseIdx_toArray]
   congr 1
   refine erase_filter _ _ _ (fun a y hy => ?_) g1
   obtain ⟨x, hx, hxy⟩ := hkey a y hy
   rw [hxy]
   simp only [isKey, Bool.not_eq_false', decide_eq_true_eq]
   constructor
   ·intro hn
    exact nY h.dH.nd (x := n) (by simp [hx, hn]) (by simp [g2])
   ·rintro rfl
    rw [g2] at hx
    simp at hx
    rw [← hx]
  rw [hes]
  refine tg h.here rfl fun s' h' => ?_
  exact hK s' (h'.step (by simp) hk (rK h.here)) h'.sz (fun x j hx => h'.old x j hx) (fin h s' h'.here)
structure Iter (q : Nat) (s : St) (it b : Nat) (since cl : Nat) (seen : List Nat) : Prop where
 here : ∃ st, s.w q it 0 = some (.o (.mapIter (some b) since seen.toArray st)) ∧ (seen ≠ [] → st = cl)
theorem Iter.st {q : Nat} {s s' : St} {it b since cl : Nat} {seen : List Nat} {S : List Nat} (h : Iter q s it b since cl seen) (hs : Step S s s') (hk : q ∉ S) : Iter q s' it b since cl seen := by
 obtain ⟨st, h1, h2⟩ := h; exact ⟨st, hs.view hk _ _ _ h1, h2⟩
theorem Bf {k : Nat} {s : St} {b : Nat} {es : List MapEntry} {cl : Nat} {m : List (ByteArray × Int)} {K : Nat → HP} (h : ee k s b es cl m) (q : Nat) (hq : q < 2305843009213693952 + 1152921504606846976 * s.H.size)
  (hK : ∀ s' it, Step [] s s' → s'.H.size = s.H.size + 1 → Iter q s' it b cl cl [] → K it s'.H) : mc (some b) K s.H := by
 refine ⟨_, _, h.obj, ?_⟩
 refine Ar q hq rfl fun s' it n => ?_
 exact hK s' it n.step n.sz ⟨_, n.here, fun h => absurd rfl h⟩
theorem AJ {k q : Nat} {s : St} {it b since : Nat} {es : List MapEntry} {cl : Nat} {m : List (ByteArray × Int)} {seen : List Nat} {K0 : HP} {K1 : Value → Value → HP} (hi : Iter q s it b since cl seen) (h : ee k s b es cl m) (hk : k ≠ q) (hq0 : q ≠ 0)
  (hs : ∀ e ∈ es, e.born < since)
  (h0 : (∀ e ∈ es, e.born ∈ seen) → K0 s.H)
  (h1 : ∀ e ∈ es, e.born ∉ seen → ∀ s', Step [q] s s' → s'.H.size = s.H.size → Iter q s' it b since cl (seen ++ [e.born]) → K1 e.key e.val s'.H) :
  ki it K0 (fun _ _ => mQ it K1) s.H := by
 obtain ⟨st, g1, g2⟩ := hi
 have ho := (mU (bY g1).1).1
 unfold ki
 rw [ho]
 refine ⟨_, _, h.obj, ?_, ?_, ?_⟩
 ·cases seen with
  | nil => simp
  | cons x r =>
   have := g2 (by simp)
   subst this
   cases hes : es with
   | nil => simp
   | cons e es' =>
    have := h.born e (by simp [hes])
    simp
    intros; omega
 ·intro hemp
  refine h0 fun e he => ?_
  rw [Array.isEmpty_iff] at hemp
  by_cases hc : e.born ∈ seen
  ·exact hc
  ·exfalso
   have hin : e ∈ (Array.filter (fun x => decide (x.born < since)) (Array.filter (fun e => !seen.toArray.contains e.born) es.toArray)) := by
    simp only [Array.mem_filter, List.mem_toArray]
    exact ⟨⟨he, by simpa using hc⟩, by simpa using hs e he⟩
   rw [hemp] at hin
   simp at hin
 ·intro e he hc
  have he' : e ∈ es := by simpa using he
  have hc' : e.born ∉ seen := by simpa using hc
  refine tg g1 rfl fun s' h' => ?_
  have hst : Step [q] s s' := h'.step (by simp) hq0 (rK g1)
  have hm := h.st hst (by simpa using hk)
  refine ⟨b, since, (seen ++ [e.born]).toArray, cl, e.born, es.toArray, e, ?_, ?_, hm.obj, ?_, h1 e he' hc' s' hst h'.sz ⟨cl, by simpa using h'.here, fun _ => rfl⟩⟩
  ·have := (mU (bY h'.here).1).1
   simpa using this
  ·simp
  ·simp only [List.find?_toArray]
   rw [List.find?_eq_some_iff_append]
   obtain ⟨l1, l2, hl⟩ := List.append_of_mem he'
   refine ⟨by simp, l1, l2, hl, fun x hx => ?_⟩
   have hu := h.uniq
   rw [hl, List.map_append, List.nodup_append] at hu
   have := hu.2.2 x.born (List.mem_map_of_mem hx) e.born (by simp)
   simpa using this
end Go.Ph
end
section
set_option linter.all false
namespace Go.Ph
open S
abbrev mC := iA
abbrev ny := gE
def uv : Ty mC := ⟨3, fun _ x vs => vs = [.int .i64 x.node, .string x.name, .bool x.made], by rintro _ _ _ rfl; rfl, fun _ h => h, by rintro _ _ _ rfl; simp [one]⟩
def EE : Ty ny := ⟨2, fun _ x vs => vs = [.int .i64 x.place, .string x.bytes], by rintro _ _ _ rfl; rfl, fun _ h => h, by rintro _ _ _ rfl; simp [one]⟩
structure cn where
 seen : ByteArray
 sure : ByteArray
 cF : List ny
 fresh : Bool
def cn.calm (x : cn) : cn := { x with fresh := false }
structure bC where
 room : Int
 nodes : List cn
 seen : List (ByteArray × Int)
 sure : List (ByteArray × Int)
 bP : List mC
 off : Bool
 count : Int
 fl : Int
 fc : Int
 cl : Int
 cc : Int
structure kg (c : Nat) (s : St) (p : Nat) (x : cn) : Prop where
 at_ : ∃ sl : Sl, At (s.w c) p 0 [.string x.seen, .string x.sure, .slice sl.a sl.len sl.cap, .bool x.fresh] ∧ bF EE (c + 1) s x.cF sl
theorem kg.st {c : Nat} {s s' : St} {p : Nat} {x : cn} {S : List Nat} (h : kg c s p x) (hs : Step S s s') (h1 : c ∉ S) (h2 : c + 1 ∉ S) : kg c s' p x := by
 obtain ⟨sl, g1, g2⟩ := h
 exact ⟨sl, g1.mono (hs.view h1), g2.st hs h2⟩
structure gF (k : Nat) (s : St) (l : List cn) (ps : List (Option Addr)) : Prop where
 len : ps.length = l.length
 at_ : ∀ j x, l[j]? = some x → ∃ p, ps[j]? = some (some ⟨p, 0, none⟩) ∧ kg (k + 10 + 2 * j) s p x
def og (k : Nat) (s : St) (mu : Option Nat) (m : List (ByteArray × Int)) : Prop := ∃ r es cl, mu = some r ∧ ee k s r es cl m
theorem og.st {k : Nat} {s s' : St} {mu : Option Nat} {m : List (ByteArray × Int)} {S : List Nat} (h : og k s mu m) (hs : Step S s s') (hk : k ∉ S) : og k s' mu m := by
 obtain ⟨r, es, cl, h1, h2⟩ := h
 exact ⟨r, es, cl, h1, h2.st hs hk⟩
structure dx (k : Nat) (s : St) (b : Nat) (v : bC) (ps : List (Option Addr)) : Prop where
 k0 : k ≠ 0
 at_ : ∃ (n m : Sl) (ms : Nat) (mu : Option Nat), At (s.w k) b 0 [.int .i64 v.room, .slice n.a n.len n.cap, .map (some ms), .map mu, .slice m.a m.len m.cap, .bool v.off, .int .i64 v.count, .int .i64 v.fl, .int .i64 v.fc, .int .i64 v.cl, .int .i64 v.cc] ∧
  bF tP (k + 1) s ps n ∧ bF uv (k + 2) s v.bP m ∧ (∃ es cl, ee (k + 3) s ms es cl v.seen) ∧ og (k + 4) s mu v.sure
 nodes : gF k s v.nodes ps
structure oL (k : Nat) (s : St) (b : Nat) (v : bC) (ps : List (Option Addr)) : Prop where
 k0 : k ≠ 0
 at_ : ∃ (n m : Sl) (ms : Nat) (mu : Option Nat), At (s.w k) b 0 [.int .i64 v.room, .slice n.a n.len n.cap, .map (some ms), .map mu, .slice m.a m.len m.cap, .bool v.off, .int .i64 v.count, .int .i64 v.fl, .int .i64 v.fc, .int .i64 v.cl, .int .i64 v.cc] ∧
  bF tP (k + 1) s ps n ∧ bF uv (k + 2) s v.bP m ∧ (∃ es cl, ee (k + 3) s ms es cl v.seen)
 nodes : gF k s v.nodes ps
theorem dx.q {k : Nat} {s : St} {b : Nat} {v : bC} {ps : List (Option Addr)} (h : dx k s b v ps) : oL k s b v ps := by
 obtain ⟨k0, ⟨n, m, ms, mu, h1, h2, h3, h4, h5⟩, h6⟩ := h
 exact ⟨k0, ⟨n, m, ms, mu, h1, h2, h3, h4⟩, h6⟩
def dk (k : Nat) : List Nat := List.range' k 1125899906842624
theorem fk {k x : Nat} : x ∈ dk k ↔ k ≤ x ∧ x < k + 1125899906842624 := by simp [dk, List.mem_range'_1]
theorem Rk {k j : Nat} (h : j < 1125899906842624) : ∀ x, x ∈ [k + j] → x ∈ dk k := by intro x hx; simp at hx; rw [fk]; omega
def Ko (k : Nat) (s : St) : Prop := k + 1125899906842624 ≤ own s ∨ (own s + 16 ≤ k ∧ k + 1125899906842624 ≤ own s + 1152921504606846976)
theorem Ko.mono {k : Nat} {S : List Nat} {s s' : St} (h : Ko k s) (e : Step S s s') : Ko k s' := by
 have := e.sz
 unfold Ko own at *
 rcases Nat.lt_or_ge s.H.size s'.H.size with h1 | h1
 ·left; omega
 ·have : s'.H.size = s.H.size := by omega
  rw [this]; exact h
theorem gF.st {k : Nat} {s s' : St} {l : List cn} {ps : List (Option Addr)} {S : List Nat} (h : gF k s l ps) (hs : Step S s s') (hS : ∀ j, k + 10 + j ∉ S) : gF k s' l ps :=
 ⟨h.len, fun j x hx => by
  obtain ⟨p, h1, h2⟩ := h.at_ j x hx
  exact ⟨p, h1, h2.st hs (hS _) (by have := hS (2 * j + 1); rwa [show k + 10 + (2 * j + 1) = k + 10 + 2 * j + 1 by omega] at this)⟩⟩
theorem oL.st {k : Nat} {s s' : St} {b : Nat} {v : bC} {ps : List (Option Addr)} {S : List Nat} (h : oL k s b v ps) (hs : Step S s s') (hS : ∀ j, k + j ∉ S) : oL k s' b v ps := by
 obtain ⟨k0, ⟨n, m, ms, mu, h1, h2, h3, ⟨es, cl, h4⟩⟩, h6⟩ := h
 exact ⟨k0, ⟨n, m, ms, mu, h1.mono (hs.view (by simpa using hS 0)), h2.st hs (hS 1), h3.st hs (hS 2), ⟨es, cl, h4.st hs (hS 3)⟩⟩, h6.st hs fun j => by have := hS (10 + j); rwa [← Nat.add_assoc] at this⟩
theorem dx.st {k : Nat} {s s' : St} {b : Nat} {v : bC} {ps : List (Option Addr)} {S : List Nat} (h : dx k s b v ps) (hs : Step S s s') (hS : ∀ j, k + j ∉ S) : dx k s' b v ps := by
 obtain ⟨k0, ⟨n, m, ms, mu, h1, h2, h3, ⟨es, cl, h4⟩, h5⟩, h6⟩ := h
 exact ⟨k0, ⟨n, m, ms, mu, h1.mono (hs.view (by simpa using hS 0)), h2.st hs (hS 1), h3.st hs (hS 2), ⟨es, cl, h4.st hs (hS 3)⟩, h5.st hs (hS 4)⟩, h6.st hs fun j => by have := hS (10 + j); rwa [← Nat.add_assoc] at this⟩
namespace V
def eX (m : List (ByteArray × Int)) (mv : mC) : List (ByteArray × Int) :=
 let m1 := m.filter (fun x => !decide (x.2 = mv.node))
 if mv.name = ⟨#[]⟩ then m1 else gi m1 mv.name mv.node
def size (v : bC) (i : Int) : Int := match v.nodes[i.toNat]? with | some x => x.seen.size | none => 0
def free (v : bC) : Int := v.room - (v.seen.map fun x => size v x.2).sum
def change (v : bC) : bC × Int :=
 if v.off then (v, 11)
 else
  let v' := { v with count := v.count + 1, cl := if v.cl < 0 then v.cl else v.cl - 1, fl := if v.fl < 0 then v.fl else v.fl - 1 }
  if v.cl = 0 then ({ v' with off := true }, 11) else if v.fl = 0 then (v', v.fc) else (v', 0)
def find (v : bC) (n : ByteArray) : Int × Int := match look v.seen n with | some i => (i, 0) | none => (0, 7)
def cM (v : bC) (mv : mC) : bC := { v with bP := v.bP ++ [mv], seen := eX v.seen mv }
def fix (v : bC) : bC := { v with sure := v.seen, bP := [], nodes := v.nodes.map cn.calm }
end V
def oV (cl : Nat) (seen : List Nat) : Nat := ((List.range cl).filter fun x => !seen.contains x).length
theorem va {cl b : Nat} {seen : List Nat} (h : b < cl) (hn : b ∉ seen) : oV cl (seen ++ [b]) < oV cl seen := by
 unfold oV
 have e : (List.range cl).filter (fun x => !(seen ++ [b]).contains x) = ((List.range cl).filter fun x => !seen.contains x).filter fun x => !decide (x = b) := by
  rw [List.filter_filter]
  apply List.filter_congr
  intro x _
  by_cases h1 : x ∈ seen <;> by_cases h2 : x = b <;> simp [h1, h2]
 rw [e]
 have hin : b ∈ (List.range cl).filter fun x => !seen.contains x := by simp [h, hn]
 exact (List.length_filter_lt_length_iff_exists (p := fun x => !decide (x = b))).2 ⟨b, hin, by simp⟩
theorem LX {k : Nat} {s : St} {b : Nat} {es : List MapEntry} {cl : Nat} {m : List (ByteArray × Int)} {mv : mC} {K : HP} (h : ee k s b es cl m) (hk : k ≠ 0) (hko' : k ≠ own s)
  (hK : ∀ s' es' cl', Step [k] s s' → ee k s' b es' cl' (V.eX m mv) → K s'.H) : qR (some b) mv K s.H := by
 unfold qR
 refine bZ fun s1 b1 n1 a1 => ?_
 have e1 := n1.step
 have hz1 := n1.sz
 refine Bf (h.st e1 (by simp)) (own s) (by unfold own; omega) fun s2 it e2 z2 i2 => ?_
 have m2 := (h.st e1 (by simp)).st e2 (by simp)
 have a2 := a1.mono e2.v0
 have e02 := e1.trans e2
 have hq0 : own s ≠ 0 := by unfold own; omega
 refine cD (ι := List Nat) (fun _ => []) (fun seen s' => ∃ es' m', Step [own s, k] s s' ∧ At (s'.w 0) b1 0 [.int .i64 mv.node, .string mv.name, .bool mv.made] ∧ Iter (own s) s' it b cl cl seen ∧ ee k s' b es' cl m' ∧
  m'.filter (fun x => !decide (x.2 = mv.node)) = m.filter (fun x => !decide (x.2 = mv.node)) ∧ ∀ e ∈ es', e.born ∈ seen → e.val ≠ .int .i64 mv.node) (fun seen _ => oV cl seen) [] rfl
  ⟨es, m, e02.n, a2, i2, m2, rfl, by simp⟩ ?_
 rintro seen s3 ⟨es3, m3, e3, a3, i3, h3, hf, hv⟩ G hG
 refine AJ i3 h3 hko' hq0 h3.born ?_ ?_
 ·intro hall
  have hm : m3 = m.filter (fun x => !decide (x.2 = mv.node)) := by
   rw [← hf]
   refine (List.filter_eq_self.2 fun x hx => ?_).symm
   obtain ⟨a, ha⟩ := List.mem_iff_getElem?.1 hx
   have hl := congrArg List.length h3.dH.kv
   simp at hl
   have hlt := (List.getElem?_eq_some_iff.1 ha).1
   have hea : es3[a]? = some (es3[a]'(by omega)) := List.getElem?_eq_getElem _
   have hkv := congrArg (fun l => l[a]?) h3.dH.kv
   simp only [List.getElem?_map, ha, hea, Option.map_some, Option.some.injEq, Prod.mk.injEq] at hkv
   have hmem := List.getElem_mem (l := es3) (n := a) (by omega)
   have := hv _ hmem (hall _ hmem)
   rw [hkv.2] at this
   simpa using this
  repeat (first|refine aj ?_|refine av a3 rfl ?_|refine aK a3 rfl ?_|refine aH a3 rfl ?_|refine aI a3 rfl ?_|refine aJ a3 rfl ?_|refine aC a3 rfl ?_)
  refine bK (fun hn => ?_) (fun hn => ?_)
  ·repeat (first|refine aj ?_|refine av a3 rfl ?_|refine aK a3 rfl ?_|refine aH a3 rfl ?_|refine aI a3 rfl ?_|refine aJ a3 rfl ?_|refine aC a3 rfl ?_)
   refine Lk h3 hk fun s4 es4 cl4 e4 z4 o4 h4 => ?_
   have e34 : Step [own s, k] s s4 := e3.trans (e4.mono (by simp))
   refine hK s4 es4 cl4 e34.loc ?_
   simpa [V.eX, hn, ← hm] using h4
  ·refine hK s3 es3 cl e3.loc ?_
   simpa [V.eX, hn, ← hm] using h3
 ·intro e he hns s4 e4 z4 i4
  have h4 := h3.st e4 (by simpa using hko')
  have a4 := a3.mono e4.v0
  have e34 : Step [own s, k] s s4 := e3.trans (e4.mono (by simp))
  obtain ⟨a, ha⟩ := List.mem_iff_getElem?.1 he
  have hl := congrArg List.length h3.dH.kv
  simp at hl
  have hlt := (List.getElem?_eq_some_iff.1 ha).1
  have hma : m3[a]? = some (m3[a]'(by omega)) := List.getElem?_eq_getElem _
  have hkv := congrArg (fun l => l[a]?) h3.dH.kv
  simp only [List.getElem?_map, ha, hma, Option.map_some, Option.some.injEq, Prod.mk.injEq] at hkv
  refine ⟨_, hkv.1, _, hkv.2, ?_⟩
  repeat (first|refine aj ?_|refine av a4 rfl ?_|refine aK a4 rfl ?_|refine aH a4 rfl ?_|refine aI a4 rfl ?_|refine aJ a4 rfl ?_|refine aC a4 rfl ?_)
  refine aN (fun hc => ?_) (fun hc => ?_)
  ·refine aeB h4 hk fun s5 e5 z5 o5 h5 => ?_
   refine hG (seen ++ [e.born]) s5 ⟨_, _, e34.trans (e5.mono (by simp)), a4.mono e5.v0, i4.st e5 (by simpa using hko'.symm), h5, ?_, ?_⟩ (va (h3.born e he) hns)
   ·rw [← hf, yc, List.filter_filter]
    apply List.filter_congr
    intro x hx
    by_cases hxn : x.1 = (m3[a]'(by omega)).1
    ·obtain ⟨c, hcx⟩ := List.mem_iff_getElem?.1 hx
     have : c = a := nY h3.dH.nd (x := x.1) (by simp [hcx]) (by simp [hma, hxn])
     subst this
     rw [hma] at hcx
     simp at hcx
     rw [← hcx]
     simp [hc]
    ·simp [hxn]
   ·intro e' he' hb
    rw [List.mem_filter] at he'
    rw [List.mem_append, List.mem_singleton] at hb
    rcases hb with hb | hb
    ·exact hv e' he'.1 hb
    ·exfalso
     obtain ⟨c, hce⟩ := List.mem_iff_getElem?.1 he'.1
     have : c = a := nY h3.uniq (x := e.born) (by simp [hce, hb]) (by simp [ha])
     subst this
     rw [ha] at hce
     simp at hce
     subst hce
     have := he'.2
     rw [hkv.1] at this
     simp [isKey] at this
  ·refine hG (seen ++ [e.born]) s4 ⟨es3, m3, e34, a4, i4, h4, hf, ?_⟩ (va (h3.born e he) hns)
   intro e' he' hb
   rw [List.mem_append, List.mem_singleton] at hb
   rcases hb with hb | hb
   ·exact hv e' he' hb
   ·obtain ⟨c, hce⟩ := List.mem_iff_getElem?.1 he'
    have : c = a := nY h3.uniq (x := e.born) (by simp [hce, hb]) (by simp [ha])
    subst this
    rw [ha] at hce
    simp at hce
    subst hce
    rw [hkv.2]
    simpa using hc
theorem Kh (f : MapEntry → Int) : ∀ (es : List MapEntry) (seen : List Nat) (e : MapEntry), e ∈ es → e.born ∉ seen → (es.map (·.born)).Nodup →
  (es.map fun x => if x.born ∈ seen ++ [e.born] then f x else 0).sum = (es.map fun x => if x.born ∈ seen then f x else 0).sum + f e
 | [], seen, e, he, hn, hu => by simp at he
 | y :: es, seen, e, he, hn, hu => by
  rw [List.map_cons, List.nodup_cons] at hu
  simp only [List.map_cons, List.sum_cons]
  by_cases hy : y.born = e.born
  ·have hye : y = e := by
    rcases List.mem_cons.1 he with h | h
    ·exact h.symm
    ·exact absurd (List.mem_map.2 ⟨e, h, hy.symm⟩) hu.1
   subst hye
   have : (es.map fun x => if x.born ∈ seen ++ [y.born] then f x else 0) = es.map fun x => if x.born ∈ seen then f x else 0 := by
    apply List.map_congr_left
    intro x hx
    have : x.born ≠ y.born := fun h => hu.1 (List.mem_map.2 ⟨x, hx, h⟩)
    simp [this]
   rw [this]
   simp [hn]; omega
  ·have he' : e ∈ es := by
    rcases List.mem_cons.1 he with h | h
    ·subst h; exact absurd rfl hy
    ·exact h
   rw [Kh f es seen e he' hn hu.2]
   simp [hy]; omega
theorem B5 {α : Type} (f : α → Int) (g : α → Int) : ∀ (l : List α), (∀ x ∈ l, f x ≤ g x) → (l.map f).sum ≤ (l.map g).sum
 | [], h => by simp
 | x :: l, h => by
  simp only [List.map_cons, List.sum_cons]
  have := h x (by simp)
  have := B5 f g l (fun x hx => h x (by simp [hx]))
  omega
theorem Ay {α : Type} (c : Int) : ∀ (l : List α), (l.map fun _ => c).sum = c * l.length
 | [] => by simp
 | x :: l => by simp only [List.map_cons, List.sum_cons, Ay c l, List.length_cons]; push_cast; rw [Int.mul_add]; omega
structure bC.Ok (v : bC) : Prop where
 room : 0 ≤ v.room ∧ v.room ≤ 4194304
 seen : v.seen.length ≤ 1024
 names : ∀ x ∈ v.seen, 0 ≤ x.2 ∧ x.2 < v.nodes.length
 sizes : ∀ x ∈ v.nodes, x.seen.size ≤ 4194304
 nodes : v.nodes.length ≤ 1000000000000
 bP : v.bP.length ≤ 1000000000000
 count : 0 ≤ v.count ∧ v.count < 1000000000000
 fl : -1 ≤ v.fl ∧ v.fl < 9223372036854775808
 cl : -1 ≤ v.cl ∧ v.cl < 9223372036854775808
theorem V.Gj {v : bC} (h : ∀ x ∈ v.nodes, x.seen.size ≤ 4194304) (i : Int) : 0 ≤ V.size v i ∧ V.size v i ≤ 4194304 := by
 unfold V.size
 split
 ·rename_i x hx
  have := h x (List.mem_iff_getElem?.2 ⟨_, hx⟩)
  omega
 ·omega
theorem Is {k : Nat} {s : St} {b : Nat} {v : bC} {ps : List (Option Addr)} {K : Int → HP} (h : oL k s b v ps) (hr : 0 ≤ v.room ∧ v.room ≤ 4194304) (hl : v.seen.length ≤ 1024) (hn : ∀ x ∈ v.seen, 0 ≤ x.2 ∧ x.2 < v.nodes.length) (hz : ∀ x ∈ v.nodes, x.seen.size ≤ 4194304) (hnl : v.nodes.length ≤ 1000000000000) (hko : Ko k s)
  (hK : ∀ s', Step [] s s' → K (V.free v) s'.H) : qO (some ⟨b, 0, none⟩) K s.H := by
 obtain ⟨k0, ⟨n, m, ms, mu, h1, h2, h3, ⟨es, cl, h4⟩⟩, h6⟩ := h
 unfold qO
 repeat (first|refine aj ?_|refine av h1 rfl ?_|refine aK h1 rfl ?_|refine aH h1 rfl ?_|refine aI h1 rfl ?_|refine aJ h1 rfl ?_|refine aC h1 rfl ?_)
 refine Bf h4 (own s) (by unfold own; omega) fun s2 it e2 z2 i2 => ?_
 have hq0 : own s ≠ 0 := by unfold own; omega
 let f : MapEntry → Int := fun e => match e.val with | .int _ i => V.size v i | _ => 0
 have hlen := congrArg List.length h4.dH.kv
 simp at hlen
 have hfb : ∀ e, 0 ≤ f e ∧ f e ≤ 4194304 := fun e => by
  simp only [f]
  split
  ·exact V.Gj hz _
  ·omega
 have hsum : ∀ seen : List Nat, 0 ≤ (es.map fun x => if x.born ∈ seen then f x else 0).sum ∧ (es.map fun x => if x.born ∈ seen then f x else 0).sum ≤ 4294967296 := fun seen => by
  have g1 := B5 (fun x : MapEntry => if x.born ∈ seen then f x else 0) (fun _ => 4194304) es (fun x _ => by
   have := hfb x
   show (if x.born ∈ seen then f x else 0) ≤ 4194304
   split <;> omega)
  have g2 := B5 (fun _ => 0) (fun x : MapEntry => if x.born ∈ seen then f x else 0) es (fun x _ => by
   have := hfb x
   show 0 ≤ (if x.born ∈ seen then f x else 0)
   split <;> omega)
  rw [Ay] at g1 g2
  omega
 have hall : (es.map f).sum = (v.seen.map fun x => V.size v x.2).sum := by
  have e1 : es.map f = (es.map fun e => (e.key, e.val)).map (fun x => match x.2 with | .int _ i => V.size v i | _ => 0) := by rw [List.map_map]; rfl
  rw [e1, h4.dH.kv, List.map_map]
  rfl
 refine cD (ι := List Nat) (fun seen => [.int .i64 (v.room - (es.map fun x => if x.born ∈ seen then f x else 0).sum)]) (fun seen s' => Step [own s] s s' ∧ Iter (own s) s' it ms cl cl seen) (fun seen _ => oV cl seen) [] (by simp [Ay]) ⟨e2.n, i2⟩ ?_
 rintro seen s3 ⟨e3, i3⟩ G hG
 simp only [List.getD_cons_zero, List.getD_cons_succ, cI, cN, cK, cH, cJ, cO]
 have hcl : ∀ j, j < 1125899906842624 → k + j ∉ [own s] := by intro j hj; unfold Ko at hko; simp; omega
 have h43 := h4.st e3 (hcl 3 (by omega))
 refine AJ i3 h43 (by have := hcl 3 (by omega); simpa using this) hq0 h4.born ?_ ?_
 ·intro ha
  have : (es.map fun x => if x.born ∈ seen then f x else 0) = es.map f := List.map_congr_left fun x hx => by simp [ha x hx]
  rw [this, hall]
  exact hK s3 e3.loc
 ·intro e he hns s4 e4 z4 i4
  have e34 := e3.trans e4
  obtain ⟨a, ha⟩ := List.mem_iff_getElem?.1 he
  have hlt := (List.getElem?_eq_some_iff.1 ha).1
  have hma : v.seen[a]? = some (v.seen[a]'(by omega)) := List.getElem?_eq_getElem _
  have hkv := congrArg (fun l => l[a]?) h4.dH.kv
  simp only [List.getElem?_map, ha, hma, Option.map_some, Option.some.injEq, Prod.mk.injEq] at hkv
  refine ⟨_, hkv.1, _, hkv.2, ?_⟩
  have h14 := h1.mono (e34.view (k := k) (by simpa using hcl 0 (by omega)))
  repeat (first|refine aj ?_|refine av h14 rfl ?_|refine aK h14 rfl ?_|refine aH h14 rfl ?_|refine aI h14 rfl ?_|refine aJ h14 rfl ?_|refine aC h14 rfl ?_)
  have hin := hn _ (List.mem_iff_getElem?.2 ⟨a, hma⟩)
  have h24 := h2.st e34 (hcl 1 (by omega))
  have hpl := h6.len
  refine bU h24.ls hin.1 (by rw [hpl]; exact hin.2) fun b' o x hx hel => ?_
  obtain ⟨_, rfl, hel⟩ := hel
  have hlt2 : (v.seen[a]'(by omega)).2.toNat < v.nodes.length := by omega
  obtain ⟨p, hp1, hp2⟩ := h6.at_ _ _ (List.getElem?_eq_getElem hlt2)
  rw [hx] at hp1
  simp at hp1
  subst hp1
  refine dR hel rfl ?_
  obtain ⟨sl, q1, q2⟩ := hp2
  have q3 := q1.mono (e34.view (by have := hcl (10 + 2 * (v.seen[a]'(by omega)).2.toNat) (by omega); rwa [← Nat.add_assoc] at this))
  repeat (first|refine aj ?_|refine av q3 rfl ?_|refine aK q3 rfl ?_|refine aH q3 rfl ?_|refine aI q3 rfl ?_|refine aJ q3 rfl ?_|refine aC q3 rfl ?_)
  have hs1 := hsum seen
  have hs2 := hsum (seen ++ [e.born])
  have hss := Kh f es seen e he hns h4.uniq
  have hfe : f e = (v.nodes[(v.seen[a]'(by omega)).2.toNat]'hlt2).seen.size := by
   simp only [f, hkv.2]
   unfold V.size
   rw [List.getElem?_eq_getElem hlt2]
  rw [← hfe, show v.room - (es.map fun x => if x.born ∈ seen then f x else 0).sum - f e = v.room - (es.map fun x => if x.born ∈ seen ++ [e.born] then f x else 0).sum by omega, aY (by omega) (by omega)]
  exact hG (seen ++ [e.born]) s4 ⟨e34, i4⟩ (va (h4.born e he) hns)
theorem GW {s : St} {k b i : Nat} {vs : List Value} {l : Int} {K : Bool → HP} (h : At (s.w k) b 0 vs) (hi : vs[i]? = some (.int .i64 l)) (hl : -9223372036854775808 < l ∧ l < 9223372036854775808) (hk : k ≠ 0)
  (hK : ∀ s', Step [k] s s' → lu b s s' → At (s'.w k) b 0 (vs.set i (.int .i64 (if l < 0 then l else l - 1))) → K (decide (l = 0)) s'.H) : pT (some (Addr.add ⟨b, 0, none⟩ i)) K s.H := by
 unfold pT
 refine vG.2 ?_
 rw [dK] at *
 have hlt : i < vs.length := (List.getElem?_eq_some_iff.1 hi).1
 have c0 : cell s.H (Addr.add ⟨b, 0 + i, none⟩ 0) = some (.int .i64 l) := by rw [dK]; exact ue (h i _ hi)
 refine (yJ c0).2 ?_
 refine aN (fun hn => ?_) (fun hn => ?_)
 ·rw [if_pos hn] at hK
  have : vs.set i (.int .i64 l) = vs := by
   apply List.ext_getElem?
   intro j
   rw [List.getElem?_set]
   split
   ·rename_i e; subst e; simp [hlt, (List.getElem?_eq_some_iff.1 hi).2]
   ·rfl
  rw [this] at hK
  have := hK s Step.refl (fun _ _ _ => ⟨rfl, rfl⟩) h
  rwa [decide_eq_false (by omega)] at this
 ·rw [if_neg hn] at hK
  refine vG.2 ?_
  refine (yJ c0).2 ?_
  refine vG.2 ?_
  rw [aY (by omega) (by omega)]
  have : Addr.add ⟨b, 0 + i, none⟩ 0 = Addr.add ⟨b, 0, none⟩ i := by simp [dK]
  rw [this]
  refine cP h hlt rfl hk fun s2 e2 z2 a2 o2 => ?_
  refine vG.2 ?_
  refine (yJ (n := l - 1) ?_).2 ?_
  ·rw [dK]; exact ue (a2 i _ (by simp [hlt]))
  ·have := hK s2 e2 o2 a2
   rw [show decide (l - 1 < 0) = decide (l = 0) by by_cases h : l = 0 <;> simp [h] <;> omega]
   exact this
theorem wL {k : Nat} {s : St} {b : Nat} {v : bC} {ps : List (Option Addr)} {K : Int → HP} (h : dx k s b v ps) (hv : v.Ok)
  (hK : ∀ s', Step [k] s s' → dx k s' b (V.change v).1 ps → K (V.change v).2 s'.H) : mo (some ⟨b, 0, none⟩) K s.H := by
 have hh := h
 obtain ⟨k0, ⟨n, m, ms, mu, h1, h2, h3, ⟨es, cl, h4⟩, h5⟩, h6⟩ := h
 unfold mo
 repeat (first|refine aj ?_|refine av h1 rfl ?_|refine aK h1 rfl ?_|refine aH h1 rfl ?_|refine aI h1 rfl ?_|refine aJ h1 rfl ?_|refine aC h1 rfl ?_)
 cases hdn : v.off
 case true =>
  refine bH ?_
  simp only [V.change, hdn, if_true] at hK
  exact hK s Step.refl hh
 case false =>
 refine bt ?_
 repeat (first|refine aj ?_|refine av h1 rfl ?_|refine aK h1 rfl ?_|refine aH h1 rfl ?_|refine aI h1 rfl ?_|refine aJ h1 rfl ?_|refine aC h1 rfl ?_)
 have := hv.count
 have := hv.fl
 have := hv.cl
 rw [aY (by omega) (by omega)]
 refine cP h1 (by simp) rfl k0 fun s2 e2 z2 a2 _ => ?_
 simp only [List.set_cons_succ, List.set_cons_zero] at a2
 refine aj ?_
 refine aj ?_
 refine GW a2 rfl (by omega) k0 fun s3 e3 o3 a3 => ?_
 simp only [List.set_cons_succ, List.set_cons_zero] at a3
 refine GW a3 rfl (by omega) k0 fun s4 e4 o4 a4 => ?_
 simp only [List.set_cons_succ, List.set_cons_zero] at a4
 have e24 := (e2.trans e3).trans e4
 refine aN (fun hc => ?_) (fun hc => ?_)
 ·refine aj ?_
  refine cP a4 (by simp) rfl k0 fun s5 e5 z5 a5 o5 => ?_
  simp only [List.set_cons_succ, List.set_cons_zero] at a5
  simp only [V.change, hdn, hc, if_true] at hK
  refine hK s5 (e24.trans e5) ?_
  exact ⟨k0, ⟨n, m, ms, mu, by simpa [hc] using a5, h2.st (e24.trans e5) (by simp), h3.st (e24.trans e5) (by simp), ⟨es, cl, h4.st (e24.trans e5) (by simp)⟩, h5.st (e24.trans e5) (by simp)⟩, h6.st (e24.trans e5) fun j => by simp; omega⟩
 ·have fin : dx k s4 b { v with count := v.count + 1, cl := if v.cl < 0 then v.cl else v.cl - 1, fl := if v.fl < 0 then v.fl else v.fl - 1 } ps :=
   ⟨k0, ⟨n, m, ms, mu, by simpa [hdn] using a4, h2.st e24 (by simp), h3.st e24 (by simp), ⟨es, cl, h4.st e24 (by simp)⟩, h5.st e24 (by simp)⟩, h6.st e24 fun j => by simp; omega⟩
  refine aN (fun hf => ?_) (fun hf => ?_)
  ·refine aj ?_
   refine (yJ (n := v.fc) ?_).2 ?_
   ·rw [dK, dK]; exact ue (a4 8 _ rfl)
   ·simp only [V.change, hdn, hc, hf] at hK
    refine hK s4 e24 ?_
    simpa [hf, hdn] using fin
  ·simp only [V.change, hdn, hc, hf] at hK
   refine hK s4 e24 ?_
   simpa [hdn] using fin
theorem Dg {k : Nat} {s : St} {b : Nat} {v : bC} {ps : List (Option Addr)} {n : ByteArray} {K : Int → Int → HP} (h : dx k s b v ps)
  (hK : K (V.find v n).1 (V.find v n).2 s.H) : mY (some ⟨b, 0, none⟩) n K s.H := by
 obtain ⟨k0, ⟨n, m, ms, mu, h1, h2, h3, ⟨es, cl, h4⟩, h5⟩, h6⟩ := h
 unfold mY CR
 repeat (first|refine aj ?_|refine av h1 rfl ?_|refine aK h1 rfl ?_|refine aH h1 rfl ?_|refine aI h1 rfl ?_|refine aJ h1 rfl ?_|refine aC h1 rfl ?_)
 refine BO h4 (fun hn => ?_) (fun i hi => ?_)
 ·refine bt ?_
  simpa [V.find, hn] using hK
 ·refine ⟨_, rfl, bH ?_⟩
  simpa [V.find, hi] using hK
theorem Cp {k : Nat} {s : St} {b : Nat} {v : bC} {ps : List (Option Addr)} {n : ByteArray} {K : Int → Int → HP} (h : dx k s b v ps) (hv : v.Ok)
  (hK : ∀ s', Step [k] s s' → dx k s' b (V.change v).1 ps → K (if (V.change v).2 = 0 then (V.find v n).1 else 0) (if (V.change v).2 = 0 then (V.find v n).2 else (V.change v).2) s'.H) : oc (some ⟨b, 0, none⟩) n K s.H := by
 unfold oc
 refine wL h hv fun s2 e2 h2 => ?_
 have hK2 := hK s2 e2 h2
 refine bK (fun hz => ?_) (fun hz => ?_)
 ·rwa [if_neg hz, if_neg hz] at hK2
 ·rw [if_pos hz, if_pos hz] at hK2
  refine Dg h2 ?_
  have : V.find (V.change v).1 n = V.find v n := by
   have : (V.change v).1.seen = v.seen := by
    unfold V.change; split
    ·rfl
    ·dsimp only; split
     ·rfl
     ·split <;> rfl
   simp [V.find, this]
  rw [this]
  exact hK2
theorem Du {k : Nat} {s : St} {b : Nat} {v : bC} {ps : List (Option Addr)} {mv : mC} {K : HP} (h : dx k s b v ps) (hm : v.bP.length ≤ 1000000000000) (hko : Ko k s)
  (hK : ∀ s', Step [k, k + 2, k + 3] s s' → dx k s' b (V.cM v mv) ps → K s'.H) : mT (some ⟨b, 0, none⟩) mv K s.H := by
 obtain ⟨k0, ⟨n, m, ms, mu, h1, h2, h3, ⟨es, cl, h4⟩, h5⟩, h6⟩ := h
 unfold mT
 refine bZ fun s1 b1 n1 a1 => ?_
 have e1 := n1.step
 have h11 := h1.mono (e1.view (k := k) (by simp))
 unfold oN
 repeat (first|refine aj ?_|refine av h11 rfl ?_|refine aK h11 rfl ?_|refine aH h11 rfl ?_|refine aI h11 rfl ?_|refine aJ h11 rfl ?_|refine aC h11 rfl ?_)
 repeat (first|refine aj ?_|refine av a1 rfl ?_|refine aK a1 rfl ?_|refine aH a1 rfl ?_|refine aI a1 rfl ?_|refine aJ a1 rfl ?_|refine aC a1 rfl ?_)
 refine bZ fun s2 b2 n2 a2 => ?_
 have e2 := n2.step
 have e02 := e1.trans e2
 have h12 := h1.mono (e02.view (k := k) (by simp))
 have hz1 := n1.sz
 have hz2 := n2.sz
 have hko2 := hko.mono e02
 refine fD (aC h12 rfl rfl) ?_
 refine jl (q := k + 2) (h3.st e02 (by simp)) (Ls.single (t := uv) (x := mv) rfl a2) (fun s3 sl3 e3 b3 => ?_) (hq := by unfold Ko own at hko2; omega)
 have e03 : Step [k + 2] s s3 := e02.n.trans e3
 have h13 := h1.mono (e03.view (k := k) (by simp))
 repeat (first|refine aj ?_|refine av h13 rfl ?_|refine aK h13 rfl ?_|refine aH h13 rfl ?_|refine aI h13 rfl ?_|refine aJ h13 rfl ?_|refine aC h13 rfl ?_)
 refine cP h13 (by simp) rfl k0 fun s4 e4 z4 a4 o4 => ?_
 simp only [List.set_cons_succ, List.set_cons_zero] at a4
 repeat (first|refine aj ?_|refine av a4 rfl ?_|refine aK a4 rfl ?_|refine aH a4 rfl ?_|refine aI a4 rfl ?_|refine aJ a4 rfl ?_|refine aC a4 rfl ?_)
 have a14 := a1.mono ((e2.v0.trans e3.v0).trans e4.v0)
 repeat (first|refine aj ?_|refine av a14 rfl ?_|refine aK a14 rfl ?_|refine aH a14 rfl ?_|refine aI a14 rfl ?_|refine aJ a14 rfl ?_|refine aC a14 rfl ?_)
 have e04 : Step [k, k + 2] s s4 := e03.tr e4
 have hsz4 := e04.sz
 refine LX (h4.st e04 (by simp)) (by omega) (by have := hko.mono e04; unfold Ko at this; omega) fun s5 es5 cl5 e5 h45 => ?_
 have e05 : Step [k, k + 2, k + 3] s s5 := e04.tr e5
 have e45 : Step [k, k + 3] s3 s5 := e4.tr e5
 refine hK s5 e05 ⟨k0, ⟨n, sl3, ms, mu, a4.mono (e5.view (by simp)), h2.st e05 (by simp), b3.st e45 (by simp), ⟨es5, cl5, h45⟩, h5.st e05 (by simp)⟩, h6.st e05 fun j => by simp; omega⟩
theorem Q3 {k k' : Nat} {s : St} {b : Nat} {es : List MapEntry} {cl : Nat} {m : List (ByteArray × Int)} {K : Nat → HP} (h : ee k s b es cl m) (hk' : k' < 2305843009213693952 + 1152921504606846976 * s.H.size)
  (hK : ∀ s' b', Step [] s s' → s'.H.size = s.H.size + 1 → ee k' s' b' es cl m → K b' s'.H) : DN (some b) K s.H := by
 refine ⟨b, _, _, rfl, h.obj, ?_⟩
 refine Ar k' hk' rfl fun s' b' n => hK s' b' n.step n.sz ⟨n.here, h.dH, h.born, h.uniq⟩
theorem AP {k k' : Nat} {s : St} {b : Nat} {es : List MapEntry} {cl : Nat} {m : List (ByteArray × Int)} {K : Option Nat → HP} (h : ee k s b es cl m) (hk' : k' < 2305843009213693952 + 1152921504606846976 * s.H.size)
  (hK : ∀ s' b', Step [] s s' → s'.H.size = s.H.size + 1 → ee k' s' b' es cl m → K (some b') s'.H) : ob (some b) K s.H := by
 unfold ob
 exact bt (Q3 h hk' hK)
theorem gF.bG {k : Nat} {s s' : St} {l : List cn} {ps : List (Option Addr)} {j p : Nat} {x x' : cn} (h : gF k s l ps) (hj : l[j]? = some x) (hp : ps[j]? = some (some ⟨p, 0, none⟩)) (hs : Step [k + 10 + 2 * j, k + 11 + 2 * j] s s') (hx : kg (k + 10 + 2 * j) s' p x') : gF k s' (l.set j x') ps :=
 ⟨by simp [h.len], fun i y hi => by
  by_cases e : j = i
  ·subst e
   rw [List.getElem?_set_self (List.getElem?_eq_some_iff.1 hj).1] at hi
   simp at hi; subst hi
   exact ⟨p, hp, hx⟩
  ·rw [List.getElem?_set_ne e] at hi
   obtain ⟨p', g1, g2⟩ := h.at_ i y hi
   exact ⟨p', g1, g2.st hs (by simp; omega) (by simp; omega)⟩⟩
theorem LY {α : Type} (f : α → α) : ∀ (l : List α) (i : Nat) (h : i < l.length), ((l.take i).map f ++ l.drop i).set i (f (l[i]'h)) = (l.take (i + 1)).map f ++ l.drop (i + 1)
 | [], i, h => by simp at h
 | x :: l, 0, h => by simp
 | x :: l, i + 1, h => by
  have := LY f l i (by simpa using h)
  simpa using this
theorem MP {k : Nat} {s : St} {b : Nat} {v : bC} {ps : List (Option Addr)} {K : HP} (h : dx k s b v ps) (hn : v.nodes.length ≤ 1000000000000) (hko : Ko k s)
  (hK : ∀ s', Step (dk k) s s' → dx k s' b (V.fix v) ps → K s'.H) : qD (some ⟨b, 0, none⟩) K s.H := by
 obtain ⟨k0, ⟨n, m, ms, mu, h1, h2, h3, ⟨es, cl, h4⟩, h5⟩, h6⟩ := h
 unfold qD
 repeat (first|refine aj ?_|refine av h1 rfl ?_|refine aK h1 rfl ?_|refine aH h1 rfl ?_|refine aI h1 rfl ?_|refine aJ h1 rfl ?_|refine aC h1 rfl ?_)
 refine AP (k' := k + 4) h4 (by unfold Ko own at hko; omega) fun s1 mu1 e1 z1 h51 => ?_
 have h11 := h1.mono (e1.view (k := k) (by simp))
 repeat (first|refine aj ?_|refine av h11 rfl ?_|refine aK h11 rfl ?_|refine aH h11 rfl ?_|refine aI h11 rfl ?_|refine aJ h11 rfl ?_|refine aC h11 rfl ?_)
 refine cP h11 (by simp) rfl k0 fun s2 e2 z2 a2 o2 => ?_
 simp only [List.set_cons_succ, List.set_cons_zero] at a2
 repeat (first|refine aj ?_|refine av a2 rfl ?_|refine aK a2 rfl ?_|refine aH a2 rfl ?_|refine aI a2 rfl ?_|refine aJ a2 rfl ?_|refine aC a2 rfl ?_)
 refine cP a2 (by simp) rfl k0 fun s3 e3 z3 a3 o3 => ?_
 simp only [List.set_cons_succ, List.set_cons_zero] at a3
 repeat (first|refine aj ?_|refine av a3 rfl ?_|refine aK a3 rfl ?_|refine aH a3 rfl ?_|refine aI a3 rfl ?_|refine aJ a3 rfl ?_|refine aC a3 rfl ?_)
 have e13 := e2.trans e3
 have e03 : Step [k] s s3 := e1.n.trans e13
 have e03' : Step (dk k) s s3 := e03.mono (Rk (j := 0) (by omega))
 have hlen := h6.len
 have h23 := h2.st e03 (by simp)
 refine cD (fun i : Nat => [.int .i64 i]) (fun i s' => i ≤ v.nodes.length ∧ Step (dk k) s s' ∧ At (s'.w k) b 0 [.int .i64 v.room, .slice n.a n.len n.cap, .map (some ms), .map (some mu1), .slice none 0 0, .bool v.off, .int .i64 v.count, .int .i64 v.fl, .int .i64 v.fc, .int .i64 v.cl, .int .i64 v.cc] ∧
  bF tP (k + 1) s' ps n ∧ ee (k + 3) s' ms es cl v.seen ∧ ee (k + 4) s' mu1 es cl v.seen ∧ gF k s' ((v.nodes.take i).map cn.calm ++ v.nodes.drop i) ps) (fun i _ => v.nodes.length - i) 0 rfl
  ⟨Nat.zero_le _, e03', a3, h23, h4.st e03 (by simp), h51.st e13 (by simp), by simpa using h6.st e03 fun j => by simp; omega⟩ ?_
 rintro i s4 ⟨hi, e4, a4, b4, m4, mu4, n4⟩ G hG
 simp only [List.getD_cons_zero, List.getD_cons_succ, cI, cN, cK, cH, cJ, cO]
 have hnl : n.len = v.nodes.length := by rw [h2.ls.len, hlen]
 rw [hnl]
 refine aN (fun hc => ?_) (fun hc => ?_)
 ·refine bU b4.ls (by omega) (by omega) fun b' o x hx hel => ?_
  obtain ⟨_, rfl, hel⟩ := hel
  rw [Int.toNat_natCast] at hx
  have hlt : i < v.nodes.length := by omega
  have hcur : ((v.nodes.take i).map cn.calm ++ v.nodes.drop i)[i]? = some v.nodes[i] := by
   rw [List.getElem?_append_right (by simp; omega)]; simp; rw [show i + (i - min i v.nodes.length) = i by omega]; exact List.getElem?_eq_getElem hlt
  obtain ⟨p, hp1, hp2⟩ := n4.at_ _ _ hcur
  rw [hx] at hp1
  simp at hp1
  subst hp1
  refine dR hel rfl ?_
  obtain ⟨sl, q1, q2⟩ := hp2
  repeat (first|refine aj ?_|refine av q1 rfl ?_|refine aK q1 rfl ?_|refine aH q1 rfl ?_|refine aI q1 rfl ?_|refine aJ q1 rfl ?_|refine aC q1 rfl ?_)
  refine cP q1 (by simp) rfl (by omega) fun s5 e5 z5 a5 o5 => ?_
  simp only [List.set_cons_succ, List.set_cons_zero] at a5
  rw [aY (by omega) (by omega)]
  have hN : kg (k + 10 + 2 * i) s5 p v.nodes[i].calm := ⟨sl, a5, q2.st e5 (by simp)⟩
  have hup := n4.bG hcur hx (e5.mono (by simp)) hN
  refine hG (i + 1) s5 ⟨by omega, e4.trans (e5.mono (by intro x hx; simp at hx; rw [fk]; omega)), a4.mono (e5.view (by simp; omega)), b4.st e5 (by simp; omega), m4.st e5 (by simp; omega), mu4.st e5 (by simp; omega), ?_⟩ (by omega)
  have : ((v.nodes.take i).map cn.calm ++ v.nodes.drop i).set i v.nodes[i].calm = ((v.nodes.take (i + 1)).map cn.calm ++ v.nodes.drop (i + 1)) := by
   exact LY cn.calm v.nodes i hlt
  rw [this] at hup
  exact hup
 ·have : i = v.nodes.length := by omega
  subst this
  refine hK s4 e4 ⟨k0, ⟨n, ⟨none, 0, 0⟩, ms, mu1, a4, b4, bF.nil, ⟨es, cl, m4⟩, ⟨mu1, es, cl, rfl, mu4⟩⟩, by simpa [V.fix] using n4⟩
theorem QZ {k : Nat} {s : St} {b : Nat} {v : bC} {ps : List (Option Addr)} {K : Bool → HP} (h : dx k s b v ps) (hK : K v.off s.H) : jH (some ⟨b, 0, none⟩) K s.H := by
 obtain ⟨k0, ⟨n, m, ms, mu, h1, _⟩, _⟩ := h
 unfold jH
 repeat (first|refine aj ?_|refine av h1 rfl ?_|refine aK h1 rfl ?_|refine aH h1 rfl ?_|refine aI h1 rfl ?_|refine aJ h1 rfl ?_|refine aC h1 rfl ?_)
 exact hK
def V.data (v : bC) (i : Int) : ByteArray := match v.nodes[i.toNat]? with | some x => x.seen | none => ⟨#[]⟩
def V.text (v : bC) (n : ByteArray) : ByteArray × Int :=
 if v.off then (⟨#[]⟩, 11) else if (V.find v n).2 = 0 then (V.data v (V.find v n).1, 0) else (⟨#[]⟩, (V.find v n).2)
theorem nU {m : List (ByteArray × Int)} {n : ByteArray} {i : Int} (h : look m n = some i) : (n, i) ∈ m := by
 simp only [look, Option.map_eq_some_iff] at h
 obtain ⟨x, h1, h2⟩ := h
 have := List.find?_some h1
 simp at this
 have hm := List.mem_of_find?_eq_some h1
 rw [← this, ← h2]; exact hm
theorem V.yK {v : bC} {n : ByteArray} (h : (V.find v n).2 = 0) : look v.seen n = some (V.find v n).1 := by
 unfold V.find at *
 cases e : look v.seen n with
 | none => rw [e] at h; simp at h
 | some i => rfl
theorem aci {k : Nat} {s : St} {b : Nat} {v : bC} {ps : List (Option Addr)} {n : ByteArray} {K : ByteArray → Int → HP} (h : dx k s b v ps) (hn : ∀ x ∈ v.seen, 0 ≤ x.2 ∧ x.2 < v.nodes.length)
  (hK : K (V.text v n).1 (V.text v n).2 s.H) : oB (some ⟨b, 0, none⟩) n K s.H := by
 have hh := h
 obtain ⟨k0, ⟨nn, m, ms, mu, h1, h2, h3, ⟨es, cl, h4⟩, h5⟩, h6⟩ := h
 unfold oB
 repeat (first|refine aj ?_|refine av h1 rfl ?_|refine aK h1 rfl ?_|refine aH h1 rfl ?_|refine aI h1 rfl ?_|refine aJ h1 rfl ?_|refine aC h1 rfl ?_)
 cases hdn : v.off
 case true =>
  refine bH ?_
  simpa [V.text, hdn] using hK
 case false =>
 refine bt ?_
 refine Dg hh ?_
 simp only [V.text, hdn, Bool.false_eq_true, if_false] at hK
 refine bK (fun hz => ?_) (fun hz => ?_)
 ·rw [if_neg hz] at hK
  exact hK
 ·rw [if_pos hz] at hK
  have hl := V.yK hz
  generalize (V.find v n).1 = i at *
  have hin := hn _ (nU hl)
  simp only at hin
  repeat (first|refine aj ?_|refine av h1 rfl ?_|refine aK h1 rfl ?_|refine aH h1 rfl ?_|refine aI h1 rfl ?_|refine aJ h1 rfl ?_|refine aC h1 rfl ?_)
  have hpl := h6.len
  refine bU h2.ls hin.1 (by rw [hpl]; exact hin.2) fun b' o x hx hel => ?_
  obtain ⟨_, rfl, hel⟩ := hel
  have hlt2 : i.toNat < v.nodes.length := by omega
  obtain ⟨p, hp1, hp2⟩ := h6.at_ _ _ (List.getElem?_eq_getElem hlt2)
  rw [hx] at hp1
  simp at hp1
  subst hp1
  refine dR hel rfl ?_
  obtain ⟨sl, q1, q2⟩ := hp2
  repeat (first|refine aj ?_|refine av q1 rfl ?_|refine aK q1 rfl ?_|refine aH q1 rfl ?_|refine aI q1 rfl ?_|refine aJ q1 rfl ?_|refine aC q1 rfl ?_)
  simpa [V.data, List.getElem?_eq_getElem hlt2] using hK
end Go.Ph
end
section
set_option linter.all false
namespace Go.Ph
open S
def ov (c : UInt8) : Bool := (decide (97 ≤ c.toNat) && decide (c.toNat ≤ 122)) || (decide (48 ≤ c.toNat) && decide (c.toNat ≤ 57)) || decide (c.toNat = 46) || decide (c.toNat = 45)
def eF (s : ByteArray) : Bool := decide (1 ≤ s.size) && decide (s.size ≤ 32) && s.data.toList.all ov
def Cv : ByteArray := ⟨#[97, 98, 99, 100, 101, 102, 103, 104, 105, 106, 107, 108, 109, 110, 111, 112, 113, 114, 115, 116, 117, 118, 119, 120, 121, 122, 48, 49, 50, 51, 52, 53, 54, 55, 56, 57, 46, 45]⟩
theorem YQ : ∀ n : Fin 256, decide (firstIdx Cv (UInt8.ofNat n.1) < 0) = !ov (UInt8.ofNat n.1) := by decide +kernel
theorem aaf (c : UInt8) : decide (firstIdx Cv c < 0) = !ov c := by
 have := YQ ⟨c.toNat, c.toNat_lt⟩
 simpa using this
theorem Zx {p : UInt8 → Bool} {l : List UInt8} {i : Nat} {c : UInt8} (h : l[i]? = some c) (ha : (l.take i).all p = true) : (l.take (i + 1)).all p = p c := by
 rw [List.take_add_one, h]
 simp only [Option.toList, List.all_append, ha, List.all_cons, List.all_nil, Bool.and_true, Bool.true_and]
theorem all_false {p : UInt8 → Bool} {l : List UInt8} {i : Nat} {c : UInt8} (h : l[i]? = some c) (hp : p c = false) : l.all p = false := by
 rw [List.all_eq_false]
 exact ⟨c, List.mem_of_getElem? h, by simp [hp]⟩
theorem CX {s : St} {p : ByteArray} {K : Bool → HP} (hb : p.size ≤ 9223372036854775807) (hK : K (eF p) s.H) : nO p K s.H := by
 unfold nO
 refine cD (fun i : Nat => [.int .i64 i]) (fun i s' => s' = s ∧ i ≤ p.size ∧ (p.data.toList.take i).all ov = true) (fun i _ => p.size - i) 0 rfl ⟨rfl, Nat.zero_le _, rfl⟩ ?_
 rintro i s' ⟨rfl, hi, ha⟩ G hG
 simp only [List.getD_cons_zero, List.getD_cons_succ, cI, cN, cK, cH, cJ, cO]
 refine aN (fun hc => ?_) (fun hc => ?_)
 ·refine ae3 (by omega) (by omega) fun c hx => ?_
  unfold vB yq CW
  rw [Int.toNat_natCast] at hx
  have hu : (((c.toNat : Int)).toNat).toUInt8 = c := by simp
  rw [hu]
  change (bif decide (firstIdx Cv c < 0) then K false else G [Value.int IntKind.i64 (ay ((i : Int) + 1))]) s'.H
  rw [aaf c]
  have hat := Zx hx ha
  cases hok : ov c
  ·refine bH ?_
   have := all_false hx hok
   simpa [eF, this] using hK
  ·refine bt ?_
   rw [aY (by omega) (by omega)]
   exact hG (i + 1) s' ⟨rfl, by omega, by rw [hat]; exact hok⟩ (by omega)
 ·have : i = p.size := by omega
  subst this
  rw [List.take_of_length_le (by rw [dw]; exact Nat.le_refl _)] at ha
  refine bK (fun hn => ?_) (fun hn => ?_)
  ·rw [uY] at hn
   have : decide ((p.size : Int) ≤ 32) = eF p := by
    simp only [eF, ha, Bool.and_true, show decide (1 ≤ p.size) = true by simp; omega, Bool.true_and]
    by_cases h : p.size ≤ 32
    ·simp [h]; omega
    ·simp [h]; omega
   rw [this]; exact hK
  ·rw [uY] at hn
   simpa [eF, hn] using hK
theorem Uw (s : St) (H' : aP) (hz : s.H.size ≤ H'.size) (hs : ∀ i, i < s.H.size → H'[i]? = s.H[i]?) :
  ∃ s' : St, s'.H = H' ∧ Step [] s s' ∧ ∀ b i x, s.H.size ≤ b → pk H' b i = some x → s'.w 0 b i = some x := by
 have hp : ∀ b i, b < s.H.size → pk H' b i = pk s.H b i := fun b i hb => by unfold pk; rw [hs b hb]
 refine ⟨⟨H', fun b i => if b < s.H.size then s.c b i else 0, fun b i hb => ?_, fun b i hb => ?_⟩, rfl, ⟨hz, fun b i hb _ => ⟨by simp [hb], hp b i hb⟩, fun b hb => by unfold sh; rw [hs b hb]⟩, fun b i x hb hx => dP hx ?_⟩
 ·split
  ·rename_i h; have := s.wf b i h; omega
  ·omega
 ·split at hb
  ·rename_i h
   have := s.fz b i hb
   unfold kA at this ⊢
   simp only [hs b h]
   exact this
  ·exact absurd rfl hb
 ·show (if b < s.H.size then s.c b i else 0) = 0
  rw [if_neg (by omega)]
def V.names (v : bC) : List ByteArray := if v.off then [] else (v.seen.map (·.1)).mergeSort eT
theorem acT {C : Cx} {k : Nat} {s : St} {b : Nat} {v : bC} {ps : List (Option Addr)} {K : Sl → HP} (h : dx k s b v ps) (hsz : ∀ n ∈ v.seen.map (·.1), n.size ≤ 9223372036854775807) (hln : v.seen.length ≤ 1000000)
  (hK : ∀ s' r, Step [] s s' → Ls tS (s'.w 0) (V.names v) r → K r s'.H) : lX C (some ⟨b, 0, none⟩) K s.H := by
 obtain ⟨k0, ⟨n, m, ms, mu, h1, h2, h3, ⟨es, cl, h4⟩, h5⟩, h6⟩ := h
 unfold lX Dn
 repeat (first|refine aj ?_|refine av h1 rfl ?_|refine aK h1 rfl ?_|refine aH h1 rfl ?_|refine aI h1 rfl ?_|refine aJ h1 rfl ?_|refine aC h1 rfl ?_)
 cases hd : v.off
 case true =>
  refine bH (hK s _ Step.refl ?_)
  simp only [V.names, hd, if_true]; exact Ls.iO
 case false =>
 refine bt ?_
 repeat (first|refine aj ?_|refine av h1 rfl ?_|refine aK h1 rfl ?_|refine aH h1 rfl ?_|refine aI h1 rfl ?_|refine aJ h1 rfl ?_|refine aC h1 rfl ?_)
 refine bZ fun s1 b1 n1 a1 => ?_
 have h41 := h4.st n1.step (by simp)
 have hkeys : es.map (·.key) = (v.seen.map (·.1)).map Value.string := by
  have := congrArg (List.map (·.1)) h4.dH.kv
  simp only [List.map_map] at this ⊢
  exact this
 refine ⟨b1, ms, es.toArray, cl, v.seen.map (·.1), rfl, rfl, rfl, ue (a1 0 _ rfl), h41.obj, by simpa using hkeys, h4.born, by simpa using h4.uniq, h4.dH.nd, hsz, by simpa using hln, fun r H' hz hs hr hb => ?_⟩
 obtain ⟨s2, rfl, e2, hw⟩ := Uw s1 H' hz hs
 refine hK s2 r (n1.step.trans e2) ?_
 have hvn : V.names v = (v.seen.map (·.1)).mergeSort eT := by simp [V.names, hd]
 rw [hvn]
 obtain ⟨q1, q2, q3⟩ := hr
 refine ⟨q1, q2, fun ha => ?_, fun a ha => ?_⟩
 ·rw [ha] at q3; exact q3.2
 ·rw [ha] at q3
  obtain ⟨q4, q5⟩ := q3
  refine ⟨fun _ => q4, fun j x hj => ⟨[.string x], rfl, fun i y hi => ?_⟩⟩
  have e : i = 0 := by cases i with
   | zero => rfl
   | succ i => simp at hi
  subst e
  simp at hi; subst hi
  have := q5 j x hj
  obtain ⟨ab, ao, sp⟩ := a
  simp at q4; subst q4
  rw [dK] at this
  simp only [tS, Nat.mul_one, Nat.add_zero]
  exact hw _ _ _ (hb _ ha) (EG this)
end Go.Ph
end
section
set_option linter.all false
namespace Go.Ph
theorem Gu : ∀ (x y : List UInt8), Op.bytesLess x y = decide (x < y)
 | [], [] => by simp [Op.bytesLess]
 | _ :: _, [] => by simp [Op.bytesLess]
 | [], _ :: _ => by simp [Op.bytesLess]
 | a :: x, b :: y => by
  rw [Op.bytesLess, Gu x y]
  simp only [List.cons_lt_cons_iff]
  by_cases h1 : a < b <;> by_cases h2 : a = b <;> by_cases h3 : x < y <;> simp [h1, h2, h3]
theorem qY (a b : ByteArray) : slt a b = decide (a.data.toList < b.data.toList) := by
 unfold slt; rw [Gu, ByteArray.toList_eq, ByteArray.toList_eq]
theorem ic (a : ByteArray) : slt a a = false := by rw [qY]; simp [List.lt_irrefl]
theorem mK {a b c : ByteArray} (h : slt a b = true) (k : slt b c = true) : slt a c = true := by
 rw [qY, decide_eq_true_eq] at *; exact List.lt_trans h k
theorem qF (a b : ByteArray) : slt a b = true ∨ a = b ∨ slt b a = true := by
 rw [qY, qY, decide_eq_true_eq, decide_eq_true_eq]
 by_cases h : a.data.toList < b.data.toList
 ·exact .inl h
 ·by_cases h2 : b.data.toList < a.data.toList
  ·exact .inr (.inr h2)
  ·exact .inr (.inl (mM (List.le_antisymm (List.not_lt.1 h2) (List.not_lt.1 h))))
theorem L9 (a b : ByteArray) : R.gt a b = slt b a := by
 unfold R.gt
 rcases qF a b with h | h | h
 ·have : slt b a = false := by cases e : slt b a with | false => rfl | true => have := mK h e; rw [ic] at this; cases this
  simp [h, this]
 ·subst h; simp [ic]
 ·have h1 : slt a b = false := by cases e : slt a b with | false => rfl | true => have := mK h e; rw [ic] at this; cases this
  have h2 : a ≠ b := by rintro rfl; rw [ic] at h; cases h
  simp [h, h1, h2]
theorem TM (a b c : ByteArray) (h : eT a b = true) (k : eT b c = true) : eT a c = true := by
 simp only [eT, Bool.not_eq_true'] at *
 cases e : slt c a with
 | false => rfl
 | true =>
  rcases qF b a with h1 | h1 | h1
  ·rw [h] at h1; cases h1
  ·subst h1; rw [k] at e; cases e
  ·have := mK e h1; rw [k] at this; cases this
theorem OC (a b : ByteArray) : (eT a b || eT b a) = true := by
 simp only [eT]
 rcases qF a b with h | h | h
 ·have : slt b a = false := by cases e : slt b a with | false => rfl | true => have := mK h e; rw [ic] at this; cases this
  simp [this]
 ·subst h; simp [ic]
 ·have : slt a b = false := by cases e : slt a b with | false => rfl | true => have := mK h e; rw [ic] at this; cases this
  simp [this]
theorem Xp {a b : ByteArray} (h : eT a b = true) (k : eT b a = true) : a = b := by
 simp only [eT, Bool.not_eq_true'] at *
 rcases qF a b with h1 | h1 | h1
 ·rw [k] at h1; cases h1
 ·exact h1
 ·rw [h] at h1; cases h1
theorem PW {a b : ByteArray} (h : slt a b = true) : eT a b = true := by
 simp only [eT, Bool.not_eq_true']
 cases e : slt b a with | false => rfl | true => have := mK h e; rw [ic] at this; cases this
structure Good (N : Nat) (l : List aR) : Prop where
 sorted : l.Pairwise fun a b => slt a.Name b.Name = true
 files : (l.map (·.aO)).Nodup
 cQ : ∀ e ∈ l, 0 ≤ e.aO ∧ e.aO < N
structure eS (N : Nat) (m : List (ByteArray × Int)) (l : List aR) : Prop where
 good : Good N l
 mem : ∀ n i, (n, i) ∈ m ↔ (⟨n, i⟩ : aR) ∈ l
 nd : (m.map (·.1)).Nodup
theorem Good.inj {N : Nat} {l : List aR} (h : Good N l) {x y : aR} (hx : x ∈ l) (hy : y ∈ l) (hn : x.Name = y.Name) : x = y := by
 have := h.sorted
 induction l with
 | nil => cases hx
 | cons z l ih =>
  rw [List.pairwise_cons] at this
  rcases List.mem_cons.1 hx with rfl | hx' <;> rcases List.mem_cons.1 hy with rfl | hy'
  ·rfl
  ·have h1 := this.1 y hy'; rw [hn, ic] at h1; cases h1
  ·have h1 := this.1 x hx'; rw [hn, ic] at h1; cases h1
  ·refine ih ⟨this.2, ?_, fun e he => h.cQ e (by simp [he])⟩ hx' hy' this.2
   have := h.files; simp at this; exact this.2
theorem nH {N : Nat} {l : List aR} (h : Good N l) {n : ByteArray} {i : Int} : (⟨n, i⟩ : aR) ∈ l → R.find l n = i := by
 intro hm
 unfold R.find
 cases e : l.find? (fun e => decide (e.Name = n)) with
 | none => have := List.find?_eq_none.1 e _ hm; simp at this
 | some x =>
  have h1 := List.find?_some e
  simp at h1
  have h2 := List.mem_of_find?_eq_some e
  have := h.inj h2 hm h1
  simp [this]
theorem TC {l : List aR} {n : ByteArray} (h : ∀ i, (⟨n, i⟩ : aR) ∉ l) : R.find l n = -1 := by
 unfold R.find
 cases e : l.find? (fun e => decide (e.Name = n)) with
 | none => rfl
 | some x =>
  have h1 := List.find?_some e
  simp at h1
  have h2 := List.mem_of_find?_eq_some e
  exact absurd (by rw [← h1]; exact h2) (h x.aO)
theorem eS.find {N : Nat} {m : List (ByteArray × Int)} {l : List aR} (h : eS N m l) (n : ByteArray) : (∀ i, look m n = some i → R.find l n = i ∧ 0 ≤ i ∧ i < N ∧ (⟨n, i⟩ : aR) ∈ l) ∧ (look m n = none → R.find l n = -1) := by
 refine ⟨fun i hi => ?_, fun hn => ?_⟩
 ·have h1 := (h.mem n i).1 (nU hi)
  exact ⟨nH h.good h1, (h.good.cQ _ h1).1, (h.good.cQ _ h1).2, h1⟩
 ·refine TC fun i hi => ?_
  exact qt hn _ ((h.mem n i).2 hi) rfl
theorem jX {l : List aR} {n : ByteArray} {e : aR} : e ∈ R.bD l n ↔ e ∈ l ∧ e.Name ≠ n := by simp [R.bD, List.mem_filter]
theorem Good.bD {N : Nat} {l : List aR} (h : Good N l) (n : ByteArray) : Good N (R.bD l n) :=
 ⟨h.sorted.sublist List.filter_sublist, h.files.sublist (List.Sublist.map _ List.filter_sublist), fun e he => h.cQ e (jX.1 he).1⟩
theorem H8 (m : List aR) (x : ByteArray) : ∀ k, R.gG m x k ≤ k
 | 0 => Nat.le_refl _
 | k + 1 => by
  unfold R.gG
  split
  ·split
   ·exact Nat.le_trans (H8 m x k) (Nat.le_succ _)
   ·exact Nat.le_refl _
  ·exact Nat.le_refl _
theorem Gk (m : List aR) (x : ByteArray) : ∀ k j e, R.gG m x k ≤ j → j < k → m[j]? = some e → slt x e.Name = true
 | 0, j, e, h1, h2, h3 => by omega
 | k + 1, j, e, h1, h2, h3 => by
  unfold R.gG at h1
  split at h1
  ·rename_i y hy
   split at h1
   ·rename_i hg
    by_cases ej : j = k
    ·subst ej
     rw [hy] at h3; simp at h3; subst h3
     rwa [L9] at hg
    ·exact Gk m x k j e h1 (by omega) h3
   ·omega
  ·omega
theorem Kr (m : List aR) (x : ByteArray) : ∀ k e, 0 < R.gG m x k → m[R.gG m x k - 1]? = some e → R.gt e.Name x = false
 | 0, e, h1, h2 => by simp [R.gG] at h1
 | k + 1, e, h1, h2 => by
  unfold R.gG at h1 h2
  split at h1
  ·rename_i y hy
   rw [hy] at h2
   simp only at h2
   split at h1
   ·rename_i hg
    rw [if_pos hg] at h2
    exact Kr m x k e h1 h2
   ·rename_i hg
    rw [if_neg hg] at h2
    simp only [Nat.add_sub_cancel] at h2
    rw [hy] at h2; simp at h2; subst h2
    simpa using hg
  ·rename_i hy
   rw [hy] at h2
   simp only [Nat.add_sub_cancel] at h2
   rw [hy] at h2; cases h2
theorem vc {l : List aR} {x e : aR} : e ∈ R.put l x ↔ e = x ∨ (e ∈ l ∧ e.Name ≠ x.Name) := by
 unfold R.put
 rw [List.mem_append, List.mem_append, List.mem_singleton]
 have h1 := List.take_append_drop (R.gG (R.bD l x.Name) x.Name (R.bD l x.Name).length) (R.bD l x.Name)
 have h2 : e ∈ R.bD l x.Name ↔ e ∈ (R.bD l x.Name).take (R.gG (R.bD l x.Name) x.Name (R.bD l x.Name).length) ∨ e ∈ (R.bD l x.Name).drop (R.gG (R.bD l x.Name) x.Name (R.bD l x.Name).length) := by
  rw [← List.mem_append, h1]
 rw [← jX, h2]
 constructor
 ·rintro ((h | h) | h)
  ·exact .inr (.inl h)
  ·exact .inl h
  ·exact .inr (.inr h)
 ·rintro (h | h | h)
  ·exact .inl (.inr h)
  ·exact .inl (.inl h)
  ·exact .inr h
theorem tX (l : List aR) (x : aR) : (R.put l x).Perm (x :: R.bD l x.Name) := by
 unfold R.put
 have h1 := List.take_append_drop (R.gG (R.bD l x.Name) x.Name (R.bD l x.Name).length) (R.bD l x.Name)
 rw [List.append_assoc, List.singleton_append]
 refine List.perm_middle.trans ?_
 rw [h1]
theorem Good.put {N : Nat} {l : List aR} (h : Good N l) (x : aR) (hx : 0 ≤ x.aO ∧ x.aO < N) (hf : ∀ e ∈ l, e.Name ≠ x.Name → e.aO ≠ x.aO) : Good N (R.put l x) := by
 have hw := h.bD x.Name
 refine ⟨?_, ?_, fun e he => ?_⟩
 ·unfold R.put
  have hle := H8 (R.bD l x.Name) x.Name (R.bD l x.Name).length
  have hgt := Gk (R.bD l x.Name) x.Name (R.bD l x.Name).length
  have hlt := Kr (R.bD l x.Name) x.Name (R.bD l x.Name).length
  have hne : ∀ e ∈ R.bD l x.Name, e.Name ≠ x.Name := fun e he => (jX.1 he).2
  have hs := hw.sorted
  revert hle hgt hlt hne hs
  generalize R.bD l x.Name = m
  generalize R.gG m x.Name m.length = k
  intro hle hgt hlt hne hs
  have hs' := hs
  rw [← List.take_append_drop k m, List.pairwise_append] at hs'
  obtain ⟨s1, s2, s3⟩ := hs'
  have hdrop : ∀ b ∈ m.drop k, slt x.Name b.Name = true := fun b hb => by
   obtain ⟨j, hj⟩ := List.mem_iff_getElem?.1 hb
   rw [List.getElem?_drop] at hj
   exact hgt (k + j) b (by omega) (List.getElem?_eq_some_iff.1 hj).1 hj
  have htake : ∀ a ∈ m.take k, slt a.Name x.Name = true := fun a ha => by
   obtain ⟨j, hj⟩ := List.mem_iff_getElem?.1 ha
   rw [List.getElem?_take] at hj
   split at hj
   ·rename_i hjk
    have hk1 : k - 1 < m.length := by omega
    have hg := hlt m[k - 1] (by omega) (List.getElem?_eq_getElem hk1)
    rw [L9] at hg
    have hl : slt m[k - 1].Name x.Name = true := by
     rcases qF m[k - 1].Name x.Name with h1 | h1 | h1
     ·exact h1
     ·exact absurd h1 (hne _ (List.getElem_mem _))
     ·rw [hg] at h1; cases h1
    by_cases e : j = k - 1
    ·subst e
     rw [List.getElem?_eq_getElem hk1] at hj
     simp at hj; rw [← hj]; exact hl
    ·have hjm := (List.getElem?_eq_some_iff.1 hj)
     obtain ⟨hj1, hj2⟩ := hjm
     have := List.pairwise_iff_getElem.1 hs j (k - 1) hj1 hk1 (by omega)
     rw [hj2] at this
     exact mK this hl
   ·cases hj
  rw [List.append_assoc, List.singleton_append, List.pairwise_append, List.pairwise_cons]
  refine ⟨s1, ⟨hdrop, s2⟩, fun a ha b hb => ?_⟩
  rcases List.mem_cons.1 hb with rfl | hb
  ·exact htake a ha
  ·exact s3 a ha b hb
 ·rw [((tX l x).map (·.aO)).nodup_iff, List.map_cons, List.nodup_cons]
  refine ⟨fun hm => ?_, hw.files⟩
  obtain ⟨e, he, hee⟩ := List.mem_map.1 hm
  have := jX.1 he
  exact hf e this.1 this.2 hee
 ·rcases vc.1 he with rfl | he
  ·exact hx
  ·exact h.cQ e he.1
theorem Gq {m : List (ByteArray × Int)} {n : ByteArray} {i : Int} {a : ByteArray} {j : Int} : (a, j) ∈ gi m n i ↔ (a = n ∧ j = i) ∨ ((a, j) ∈ m ∧ a ≠ n) := by
 unfold gi
 split
 ·rename_i hs
  obtain ⟨w, hw⟩ := Option.isSome_iff_exists.1 hs
  have hwm := nU hw
  rw [List.mem_map]
  constructor
  ·rintro ⟨x, hx, hxe⟩
   split at hxe
   ·simp at hxe; exact .inl ⟨hxe.1.symm, hxe.2.symm⟩
   ·rename_i hne
    rw [hxe] at hx hne
    exact .inr ⟨hx, hne⟩
  ·rintro (⟨rfl, rfl⟩ | ⟨h1, h2⟩)
   ·exact ⟨_, hwm, by simp⟩
   ·exact ⟨_, h1, by simp [h2]⟩
 ·rename_i hs
  have hl : look m n = none := by simpa using hs
  have := qt hl
  rw [List.mem_append, List.mem_singleton]
  constructor
  ·rintro (h | h)
   ·exact .inr ⟨h, this _ h⟩
   ·simp at h; exact .inl h
  ·rintro (⟨rfl, rfl⟩ | ⟨h1, h2⟩)
   ·exact .inr rfl
   ·exact .inl h1
theorem Uo {m : List (ByteArray × Int)} (h : (m.map (·.1)).Nodup) (n : ByteArray) (i : Int) : ((gi m n i).map (·.1)).Nodup := by
 unfold gi
 split
 ·have : (m.map (fun x => if x.1 = n then (n, i) else x)).map (·.1) = m.map (·.1) := by
   rw [List.map_map]
   apply List.map_congr_left
   intro x _
   simp only [Function.comp]
   split
   ·rename_i h; exact h.symm
   ·rfl
  rw [this]; exact h
 ·rename_i hs
  have hl : look m n = none := by simpa using hs
  rw [List.map_append, List.nodup_append]
  refine ⟨h, by simp, ?_⟩
  intro x hx y hy
  simp at hy; subst hy
  obtain ⟨z, hz, rfl⟩ := List.mem_map.1 hx
  exact qt hl z hz
theorem eS.drop {N : Nat} {m : List (ByteArray × Int)} {l : List aR} (h : eS N m l) {n : ByteArray} {i : Int} (hi : (⟨n, i⟩ : aR) ∈ l) : eS N (m.filter fun x => !decide (x.2 = i)) (R.bD l n) := by
 refine ⟨h.good.bD n, fun a j => ?_, h.nd.sublist (List.Sublist.map _ List.filter_sublist)⟩
 rw [List.mem_filter, jX, ← h.mem]
 have hfi : ∀ e ∈ l, e.aO = i → e = ⟨n, i⟩ := fun e he hei => by
  obtain ⟨a, ha⟩ := List.mem_iff_getElem?.1 he
  obtain ⟨c, hc⟩ := List.mem_iff_getElem?.1 hi
  have : a = c := nY h.good.files (x := i) (by simp [ha, hei]) (by simp [hc])
  subst this
  rw [ha] at hc; simpa using hc
 constructor
 ·rintro ⟨h1, h2⟩
  refine ⟨h1, ?_⟩
  rintro rfl
  have h3 := h.good.inj ((h.mem _ _).1 h1) hi rfl
  simp at h3
  simp [h3] at h2
 ·rintro ⟨h1, h2⟩
  refine ⟨h1, ?_⟩
  simp only [Bool.not_eq_true', decide_eq_false_iff_not]
  rintro rfl
  have := hfi _ ((h.mem _ _).1 h1) rfl
  simp at this
  exact h2 this
theorem eS.set {N : Nat} {m : List (ByteArray × Int)} {l : List aR} (h : eS N m l) {n : ByteArray} {i : Int} (hr : 0 ≤ i ∧ i < N) (hi : ∀ e ∈ l, e.aO ≠ i) : eS N (gi m n i) (R.put l ⟨n, i⟩) := by
 refine ⟨h.good.put ⟨n, i⟩ hr (fun e he _ => hi e he), fun a j => ?_, Uo h.nd n i⟩
 rw [Gq, vc, ← h.mem]
 simp
theorem eS.more {N N' : Nat} {m : List (ByteArray × Int)} {l : List aR} (h : eS N m l) (hN : N ≤ N') : eS N' m l :=
 ⟨⟨h.good.sorted, h.good.files, fun e he => by have := h.good.cQ e he; omega⟩, h.mem, h.nd⟩
theorem eS.names {N : Nat} {m : List (ByteArray × Int)} {l : List aR} (h : eS N m l) : (m.map (·.1)).mergeSort eT = l.map (·.Name) := by
 have hl : (l.map (·.Name)).Pairwise fun a b => slt a b = true := by rw [List.pairwise_map]; exact h.good.sorted
 have hnd : (l.map (·.Name)).Nodup := hl.imp fun hab => by rintro rfl; rw [ic] at hab; cases hab
 refine List.Perm.eq_of_pairwise (le := fun a b => eT a b = true) (fun a b _ _ h1 h2 => Xp h1 h2) (List.pairwise_mergeSort TM OC _) (hl.imp PW) ?_
 refine (List.mergeSort_perm _ _).trans ?_
 rw [List.perm_ext_iff_of_nodup h.nd hnd]
 intro a
 rw [List.mem_map, List.mem_map]
 constructor
 ·rintro ⟨⟨b, j⟩, hb, rfl⟩
  exact ⟨_, (h.mem _ _).1 hb, rfl⟩
 ·rintro ⟨⟨b, j⟩, hb, rfl⟩
  exact ⟨_, (h.mem _ _).2 hb, rfl⟩
theorem eS.len {N : Nat} {m : List (ByteArray × Int)} {l : List aR} (h : eS N m l) : m.length = l.length := by
 have := congrArg List.length h.names
 simpa using this
end Go.Ph
end
section
set_option linter.all false
namespace Go.Ph
open S
def kY (l r c : Int) : Prop := l = r ∨ (l < 0 ∧ 4611686018427387904 ≤ r + c)
def pm (p : ny) : xW := ⟨p.place, p.bytes⟩
def tA (x : cn) (f : dV) : Prop := x.seen = f.now ∧ x.sure = f.sure ∧ x.cF.map pm = f.waits
def Cu (v : bC) (j : Nat) : Prop := (∃ n, (n, (j : Int)) ∈ v.seen) ∨ (∃ n, (n, (j : Int)) ∈ v.sure) ∨ ∃ x, v.nodes[j]? = some x ∧ x.fresh = true
structure kZ (c : Int) (x : cn) : Prop where
 seen : x.seen.size ≤ 4194304
 sure : x.sure.size ≤ 4194304
 cF : ∀ p ∈ x.cF, 0 ≤ p.place ∧ p.place + p.bytes.size ≤ 4194304
 len : (x.cF.length : Int) ≤ c
structure dI (v : bC) (d : ah) : Prop where
 room : v.room = d.cap ∧ 0 ≤ v.room ∧ v.room ≤ 4194304
 off : v.off = d.down
 count : v.count = d.calls ∧ 0 ≤ d.calls
 fl : kY v.fl d.fail d.calls ∧ -1 ≤ v.fl ∧ v.fl < 9223372036854775808 ∧ -1 ≤ d.fail ∧ d.fail < 9223372036854775808
 fc : 0 ≤ v.fl → v.fc = d.err
 cl : kY v.cl d.br d.calls ∧ -1 ≤ v.cl ∧ v.cl < 9223372036854775808 ∧ -1 ≤ d.br ∧ d.br < 9223372036854775808
 nodes : v.nodes.length = d.files.length ∧ (v.nodes.length : Int) ≤ 1024 + d.calls
 lV : v.bP.length = d.waits.length ∧ (v.bP.length : Int) ≤ d.calls
 seen : v.seen = v.bP.foldl V.eX v.sure
 now : d.now = d.waits.foldl R.cX d.sure
 names : ∀ i, i ≤ v.bP.length → eS v.nodes.length ((v.bP.take i).foldl V.eX v.sure) ((d.waits.take i).foldl R.cX d.sure) ∧ ((d.waits.take i).foldl R.cX d.sure).length ≤ 1024
 fresh : ∀ (j : Nat) (x : cn), v.nodes[j]? = some x → (x.fresh = true ↔ ∃ t ∈ d.waits, t.aO = j)
 agH : ∀ t ∈ d.waits, t.aO < v.nodes.length
 cont : ∀ (j : Nat) (x : cn) (f : dV), v.nodes[j]? = some x → d.files[j]? = some f → Cu v j → tA x f
 sizes : ∀ x ∈ v.nodes, kZ d.calls x
theorem dI.ns {v : bC} {d : ah} (h : dI v d) : eS v.nodes.length v.seen d.now ∧ d.now.length ≤ 1024 := by
 have := h.names v.bP.length (Nat.le_refl _)
 rw [List.take_length, h.lV.1, List.take_length, ← h.seen, ← h.now] at this
 exact this
theorem dI.jz {v : bC} {d : ah} (h : dI v d) (hc : d.calls < 1000000000000 - 1024) : v.Ok := by
 have hn := h.ns
 have := h.count
 have := h.nodes
 have := h.lV
 refine ⟨h.room.2, by rw [hn.1.len]; exact hn.2, fun x hx => ?_, fun x hx => (h.sizes x hx).seen, by omega, by omega, by omega, h.fl.2.1 |> fun a => ⟨a, h.fl.2.2.1⟩, h.cl.2.1 |> fun a => ⟨a, h.cl.2.2.1⟩⟩
 exact hn.1.good.cQ _ ((hn.1.mem x.1 x.2).1 hx)
theorem dI.U3 {v : bC} {d : ah} (h : dI v d) (hc : d.calls < 1000000000000 - 1024) : d.Ok := by
 have hn := h.ns
 have := h.count
 have := h.nodes
 have := h.lV
 have h0 := (h.names 0 (Nat.zero_le _)).2
 simp at h0
 exact ⟨hn.2, h0, this.2 |> fun _ => h.count.2, by omega, by omega, by omega, h.fl.2.2.2, h.cl.2.2.2⟩
theorem nZ {v : bC} {d : ah} (h : dI v d) (hc : d.calls < 1000000000000 - 1024) : dI (V.change v).1 (R.begin d).1 ∧ (V.change v).2 = (R.begin d).2 ∧ (V.change v).1.nodes = v.nodes ∧ (V.change v).1.seen = v.seen ∧ (V.change v).1.bP = v.bP ∧ (V.change v).1.sure = v.sure ∧
  (R.begin d).1.calls ≤ d.calls + 1 ∧ ((R.begin d).2 = 0 → (v.bP.length : Int) + 1 ≤ (R.begin d).1.calls ∧ (R.begin d).1.calls = d.calls + 1) := by
 obtain ⟨g1, g2, g3, g4, g5, g6, g7, g8, g9, g10, g11, g12, g13, g14, g15⟩ := h
 unfold V.change R.begin
 rw [g2]
 cases hd : d.down
 case true =>
  simp only [if_true]
  exact ⟨⟨g1, g2, g3, g4, g5, g6, g7, g8, g9, g10, g11, g12, g13, g14, g15⟩, by trivial, by trivial, by trivial, by trivial, by trivial, by omega, by simp⟩
 case false =>
  simp only [Bool.false_eq_true, if_false]
  have tr : ∀ l r : Int, kY l r d.calls → -1 ≤ r → -1 ≤ l → kY (if l < 0 then l else l - 1) (if 0 ≤ r then r - 1 else r) (d.calls + 1) := fun l r ht hr hl => by
   unfold kY at *
   rcases ht with rfl | ⟨h1, h2⟩
   ·by_cases e : l < 0
    ·rw [if_pos e, if_neg (by omega)]; exact .inl rfl
    ·rw [if_neg e, if_pos (by omega)]; exact .inl rfl
   ·rw [if_pos h1, if_pos (by omega)]; exact .inr ⟨h1, by omega⟩
  have hcl0 : v.cl = 0 ↔ d.br = 0 := by
   have := g6.1
   unfold kY at this
   omega
  have hfl0 : v.fl = 0 ↔ d.fail = 0 := by
   have := g4.1
   unfold kY at this
   omega
  have hb : ∀ l : Int, -1 ≤ l ∧ l < 9223372036854775808 → -1 ≤ (if l < 0 then l else l - 1) ∧ (if l < 0 then l else l - 1) < 9223372036854775808 := fun l hl => by split <;> omega
  have hb' : ∀ l : Int, -1 ≤ l ∧ l < 9223372036854775808 → -1 ≤ (if 0 ≤ l then l - 1 else l) ∧ (if 0 ≤ l then l - 1 else l) < 9223372036854775808 := fun l hl => by split <;> omega
  have base : ∀ o : Bool, dI { v with count := v.count + 1, cl := if v.cl < 0 then v.cl else v.cl - 1, fl := if v.fl < 0 then v.fl else v.fl - 1, off := o } { d with calls := d.calls + 1, br := if 0 ≤ d.br then d.br - 1 else d.br, fail := if 0 ≤ d.fail then d.fail - 1 else d.fail, down := o } := fun o => by
   refine ⟨g1, rfl, ⟨by simp only; omega, by simp only; omega⟩, ⟨tr _ _ g4.1 g4.2.2.2.1 g4.2.1, (hb _ ⟨g4.2.1, g4.2.2.1⟩).1, (hb _ ⟨g4.2.1, g4.2.2.1⟩).2, hb' _ g4.2.2.2⟩, ?_, ⟨tr _ _ g6.1 g6.2.2.2.1 g6.2.1, (hb _ ⟨g6.2.1, g6.2.2.1⟩).1, (hb _ ⟨g6.2.1, g6.2.2.1⟩).2, hb' _ g6.2.2.2⟩, ⟨g7.1, by simp only; omega⟩, ⟨g8.1, by simp only; omega⟩, g9, g10, g11, g12, g13, g14, fun x hx => ?_⟩
   ·intro hh
    refine g5 ?_
    simp only at hh
    split at hh <;> omega
   ·have := g15 x hx
    exact ⟨this.1, this.2, this.3, by have := this.4; simp only; omega⟩
  by_cases hcr : d.br = 0
  ·rw [if_pos hcr, if_pos (hcl0.2 hcr)]
   exact ⟨base true, rfl, rfl, rfl, rfl, rfl, by simp only; omega, by simp⟩
  ·rw [if_neg hcr, if_neg (fun h => hcr (hcl0.1 h))]
   have b0 := base false
   by_cases hf : d.fail = 0
   ·rw [if_pos hf, if_pos (hfl0.2 hf)]
    refine ⟨by simpa [hd, g2] using b0, g5 (by rw [hfl0.2 hf]; omega), rfl, rfl, rfl, rfl, by simp only; omega, fun _ => ⟨by simp only; omega, rfl⟩⟩
   ·rw [if_neg hf, if_neg (fun h => hf (hfl0.1 h))]
    exact ⟨by simpa [hd, g2] using b0, rfl, rfl, rfl, rfl, rfl, by simp only; omega, fun _ => ⟨by simp only; omega, rfl⟩⟩
theorem Cm {v : bC} {d : ah} {mv : mC} {t : cT} (h : dI v d) (hc : (v.bP.length : Int) + 1 ≤ d.calls) (hn : eS v.nodes.length (V.eX v.seen mv) (R.cX d.now t)) (hl : (R.cX d.now t).length ≤ 1024)
  (ht : t.aO < 0) (hk : ∀ n j, (n, j) ∈ V.eX v.seen mv → ∃ n', (n', j) ∈ v.seen) : dI (V.cM v mv) (R.cM d t) := by
 obtain ⟨g1, g2, g3, g4, g5, g6, g7, g8, g9, g10, g11, g12, g13, g14, g15⟩ := h
 refine ⟨g1, g2, g3, g4, g5, g6, g7, ⟨by simp [V.cM, R.cM, g8.1], by simp [V.cM, R.cM]; omega⟩, by simp [V.cM, ← g9], by simp [R.cM, ← g10], ?_, ?_, ?_, ?_, g15⟩
 ·intro i hi
  simp only [V.cM, R.cM] at hi ⊢
  simp only [List.length_append, List.length_singleton] at hi
  by_cases e : i ≤ v.bP.length
  ·rw [List.take_append_of_le_length e, List.take_append_of_le_length (by rw [← g8.1]; exact e)]
   exact g11 i e
  ·have : i = v.bP.length + 1 := by omega
   subst this
   rw [List.take_of_length_le (by simp), List.take_of_length_le (by simp [g8.1]), List.foldl_append, List.foldl_append, ← g9, ← g10]
   exact ⟨hn, hl⟩
 ·intro j x hx
  rw [g12 j x hx]
  simp only [R.cM, List.mem_append, List.mem_singleton]
  constructor
  ·rintro ⟨t', h1, h2⟩; exact ⟨t', .inl h1, h2⟩
  ·rintro ⟨t', h1 | h1, h2⟩
   ·exact ⟨t', h1, h2⟩
   ·subst h1; omega
 ·intro t' ht'
  simp only [R.cM, List.mem_append, List.mem_singleton] at ht'
  rcases ht' with h1 | h1
  ·exact g13 t' h1
  ·subst h1; simp only [V.cM]; omega
 ·intro j x f hx hf hkn
  refine g14 j x f hx hf ?_
  rcases hkn with ⟨n, hn⟩ | h1 | h1
  ·exact .inl (hk n _ hn)
  ·exact .inr (.inl h1)
  ·exact .inr (.inr h1)
theorem xT (m : List (ByteArray × Int)) (i : Int) (b : Bool) : V.eX m ⟨i, ⟨#[]⟩, b⟩ = m.filter fun x => !decide (x.2 = i) := by simp [V.eX]
theorem qG (l : List aR) (n : ByteArray) : R.cX l ⟨n, ⟨#[]⟩, -1⟩ = if R.find l n < 0 then l else R.bD l n := by simp [R.cX]
theorem aco {v : bC} {d : ah} (h : dI v d) : dI (V.fix v) { d with sure := d.now, waits := [] } := by
 have hns := h.ns
 obtain ⟨g1, g2, g3, g4, g5, g6, g7, g8, g9, g10, g11, g12, g13, g14, g15⟩ := h
 refine ⟨g1, g2, g3, g4, g5, g6, by simpa [V.fix] using g7, ⟨rfl, by simp [V.fix]; exact g3.2⟩, rfl, rfl, ?_, ?_, by simp, ?_, ?_⟩
 ·intro i hi
  simp only [V.fix, List.length_nil, Nat.le_zero] at hi
  subst hi
  simpa [V.fix] using hns
 ·intro j x hx
  simp only [V.fix, List.getElem?_map, Option.map_eq_some_iff] at hx
  obtain ⟨y, hy, rfl⟩ := hx
  simp [cn.calm]
 ·intro j x f hx hf hkn
  simp only [V.fix, List.getElem?_map, Option.map_eq_some_iff] at hx
  obtain ⟨y, hy, rfl⟩ := hx
  have : Cu v j := by
   rcases hkn with h1 | h1 | ⟨x, h1, h2⟩
   ·exact .inl h1
   ·exact .inl h1
   ·simp only [V.fix, List.getElem?_map, Option.map_eq_some_iff] at h1
    obtain ⟨z, hz, rfl⟩ := h1
    cases h2
  exact g14 j y f hy hf this
 ·intro x hx
  simp only [V.fix, List.mem_map] at hx
  obtain ⟨y, hy, rfl⟩ := hx
  have := g15 y hy
  exact ⟨this.1, this.2, this.3, this.4⟩
def DV (k : Nat) (s : St) (b : Nat) (d : ah) : Prop := ∃ v ps, dx k s b v ps ∧ dI v d
theorem DV.st {k : Nat} {s s' : St} {b : Nat} {d : ah} {S : List Nat} (h : DV k s b d) (hs : Step S s s') (hS : ∀ j, k + j ∉ S) : DV k s' b d := by
 obtain ⟨v, ps, h1, h2⟩ := h; exact ⟨v, ps, h1.st hs hS, h2⟩
theorem Cw {k : Nat} : ∀ x, x ∈ [k, k + 2, k + 3] → x ∈ dk k := by intro x hx; simp at hx; rw [fk]; omega
theorem ia {k : Nat} : ∀ x, x ∈ [k] → x ∈ dk k := by intro x hx; simp at hx; rw [fk]; omega
theorem sP {k : Nat} {s : St} {b : Nat} {d : ah} {n : ByteArray} {K : Int → HP} (h : DV k s b d) (hc : d.calls < 1000000000000 - 1024) (hko : Ko k s)
  (hK : ∀ s', Step (dk k) s s' → DV k s' b (R.unlink d n).1 → K (R.unlink d n).2 s'.H) : lP (some ⟨b, 0, none⟩) n K s.H := by
 obtain ⟨v, ps, hv, hs⟩ := h
 obtain ⟨b1, b2, b3, b4, b5, b6, b7, b8⟩ := nZ hs hc
 unfold lP
 refine Cp hv (hs.jz hc) fun s1 e1 h1 => ?_
 have hns := b1.ns
 have hfd : R.find (R.begin d).1.now n = R.find d.now n := by rw [R.oS]
 unfold R.unlink at hK
 simp only at hK
 by_cases hz : (V.change v).2 = 0
 ·rw [if_pos hz, if_pos hz]
  rw [b2] at hz
  rw [if_neg (by simpa using hz)] at hK
  have hf := hns.1.find n
  refine aN (fun h0 => ?_) (fun h0 => ?_)
  ·have hl := V.yK h0
   generalize (V.find v n).1 = i at *
   rw [← b4] at hl
   obtain ⟨f1, f2, f3, f4⟩ := hf.1 _ hl
   rw [if_neg (by omega)] at hK
   have hmv := b8 hz
   have hvl : v.bP.length ≤ 1000000000000 := by have := hs.lV; omega
   refine Du h1 (by rw [b5]; exact hvl) (hko.mono e1) fun s2 e2 h2 => ?_
   rw [h0]
   refine hK s2 ((e1.mono ia).trans (e2.mono Cw)) ⟨_, ps, h2, Cm b1 (by rw [b5]; exact hmv.1) ?_ ?_ (by show (-1 : Int) < 0; omega) ?_⟩
   ·rw [xT, qG, if_neg (by omega)]
    exact hns.1.drop f4
   ·rw [qG, if_neg (by omega)]
    exact Nat.le_trans (List.length_filter_le _ _) hns.2
   ·intro a j ha
    rw [xT, List.mem_filter] at ha
    exact ⟨a, ha.1⟩
  ·have hl : look v.seen n = none := by
    unfold V.find at h0
    cases e : look v.seen n with
    | none => rfl
    | some i => rw [e] at h0; exact absurd rfl h0
   rw [← b4] at hl
   have := hf.2 hl
   rw [if_pos (by omega)] at hK
   have h7 : (V.find v n).2 = 7 := by unfold V.find; rw [← b4, hl]
   rw [h7]
   exact hK s1 (e1.mono ia) ⟨_, ps, h1, b1⟩
 ·rw [if_neg hz, if_neg hz]
  rw [b2] at hz
  rw [if_pos hz] at hK
  refine aN (fun h0 => ?_) (fun h0 => ?_)
  ·rw [b2] at h0; exact absurd h0 hz
  ·rw [b2]
   exact hK s1 (e1.mono ia) ⟨_, ps, h1, b1⟩
theorem wG {k : Nat} {s : St} {b : Nat} {d : ah} {K : Int → HP} (h : DV k s b d) (hc : d.calls < 1000000000000 - 1024) (hko : Ko k s)
  (hK : ∀ s', Step (dk k) s s' → DV k s' b (R.cy d).1 → K (R.cy d).2 s'.H) : kG (some ⟨b, 0, none⟩) K s.H := by
 obtain ⟨v, ps, hv, hs⟩ := h
 obtain ⟨b1, b2, b3, b4, b5, b6, b7, b8⟩ := nZ hs hc
 unfold kG
 refine wL hv (hs.jz hc) fun s1 e1 h1 => ?_
 unfold R.cy at hK
 simp only at hK
 refine aN (fun hz => ?_) (fun hz => ?_)
 ·rw [hz]
  rw [b2] at hz
  rw [if_neg (by simpa using hz)] at hK
  have hnl := hs.nodes
  refine MP h1 (by rw [b3]; omega) (hko.mono e1) fun s2 e2 h2 => ?_
  exact hK s2 ((e1.mono ia).trans e2) ⟨_, ps, h2, aco b1⟩
 ·rw [b2] at hz ⊢
  rw [if_pos hz] at hK
  exact hK s1 (e1.mono ia) ⟨_, ps, h1, b1⟩
end Go.Ph
end
section
set_option linter.all false
namespace Go.Ph
open S
namespace R
def bad (e : Int) : Bool := decide (e ≠ 0) && decide (e ≠ 11)
def again (op : ah → ah × Int) (d : ah) : ah × Int := if bad (op d).2 then op (op d).1 else op d
def drop (d : ah) (n : ByteArray) : ah × Int :=
 if d.down = false ∧ find d.now n < 0 then (d, 0)
 else if (unlink d n).2 ≠ 0 then unlink d n else again cy (unlink d n).1
def dW (d : ah) : List ByteArray → ah × Int
 | [] => (d, 0)
 | n :: l => if (unlink d n).2 ≠ 0 then unlink d n else dW (unlink d n).1 l
def pre (s p : ByteArray) : Bool := decide (p.size ≤ s.size) && decide (s.extract 0 p.size = p)
def gU (s p : ByteArray) : Bool := decide (p.size ≤ s.size) && decide (s.extract (s.size - p.size) s.size = p)
def gl : ByteArray := ⟨#[46, 110]⟩
def gJ (l : List ByteArray) (p : ByteArray) : List ByteArray := l.filter fun s => pre s p && gU s gl
def tidy (d : ah) (p : ByteArray) : ah × Int := if d.down then (d, 0) else dW d (gJ (d.now.map (·.Name)) p)
end R
def gY (d : ah) : Prop := ∃ v, dI v d
theorem DV.inv {k : Nat} {s : St} {b : Nat} {d : ah} (h : DV k s b d) : gY d := by obtain ⟨v, ps, h1, h2⟩ := h; exact ⟨v, h2⟩
theorem gY.ok {d : ah} (h : gY d) (hc : d.calls < 1000000000000 - 1024) : d.Ok := by obtain ⟨v, h⟩ := h; exact h.U3 hc
theorem R.kW (d : ah) : (R.begin d).1.calls ≤ d.calls + 1 := by
 unfold R.begin; split
 ·simp only; omega
 ·dsimp only; split
  ·simp only; omega
  ·split <;> (simp only; omega)
theorem R.jx (d : ah) (n : ByteArray) : (R.unlink d n).1.calls ≤ d.calls + 1 := by
 unfold R.unlink; simp only
 split
 ·exact R.kW d
 ·split
  ·exact R.kW d
  ·exact R.kW d
theorem R.jI (d : ah) : (R.cy d).1.calls ≤ d.calls + 1 := by
 unfold R.cy; simp only
 split
 ·exact R.kW d
 ·exact R.kW d
theorem JD {d : ah} (n : ByteArray) (h : gY d) (hc : d.calls < 1000000000000 - 1024) : gY (R.unlink d n).1 := by
 obtain ⟨v, hs⟩ := h
 obtain ⟨b1, b2, b3, b4, b5, b6, b7, b8⟩ := nZ hs hc
 unfold R.unlink
 simp only
 split
 ·exact ⟨_, b1⟩
 ·rename_i hz
  split
  ·exact ⟨_, b1⟩
  ·rename_i hf
   have hz' : (R.begin d).2 = 0 := by simpa using hz
   have hns := b1.ns
   obtain ⟨i, hi⟩ : ∃ i, look (V.change v).1.seen n = some i := by
    cases e : look (V.change v).1.seen n with
    | some i => exact ⟨i, rfl⟩
    | none => have := (hns.1.find n).2 e; omega
   obtain ⟨f1, f2, f3, f4⟩ := (hns.1.find n).1 i hi
   refine ⟨_, Cm (mv := ⟨i, ⟨#[]⟩, false⟩) b1 (by rw [b5]; exact (b8 hz').1) ?_ ?_ (by show (-1 : Int) < 0; omega) ?_⟩
   ·rw [xT, qG, if_neg (by omega)]
    exact hns.1.drop f4
   ·rw [qG, if_neg (by omega)]
    exact Nat.le_trans (List.length_filter_le _ _) hns.2
   ·intro a j ha
    rw [xT, List.mem_filter] at ha
    exact ⟨a, ha.1⟩
theorem vv {p : ByteArray} {lo hi : Int} {K : ByteArray → HP} {H : aP} (h : 0 ≤ lo ∧ lo ≤ hi ∧ hi ≤ p.size) (hK : K (p.extract lo.toNat hi.toNat) H) : lz p lo hi K H := ⟨h, hK⟩
theorem yQ {s p : ByteArray} {K : Bool → HP} {H : aP} (hK : K (R.pre s p) H) : oD s p K H := by
 unfold oD ug
 unfold R.pre at hK
 refine aN (fun h => ?_) (fun h => ?_)
 ·refine vv (by omega) ?_
  rw [decide_eq_true (by omega)] at hK
  simpa using hK
 ·rw [decide_eq_false (by omega)] at hK
  exact hK
theorem W4 {s p : ByteArray} {K : Bool → HP} {H : aP} (hs : s.size ≤ 1000000000000) (hK : K (R.gU s p) H) : tY s p K H := by
 unfold tY vS
 unfold R.gU at hK
 refine aN (fun h => ?_) (fun h => ?_)
 ·rw [aY (by omega) (by omega)]
  refine vv (by omega) ?_
  rw [decide_eq_true (by omega)] at hK
  rw [show ((s.size : Int) - (p.size : Int)).toNat = s.size - p.size by omega]
  simpa using hK
 ·rw [decide_eq_false (by omega)] at hK
  exact hK
theorem R.HK {d : ah} {n : ByteArray} {l : List ByteArray} (h : (R.unlink d n).2 ≠ 0) : R.dW d (n :: l) = R.unlink d n := by simp only [R.dW]; rw [if_pos h]
theorem R.Ns {d : ah} {n : ByteArray} {l : List ByteArray} (h : (R.unlink d n).2 = 0) : R.dW d (n :: l) = R.dW (R.unlink d n).1 l := by simp only [R.dW]; rw [if_neg (by simpa using h)]
theorem R.G0 : ∀ (l : List ByteArray) (d : ah), (R.dW d l).1.calls ≤ d.calls + l.length
 | [], d => by simp [R.dW]
 | n :: l, d => by
  have h1 := R.jx d n
  have h2 := R.G0 l (R.unlink d n).1
  simp only [List.length_cons]
  by_cases h : (R.unlink d n).2 = 0
  ·rw [R.Ns h]; omega
  ·rw [R.HK h]; omega
theorem ES {C : Cx} {k : Nat} {s : St} {b : Nat} {d : ah} {K : Sl → HP} (h : DV k s b d) (hnm : ∀ e ∈ d.now, e.Name.size ≤ 9223372036854775807)
  (hK : ∀ s' r, Step [] s s' → Ls tS (s'.w 0) (if d.down then [] else d.now.map (·.Name)) r → K r s'.H) : lX C (some ⟨b, 0, none⟩) K s.H := by
 obtain ⟨v, ps, hv, hs⟩ := id h
 have hln : v.seen.length = d.now.length := by
  have := congrArg List.length hs.ns.1.names
  simpa [List.length_mergeSort] using this
 refine acT hv (fun n hn => ?_) (by have := hs.names v.bP.length (Nat.le_refl _); have h2 := this.2; rw [List.take_of_length_le (by rw [hs.lV.1]; exact Nat.le_refl _), ← hs.now] at h2; omega) fun s' r e l => hK s' r e ?_
 ·obtain ⟨⟨m, i⟩, hx, rfl⟩ := List.mem_map.1 hn
  exact hnm _ ((hs.ns.1.mem m i).1 hx)
 unfold V.names at l
 rw [hs.off, hs.ns.1.names] at l
 exact l
theorem Bn {k : Nat} {s : St} {b : Nat} {d : ah} {K : Bool → HP} (h : DV k s b d) (hK : K d.down s.H) : jH (some ⟨b, 0, none⟩) K s.H := by
 obtain ⟨v, ps, hv, hs⟩ := h
 exact QZ hv (by rw [hs.off]; exact hK)
def R.data (d : ah) (n : ByteArray) : ByteArray := match d.files[(R.find d.now n).toNat]? with | some f => f.now | none => ⟨#[]⟩
def R.text (d : ah) (n : ByteArray) : ByteArray × Int := if d.down then (⟨#[]⟩, 11) else if R.find d.now n < 0 then (⟨#[]⟩, 7) else (R.data d n, 0)
theorem YK {v : bC} {d : ah} (h : dI v d) (n : ByteArray) : V.text v n = R.text d n := by
 unfold V.text R.text
 rw [h.off]
 cases hd : d.down
 ·simp only [Bool.false_eq_true, if_false]
  have hf := h.ns.1.find n
  unfold V.find
  cases e : look v.seen n with
  | none => have := hf.2 e; simp only; rw [if_neg (by omega), if_pos (by omega)]
  | some i =>
   obtain ⟨f1, f2, f3, f4⟩ := hf.1 i e
   simp only
   rw [if_pos trivial, if_neg (by omega)]
   unfold V.data R.data
   rw [f1]
   have hlt : i.toNat < v.nodes.length := by omega
   have hlt2 : i.toNat < d.files.length := by rw [← h.nodes.1]; exact hlt
   have := h.cont i.toNat _ _ (List.getElem?_eq_getElem hlt) (List.getElem?_eq_getElem hlt2) (.inl ⟨n, by rw [Int.toNat_of_nonneg f2]; exact nU e⟩)
   rw [List.getElem?_eq_getElem hlt, List.getElem?_eq_getElem hlt2]
   simp only
   rw [this.1]
 ·rfl
theorem Ee {k : Nat} {s : St} {b : Nat} {d : ah} {n : ByteArray} {K : ByteArray → Int → HP} (h : DV k s b d) (hK : K (R.text d n).1 (R.text d n).2 s.H) : oB (some ⟨b, 0, none⟩) n K s.H := by
 obtain ⟨v, ps, hv, hs⟩ := h
 refine aci hv (fun x hx => ?_) (by rw [YK hs]; exact hK)
 exact hs.ns.1.good.cQ _ ((hs.ns.1.mem x.1 x.2).1 hx)
theorem aaC {k : Nat} {s : St} {b : Nat} {d : ah} {n : ByteArray} {K : Int → Int → HP} (h : DV k s b d) (hK : K (R.text d n).1.size (R.text d n).2 s.H) : rE (some ⟨b, 0, none⟩) n K s.H := by
 unfold rE
 exact Ee h hK
theorem Fw {k : Nat} {s : St} {b : Nat} {d : ah} {n : ByteArray} {K : Sl → Int → HP} (h : DV k s b d)
  (hK : ∀ s' r, Step [] s s' → Ls bf (s'.w 0) (R.text d n).1.data.toList r → K r (R.text d n).2 s'.H) : mZ (some ⟨b, 0, none⟩) n K s.H := by
 unfold mZ
 refine Ee h ?_
 refine Hx 1 (by omega) fun s' r e _ hb => hK s' r e hb.ls
def R.has (d : ah) (n : ByteArray) : Bool := !d.down && decide (0 ≤ R.find d.now n)
theorem w9 {k : Nat} {s : St} {b : Nat} {d : ah} {n : ByteArray} {K : Bool → HP} (h : DV k s b d) (hK : K (R.has d n) s.H) : mE (some ⟨b, 0, none⟩) n K s.H := by
 unfold mE
 refine aaC h ?_
 have : decide ((R.text d n).2 = 0) = R.has d n := by
  unfold R.text R.has
  cases hd : d.down
  ·by_cases hf : R.find d.now n < 0
   ·rw [decide_eq_false (show ¬0 ≤ R.find d.now n by omega)]; simp [hf]
   ·rw [decide_eq_true (show 0 ≤ R.find d.now n by omega)]; simp [hf]
  ·simp
 rw [this]; exact hK
theorem Sn {C : Cx} {k : Nat} {s : St} {b : Nat} {d : ah} {p : ByteArray} {K : Int → HP} (h : DV k s b d) (hc : d.calls + 1024 < 1000000000000 - 1024) (hnm : ∀ e ∈ d.now, e.Name.size ≤ 32) (hko : Ko k s)
  (hK : ∀ s', Step (dk k) s s' → DV k s' b (R.tidy d p).1 → K (R.tidy d p).2 s'.H) : sI C (some ⟨b, 0, none⟩) p K s.H := by
 have hok := h.inv.ok (by omega)
 have hnow := hok.now
 unfold sI
 refine ES h (fun e he => by have := hnm e he; omega) fun s1 r e1 l1 => ?_
 have h1 := h.st e1 (by simp)
 unfold R.tidy at hK
 generalize hl : (if d.down then [] else d.now.map (·.Name)) = l at *
 have hlen : l.length ≤ 1024 := by rw [← hl]; split <;> simp; omega
 have hsz : ∀ x ∈ l, x.size ≤ 32 := fun x hx => by
  rw [← hl] at hx
  split at hx
  ·cases hx
  ·obtain ⟨e, he, rfl⟩ := List.mem_map.1 hx; exact hnm e he
 have hrl := l1.len
 have hK' : ∀ s', Step (dk k) s s' → DV k s' b (R.dW d (R.gJ l p)).1 → K (R.dW d (R.gJ l p)).2 s'.H := by
  rw [← hl]
  intro s' g1 g2
  have := hK s' g1
  split at this
  ·rename_i hd; rw [if_pos hd] at g2 ⊢; exact this g2
  ·rename_i hd; rw [if_neg hd] at g2 ⊢; exact this g2
 refine cD (ι := Nat × ah) (fun x => [.int .i64 x.1]) (fun x s2 => x.1 ≤ l.length ∧ Step (dk k) s1 s2 ∧ DV k s2 b x.2 ∧ x.2.calls ≤ d.calls + x.1 ∧ R.dW d (R.gJ l p) = R.dW x.2 (R.gJ (l.drop x.1) p)) (fun x _ => l.length - x.1) (0, d) rfl
   ⟨Nat.zero_le _, Step.refl, h1, by simp, rfl⟩ ?_
 rintro ⟨i, di⟩ s2 ⟨hi2, e2, r2, c2, u2⟩ G2 hG2
 simp only [List.getD_cons_zero, List.getD_cons_succ, cI, cN, cK, cH, cJ, cO]
 simp only at hi2 r2 c2 u2
 refine aN (fun hlt2 => ?_) (fun hlt2 => ?_)
 ·refine bU (Ls.st l1 e2) (by omega) (by omega) fun b' o x hx he => ?_
  obtain ⟨_, rfl, ha⟩ := he
  rw [Int.toNat_natCast] at hx
  refine eW ha rfl ?_
  have hxs := hsz x (List.mem_of_getElem? hx)
  have hdr : l.drop i = x :: l.drop (i + 1) := by
   obtain ⟨g1, g2⟩ := List.getElem?_eq_some_iff.1 hx
   rw [List.drop_eq_getElem_cons g1, g2]
  have skip : (R.pre x p && R.gU x R.gl) = false → sw C (some ⟨b, 0, none⟩) p r (r.len : Nat) i K G2 s2.H := fun ht => by
   unfold sw
   rw [aY (by omega) (by omega)]
   refine hG2 (i + 1, di) s2 ⟨by simp only; omega, e2, r2, by simp only; omega, ?_⟩ (by simp only; omega)
   rw [u2, hdr, R.gJ, List.filter_cons, ht]
   rfl
  refine yQ ?_
  refine js (fun hp => ?_) (fun hp => ?_)
  ·refine W4 (by omega) ?_
   unfold yd
   refine js (fun hq => ?_) (fun hq => ?_)
   ·have ht : (R.pre x p && R.gU x R.gl) = true := by rw [hp]; exact hq
    refine sP r2 (by omega) ((hko.mono e1).mono e2) fun s3 e3 r3 => ?_
    have hcc := R.jx di x
    refine bK (fun hz => ?_) (fun hz => ?_)
    ·rw [u2, hdr, R.gJ, List.filter_cons, ht, if_pos rfl, R.HK hz] at hK'
     exact hK' s3 (e1.n.trans (e2.trans e3)) r3
    ·unfold sw
     rw [aY (by omega) (by omega)]
     refine hG2 (i + 1, (R.unlink di x).1) s3 ⟨by simp only; omega, e2.trans e3, r3, by show (R.unlink di x).1.calls ≤ d.calls + ((i + 1 : Nat) : Int); omega, ?_⟩ (by simp only; omega)
     rw [u2, hdr, R.gJ, List.filter_cons, ht, if_pos rfl, R.Ns hz]
     rfl
   ·refine skip ?_
    rw [hp]; exact hq
  ·unfold yd
   refine bt (skip ?_)
   rw [hp]; rfl
 ·have : i = l.length := by omega
  subst this
  rw [List.drop_length] at u2
  rw [u2] at hK'
  exact hK' s2 (e1.n.trans e2) r2
def tF : Ty FV := ⟨1, fun _ f vs => vs = [f.v], by rintro _ _ _ rfl; rfl, fun _ h => h, by rintro _ _ _ rfl; simp [one]⟩
theorem adG {s : St} {q b o : Nat} {vs : List Value} {K : FV → HP} {n : FV} (h : At (s.w q) b o vs) (hi : vs[0]? = some n.v) (hK : K n s.H) : AH ⟨b, o, none⟩ K s.H := ⟨n, by have := h.cell 0 hi; rwa [dK, Nat.add_zero] at this, hK⟩
structure Impl (C : Cx) (k b : Nat) (s0 : St) (f : FV) (op : ah → ah × Int) (c : Nat) : Prop where
 run : ∀ (s : St) (d : ah) (K : Value → HP), Step (dk k) s0 s → DV k s b d → d.calls + c < 1000000000000 - 1024 → (∀ s', Step (dk k) s s' → DV k s' b (op d).1 → K (.int .i64 (op d).2) s'.H) → C.ap f [] K s.H
 calls : ∀ d, (op d).1.calls ≤ d.calls + c
theorem Impl.st {C : Cx} {k b : Nat} {s0 s1 : St} {f : FV} {op : ah → ah × Int} {c : Nat} (h : Impl C k b s0 f op c) (hs : Step (dk k) s0 s1) : Impl C k b s1 f op c :=
 ⟨fun s d K e => h.run s d K (hs.trans e), h.calls⟩
theorem pn {C : Cx} {k b : Nat} {s : St} {d : ah} {f : FV} {op : ah → ah × Int} {c : Nat} {K : Int → HP} (hf : Impl C k b s f op c) (h : DV k s b d) (hc : d.calls + 2 * c < 1000000000000 - 1024)
  (hK : ∀ s', Step (dk k) s s' → DV k s' b (R.again op d).1 → K (R.again op d).2 s'.H) : ld C f K s.H := by
 unfold ld
 refine hf.run s d _ Step.refl h (by omega) fun s1 e1 h1 => ?_
 simp only [ak, decide_true]
 unfold R.again at hK
 unfold BF
 have hcc := hf.calls d
 refine bK (fun hz => ?_) (fun hz => ?_)
 ·refine bK (fun h11 => ?_) (fun h11 => ?_)
  ·have hb : R.bad (op d).2 = true := by simp [R.bad, hz, h11]
   rw [if_pos hb] at hK
   refine hf.run s1 _ _ e1 h1 (by omega) fun s2 e2 h2 => ?_
   simp only [ak, decide_true]
   exact hK s2 (e1.trans e2) h2
  ·have hb : ¬R.bad (op d).2 = true := by simp [R.bad, h11]
   rw [if_neg hb] at hK
   exact hK s1 e1 h1
 ·have hb : ¬R.bad (op d).2 = true := by simp [R.bad, hz]
  rw [if_neg hb] at hK
  refine bt ?_
  exact hK s1 e1 h1
theorem kj {op : ah → ah × Int} {c : Nat} (h : ∀ d, (op d).1.calls ≤ d.calls + c) (d : ah) : (R.again op d).1.calls ≤ d.calls + 2 * c := by
 unfold R.again
 have h1 := h d
 have h2 := h (op d).1
 split <;> omega
def R.steps : List (ah → ah × Int) → ah → ah × Int
 | [], d => (d, 0)
 | f :: l, d => if (f d).2 ≠ 0 then f d else R.steps l (f d).1
theorem xp {C : Cx} {k b : Nat} {s : St} {d : ah} {fs : List FV} {ops : List (ah → ah × Int)} {c : Nat} {sl : Sl} {K : Int → HP} (hl : Ls tF (s.w 0) fs sl) (hn : fs.length = ops.length) (hn8 : fs.length ≤ 8) (hf : ∀ (i : Nat) (f : FV) (op : ah → ah × Int), fs[i]? = some f → ops[i]? = some op → Impl C k b s f op c) (h : DV k s b d)
  (hc : d.calls + 8 * c < 1000000000000 - 1024) (hK : ∀ s', Step (dk k) s s' → DV k s' b (R.steps ops d).1 → K (R.steps ops d).2 s'.H) : lR C sl K s.H := by
 unfold lR
 have hsl := hl.len
 refine cD (ι := Nat × ah) (fun x => [.int .i64 x.1]) (fun x s2 => x.1 ≤ fs.length ∧ Step (dk k) s s2 ∧ DV k s2 b x.2 ∧ x.2.calls ≤ d.calls + x.1 * c ∧ R.steps ops d = R.steps (ops.drop x.1) x.2) (fun x _ => fs.length - x.1) (0, d) rfl
   ⟨Nat.zero_le _, Step.refl, h, by simp, rfl⟩ ?_
 rintro ⟨i, di⟩ s2 ⟨hi2, e2, r2, c2, u2⟩ G2 hG2
 simp only [List.getD_cons_zero, List.getD_cons_succ, cI, cN, cK, cH, cJ, cO]
 simp only at hi2 r2 c2 u2
 have hic : i * c ≤ 8 * c := Nat.mul_le_mul_right _ (by omega)
 refine aN (fun hlt => ?_) (fun hlt => ?_)
 ·refine bU (Ls.st hl e2) (by omega) (by omega) fun b' o x hx he => ?_
  obtain ⟨_, rfl, ha⟩ := he
  rw [Int.toNat_natCast] at hx
  refine adG ha rfl ?_
  have hio : i < ops.length := by omega
  have hdr : ops.drop i = ops[i] :: ops.drop (i + 1) := List.drop_eq_getElem_cons hio
  have hI := hf i x ops[i] hx (List.getElem?_eq_getElem hio)
  have hic2 : (i + 1) * c ≤ 8 * c := Nat.mul_le_mul_right _ (by omega)
  rw [Nat.add_mul, Nat.one_mul] at hic2
  have hcc := hI.calls di
  refine hI.run s2 di _ e2 r2 (by omega) fun s3 e3 r3 => ?_
  simp only [ak, decide_true]
  refine bK (fun hz => ?_) (fun hz => ?_)
  ·rw [u2, hdr, R.steps, if_pos hz] at hK
   exact hK s3 (e2.trans e3) r3
  ·rw [aY (by omega) (by omega)]
   refine hG2 (i + 1, (ops[i] di).1) s3 ⟨by simp only; omega, e2.trans e3, r3, ?_, ?_⟩ (by simp only; omega)
   ·show (ops[i] di).1.calls ≤ d.calls + (((i + 1) * c : Nat) : Int)
    rw [Nat.add_mul, Nat.one_mul]; push_cast; push_cast at c2; omega
   ·rw [u2, hdr, R.steps, if_neg (by simpa using hz)]
 ·have : i = ops.length := by omega
  subst this
  rw [List.drop_length] at u2
  rw [u2] at hK
  exact hK s2 e2 r2
theorem C2 {V : View} {f g : FV} {b : Nat} (h : At V b 0 [f.v, g.v]) : Ls tF V [f, g] ⟨some (af b), 2, 2⟩ :=
 ⟨rfl, Nat.le_refl _, fun h => (by cases h), fun a e => by
  simp at e; subst e
  refine ⟨fun _ => rfl, fun j y hj => ?_⟩
  match j, hj with
  | 0, hj => simp at hj; subst hj; exact ⟨_, rfl, fun i v hi => by
    have e : i = 0 := by cases i with
     | zero => rfl
     | succ i => simp at hi
    subst e; simp at hi; subst hi; exact h 0 _ rfl⟩
  | 1, hj => simp at hj; subst hj; exact ⟨_, rfl, fun i v hi => by
    have e : i = 0 := by cases i with
     | zero => rfl
     | succ i => simp at hi
    subst e; simp at hi; subst hi; exact h 1 _ rfl⟩
  | j + 2, hj => simp at hj⟩
theorem Io {C : Cx} {k : Nat} {s : St} {b : Nat} {d : ah} {n : ByteArray} {K : Int → HP} (h : DV k s b d) (hc : d.calls + 16 < 1000000000000 - 1024) (hko : Ko k s)
  (hK : ∀ s', Step (dk k) s s' → DV k s' b (R.drop d n).1 → K (R.drop d n).2 s'.H) : nP C (some ⟨b, 0, none⟩) n K s.H := by
 unfold nP
 refine bZ fun s1 b1 n1 a1 => ?_
 refine bZ fun s2 b2 n2 a2 => ?_
 have e02 := n1.step.trans n2.step
 have a12 := a1.mono n2.step.v0
 have h2 := h.st e02 (by simp)
 refine dR a12 rfl ?_
 refine Bn h2 ?_
 have ho2 := hko.mono e02
 have j1 : ¬(d.down = false ∧ R.find d.now n < 0) → sY C b1 b2 false K s2.H := fun hn => by
  unfold sY
  refine bt ?_
  intro f1 hf1
  intro f2 hf2
  refine bZ fun s3 b3 n3 a3 => ?_
  have e3 := n3.step
  refine xp (c := 2) (ops := [fun d => R.unlink d n, R.again R.cy]) (C2 a3) rfl (by simp) ?_ (h2.st e3 (by simp)) (by omega) ?_
  ·intro i f op hi ho
   match i, hi, ho with
   | 0, hi, ho =>
    simp at hi ho; subst hi; subst ho
    refine ⟨fun s4 d4 K4 e4 h4 c4 hK4 => ?_, fun d => by have := R.jx d n; omega⟩
    refine hf1 _ _ _ ?_
    show vm (af b1) (af b2) (fun r => K4 (.int .i64 r)) s4.H
    unfold vm
    refine dR ((a12.mono e3.v0).mono e4.v0) rfl ?_
    refine eW ((a2.mono e3.v0).mono e4.v0) rfl ?_
    exact sP h4 (by omega) ((ho2.mono e3).mono e4) hK4
   | 1, hi, ho =>
    simp at hi ho; subst hi; subst ho
    refine ⟨fun s4 d4 K4 e4 h4 c4 hK4 => ?_, fun d => kj (c := 1) (fun d => R.jI d) d⟩
    refine hf2 _ _ _ ?_
    show u7 C (af b1) (fun r => K4 (.int .i64 r)) s4.H
    unfold u7
    refine dR ((a12.mono e3.v0).mono e4.v0) rfl ?_
    intro f3 hf3
    refine pn (c := 1) ⟨fun s5 d5 K5 e5 h5 c5 hK5 => ?_, fun d => R.jI d⟩ h4 (by omega) hK4
    refine hf3 _ _ _ ?_
    show kG (some (af b)) (fun r => K5 (.int .i64 r)) s5.H
    exact wG h5 (by omega) (((ho2.mono e3).mono e4).mono e5) hK5
   | i + 2, hi, ho => simp at hi
  ·have e03 := e02.trans e3
   have hst : R.steps [fun d => R.unlink d n, R.again R.cy] d = R.drop d n := by
    unfold R.drop
    rw [if_neg hn]
    simp only [R.steps]
    by_cases hz : (R.unlink d n).2 = 0
    ·by_cases hy : (R.again R.cy (R.unlink d n).1).2 = 0
     ·simp only [hz, hy, ne_eq, not_true_eq_false, if_false]
      exact Prod.ext rfl hy.symm
     ·simp only [hz, hy, ne_eq, not_true_eq_false, if_false, not_false_eq_true, if_true]
    ·simp only [hz, ne_eq, not_false_eq_true, if_true]
   rw [hst]
   intro s4 e4 h4
   exact hK s4 (e03.n.trans e4) h4
 cases hdn : d.down
 ·simp only [Bool.not_false]
  refine bH ?_
  refine dR a12 rfl ?_
  refine eW a2 rfl ?_
  refine w9 h2 ?_
  by_cases hf : R.find d.now n < 0
  ·have : R.has d n = false := by rw [R.has, decide_eq_false (by omega), Bool.and_false]
   rw [this]
   unfold sY
   refine bH ?_
   unfold R.drop at hK
   rw [if_pos ⟨hdn, hf⟩] at hK
   exact hK s2 e02.n h2
  ·have : R.has d n = true := by rw [R.has, decide_eq_true (by omega), hdn]; rfl
   rw [this]
   exact j1 fun hx => hf hx.2
 ·simp only [Bool.not_true]
  refine bt ?_
  exact j1 fun hx => by rw [hdn] at hx; cases hx.1
end Go.Ph
end
section
set_option linter.all false
namespace Go.Ph
open S
theorem Jq {s : St} {o : Obj} {K : Nat → HP} (k : Nat) (hk : k < 2305843009213693952 + 1152921504606846976 * s.H.size) (ho : Obj.cl o = false) (h : ∀ (s' : St) (b : Nat), wQ s s' b k o → K b s'.H) : yf o K s.H :=
 Ar k hk ho h
structure uq where
 name : ByteArray
 data : ByteArray
inductive j5 (V : View) (l : List UInt8) (sl : Sl) : Prop where
 | ls (h : Ls bf V l sl)
 | no (h : l = []) (h0 : sl.len = 0)
theorem j5.len {V : View} {l : List UInt8} {sl : Sl} (h : j5 V l sl) : sl.len = l.length := by
 cases h with
 | ls h => exact h.len
 | no h h0 => subst h; exact h0
theorem j5.mono {V V' : View} {l : List UInt8} {sl : Sl} (h : j5 V l sl) (hV : eE V V') : j5 V' l sl := by
 cases h with
 | ls h => exact .ls (bz.mono h hV hV)
 | no h h0 => exact .no h h0
theorem j5.st {s s' : St} {l : List UInt8} {sl : Sl} {S : List Nat} (h : j5 (s.w 0) l sl) (hs : Step S s s') : j5 (s'.w 0) l sl := h.mono hs.v0
theorem Mz {s : St} {l : List UInt8} {sl : Sl} {K : ByteArray → HP} (h : j5 (s.w 0) l sl) (hK : K ⟨l.toArray⟩ s.H) : ef sl K s.H := by
 cases h with
 | ls h => exact k8 h hK
 | no h h0 =>
  subst h
  refine ⟨⟨#[]⟩, ?_, hK⟩
  obtain ⟨a, n, c⟩ := sl
  simp only at h0
  subst h0
  cases a with
  | none => rfl
  | some a => exact ⟨rfl, fun j v hj => by simp [dO] at hj⟩
def acz : Ty uq := ⟨2, fun V x vs => ∃ sl : Sl, vs = [.string x.name, .slice sl.a sl.len sl.cap] ∧ j5 V x.data.data.toList sl, by rintro _ _ _ ⟨_, rfl, _⟩; rfl, by rintro _ _ _ _ h ⟨sl, rfl, h1⟩; exact ⟨sl, rfl, h1.mono h⟩, by rintro _ _ _ ⟨_, rfl, _⟩; simp [one]⟩
theorem dQ {s : St} {cs : Array Value} {vs : List Value} {K : Nat → HP} (hl : cs.size = vs.length) (hv : ∀ v ∈ vs, one v = true)
  (h : ∀ s' b, Step [] s s' → At (s'.w 0) b 0 vs → K b s'.H) : az cs (fun b => aq (af b) 0 vs (K b)) s.H := by
 have hq0 : own s ≠ 0 := by unfold own; omega
 refine dm (own s) (by unfold own; omega) fun s1 b n1 a1 => ?_
 refine kJ (k := own s) (k' := 0) vs (fun j hj => ?_) hv (by omega) hq0 fun s2 h2 => ?_
 ·have hj' : j < cs.toList.length := by simp; omega
  exact ⟨_, by have := a1 j _ (List.getElem?_eq_getElem hj'); simpa using this⟩
 ·have e2 : Step [own s] s1 s2 := h2.step (q := own s) (by simp) hq0 fun i hi => by
   have hj' : i < cs.toList.length := by simp; omega
   have := a1 i _ (List.getElem?_eq_getElem hj')
   have := (bY this).2
   simpa using this
  refine h s2 b ((n1.step.n.trans e2).loc) ?_
  have := h2.here
  simpa using this
namespace R
def mX (cap : Int) : List uq → ah → Int → Option ah
 | [], d, _ => some d
 | f :: l, d, used => if (!eF f.name || decide (0 ≤ find d.now f.name) || decide (cap - used < f.data.size)) = true then none
  else mX cap l { d with files := d.files ++ [⟨f.data, f.data, []⟩], now := put d.now ⟨f.name, d.files.length⟩ } (used + f.data.size)
def new (files : List uq) (cap : Int) : Option ah :=
 if cap < 1 ∨ 4194304 < cap ∨ 1024 < files.length then none
 else (mX cap files ⟨[], [], [], [], cap, false, 0, -1, -1, 0⟩ 0).map fun d => { d with sure := d.now }
end R
structure Mk (v : bC) (d : ah) (cap used : Int) (i : Nat) : Prop where
 v0 : v.room = cap ∧ v.sure = [] ∧ v.bP = [] ∧ v.off = false ∧ v.count = 0 ∧ v.fl = -1 ∧ v.fc = 0 ∧ v.cl = -1 ∧ v.cc = 0
 d0 : d.cap = cap ∧ d.sure = [] ∧ d.waits = [] ∧ d.down = false ∧ d.calls = 0 ∧ d.fail = -1 ∧ d.br = -1 ∧ d.err = 0
 len : v.nodes.length = i ∧ d.files.length = i
 names : eS i v.seen d.now
 sum : (v.seen.map fun x => V.size v x.2).sum = used
 used : 0 ≤ used ∧ used ≤ cap ∧ cap ≤ 4194304
 same : ∀ (j : Nat) (x : cn) (f : dV), v.nodes[j]? = some x → d.files[j]? = some f → tA x f
 ok : ∀ x ∈ v.nodes, kZ 0 x ∧ x.fresh = false
 nl : d.now.length ≤ i
theorem Mk.add {v : bC} {d : ah} {cap used : Int} {i : Nat} (h : Mk v d cap used i) (x : uq) (hf : R.find d.now x.name < 0) (hr : (x.data.size : Int) ≤ cap - used) :
  Mk { v with nodes := v.nodes ++ [⟨x.data, x.data, [], false⟩], seen := gi v.seen x.name i } { d with files := d.files ++ [⟨x.data, x.data, []⟩], now := R.put d.now ⟨x.name, (d.files.length : Int)⟩ } cap (used + x.data.size) (i + 1) := by
 obtain ⟨g1, g2, g3, g4, g5, g6, g7, g8, g9⟩ := h
 have hl : look v.seen x.name = none := by
  cases e : look v.seen x.name with
  | none => rfl
  | some j => have := (g4.find x.name).1 j e; omega
 have hms : gi v.seen x.name i = v.seen ++ [(x.name, (i : Int))] := by simp [gi, hl]
 refine ⟨g1, g2, ⟨by simp [g3.1], by simp [g3.2]⟩, ?_, ?_, by omega, ?_, ?_, ?_⟩
 ·rw [g3.2]
  refine (g4.more (Nat.le_succ i)).set ⟨by omega, by omega⟩ fun e he => ?_
  have := g4.good.cQ e he
  omega
 ·simp only
  rw [hms, List.map_append, List.sum_append]
  have e1 : (v.seen.map fun y => V.size { v with nodes := v.nodes ++ [⟨x.data, x.data, [], false⟩], seen := v.seen ++ [(x.name, (i : Int))] } y.2) = v.seen.map fun y => V.size v y.2 := by
   apply List.map_congr_left
   intro y hy
   have := g4.good.cQ _ ((g4.mem y.1 y.2).1 hy)
   simp only at this
   unfold V.size
   simp only
   rw [List.getElem?_append_left (by omega)]
  rw [e1, g5]
  have : V.size { v with nodes := v.nodes ++ [⟨x.data, x.data, [], false⟩], seen := v.seen ++ [(x.name, (i : Int))] } (i : Int) = x.data.size := by
   unfold V.size
   simp only [Int.toNat_natCast]
   rw [List.getElem?_append_right (by omega)]
   simp [g3.1]
  simp [this]
 ·intro j y f hy hfl
  simp only at hy hfl
  by_cases e : j < i
  ·rw [List.getElem?_append_left (by omega)] at hy hfl
   exact g7 j y f hy hfl
  ·rw [List.getElem?_append_right (by omega)] at hy hfl
   have hj : j = i := by
    have := (List.getElem?_eq_some_iff.1 hy).1
    simp at this; omega
   subst hj
   simp [g3.1] at hy
   simp [g3.2] at hfl
   subst hy hfl
   exact ⟨rfl, rfl, rfl⟩
 ·intro y hy
  simp only [List.mem_append, List.mem_singleton] at hy
  rcases hy with hy | rfl
  ·exact g8 y hy
  ·exact ⟨⟨by simp only; omega, by simp only; omega, by simp, by simp⟩, rfl⟩
 ·have := HL d.now ⟨x.name, (d.files.length : Int)⟩
  simp only; omega
theorem Mk.free {v : bC} {d : ah} {cap used : Int} {i : Nat} (h : Mk v d cap used i) : V.free v = cap - used := by
 unfold V.free; rw [h.sum, h.v0.1]
theorem Mk.sim {v : bC} {d : ah} {cap used : Int} {i : Nat} (h : Mk v d cap used i) (hi : i ≤ 1024) : dI { v with sure := v.seen } { d with sure := d.now } := by
 obtain ⟨⟨a1, a2, a3, a4, a5, a6, a7, a8, a9⟩, ⟨b1, b2, b3, b4, b5, b6, b7, b8⟩, g3, g4, g5, g6, g7, g8, g9⟩ := h
 refine ⟨⟨by simp only; omega, by simp only; omega, by simp only; omega⟩, by simp only [a4, b4], ⟨by simp only; omega, by simp only; omega⟩, ⟨.inl (by simp only; omega), by simp only; omega, by simp only; omega, by simp only; omega, by simp only; omega⟩, by simp only; omega,
  ⟨.inl (by simp only; omega), by simp only; omega, by simp only; omega, by simp only; omega, by simp only; omega⟩, ⟨by simp only; omega, by simp only; omega⟩, ⟨by simp only [a3, b3]; rfl, by simp only [a3]; simp; omega⟩, by simp only [a3]; rfl, by simp only [b3]; rfl, ?_, ?_, by simp only [b3]; simp, fun j x f hx hf _ => g7 j x f hx hf, fun x hx => by simp only [b5]; exact (g8 x hx).1⟩
 ·intro j hj
  simp only [a3, List.length_nil, Nat.le_zero] at hj
  subst hj
  simp only [List.take_zero, List.foldl_nil]
  exact ⟨by rw [g3.1]; exact g4, by omega⟩
 ·intro j x hx
  simp only [b3, (g8 x (List.mem_of_getElem? hx)).2]
  simp
theorem Kt {k : Nat} {s : St} {files : List uq} {sl : Sl} {cap : Int} {K : Option Addr → HP} (h : Ls acz (s.w 0) files sl) (hk0 : k ≠ 0) (hko : Ko k s) (hfn : ∀ f ∈ files, f.name.size ≤ 9223372036854775807)
  (h0 : R.new files cap = none → ∀ s', Step (dk k) s s' → K none s'.H)
  (h1 : ∀ d, R.new files cap = some d → ∀ s' b, Step (dk k) s s' → DV k s' b d → K (some ⟨b, 0, none⟩) s'.H) : mL sl cap K s.H := by
 unfold mL
 have hlen := h.len
 unfold R.new at h0 h1
 have j1t : (cap < 1 ∨ 4194304 < cap ∨ 1024 < files.length) → pX sl cap true K s.H := fun hc => by
  unfold pX
  refine bH ?_
  rw [if_pos hc] at h0
  exact h0 rfl s Step.refl
 refine aN (fun c1 => ?_) (fun c1 => ?_)
 ·exact j1t (.inl c1)
 ·refine aN (fun c2 => ?_) (fun c2 => ?_)
  ·exact j1t (.inr (.inl c2))
  ·by_cases c3 : (1024 : Int) < (sl.len : Nat)
   ·rw [decide_eq_true c3]; exact j1t (.inr (.inr (by omega)))
   ·rw [decide_eq_false c3]
    have hn : ¬(cap < 1 ∨ 4194304 < cap ∨ 1024 < files.length) := by omega
    rw [if_neg hn] at h0 h1
    unfold pX
    refine bt ?_
    refine Jq (k + 3) (by unfold Ko own at hko; omega) rfl fun s0 ms n0 => ?_
    have e0 := n0.step
    have hko0 := hko.mono e0
    have hm0 : ee (k + 3) s0 ms [] 0 [] := ⟨n0.here, ⟨rfl, by simp⟩, by simp, by simp⟩
    refine dm (s := s0) k (by unfold Ko own at hko0; omega) fun s1 b n1 a1 => ?_
    have e1 := n1.step
    have hnk : ∀ j, j < 1125899906842624 → k + j ≠ own s := fun j hj => by unfold Ko at hko; omega
    refine cD (ι := Nat × bC × ah × Int × List (Option Addr)) (fun x => [.int .i64 x.1])
     (fun x s' => x.1 ≤ files.length ∧ Step (dk k) s s' ∧ oL k s' b x.2.1 x.2.2.2.2 ∧ Mk x.2.1 x.2.2.1 cap x.2.2.2.1 x.1 ∧
      R.mX cap files ⟨[], [], [], [], cap, false, 0, -1, -1, 0⟩ 0 = R.mX cap (files.drop x.1) x.2.2.1 x.2.2.2.1 ∧
      ∃ (n m : Sl), At (s'.w k) b 0 [.int .i64 x.2.1.room, .slice n.a n.len n.cap, .map (some ms), .map none, .slice m.a m.len m.cap, .bool x.2.1.off, .int .i64 x.2.1.count, .int .i64 x.2.1.fl, .int .i64 x.2.1.fc, .int .i64 x.2.1.cl, .int .i64 x.2.1.cc] ∧
       bF tP (k + 1) s' x.2.2.2.2 n ∧ bF uv (k + 2) s' x.2.1.bP m ∧ (∃ es cl, ee (k + 3) s' ms es cl x.2.1.seen) ∧ gF k s' x.2.1.nodes x.2.2.2.2) (fun x _ => files.length - x.1)
     (0, ⟨cap, [], [], [], [], false, 0, -1, 0, -1, 0⟩, ⟨[], [], [], [], cap, false, 0, -1, -1, 0⟩, 0, []) rfl
     ⟨Nat.zero_le _, e0.n.trans e1.n, ⟨hk0, ⟨⟨none, 0, 0⟩, ⟨none, 0, 0⟩, ms, none, a1, bF.nil, bF.nil, ⟨[], 0, hm0.st e1 (by simp)⟩⟩, ⟨rfl, fun j x hx => by simp at hx⟩⟩,
      ⟨by simp, by simp, ⟨rfl, rfl⟩, ⟨⟨by simp, by simp, by simp⟩, by simp, by simp⟩, rfl, ⟨Int.le_refl _, by show (0 : Int) ≤ cap; omega, by omega⟩, by simp, by simp, by simp⟩, by simp only [List.drop_zero],
      ⟨none, 0, 0⟩, ⟨none, 0, 0⟩, a1, bF.nil, bF.nil, ⟨[], 0, hm0.st e1 (by simp)⟩, ⟨rfl, fun j x hx => by simp at hx⟩⟩ ?_
    rintro ⟨i, v, d, used, ps⟩ s2 ⟨hi, e2, v2, mk, g2, n, m, a2, b2, c2, ⟨es, cl, m2⟩, nd2⟩ G hG
    simp only [List.getD_cons_zero, List.getD_cons_succ, cI, cN, cK, cH, cJ, cO]
    simp only at hi v2 mk g2 a2 b2 c2 m2 nd2
    have hko2 := hko.mono e2
    refine aN (fun hlt => ?_) (fun hlt => ?_)
    ·refine bU (Ls.st h e2) (by omega) (by omega) fun b' o x hx he => ?_
     obtain ⟨_, ⟨xs, rfl, hxs⟩, ha⟩ := he
     rw [Int.toNat_natCast] at hx
     have hdr : files.drop i = x :: files.drop (i + 1) := by
      obtain ⟨q1, q2⟩ := List.getElem?_eq_some_iff.1 hx
      rw [List.drop_eq_getElem_cons q1, q2]
     rw [hdr] at g2
     unfold C9
     repeat (first|refine aj ?_|refine av ha rfl ?_|refine aK ha rfl ?_|refine aH ha rfl ?_|refine aI ha rfl ?_|refine aJ ha rfl ?_|refine aC ha rfl ?_)
     refine dQ rfl (by simp [one]) fun s3 t7 e3 a7 => ?_
     have a23 := a2.mono (e3.view (k := k) (by simp))
     have m23 := m2.st e3 (by simp)
     have e23 : Step (dk k) s s3 := e2.trans e3.n
     have bad : (!eF x.name || decide (0 ≤ R.find d.now x.name) || decide (cap - used < x.data.size)) = true → ∀ s4, Step [] s3 s4 → qc b t7 sl (sl.len : Nat) i true K G s4.H := fun hb s4 e4 => by
      unfold qc
      refine bH ?_
      simp only [R.mX] at g2
      rw [if_pos hb] at g2
      rw [g2] at h0
      exact h0 rfl s4 (e23.trans e4.n)
     repeat (first|refine aj ?_|refine av a23 rfl ?_|refine aK a23 rfl ?_|refine aH a23 rfl ?_|refine aI a23 rfl ?_|refine aJ a23 rfl ?_|refine aC a23 rfl ?_)
     repeat (first|refine aj ?_|refine av a7 rfl ?_|refine aK a7 rfl ?_|refine aH a7 rfl ?_|refine aI a7 rfl ?_|refine aJ a7 rfl ?_|refine aC a7 rfl ?_)
     have hfd := mk.names.find x.name
     refine BO m23 (fun hl => ?_) (fun j hl => ?_)
     ·have hneg := hfd.2 hl
      unfold uU
      refine bt ?_
      repeat (first|refine aj ?_|refine av a7 rfl ?_|refine aK a7 rfl ?_|refine aH a7 rfl ?_|refine aI a7 rfl ?_|refine aJ a7 rfl ?_|refine aC a7 rfl ?_)
      refine CX (hfn x (List.mem_of_getElem? hx)) ?_
      cases hnm : eF x.name
      ·refine bH (fD trivial (bad (by rw [hnm]; rfl) s3 Step.refl))
      ·refine bt ?_
       refine aC a7 rfl ?_
       have v23 := v2.st e3 (by simp)
       have hrng : ∀ y ∈ v.seen, 0 ≤ y.2 ∧ y.2 < (v.nodes.length : Int) := fun y hy => by
        have := mk.names.good.cQ _ ((mk.names.mem y.1 y.2).1 hy)
        simp only at this
        rw [mk.len.1]; exact this
       have hlen1 := mk.len.1
       have hlen2 := mk.len.2
       refine Is v23 (by have := mk.used; have := mk.v0.1; omega) (by rw [mk.names.len]; have := mk.nl; omega) hrng (fun y hy => ((mk.ok y hy).1).seen) (by omega) (hko.mono e23) fun s4 e4 => ?_
       have e24 := e3.trans e4
       have a24 := a23.mono (e4.view (k := k) (by simp))
       have a74 := a7.mono e4.v0
       refine fD (aC a74 rfl rfl) ?_
       have hxl := hxs.len
       have hxl' : xs.len = x.data.size := by rw [hxl, dw]
       rw [mk.free]
       by_cases hrm : cap - used < (xs.len : Nat)
       ·rw [decide_eq_true hrm]
        refine bad ?_ s4 e4
        rw [hxl'] at hrm
        rw [decide_eq_true hrm]; simp
       ·rw [decide_eq_false hrm]
        unfold qc
        refine bt ?_
        repeat (first|refine aj ?_|refine av a24 rfl ?_|refine aK a24 rfl ?_|refine aH a24 rfl ?_|refine aI a24 rfl ?_|refine aJ a24 rfl ?_|refine aC a24 rfl ?_)
        repeat (first|refine aj ?_|refine av a74 rfl ?_|refine aK a74 rfl ?_|refine aH a74 rfl ?_|refine aI a74 rfl ?_|refine aJ a74 rfl ?_|refine aC a74 rfl ?_)
        repeat (first|refine aj ?_|refine av a24 rfl ?_|refine aK a24 rfl ?_|refine aH a24 rfl ?_|refine aI a24 rfl ?_|refine aJ a24 rfl ?_|refine aC a24 rfl ?_)
        refine Lk (m2.st e24 (by simp)) (by omega) fun s5 es5 cl5 e5 z5 o5 m5 => ?_
        have a25 := a24.mono (e5.view (k := k) (by simp))
        repeat (first|refine aj ?_|refine av a25 rfl ?_|refine aK a25 rfl ?_|refine aH a25 rfl ?_|refine aI a25 rfl ?_|refine aJ a25 rfl ?_|refine aC a25 rfl ?_)
        have a75 := a74.mono e5.v0
        have hx5 := (hxs.st e24).st e5
        repeat (first|refine aj ?_|refine av a75 rfl ?_|refine aK a75 rfl ?_|refine aH a75 rfl ?_|refine aI a75 rfl ?_|refine aJ a75 rfl ?_|refine aC a75 rfl ?_)
        refine Mz hx5 ?_
        repeat (first|refine aj ?_|refine av a75 rfl ?_|refine aK a75 rfl ?_|refine aH a75 rfl ?_|refine aI a75 rfl ?_|refine aJ a75 rfl ?_|refine aC a75 rfl ?_)
        refine Mz hx5 ?_
        have hxd : (⟨x.data.data.toList.toArray⟩ : ByteArray) = x.data := by apply mM; simp
        rw [hxd]
        have hko5 := (hko2.mono e24).mono e5
        refine dm (s := s5) (k + 10 + 2 * i) (by unfold Ko own at hko5; omega) fun s6 p6 n6 a6 => ?_
        have e6 := n6.step
        have a26 := a25.mono (e6.view (k := k) (by simp))
        refine fD (aC a26 rfl rfl) ?_
        refine bZ fun s7 b7 n7 a77 => ?_
        have e7 := n7.step
        have a27 := a26.mono (e7.view (k := k) (by simp))
        refine fD (aC a27 rfl rfl) ?_
        have hko7 := (hko5.mono e6).mono e7
        have b27 := (((b2.st e24 (by simp)).st e5 (by simp)).st e6 (by simp)).st e7 (by simp)
        have hpl : ps.length = i := by rw [nd2.len]; exact hlen1
        refine jl b27 (Ls.single (t := tP) (x := some ⟨p6, 0, none⟩) rfl a77) (fun s8 sl8 e8 b8 => ?_) (hq := by unfold Ko own at hko7; omega)
        have a28 := a27.mono (e8.view (k := k) (by simp))
        repeat (first|refine aj ?_|refine av a28 rfl ?_|refine aK a28 rfl ?_|refine aH a28 rfl ?_|refine aI a28 rfl ?_|refine aJ a28 rfl ?_|refine aC a28 rfl ?_)
        refine cP a28 (by simp) rfl hk0 fun s9 e9 z9 a9 o9 => ?_
        simp only [List.set_cons_succ, List.set_cons_zero] at a9
        have e59 : Step [k, k + 1] s5 s9 := ((e6.n.trans e7.n).trans (e8.mono (by simp))).trans (e9.mono (by simp))
        have e49 : Step [k, k + 1, k + 3] s4 s9 := e5.tr e59
        have e29 : Step [k, k + 1, k + 3] s2 s9 := e24.n.trans e49
        have e69 : Step [k, k + 1] s6 s9 := (e7.n.trans (e8.mono (by simp))).trans (e9.mono (by simp))
        have hdk : ∀ y, y ∈ [k, k + 1, k + 3] → y ∈ dk k := by intro y hy; simp at hy; rw [fk]; omega
        rw [aY (by omega) (by omega)]
        have hN : gF k s9 (v.nodes ++ [⟨x.data, x.data, [], false⟩]) (ps ++ [some ⟨p6, 0, none⟩]) := by
         refine ⟨by simp [nd2.len], fun j y hy => ?_⟩
         by_cases ej : j < v.nodes.length
         ·rw [List.getElem?_append_left ej] at hy
          obtain ⟨p', q1, q2⟩ := nd2.at_ j y hy
          exact ⟨p', by rw [List.getElem?_append_left (by omega)]; exact q1, q2.st e29 (by simp; omega) (by simp; omega)⟩
         ·rw [List.getElem?_append_right (by omega)] at hy
          have hj : j = v.nodes.length := by
           have := (List.getElem?_eq_some_iff.1 hy).1
           simp at this; omega
          subst hj
          simp at hy; subst hy
          refine ⟨p6, by rw [List.getElem?_append_right (by omega)]; simp [hpl, hlen1], ⟨none, 0, 0⟩, ?_, bF.nil⟩
          have := a6.mono (e69.view (k := k + 10 + 2 * i) (by simp; omega))
          rw [hlen1]
          exact this
        have hmk := mk.add x (by have := hfd.2 hl; omega) (by omega)
        have hnl : n.len = i := by rw [b2.ls.len, hpl]
        rw [hnl] at m5
        have m9 := m5.st e59 (by simp)
        have c9 := c2.st e29 (by simp)
        refine hG (i + 1, { v with nodes := v.nodes ++ [⟨x.data, x.data, [], false⟩], seen := gi v.seen x.name i }, { d with files := d.files ++ [⟨x.data, x.data, []⟩], now := R.put d.now ⟨x.name, (d.files.length : Int)⟩ }, used + x.data.size, ps ++ [some ⟨p6, 0, none⟩]) s9
         ⟨by omega, e2.trans (e29.mono hdk), ⟨hk0, ⟨sl8, m, ms, none, a9, b8.st e9 (by simp), c9, ⟨es5, cl5, m9⟩⟩, hN⟩, hmk, ?_, sl8, m, a9, b8.st e9 (by simp), c9, ⟨es5, cl5, m9⟩, hN⟩ (by simp only; omega)
        rw [g2]
        simp only [R.mX]
        rw [if_neg (by rw [hnm, decide_eq_false (show ¬0 ≤ R.find d.now x.name by have := hfd.2 hl; omega), decide_eq_false (by omega)]; simp)]
     ·refine ⟨_, rfl, ?_⟩
      have hpos := (hfd.1 j hl)
      unfold uU
      refine bH (fD trivial (bad (by rw [decide_eq_true (show 0 ≤ R.find d.now x.name by omega)]; simp) s3 Step.refl))
    ·have : i = files.length := by omega
     subst this
     rw [List.drop_length] at g2
     simp only [R.mX] at g2
     rw [g2] at h1
     repeat (first|refine aj ?_|refine av a2 rfl ?_|refine aK a2 rfl ?_|refine aH a2 rfl ?_|refine aI a2 rfl ?_|refine aJ a2 rfl ?_|refine aC a2 rfl ?_)
     refine AP (k' := k + 4) m2 (by unfold Ko own at hko2; omega) fun s3 mu e3 z3 m3 => ?_
     have a3 := a2.mono (e3.view (k := k) (by simp))
     repeat (first|refine aj ?_|refine av a3 rfl ?_|refine aK a3 rfl ?_|refine aH a3 rfl ?_|refine aI a3 rfl ?_|refine aJ a3 rfl ?_|refine aC a3 rfl ?_)
     refine cP a3 (by simp) rfl hk0 fun s4 e4 z4 a4 o4 => ?_
     simp only [List.set_cons_succ, List.set_cons_zero] at a4
     have e24 : Step [k] s2 s4 := e3.n.trans e4
     have hs := mk.sim (by omega)
     exact h1 _ rfl s4 b (e2.trans (e24.mono ia)) ⟨{ v with sure := v.seen }, ps, ⟨hk0, ⟨n, m, ms, some mu, a4, b2.st e24 (by simp), c2.st e24 (by simp), ⟨es, cl, m2.st e24 (by simp)⟩, ⟨mu, es, cl, rfl, m3.st e4 (by simp)⟩⟩, nd2.st e24 (fun j => by simp; omega)⟩, hs⟩
end Go.Ph
end
section
set_option linter.all false
namespace Go.Ph
open S
theorem KT {α : Type} {t : Ty α} {zero : Array Value} (hz : zero.size = t.n) : ∀ (n j i : Nat) (v : Value), j < n → zero.toList[i]? = some v → (eO zero n)[j * t.n + i]? = some v
 | 0, j, i, v, h, hv => by omega
 | n + 1, 0, i, v, h, hv => by
  simp only [eO, Nat.zero_mul, Nat.zero_add]
  rw [List.getElem?_append_left (List.getElem?_eq_some_iff.1 hv).1]; exact hv
 | n + 1, j + 1, i, v, h, hv => by
  simp only [eO]
  have hl : zero.toList.length = t.n := by simp [hz]
  rw [List.getElem?_append_right (by rw [hl, Nat.add_mul]; omega), hl]
  rw [show (j + 1) * t.n + i - t.n = j * t.n + i by rw [Nat.add_mul]; omega]
  exact KT hz n j i v (by omega) hv
theorem vz {α : Type} {t : Ty α} {s : St} {z : α} {zero : Array Value} {bytes : Nat} {n : Int} {K : Sl → HP} (q : Nat) (hq : q < 2305843009213693952 + 1152921504606846976 * s.H.size) (hR : t.R (s.w 0) z zero.toList)
  (h0 : 0 ≤ n) (hb : bytes * n ≤ 281474976710656) (hn : n ≤ 9223372036854775807)
  (hK : ∀ s' sl, Step [] s s' → s'.H.size = s.H.size + 1 → bz t (s'.w 0) (s'.w q) (List.replicate n.toNat z) sl → K sl s'.H) : oI bytes zero n n K s.H := by
 have hz : zero.size = t.n := by have := t.len hR; simpa using this
 refine ⟨⟨h0, Int.le_refl _, hb, hn⟩, fun ty => ?_⟩
 refine pZ (K := fun b => K ⟨some (af b), n.toNat, n.toNat⟩) (lo := 0) (hi := 0) (fun _ => q) (fun _ => hq) (fun i _ => by simp) fun s' b hn => ?_
 refine hK s' _ hn.step hn.sz ⟨by simp, Nat.le_refl _, fun h => (by cases h), fun a ha => ?_⟩
 simp at ha; subst ha
 refine ⟨fun _ => rfl, fun j x hj => ⟨zero.toList, ?_, fun i v hi => ?_⟩⟩
 ·rw [List.getElem?_replicate] at hj
  split at hj
  ·simp at hj; subst hj; exact t.mono hn.step.v0 hR
  ·cases hj
 ·have hj' := (List.getElem?_eq_some_iff.1 hj).1
  simp at hj'
  refine dP ?_ (hn.col _)
  simp only [Nat.zero_add]
  rw [hn.here, KT hz n.toNat j i v (by omega) hi]
  rfl
theorem vA {α : Type} {t : Ty α} {V W : View} {l : List α} {sl : Sl} {size : Nat} {i : Int} {K : Addr → HP} {H : aP} (h : bz t V W l sl) (h0 : 0 ≤ i) (h1 : i < l.length)
  (hK : ∀ b o x, sl.a = some ⟨b, o, none⟩ → l[i.toNat]? = some x → El t V W x b (o + i.toNat * t.n) → K ⟨b, o + i.toNat * t.n, none⟩ H) (hn : size = t.n := by rfl) : aL sl size i K H := by
 subst hn
 obtain ⟨b, o, ha⟩ := Ls.lt h (j := i.toNat) (by omega)
 refine ⟨_, ha, h0, by rw [h.len]; exact h1, ?_⟩
 rw [dK]
 have hx : l[i.toNat]? = some (l[i.toNat]'(by omega)) := List.getElem?_eq_getElem _
 exact hK _ _ _ ha hx ((h.at_ _ ha).2 _ _ hx)
theorem BX {α : Type} {t : Ty α} {s : St} {q b o i : Nat} {l : List α} {sl : Sl} {x : α} {vs : List Value} {K : HP} (h : bz t (s.w 0) (s.w q) l sl) (ha : sl.a = some ⟨b, o, none⟩) (hi : i < l.length) (hR : t.R (s.w 0) x vs) (hq0 : q ≠ 0) (hn : 0 < t.n)
  (hK : ∀ s', Step [q] s s' → s'.H.size = s.H.size → bz t (s'.w 0) (s'.w q) (l.set i x) sl → K s'.H) : aq ⟨b, o + i * t.n, none⟩ 0 vs K s.H := by
 have hvl := t.len hR
 have hall := (h.at_ _ ha).2
 simp only at hall
 obtain ⟨ws, w1, w2⟩ := hall i l[i] (List.getElem?_eq_getElem hi)
 have hwl := t.len w1
 have hc : ∀ j, j < vs.length → ∃ v0, s.w q b (o + i * t.n + 0 + j) = some (.v v0) := fun j hj => by
  exact ⟨_, by have := w2 j _ (List.getElem?_eq_getElem (by omega)); simpa using this⟩
 obtain ⟨v0, hv0⟩ := hc 0 (by omega)
 have hqlt : q < 1152921504606846976 + 1152921504606846976 * s.H.size := by rw [← (bY hv0).2]; exact s.wf _ _ (mq hv0)
 refine kJ (k := q) (k' := q) vs hc (t.one hR) hqlt hq0 fun s' h' => ?_
 have hst : Step [q] s s' := h'.step (q := q) (by simp) hq0 fun j hj => by
  obtain ⟨v, hv⟩ := hc j hj
  exact (bY hv).2
 refine hK s' hst h'.sz ⟨by simp [h.len], h.cap, h.nil, fun a ha' => ?_⟩
 rw [ha] at ha'
 simp at ha'; subst ha'
 refine ⟨fun _ => rfl, fun j y hj => ?_⟩
 by_cases e : i = j
 ·subst e
  rw [List.getElem?_set_self hi] at hj
  simp at hj; subst hj
  exact ⟨vs, t.mono hst.v0 hR, by have := h'.here; simpa using this⟩
 ·rw [List.getElem?_set_ne e] at hj
  obtain ⟨us, u1, u2⟩ := hall j y hj
  have hul := t.len u1
  refine ⟨us, t.mono hst.v0 u1, fun a v hav => ?_⟩
  have hlt := (List.getElem?_eq_some_iff.1 hav).1
  have hu := u2 a v hav
  have := h'.old b (o + j * t.n + a) (fun ⟨_, h1, h2⟩ => by
   rcases Nat.lt_or_gt_of_ne e with e1 | e1
   ·have : (i + 1) * t.n ≤ j * t.n := Nat.mul_le_mul_right _ e1
    rw [Nat.add_mul] at this; omega
   ·have : (j + 1) * t.n ≤ i * t.n := Nat.mul_le_mul_right _ e1
    rw [Nat.add_mul] at this; omega)
  exact dP (this.2.trans (bY hu).1) (this.1.trans (bY hu).2)
theorem bz.st {α : Type} {t : Ty α} {s s' : St} {q : Nat} {l : List α} {sl : Sl} {S : List Nat} (h : bz t (s.w 0) (s.w q) l sl) (hs : Step S s s') (hq : q ∉ S) : bz t (s'.w 0) (s'.w q) l sl := h.mono hs.v0 (hs.view hq)
def V.mark (m : List (ByteArray × Int)) (base : List Bool) : List Bool := (List.range base.length).map fun j => base.getD j false || m.any fun x => decide (x.2 = (j : Int))
def nS (j : Int) : Value → Bool
 | .int _ i => decide (i = j)
 | _ => false
def marked (es : List MapEntry) (seen : List Nat) (base : List Bool) : List Bool := (List.range base.length).map fun j => base.getD j false || es.any fun e => decide (e.born ∈ seen) && nS (j : Int) e.val
theorem Xt {es : List MapEntry} {m : List (ByteArray × Int)} (h : DM es m) (j : Int) : (es.any fun e => nS j e.val) = m.any fun x => decide (x.2 = j) := by
 have e1 : (es.any fun e => nS j e.val) = (es.map (fun e => (e.key, e.val))).any fun x => nS j x.2 := by rw [List.any_map]; rfl
 rw [e1, h.kv, List.any_map]
 rfl
theorem ID (es : List MapEntry) (base : List Bool) : marked es [] base = base := by
 apply List.ext_getElem?
 intro j
 simp only [marked, List.getElem?_map, List.not_mem_nil, decide_false, Bool.false_and]
 by_cases e : j < base.length
 ·rw [List.getElem?_range e]; simp [e]
 ·rw [List.getElem?_eq_none (by simp; omega), List.getElem?_eq_none (by omega)]; rfl
theorem Ov {es : List MapEntry} {seen : List Nat} {base : List Bool} {e : MapEntry} {i : Nat} (he : e ∈ es) (hu : (es.map (·.born)).Nodup) (hv : ∃ k, e.val = .int k (i : Int)) (hi : i < base.length) :
  marked es (seen ++ [e.born]) base = (marked es seen base).set i true := by
 obtain ⟨k, hv⟩ := hv
 have hb : ∀ x ∈ es, x.born = e.born → x = e := fun x hx hxe => by
  obtain ⟨a, ha⟩ := List.mem_iff_getElem?.1 hx
  obtain ⟨c, hc⟩ := List.mem_iff_getElem?.1 he
  have : a = c := nY hu (x := e.born) (by simp [ha, hxe]) (by simp [hc])
  subst this
  rw [ha] at hc; simpa using hc
 apply List.ext_getElem?
 intro j
 by_cases ej : j < base.length
 ·by_cases e1 : i = j
  ·subst e1
   rw [List.getElem?_set_self (by simp [marked]; omega)]
   simp only [marked, List.getElem?_map, List.getElem?_range ej, Option.map_some, Option.some.injEq]
   have : (es.any fun x => decide (x.born ∈ seen ++ [e.born]) && nS (i : Int) x.val) = true := by
    rw [List.any_eq_true]
    exact ⟨e, he, by simp [hv, nS]⟩
   rw [this, Bool.or_true]
  ·rw [List.getElem?_set_ne e1]
   simp only [marked, List.getElem?_map, List.getElem?_range ej, Option.map_some, Option.some.injEq]
   congr 1
   rw [Bool.eq_iff_iff, List.any_eq_true, List.any_eq_true]
   constructor
   ·rintro ⟨x, hx, hxx⟩
    refine ⟨x, hx, ?_⟩
    simp only [Bool.and_eq_true, decide_eq_true_eq, List.mem_append, List.mem_singleton] at hxx ⊢
    refine ⟨?_, hxx.2⟩
    rcases hxx.1 with h | h
    ·exact h
    ·have := hb x hx h
     subst this
     rw [hv] at hxx
     simp [nS] at hxx
     exact absurd hxx (by omega)
   ·rintro ⟨x, hx, hxx⟩
    refine ⟨x, hx, ?_⟩
    simp only [Bool.and_eq_true, decide_eq_true_eq, List.mem_append, List.mem_singleton] at hxx ⊢
    exact ⟨.inl hxx.1, hxx.2⟩
 ·rw [List.getElem?_eq_none (by simp [marked]; omega), List.getElem?_eq_none (by simp [marked]; omega)]
theorem VV {es : List MapEntry} {m : List (ByteArray × Int)} {seen : List Nat} {base : List Bool} (h : DM es m) (ha : ∀ e ∈ es, e.born ∈ seen) : marked es seen base = V.mark m base := by
 unfold marked V.mark
 apply List.map_congr_left
 intro j _
 congr 1
 rw [← Xt h]
 rw [Bool.eq_iff_iff, List.any_eq_true, List.any_eq_true]
 constructor
 ·rintro ⟨x, hx, hxx⟩; exact ⟨x, hx, by simpa [ha x hx] using hxx⟩
 ·rintro ⟨x, hx, hxx⟩; exact ⟨x, hx, by simpa [ha x hx] using hxx⟩
theorem Zv {K : Nat → HP} {H : aP} (h : yf (.mapIter none 0 #[] 0) K H) : mc none K H := h
theorem Ih {k q : Nat} {s : St} {r : Option Nat} {m : List (ByteArray × Int)} {base : List Bool} {has : Sl} {K : HP} (h : og k s r m) (hB : bz tB (s.w 0) (s.w q) base has) (hk : k ≠ q ∧ k ≠ q + 1) (hq0 : q ≠ 0) (hq : q + 1 < 2305843009213693952 + 1152921504606846976 * s.H.size)
  (hr : ∀ x ∈ m, 0 ≤ x.2 ∧ x.2 < base.length) (hK : ∀ s', Step [q, q + 1] s s' → bz tB (s'.w 0) (s'.w q) (V.mark m base) has → K s'.H) :
  mc r (fun t32 => loop (σ := List Value) (fun R2 vs2 =>
   ki t32 K fun t33k t33v =>
   mQ t32 fun t35k t35v =>
   rF t35k fun t35k =>
   lW .i64 t35v fun t35v =>
   aL has 1 t35v fun t39 =>
   aq t39 0 [.bool true] (
   R2 [])) []) s.H := by
 have h0 := (Or.inr h : (r = none ∧ m = []) ∨ og k s r m)
 clear h
 rcases h0 with ⟨rfl, rfl⟩ | ⟨r, es, cl, rfl, h⟩
 ·refine Zv ?_
  refine Jq (q + 1) hq rfl fun s1 it n1 => ?_
  refine cD (ι := Unit) (fun _ => []) (fun _ s' => s' = s1) (fun _ _ => 0) () rfl rfl ?_
  rintro _ s' rfl G hG
  have ho := (mU (bY n1.here).1).1
  unfold ki
  rw [ho]
  refine hK s' n1.step.n ?_
  have : V.mark [] base = base := by
   have := ID [] base
   simpa [marked, V.mark] using this
  rw [this]
  exact hB.mono n1.step.v0 (n1.step.view (by simp))
 ·refine Bf h (q + 1) hq fun s1 it e1 z1 i1 => ?_
  refine cD (ι := List Nat) (fun _ => []) (fun seen s' => Step [q, q + 1] s s' ∧ Iter (q + 1) s' it r cl cl seen ∧ bz tB (s'.w 0) (s'.w q) (marked es seen base) has) (fun seen _ => oV cl seen) [] rfl
   ⟨e1.n, i1, by rw [ID]; exact hB.st e1 (by simp)⟩ ?_
  rintro seen s2 ⟨e2, i2, b2⟩ G hG
  have h2 := h.st e2 (by simpa using hk)
  refine AJ i2 h2 hk.2 (by omega) h.born ?_ ?_
  ·intro ha
   rw [VV h.dH ha] at b2
   exact hK s2 e2 b2
  ·intro e he hns s3 e3 z3 i3
   obtain ⟨a, ha⟩ := List.mem_iff_getElem?.1 he
   have hlen := congrArg List.length h.dH.kv
   simp at hlen
   have hlt := (List.getElem?_eq_some_iff.1 ha).1
   have hma : m[a]? = some (m[a]'(by omega)) := List.getElem?_eq_getElem _
   have hkv := congrArg (fun l => l[a]?) h.dH.kv
   simp only [List.getElem?_map, ha, hma, Option.map_some, Option.some.injEq, Prod.mk.injEq] at hkv
   refine ⟨_, hkv.1, _, hkv.2, ?_⟩
   have hin := hr _ (List.mem_iff_getElem?.2 ⟨a, hma⟩)
   have b3 := b2.st e3 (by simp)
   have hml : (marked es seen base).length = base.length := by simp [marked]
   refine vA b3 hin.1 (by rw [hml]; exact hin.2) fun b o x hsl hx hel => ?_
   refine BX b3 hsl (by rw [hml]; omega) (x := true) rfl hq0 (by decide) fun s4 e4 z4 b4 => ?_
   have e24 : Step [q, q + 1] s2 s4 := (e3.mono (by simp)).trans (e4.mono (by simp))
   refine hG (seen ++ [e.born]) s4 ⟨e2.trans e24, i3.st e4 (by simp), ?_⟩ (va (h.born e he) hns)
   rw [Ov he h.uniq ⟨.i64, by rw [hkv.2, Int.toNat_of_nonneg hin.1]⟩ (by omega)]
   exact b4
def V.flags (v : bC) : List Bool := V.mark v.sure (V.mark v.seen (List.replicate v.nodes.length false))
def V.kn (v : bC) (j : Nat) : Bool := (V.flags v).getD j false || match v.nodes[j]? with | some x => x.fresh | none => false
def V.jc (v : bC) (i : Nat) : List Nat := (List.range i).filter (V.kn v)
theorem IU (m : List (ByteArray × Int)) (b : List Bool) : (V.mark m b).length = b.length := by simp [V.mark]
theorem Step.vD {a b : St} {q : Nat} {S : List Nat} (h : Step (q :: (q + 1) :: S) a b) (hq : own a ≤ q) : Step S a b := (h.loc hq).loc (by omega)
theorem aeD {k : Nat} {s : St} {b : Nat} {v : bC} {ps : List (Option Addr)} {K : Sl → HP} (h : dx k s b v ps) (hn : v.nodes.length ≤ 1000000000000) (hko : Ko k s)
  (hr : ∀ x ∈ v.seen, 0 ≤ x.2 ∧ x.2 < v.nodes.length) (hr' : ∀ x ∈ v.sure, 0 ≤ x.2 ∧ x.2 < v.nodes.length)
  (hK : ∀ s' sl, Step [] s s' → Ls tP (s'.w 0) ((V.jc v v.nodes.length).map fun j => ps.getD j none) sl → K sl s'.H) : pM (some ⟨b, 0, none⟩) K s.H := by
 have hh := h
 obtain ⟨k0, ⟨n, m, ms, mu, h1, h2, h3, ⟨es, cl, h4⟩, h5⟩, h6⟩ := h
 have hlen := h6.len
 have hnl : n.len = v.nodes.length := by rw [h2.ls.len, hlen]
 have hq0 : own s ≠ 0 := by unfold own; omega
 have hnk : ∀ j, j < 1125899906842624 → k + j ≠ own s ∧ k + j ≠ own s + 1 := fun j hj => by unfold Ko at hko; omega
 unfold pM
 repeat (first|refine aj ?_|refine av h1 rfl ?_|refine aK h1 rfl ?_|refine aH h1 rfl ?_|refine aI h1 rfl ?_|refine aJ h1 rfl ?_|refine aC h1 rfl ?_)
 rw [hnl]
 refine vz (t := tB) (z := false) (n := (v.nodes.length : Int)) (own s) (by unfold own; omega) rfl (by omega) (by omega) (by omega) fun s1 has e1 z1 b1 => ?_
 rw [Int.toNat_natCast] at b1
 have a1 := h1.mono (e1.view (k := k) (by simp))
 repeat (first|refine aj ?_|refine av a1 rfl ?_|refine aK a1 rfl ?_|refine aH a1 rfl ?_|refine aI a1 rfl ?_|refine aJ a1 rfl ?_|refine aC a1 rfl ?_)
 refine bZ fun s2 b2 n2 a2 => ?_
 have e2 := n2.step
 have b12 := b1.st e2 (by simp)
 have hseen : og (k + 3) s (some ms) v.seen := ⟨ms, es, cl, rfl, h4⟩
 refine cD (fun i : Nat => [.int .i64 i]) (fun i s' => i ≤ 2 ∧ Step [own s, own s + 1] s s' ∧ At (s'.w 0) b2 0 [.map (some ms), .map mu] ∧
  bz tB (s'.w 0) (s'.w (own s)) (if i = 0 then List.replicate v.nodes.length false else if i = 1 then V.mark v.seen (List.replicate v.nodes.length false) else V.flags v) has) (fun i _ => 2 - i) 0 rfl
  ⟨by omega, (e1.trans e2).n, a2, b12⟩ ?_
 rintro i s3 ⟨hi, e3, a3, b3⟩ G hG
 simp only [List.getD_cons_zero, List.getD_cons_succ, cI, cN, cK, cH, cJ, cO]
 have hz3 := e3.sz
 refine aN (fun hlt => ?_) (fun hlt => ?_)
 ·have hls : bz tM (s3.w 0) (s3.w 0) [some ms, mu] ⟨some (af b2), 2, 2⟩ := ⟨rfl, Nat.le_refl _, fun h => (by cases h), fun a e => by
   simp at e; subst e
   refine ⟨fun _ => rfl, fun j y hj => ?_⟩
   match j, hj with
   | 0, hj => simp at hj; subst hj; exact ⟨_, rfl, fun i v hi => by
     have e : i = 0 := by cases i with
      | zero => rfl
      | succ i => simp at hi
     subst e; simp at hi; subst hi; exact a3 0 _ rfl⟩
   | 1, hj => simp at hj; subst hj; exact ⟨_, rfl, fun i v hi => by
     have e : i = 0 := by cases i with
      | zero => rfl
      | succ i => simp at hi
     subst e; simp at hi; subst hi; exact a3 1 _ rfl⟩
   | j + 2, hj => simp at hj⟩
  refine bU hls (by omega) (by simp; omega) fun b' o x hx he => ?_
  obtain ⟨_, rfl, ha⟩ := he
  rw [Int.toNat_natCast] at hx
  refine VJ ha rfl ?_
  match i, hlt, hx, b3, hG with
  | 0, hlt, hx, b3, hG =>
   simp at hx; subst hx
   rw [if_pos rfl] at b3
   refine Ih (hseen.st e3 (by have := hnk 3 (by omega); simpa using this)) b3 (hnk 3 (by omega)) hq0 (by unfold own; omega) (by simpa using hr) fun s4 e4 b4 => ?_
   rw [aY (by omega) (by omega)]
   refine hG 1 s4 ⟨by omega, e3.trans e4, a3.mono e4.v0, ?_⟩ (by omega)
   simpa using b4
  | 1, hlt, hx, b3, hG =>
   simp at hx; subst hx
   rw [if_neg (by omega), if_pos rfl] at b3
   refine Ih (h5.st e3 (by have := hnk 4 (by omega); simpa using this)) b3 (hnk 4 (by omega)) hq0 (by unfold own; omega) (by simpa [IU] using hr') fun s4 e4 b4 => ?_
   rw [aY (by omega) (by omega)]
   refine hG 2 s4 ⟨by omega, e3.trans e4, a3.mono e4.v0, ?_⟩ (by omega)
   simpa [V.flags] using b4
  | j + 2, hlt, hx, b3, hG => omega
 ·have h2i : i = 2 := by omega
  subst h2i
  rw [if_neg (by omega), if_neg (by omega)] at b3
  have hcl : ∀ j, j < 1125899906842624 → k + j ∉ [own s, own s + 1] := fun j hj => by have := hnk j hj; simp; omega
  have a13 := h1.mono (e3.view (k := k) (by simpa using hcl 0 (by omega)))
  repeat (first|refine aj ?_|refine av a13 rfl ?_|refine aK a13 rfl ?_|refine aH a13 rfl ?_|refine aI a13 rfl ?_|refine aJ a13 rfl ?_|refine aC a13 rfl ?_)
  have hfl : (V.flags v).length = v.nodes.length := by simp [V.flags, IU]
  have b23 := h2.st e3 (hcl 1 (by omega))
  have hN := h6
  have hkl : ∀ i, (V.jc v i).length ≤ i := fun i => Nat.le_trans (List.length_filter_le _ _) (by simp)
  refine cD (ι := Sl × Nat) (fun x => [.slice x.1.a x.1.len x.1.cap, .int .i64 x.2]) (fun x s' => x.2 ≤ v.nodes.length ∧ Step [own s + 2] s3 s' ∧ bF tP (own s + 2) s' ((V.jc v x.2).map fun j => ps.getD j none) x.1) (fun x _ => v.nodes.length - x.2) (⟨none, 0, 0⟩, 0) rfl
   ⟨Nat.zero_le _, Step.refl, bF.nil⟩ ?_
  rintro ⟨t, i⟩ s4 ⟨hi4, e4, b4⟩ G3 hG3
  simp only [List.getD_cons_zero, List.getD_cons_succ, cI, cN, cK, cH, cJ, cO]
  simp only at hi4 b4
  rw [hnl]
  have hz4 := e4.sz
  have e34 : Step [own s, own s + 1, own s + 2] s s4 := e3.tr e4
  have hcl3 : ∀ j, j < 1125899906842624 → k + j ∉ [own s, own s + 1, own s + 2] := fun j hj => by unfold Ko at hko; simp; omega
  refine aN (fun hlt4 => ?_) (fun hlt4 => ?_)
  ·refine bU (Ls.st b23.ls e4) (by omega) (by omega) fun b' o x hx he => ?_
   obtain ⟨_, rfl, ha⟩ := he
   rw [Int.toNat_natCast] at hx
   refine dR ha rfl ?_
   refine bU (b3.st e4 (by simp)) (by omega) (by omega) fun b'' o' y hy he => ?_
   obtain ⟨_, rfl, hay⟩ := he
   rw [Int.toNat_natCast] at hy
   refine VU hay rfl ?_
   have hilt : i < v.nodes.length := by omega
   obtain ⟨p, hp1, hp2⟩ := h6.at_ i _ (List.getElem?_eq_getElem hilt)
   rw [hx] at hp1
   simp at hp1
   subst hp1
   obtain ⟨sl, q1, q2⟩ := hp2
   have hadd : V.jc v (i + 1) = V.jc v i ++ (if V.kn v i then [i] else []) := by
    rw [V.jc, List.range_succ, List.filter_append]
    simp [V.jc, List.filter_cons]
   have hkn : V.kn v i = (y || v.nodes[i].fresh) := by
    simp only [V.kn, List.getD_eq_getElem?_getD, hy, List.getElem?_eq_getElem hilt]
    rfl
   have nxt : ∀ t' : Bool, t' = V.kn v i → yI has t (some ⟨p, 0, none⟩) n (v.nodes.length : Nat) i t' K G3 s4.H := fun t' ht => by
    unfold yI y8
    rw [← ht] at hadd
    rw [aY (by omega) (by omega)]
    cases t'
    ·refine bt ?_
     refine hG3 (t, i + 1) s4 ⟨hilt, e4, ?_⟩ (by simp only; omega)
     rw [hadd]; simpa using b4
    ·refine bH ?_
     have := hkl i
     refine jv (t := tP) ((some ⟨p, 0, none⟩ : Option Addr)) b4 rfl fun s5 sl5 e5 b5 => ?_
     refine hG3 (sl5, i + 1) s5 ⟨hilt, e4.trans e5, ?_⟩ (by simp only; omega)
     rw [hadd]
     simpa [List.getD_eq_getElem?_getD, hx] using b5
   cases y
   ·refine bt ?_
    have q3 := q1.mono (e34.view (by have := hcl3 (10 + 2 * i) (by omega); rwa [← Nat.add_assoc] at this))
    repeat (first|refine aj ?_|refine av q3 rfl ?_|refine aK q3 rfl ?_|refine aH q3 rfl ?_|refine aI q3 rfl ?_|refine aJ q3 rfl ?_|refine aC q3 rfl ?_)
    exact nxt _ (by rw [hkn]; rfl)
   ·refine bH ?_
    exact nxt true (by rw [hkn]; rfl)
  ·have : i = v.nodes.length := by omega
   subst this
   refine hK s4 t ?_ b4.ls
   exact ((e34.loc (Nat.le_refl _)).loc (by omega)).loc (by omega)
end Go.Ph
end
section
set_option linter.all false
namespace Go.Ph
open S
def V.pl (v : bC) (j : Nat) : Int := match v.nodes[j]? with | some x => x.cF.length | none => 0
namespace R
def known (d : ah) (i : Nat) : Bool := d.now.any (fun e => decide (e.aO = (i : Int))) || d.sure.any (fun e => decide (e.aO = (i : Int))) || d.waits.any (fun e => decide (e.aO = (i : Int)))
def wl (d : ah) (j : Nat) : Int := match d.files[j]? with | some x => x.waits.length | none => 0
end R
theorem F3 {α : Type} {p : α → Bool} {l : List α} {i : Nat} {x : α} (h : l[i]? = some x) (ha : (l.take i).any p = false) : (l.take (i + 1)).any p = p x := by
 rw [List.take_add_one, h]
 simp only [Option.toList, List.any_append, ha, List.any_cons, List.any_nil, Bool.or_false, Bool.false_or]
theorem any_true {α : Type} {p : α → Bool} {l : List α} {i : Nat} {x : α} (h : l[i]? = some x) (hp : p x = true) : l.any p = true := List.any_eq_true.2 ⟨x, List.mem_of_getElem? h, hp⟩
theorem ae1 {v : bC} {d : ah} (h : dI v d) (j : Nat) (hj : j < v.nodes.length) : V.kn v j = R.known d j := by
 have hn0 := (h.names 0 (Nat.zero_le _)).1
 simp only [List.take_zero, List.foldl_nil] at hn0
 have hns := h.ns.1
 have an : ∀ (m : List (ByteArray × Int)) (l : List aR), eS v.nodes.length m l → (m.any fun x => decide (x.2 = (j : Int))) = l.any fun e => decide (e.aO = (j : Int)) := fun m l hml => by
  rw [Bool.eq_iff_iff, List.any_eq_true, List.any_eq_true]
  constructor
  ·rintro ⟨⟨a, i⟩, h1, h2⟩; exact ⟨⟨a, i⟩, (hml.mem _ _).1 h1, h2⟩
  ·rintro ⟨⟨a, i⟩, h1, h2⟩; exact ⟨⟨a, i⟩, (hml.mem _ _).2 h1, h2⟩
 have hx : v.nodes[j]? = some v.nodes[j] := List.getElem?_eq_getElem hj
 have hfr : v.nodes[j].fresh = d.waits.any fun t => decide (t.aO = (j : Int)) := by
  rw [Bool.eq_iff_iff, h.fresh j _ hx, List.any_eq_true]
  constructor
  ·rintro ⟨t, h1, h2⟩; exact ⟨t, h1, by simpa using h2⟩
  ·rintro ⟨t, h1, h2⟩; exact ⟨t, h1, by simpa using h2⟩
 unfold V.kn R.known V.flags
 rw [hx]
 simp only
 rw [hfr]
 congr 1
 rw [← an _ _ hns, ← an _ _ hn0]
 simp only [V.mark, List.getD_eq_getElem?_getD, List.getElem?_map, List.length_map, List.length_range, List.length_replicate, List.getElem?_range hj, Option.map_some, Option.getD_some, List.getElem?_replicate]
 split <;> simp
end Go.Ph
end

/- Parts of the proof that pigeonholelaw18.DboxSure returns true at every input and leaves the input as it was: what the words of the functions tell, part 0. -/
import Derived.Test.YtjojclbfnnkajaaGreatPhB
section
set_option linter.all false
namespace Go.Ph
/-- what stands at a place: a value, or a whole object -/
inductive Xo
  | v (v : Value)
  | o (o : Obj)
def pk (H : Heap) (b i : Nat) : Option Xo :=
  match H[b]? with
  | some (.cells c _ _) => c[i]?.map .v
  | some o => if i = 0 then some (.o o) else none
  | none => none
/-- a block's type and its frozen part -/
def sh (H : Heap) (b : Nat) : Option (TypeId × (Nat × Nat)) :=
  match H[b]? with
  | some (.cells _ t f) => some (t, f)
  | _ => none
abbrev View := Nat → Nat → Option Xo
def VLe (V V' : View) : Prop := ∀ b i x, V b i = some x → V' b i = some x
theorem VLe.refl (V : View) : VLe V V := fun _ _ _ h => h
theorem VLe.trans {A B C : View} (h : VLe A B) (k : VLe B C) : VLe A C := fun b i x h1 => k b i x (h b i x h1)
/-- a heap, and a colour for each place: 0 never changes, from 2^60 on they are a function's own -/
structure St where
  H : Heap
  c : Nat → Nat → Nat
  wf : ∀ b i, b < H.size → c b i < 1152921504606846976 + 1152921504606846976 * H.size
  fz : ∀ b i, c b i ≠ 0 → frz H ⟨b, i, none⟩ = false
def St.w (s : St) (k : Nat) : View := fun b i => if s.c b i = k then pk s.H b i else none
structure Step (S : List Nat) (s s' : St) : Prop where
  sz : s.H.size ≤ s'.H.size
  old : ∀ b i, b < s.H.size → (s.c b i = 0 ∨ s.c b i ∉ S) → s'.c b i = s.c b i ∧ pk s'.H b i = pk s.H b i
  shp : ∀ b, b < s.H.size → sh s'.H b = sh s.H b
theorem Step.refl {S : List Nat} {s : St} : Step S s s := ⟨Nat.le_refl _, fun _ _ _ _ => ⟨rfl, rfl⟩, fun _ _ => rfl⟩
theorem Step.mono {S S' : List Nat} {a b : St} (h : Step S a b) (hs : ∀ x, x ∈ S → x ∈ S') : Step S' a b :=
  ⟨h.sz, fun x i hi hn => h.old x i hi (hn.imp id fun hn hx => hn (hs _ hx)), h.shp⟩
theorem Step.trans {S : List Nat} {a b c : St} (h : Step S a b) (k : Step S b c) : Step S a c :=
  ⟨Nat.le_trans h.sz k.sz, fun x i hi hn => by
    have h1 := h.old x i hi hn
    have h2 := k.old x i (Nat.lt_of_lt_of_le hi h.sz) (by rw [h1.1]; exact hn)
    exact ⟨h2.1.trans h1.1, h2.2.trans h1.2⟩, fun x hx => (k.shp x (Nat.lt_of_lt_of_le hx h.sz)).trans (h.shp x hx)⟩
theorem Step.tr {A B S : List Nat} {a b c : St} (h : Step A a b) (k : Step B b c) (hA : ∀ x, x ∈ A → x ∈ S := by simp) (hB : ∀ x, x ∈ B → x ∈ S := by simp) : Step S a c :=
  (h.mono hA).trans (k.mono hB)
theorem Step.n {S : List Nat} {a b : St} (h : Step [] a b) : Step S a b := h.mono fun x hx => by cases hx
/-- the first of the colours that are a function's own -/
def own (s : St) : Nat := 1152921504606846976 + 1152921504606846976 * s.H.size
/-- what a function makes for itself is nobody else's -/
theorem Step.loc {S : List Nat} {a b : St} {q : Nat} (h : Step (q :: S) a b) (hq : own a ≤ q := by first | exact Nat.le_refl _ | omega) : Step S a b :=
  ⟨h.sz, fun x i hi hn => h.old x i hi (hn.imp id fun hn hx => by
    rcases List.mem_cons.1 hx with hx | hx
    · have := a.wf x i hi; unfold own at hq; omega
    · exact hn hx), h.shp⟩
theorem pk_lt {H : Heap} {b i : Nat} {x : Xo} (h : pk H b i = some x) : b < H.size := by
  unfold pk at h
  by_cases e : b < H.size
  · exact e
  · rw [Array.getElem?_eq_none (by omega)] at h; simp at h
theorem w_some {s : St} {k b i : Nat} {x : Xo} (h : s.w k b i = some x) : pk s.H b i = some x ∧ s.c b i = k := by
  unfold St.w at h
  split at h
  · rename_i hc; exact ⟨h, hc⟩
  · cases h
theorem w_mk {s : St} {k b i : Nat} {x : Xo} (h : pk s.H b i = some x) (hc : s.c b i = k) : s.w k b i = some x := by
  unfold St.w; rw [if_pos hc]; exact h
theorem w_lt {s : St} {k b i : Nat} {x : Xo} (h : s.w k b i = some x) : b < s.H.size := pk_lt (w_some h).1
theorem Step.view {S : List Nat} {a b : St} (h : Step S a b) {k : Nat} (hk : k ∉ S) : VLe (a.w k) (b.w k) := by
  intro x i o hi
  obtain ⟨h1, h2⟩ := w_some hi
  have := h.old x i (pk_lt h1) (.inr (by rw [h2]; exact hk))
  exact w_mk (this.2.trans h1) (this.1.trans h2)
theorem Step.v0 {S : List Nat} {a b : St} (h : Step S a b) : VLe (a.w 0) (b.w 0) := by
  intro x i o hi
  obtain ⟨h1, h2⟩ := w_some hi
  have := h.old x i (pk_lt h1) (.inl h2)
  exact w_mk (this.2.trans h1) (this.1.trans h2)
/-! cells -/
theorem pk_cell {H : Heap} {b i : Nat} {v : Value} (h : pk H b i = some (.v v)) : cell H ⟨b, i, none⟩ = some v := by
  unfold pk at h
  unfold cell
  cases e : H[b]? with
  | none => rw [e] at h; cases h
  | some o =>
    rw [e] at h
    cases o with
    | cells c t f =>
      simp only at h ⊢
      cases e2 : c[i]? with
      | none => rw [e2] at h; cases h
      | some y => rw [e2] at h; simp at h; simp [h]
    | _ => simp at h
theorem cell_pk {H : Heap} {b i : Nat} {v : Value} (h : cell H ⟨b, i, none⟩ = some v) : pk H b i = some (.v v) := by
  unfold cell at h
  unfold pk
  simp only at h
  split at h
  · rename_i c t f e
    rw [e]
    simp at h
    simp [h]
  · cases h
theorem w_cell {s : St} {k b i : Nat} {v : Value} (h : s.w k b i = some (.v v)) : cell s.H ⟨b, i, none⟩ = some v := pk_cell (w_some h).1
theorem add_at (b i n : Nat) : (⟨b, i, none⟩ : Addr).add n = ⟨b, i + n, none⟩ := by
  unfold Addr.add; split <;> simp_all
theorem at0_add (b n : Nat) : (at0 b).add n = ⟨b, n, none⟩ := by rw [add_at]; simp
/-- values that stand in a row -/
def At (V : View) (b o : Nat) (vs : List Value) : Prop := ∀ i v, vs[i]? = some v → V b (o + i) = some (.v v)
theorem At.mono {V V' : View} {b o : Nat} {vs : List Value} (h : At V b o vs) (hv : VLe V V') : At V' b o vs := fun i v hi => hv _ _ _ (h i v hi)
theorem At.cell {s : St} {k b o : Nat} {vs : List Value} (h : At (s.w k) b o vs) (i : Nat) {v : Value} (hi : vs[i]? = some v) : cell s.H (Addr.add ⟨b, o, none⟩ i) = some v := by
  rw [add_at]; exact w_cell (h i v hi)
theorem At.cons {V : View} {b o : Nat} {v : Value} {vs : List Value} (h : V b o = some (.v v)) (h' : At V b (o + 1) vs) : At V b o (v :: vs) := by
  intro i x hi
  cases i with
  | zero => simp at hi; subst hi; exact h
  | succ i => have := h' i x (by simpa using hi); rw [show o + (i + 1) = o + 1 + i by omega]; exact this
theorem At.nil {V : View} {b o : Nat} : At V b o [] := fun i x hi => by simp at hi
theorem At.append {V : View} {b o : Nat} {vs ws : List Value} (h : At V b o vs) (h' : At V b (o + vs.length) ws) : At V b o (vs ++ ws) := by
  intro i x hi
  by_cases e : i < vs.length
  · exact h i x (by rwa [List.getElem?_append_left e] at hi)
  · rw [List.getElem?_append_right (by omega)] at hi
    have := h' _ x hi
    rw [show o + vs.length + (i - vs.length) = o + i by omega] at this; exact this
/-! new blocks -/
structure New (s s' : St) (b : Nat) (κ : Nat → Nat) (cs : List Value) : Prop where
  hb : b = s.H.size
  sz : s'.H.size = s.H.size + 1
  col : ∀ i, s'.c b i = κ i
  here : ∀ i, pk s'.H b i = cs[i]?.map .v
  old : ∀ x i, x ≠ b → x < s.H.size → s'.c x i = s.c x i ∧ pk s'.H x i = pk s.H x i
  shp : ∀ x, x < s.H.size → sh s'.H x = sh s.H x
theorem New.step {s s' : St} {b : Nat} {κ : Nat → Nat} {cs : List Value} (h : New s s' b κ cs) : Step [] s s' :=
  ⟨by have := h.sz; omega, fun x i hx _ => h.old x i (by have := h.hb; omega) hx, h.shp⟩
def frzO (o : Obj) (i : Nat) : Prop := match o with
  | .cells _ _ f => f.1 ≤ i ∧ i < f.2
  | _ => False
def St.push (s : St) (o : Obj) (κ : Nat → Nat) (hk : ∀ i, κ i < 2305843009213693952 + 1152921504606846976 * s.H.size) (hf : ∀ i, κ i ≠ 0 → ¬frzO o i) : St :=
  ⟨s.H.push o, fun x i => if x = s.H.size then κ i else if x < s.H.size then s.c x i else 0, fun x i hx => by
    simp only [Array.size_push] at hx ⊢
    split
    · have := hk i; omega
    · have := s.wf x i (by omega)
      split <;> omega, fun x i hx => by
    by_cases e : x = s.H.size
    · subst e
      simp only [if_true] at hx
      have := hf i hx
      unfold frzO at this
      unfold frz
      simp only [Array.getElem?_push_size]
      cases o with
      | cells c t f =>
        obtain ⟨lo, hi⟩ := f
        simp only [Bool.and_eq_false_iff, decide_eq_false_iff_not] at this ⊢
        by_cases e2 : lo ≤ i
        · exact .inr fun h2 => this ⟨e2, h2⟩
        · exact .inl e2
      | _ => rfl
    · simp only [e, if_false] at hx
      split at hx
      · have := s.fz x i hx
        unfold frz at this ⊢
        rw [Array.getElem?_push, if_neg e]
        exact this
      · exact absurd rfl hx⟩
theorem pk_push_ne {H : Heap} {o : Obj} {x : Nat} (i : Nat) (h : x ≠ H.size) : pk (H.push o) x i = pk H x i := by
  unfold pk; rw [Array.getElem?_push, if_neg h]
theorem sh_push_ne {H : Heap} {o : Obj} {x : Nat} (h : x < H.size) : sh (H.push o) x = sh H x := by
  unfold sh; rw [Array.getElem?_push, if_neg (by omega)]
theorem newc_f {s : St} {cs : List Value} {K : Nat → HP} (κ : Nat → Nat) (hk : ∀ i, κ i < 2305843009213693952 + 1152921504606846976 * s.H.size) {lo hi : Nat} (hf : ∀ i, κ i ≠ 0 → ¬(lo ≤ i ∧ i < hi)) {t : TypeId}
    (h : ∀ (s' : St) (b : Nat), New s s' b κ cs → K b s'.H) : K s.H.size (s.H.push (.cells cs.toArray t (lo, hi))) := by
  refine h (s.push (.cells cs.toArray t (lo, hi)) κ hk hf) s.H.size ⟨rfl, by simp [St.push], fun i => by simp [St.push], fun i => ?_, fun x i hx hlt => ⟨by simp [St.push, hx, hlt], pk_push_ne i hx⟩, fun x hx => sh_push_ne hx⟩
  simp only [pk, St.push, Array.getElem?_push_size]
  simp
theorem newc_rule {s : St} {cs : Array Value} {K : Nat → HP} (κ : Nat → Nat) (hk : ∀ i, κ i < 2305843009213693952 + 1152921504606846976 * s.H.size)
    (h : ∀ (s' : St) (b : Nat), New s s' b κ cs.toList → K b s'.H) : newc cs K s.H := by
  intro t
  exact newc_f (cs := cs.toList) κ hk (lo := 0) (hi := 0) (by simp) h
/-- a block that never changes -/
theorem newc_0 {s : St} {cs : Array Value} {K : Nat → HP} (h : ∀ (s' : St) (b : Nat), New s s' b (fun _ => 0) cs.toList → At (s'.w 0) b 0 cs.toList → K b s'.H) : newc cs K s.H :=
  newc_rule (fun _ => 0) (fun _ => by omega) fun s' b hn => h s' b hn fun i v hi => w_mk (by rw [hn.here]; simp [hi]) (hn.col _)
/-- a block of a colour -/
theorem newc_k {s : St} {cs : Array Value} {K : Nat → HP} (k : Nat) (hk : k < 2305843009213693952 + 1152921504606846976 * s.H.size) (h : ∀ (s' : St) (b : Nat), New s s' b (fun _ => k) cs.toList → At (s'.w k) b 0 cs.toList → K b s'.H) : newc cs K s.H :=
  newc_rule (fun _ => k) (fun _ => hk) fun s' b hn => h s' b hn fun i v hi => w_mk (by rw [hn.here]; simp [hi]) (hn.col _)
structure NewO (s s' : St) (b k : Nat) (o : Obj) : Prop where
  hb : b = s.H.size
  sz : s'.H.size = s.H.size + 1
  here : s'.w k b 0 = some (.o o)
  old : ∀ x i, x ≠ b → x < s.H.size → s'.c x i = s.c x i ∧ pk s'.H x i = pk s.H x i
  shp : ∀ x, x < s.H.size → sh s'.H x = sh s.H x
theorem NewO.step {s s' : St} {b k : Nat} {o : Obj} (h : NewO s s' b k o) : Step [] s s' :=
  ⟨by have := h.sz; omega, fun x i hx _ => h.old x i (by have := h.hb; omega) hx, h.shp⟩
def Obj.cl : Obj → Bool
  | .cells .. => true
  | _ => false
theorem pk_obj {H : Heap} {b : Nat} {o : Obj} (h : H[b]? = some o) (ho : Obj.cl o = false) : pk H b 0 = some (.o o) := by
  unfold pk; rw [h]; cases o <;> simp_all [Obj.cl]
theorem obj_pk {H : Heap} {b i : Nat} {o : Obj} (h : pk H b i = some (.o o)) : H[b]? = some o ∧ i = 0 ∧ Obj.cl o = false := by
  unfold pk at h
  cases e : H[b]? with
  | none => rw [e] at h; cases h
  | some o' =>
    rw [e] at h
    cases o' with
    | cells c t f =>
      simp only at h
      cases e2 : c[i]? <;> rw [e2] at h <;> simp at h
    | _ => simp at h; obtain ⟨h1, rfl⟩ := h; exact ⟨rfl, h1, rfl⟩
theorem newo_rule {s : St} {o : Obj} {K : Nat → HP} (k : Nat) (hk : k < 2305843009213693952 + 1152921504606846976 * s.H.size) (ho : Obj.cl o = false) (h : ∀ (s' : St) (b : Nat), NewO s s' b k o → K b s'.H) : K s.H.size (s.H.push o) :=
  h (s.push o (fun _ => k) (fun _ => hk) (fun i _ => by cases o <;> simp_all [frzO, Obj.cl])) s.H.size ⟨rfl, by simp [St.push], w_mk (pk_obj (by simp [St.push]) ho) (by simp [St.push]), fun x i hx hlt => ⟨by simp [St.push, hx, hlt], pk_push_ne i hx⟩, fun x hx => sh_push_ne hx⟩
/-! a cell is written -/
structure Sets (s s' : St) (b o k : Nat) (vs : List Value) : Prop where
  sz : s'.H.size = s.H.size
  here : At (s'.w k) b o vs
  old : ∀ x i, ¬(x = b ∧ o ≤ i ∧ i < o + vs.length) → s'.c x i = s.c x i ∧ pk s'.H x i = pk s.H x i
  shp : ∀ x, sh s'.H x = sh s.H x
theorem Sets.step {s s' : St} {b o k : Nat} {vs : List Value} (h : Sets s s' b o k vs) {q : Nat} {S : List Nat} (hq : q ∈ S) (h0 : q ≠ 0) (hc : ∀ i, i < vs.length → s.c b (o + i) = q) : Step S s s' :=
  ⟨by rw [h.sz]; exact Nat.le_refl _, fun x i hx hn => h.old x i fun ⟨e, h1, h2⟩ => by
    subst e
    have := hc (i - o) (by omega)
    rw [show o + (i - o) = i by omega] at this
    rw [this] at hn
    rcases hn with hn | hn
    · exact h0 hn
    · exact hn hq, fun x _ => h.shp x⟩
theorem sh_setc {H : Heap} {a : Addr} {v : Value} (x : Nat) : sh (setc H a v) x = sh H x := by
  unfold sh setc
  simp only [Array.getElem?_modify]
  by_cases e : a.block = x
  · rw [if_pos e]
    cases H[x]? with
    | none => rfl
    | some o => cases o <;> rfl
  · rw [if_neg e]
theorem frz_setc {H : Heap} {b i : Nat} {v : Value} (x j : Nat) : frz (setc H ⟨b, i, none⟩ v) ⟨x, j, none⟩ = frz H ⟨x, j, none⟩ := by
  unfold frz setc
  simp only [Option.isSome_none, Bool.false_eq_true, if_false, Array.getElem?_modify]
  by_cases e : b = x
  · subst e
    simp only [if_true]
    cases H[b]? with
    | none => rfl
    | some o => cases o <;> rfl
  · simp only [e, if_false]
def St.set (s : St) (b i k : Nat) (v : Value) (hk : k < 1152921504606846976 + 1152921504606846976 * s.H.size) (hf : s.c b i ≠ 0) : St :=
  ⟨setc s.H ⟨b, i, none⟩ v, fun x j => if x = b ∧ j = i then k else s.c x j, fun x j hx => by
    simp only [setc, Array.size_modify] at hx ⊢
    split
    · exact hk
    · exact s.wf x j hx, fun x j hx => by
    rw [frz_setc]
    by_cases e : x = b ∧ j = i
    · obtain ⟨rfl, rfl⟩ := e; exact s.fz _ _ hf
    · simp only [e, if_false] at hx; exact s.fz _ _ hx⟩
theorem pk_setc {H : Heap} {b i : Nat} {v : Value} {v0 : Value} (h : pk H b i = some (.v v0)) (x j : Nat) :
    pk (setc H ⟨b, i, none⟩ v) x j = if x = b ∧ j = i then some (.v v) else pk H x j := by
  unfold pk setc
  simp only [Option.isSome_none, Bool.false_eq_true, if_false, Array.getElem?_modify]
  unfold pk at h
  by_cases e : b = x
  · subst e
    cases e1 : H[b]? with
    | none => rw [e1] at h; cases h
    | some o =>
      rw [e1] at h
      cases o with
      | cells c t f =>
        simp only [if_true, Option.map_some, true_and] at h ⊢
        by_cases e2 : j = i
        · subst e2
          rw [if_pos rfl, Array.getElem?_setIfInBounds_self]
          cases e3 : c[j]? with
          | none => rw [e3] at h; cases h
          | some y => simp [(Array.getElem?_eq_some_iff.1 e3).1]
        · rw [if_neg e2, Array.getElem?_setIfInBounds_ne (Ne.symm e2)]
      | _ => simp at h
  · simp only [e, if_false]
    rw [if_neg (fun h => e h.1.symm)]
theorem st_rule {s : St} {k k' b i : Nat} {v0 v : Value} {K : HP} (h : s.w k b i = some (.v v0)) (hv : one v = true) (hk : k' < 1152921504606846976 + 1152921504606846976 * s.H.size) (hk0 : k ≠ 0)
    (hK : ∀ s' : St, Sets s s' b i k' [v] → K s'.H) : st ⟨b, i, none⟩ v K s.H := by
  have h1 := (w_some h).1
  have hc : s.c b i ≠ 0 := by rw [(w_some h).2]; exact hk0
  refine ⟨hv, by rw [pk_cell h1]; rfl, s.fz _ _ hc, hK (s.set b i k' v hk hc) ⟨by simp [St.set, setc], ?_, ?_, fun x => sh_setc x⟩⟩
  · intro j x hj
    have e : j = 0 := by cases j with
      | zero => rfl
      | succ j => simp at hj
    subst e
    simp at hj; subst hj
    refine w_mk ?_ ?_
    · rw [St.set]; simp only; rw [pk_setc h1]; simp
    · simp [St.set]
  · intro x j hn
    have hn' : ¬(x = b ∧ j = i) := fun ⟨e1, e2⟩ => hn ⟨e1, by omega, by simp; omega⟩
    refine ⟨by simp [St.set, hn'], ?_⟩
    rw [St.set]; simp only; rw [pk_setc h1, if_neg hn']
theorem sts_rule {k k' b : Nat} {K : HP} : ∀ (vs : List Value) {s : St} {o i : Nat}, (∀ j, j < vs.length → ∃ v0, s.w k b (o + i + j) = some (.v v0)) → (∀ v ∈ vs, one v = true) → k' < 1152921504606846976 + 1152921504606846976 * s.H.size → k ≠ 0 →
    (∀ s' : St, Sets s s' b (o + i) k' vs → K s'.H) → sts ⟨b, o, none⟩ i vs K s.H
  | [], s, o, i, h, hv, hk, hk0, hK => hK s ⟨rfl, At.nil, fun _ _ _ => ⟨rfl, rfl⟩, fun _ => rfl⟩
  | v :: r, s, o, i, h, hv, hk, hk0, hK => by
    simp only [sts, add_at]
    obtain ⟨v0, h0⟩ := h 0 (by simp)
    refine st_rule (by simpa using h0) (hv v List.mem_cons_self) hk hk0 fun s1 h1 => ?_
    refine sts_rule (k := k) (k' := k') r (o := o) (i := i + 1) (fun j hj => ?_) (fun v hv' => hv v (List.mem_cons_of_mem _ hv')) (by rw [h1.sz]; exact hk) hk0 fun s2 h2 => ?_
    · obtain ⟨v1, h3⟩ := h (j + 1) (by simp; omega)
      refine ⟨v1, ?_⟩
      have := h1.old b (o + (i + 1) + j) (fun ⟨_, h4, h5⟩ => by simp at h5; omega)
      rw [show o + i + (j + 1) = o + (i + 1) + j by omega] at h3
      exact w_mk (this.2.trans (w_some h3).1) (this.1.trans (w_some h3).2)
    · refine hK s2 ⟨h2.sz.trans h1.sz, ?_, ?_, fun x => (h2.shp x).trans (h1.shp x)⟩
      · refine At.cons ?_ (by rw [show o + i + 1 = o + (i + 1) by omega]; exact h2.here)
        have h4 := h1.here 0 v (by simp)
        have h5 := h2.old b (o + i) (fun ⟨_, h4, h5⟩ => by omega)
        rw [Nat.add_zero] at h4
        exact w_mk (h5.2.trans (w_some h4).1) (h5.1.trans (w_some h4).2)
      · intro x j hn
        have h4 := h2.old x j (fun ⟨e1, e2, e3⟩ => hn ⟨e1, by omega, by simp; omega⟩)
        have h5 := h1.old x j (fun ⟨e1, e2, e3⟩ => hn ⟨e1, by omega, by simp at e3 ⊢; omega⟩)
        exact ⟨h4.1.trans h5.1, h4.2.trans h5.2⟩
/-! a whole object is written -/
structure SetO (s s' : St) (b k : Nat) (o : Obj) : Prop where
  sz : s'.H.size = s.H.size
  here : s'.w k b 0 = some (.o o)
  old : ∀ x i, x ≠ b → s'.c x i = s.c x i ∧ pk s'.H x i = pk s.H x i
  rest : ∀ i, s'.c b i = s.c b i ∧ (i ≠ 0 → pk s'.H b i = none)
  shp : ∀ x, sh s'.H x = sh s.H x
theorem SetO.step {s s' : St} {b k : Nat} {o : Obj} (h : SetO s s' b k o) {S : List Nat} (hq : k ∈ S) (h0 : k ≠ 0) (hp : ∀ i, i ≠ 0 → pk s.H b i = none) : Step S s s' :=
  ⟨by rw [h.sz]; exact Nat.le_refl _, fun x i hx hn => by
    by_cases e : x = b
    · subst e
      by_cases e2 : i = 0
      · subst e2
        have hc := (h.rest 0).1
        rw [(w_some h.here).2] at hc
        rw [← hc] at hn
        rcases hn with hn | hn
        · exact absurd hn h0
        · exact absurd hq hn
      · exact ⟨(h.rest i).1, ((h.rest i).2 e2).trans (hp i e2).symm⟩
    · exact h.old x i e, fun x _ => h.shp x⟩
theorem seto_rule {s : St} {b k : Nat} {o0 o : Obj} {K : HP} (h : s.w k b 0 = some (.o o0)) (ho : Obj.cl o = false) (hK : ∀ s' : St, SetO s s' b k o → K s'.H) : K (s.H.setIfInBounds b o) := by
  have hlt := w_lt h
  have hc := (w_some h).2
  have hg : (s.H.setIfInBounds b o)[b]? = some o := by rw [Array.getElem?_setIfInBounds_self]; simp [hlt]
  refine hK ⟨s.H.setIfInBounds b o, s.c, fun x i hx => by simp at hx ⊢; exact s.wf x i hx, fun x i hx => by
    have := s.fz x i hx
    unfold frz at this ⊢
    by_cases e : x = b
    · subst e
      rw [hg]
      cases o <;> simp_all [Obj.cl]
    · simp only [Array.getElem?_setIfInBounds_ne (Ne.symm e)]; exact this⟩ ⟨by simp, w_mk (pk_obj hg ho) hc, fun x i hx => ⟨rfl, ?_⟩, fun i => ⟨rfl, fun hi => ?_⟩, fun x => ?_⟩
  · unfold pk; rw [Array.getElem?_setIfInBounds_ne (Ne.symm hx)]
  · unfold pk; rw [hg]; cases o <;> simp_all [Obj.cl]
  · by_cases e : x = b
    · subst e
      obtain ⟨e1, _, e2⟩ := obj_pk (w_some h).1
      unfold sh
      simp only [hg, e1]
      cases o <;> cases o0 <;> simp_all [Obj.cl]
    · unfold sh
      simp only [Array.getElem?_setIfInBounds_ne (Ne.symm e)]
theorem obj_rest {s : St} {b k : Nat} {o : Obj} (h : s.w k b 0 = some (.o o)) (i : Nat) (hi : i ≠ 0) : pk s.H b i = none := by
  obtain ⟨h1, _, h3⟩ := obj_pk (w_some h).1
  unfold pk; rw [h1]; cases o <;> simp_all [Obj.cl]
/-! small steps -/
theorem nn_some {a : Addr} {K : Addr → HP} {H : Heap} : nn (some a) K H ↔ K a H := by simp [nn]
theorem ldI_of {k : IntKind} {a : Addr} {K : Int → HP} {H : Heap} {n : Int} (h : cell H a = some (.int k n)) : ldI k a K H ↔ K n H := by simp [ldI, h]
theorem w64_id {n : Int} (h1 : -9223372036854775808 ≤ n) (h2 : n < 9223372036854775808) : w64 n = n := by
  unfold w64 IntKind.wrap
  simp [IntKind.bits, IntKind.signed]
  omega
end Go.Ph
end
section
set_option linter.all false
namespace Go.Ph
/-- how a thing stands in cells -/
structure Ty (α : Type) where
  n : Nat
  R : View → α → List Value → Prop
  len : ∀ {V x vs}, R V x vs → vs.length = n
  mono : ∀ {V V' x vs}, VLe V V' → R V x vs → R V' x vs
  one : ∀ {V x vs}, R V x vs → ∀ v ∈ vs, Go.Ph.one v = true
def El {α : Type} (t : Ty α) (V W : View) (x : α) (b o : Nat) : Prop := ∃ vs, t.R V x vs ∧ At W b o vs
theorem El.mono {α : Type} {t : Ty α} {V V' W W' : View} {x : α} {b o : Nat} (h : El t V W x b o) (hV : VLe V V') (hW : VLe W W') : El t V' W' x b o := by
  obtain ⟨vs, h1, h2⟩ := h
  exact ⟨vs, t.mono hV h1, h2.mono hW⟩
/-- a list behind a slice: the cells are seen in W, what they lead to in V -/
structure LsW {α : Type} (t : Ty α) (V W : View) (l : List α) (sl : Sl) : Prop where
  len : sl.len = l.length
  cap : sl.len ≤ sl.cap
  nil : sl.a = none → sl.cap = 0
  at_ : ∀ a, sl.a = some a → (0 < sl.cap → a.spot = none) ∧ ∀ j x, l[j]? = some x → El t V W x a.block (a.off + j * t.n)
abbrev Ls {α : Type} (t : Ty α) (V : View) (l : List α) (sl : Sl) : Prop := LsW t V V l sl
theorem LsW.mono {α : Type} {t : Ty α} {V V' W W' : View} {l : List α} {sl : Sl} (h : LsW t V W l sl) (hV : VLe V V') (hW : VLe W W') : LsW t V' W' l sl :=
  ⟨h.len, h.cap, h.nil, fun a ha => ⟨(h.at_ a ha).1, fun j x hx => ((h.at_ a ha).2 j x hx).mono hV hW⟩⟩
theorem Ls.st {α : Type} {t : Ty α} {s s' : St} {l : List α} {sl : Sl} {S : List Nat} (h : Ls t (s.w 0) l sl) (hs : Step S s s') : Ls t (s'.w 0) l sl := LsW.mono h hs.v0 hs.v0
theorem Ls.nil_ {α : Type} {t : Ty α} {V W : View} : LsW t V W [] ⟨none, 0, 0⟩ := ⟨rfl, Nat.le_refl _, fun _ => rfl, fun a ha => by cases ha⟩
theorem Ls.lt {α : Type} {t : Ty α} {V W : View} {l : List α} {sl : Sl} (h : LsW t V W l sl) {j : Nat} (hj : j < l.length) : ∃ b o, sl.a = some ⟨b, o, none⟩ := by
  cases e : sl.a with
  | none => have := h.nil e; have := h.len; have := h.cap; omega
  | some a =>
    obtain ⟨b, o, sp⟩ := a
    have := (h.at_ _ e).1 (by have := h.len; have := h.cap; omega)
    simp at this; subst this
    exact ⟨b, o, rfl⟩
def tI (k : IntKind) : Ty Int := ⟨1, fun _ n vs => vs = [.int k n], by rintro _ _ _ rfl; rfl, fun _ h => h, by rintro _ _ _ rfl; simp [one]⟩
def tS : Ty ByteArray := ⟨1, fun _ n vs => vs = [.string n], by rintro _ _ _ rfl; rfl, fun _ h => h, by rintro _ _ _ rfl; simp [one]⟩
def tB : Ty Bool := ⟨1, fun _ n vs => vs = [.bool n], by rintro _ _ _ rfl; rfl, fun _ h => h, by rintro _ _ _ rfl; simp [one]⟩
def tP : Ty (Option Addr) := ⟨1, fun _ n vs => vs = [.pointer n], by rintro _ _ _ rfl; rfl, fun _ h => h, by rintro _ _ _ rfl; simp [one]⟩
def tM : Ty (Option Nat) := ⟨1, fun _ n vs => vs = [.map n], by rintro _ _ _ rfl; rfl, fun _ h => h, by rintro _ _ _ rfl; simp [one]⟩
def tBy : Ty UInt8 := ⟨1, fun _ n vs => vs = [.int .u8 n.toNat], by rintro _ _ _ rfl; rfl, fun _ h => h, by rintro _ _ _ rfl; simp [one]⟩
/-- the cells of a list -/
theorem LsW.cells {α : Type} {t : Ty α} {V W : View} : ∀ (l : List α) (b o : Nat), (∀ j x, l[j]? = some x → El t V W x b (o + j * t.n)) →
    ∃ vs, vs.length = l.length * t.n ∧ At W b o vs ∧ (∀ v ∈ vs, one v = true) ∧ ∀ (W' : View) (b' o' : Nat), At W' b' o' vs → ∀ j x, l[j]? = some x → El t V W' x b' (o' + j * t.n)
  | [], b, o, h => ⟨[], by simp, At.nil, by simp, fun _ _ _ _ j x hx => by simp at hx⟩
  | y :: l, b, o, h => by
    obtain ⟨ws, h1, h2⟩ := h 0 y rfl
    have hl := t.len h1
    obtain ⟨vs, g1, g2, g3, g4⟩ := LsW.cells (t := t) (V := V) (W := W) l b (o + t.n) (fun j x hx => by
      have := h (j + 1) x (by simpa using hx)
      rwa [show o + (j + 1) * t.n = o + t.n + j * t.n by rw [Nat.add_mul]; omega] at this)
    refine ⟨ws ++ vs, by simp [hl, g1, Nat.add_mul]; omega, At.append (by simpa using h2) (by rw [hl]; exact g2), ?_, ?_⟩
    · intro v hv
      rcases List.mem_append.1 hv with hv | hv
      · exact t.one h1 v hv
      · exact g3 v hv
    · intro W' b' o' hw j x hx
      have hw1 : At W' b' o' ws := fun i v hi => hw i v (by rw [List.getElem?_append_left (List.getElem?_eq_some_iff.1 hi).1]; exact hi)
      have hw2 : At W' b' (o' + t.n) vs := fun i v hi => by
        have := hw (t.n + i) v (by rw [List.getElem?_append_right (by omega), hl]; simpa using hi)
        rwa [← Nat.add_assoc] at this
      cases j with
      | zero => simp at hx; subst hx; exact ⟨ws, h1, by simpa using hw1⟩
      | succ j =>
        have := g4 W' b' (o' + t.n) hw2 j x (by simpa using hx)
        rwa [show o' + (j + 1) * t.n = o' + t.n + j * t.n by rw [Nat.add_mul]; omega]
theorem LsW.row {α : Type} {t : Ty α} {s : St} {V : View} {k : Nat} {l : List α} {sl : Sl} (h : LsW t V (s.w k) l sl) :
    ∃ vs, vs.length = l.length * t.n ∧ Row s.H sl.a (sl.len * t.n) vs ∧ (∀ v ∈ vs, one v = true) ∧ ∀ (W' : View) (b' o' : Nat), At W' b' o' vs → ∀ j x, l[j]? = some x → El t V W' x b' (o' + j * t.n) := by
  cases e : sl.a with
  | none =>
    have : l = [] := by have := h.nil e; have := h.len; have := h.cap; exact List.eq_nil_of_length_eq_zero (by omega)
    subst this
    exact ⟨[], by simp, rfl, by simp, fun _ _ _ _ j x hx => by simp at hx⟩
  | some a =>
    obtain ⟨h1, h2⟩ := h.at_ a e
    obtain ⟨vs, g1, g2, g3, g4⟩ := LsW.cells l a.block a.off h2
    refine ⟨vs, g1, ⟨by rw [g1, h.len], fun j v hj => ?_⟩, g3, g4⟩
    obtain ⟨b, o, sp⟩ := a
    have h1 := h1 (by
      have h3 := (List.getElem?_eq_some_iff.1 hj).1
      rw [g1] at h3
      have : 0 < l.length := by rcases Nat.eq_zero_or_pos l.length with e | e; rw [e, Nat.zero_mul] at h3; omega; exact e
      have := h.len; have := h.cap; omega)
    simp at h1; subst h1
    exact g2.cell j hj
/-- the first elements' row -/
theorem LsW.take {α : Type} {t : Ty α} {V W : View} {l : List α} {sl : Sl} (h : LsW t V W l sl) (m : Nat) (hm : m ≤ l.length) : LsW t V W (l.take m) ⟨sl.a, m, sl.cap⟩ :=
  ⟨by simp; omega, by have := h.cap; have := h.len; simp; omega, h.nil, fun a ha => ⟨(h.at_ a ha).1, fun j x hx => (h.at_ a ha).2 j x (by
    rw [List.getElem?_take] at hx
    split at hx
    · exact hx
    · cases hx)⟩⟩
/-- a list that is built: what is behind it is colour q's -/
structure Bld {α : Type} (t : Ty α) (q : Nat) (s : St) (l : List α) (sl : Sl) : Prop where
  ls : Ls t (s.w 0) l sl
  own : ∀ a, sl.a = some a → ∀ i, l.length * t.n ≤ i → i < sl.cap * t.n → ∃ v, s.w q a.block (a.off + i) = some (.v v)
theorem Bld.nil {α : Type} {t : Ty α} {q : Nat} {s : St} : Bld t q s [] ⟨none, 0, 0⟩ := ⟨Ls.nil_, fun a ha => by cases ha⟩
theorem Bld.st {α : Type} {t : Ty α} {q : Nat} {s s' : St} {l : List α} {sl : Sl} {S : List Nat} (h : Bld t q s l sl) (hs : Step S s s') (hq : q ∉ S) : Bld t q s' l sl :=
  ⟨Ls.st h.ls hs, fun a ha i h1 h2 => (h.own a ha i h1 h2).imp fun v hv => hs.view hq _ _ _ hv⟩
theorem zrowC_length (z : Array Value) : ∀ n, (zrow z n).length = n * z.size
  | 0 => by simp [zrow]
  | n + 1 => by simp [zrow, zrowC_length z n, Nat.add_mul]; omega
theorem app_rule {α : Type} {t : Ty α} {q kx : Nat} {s : St} {l m : List α} {sl xs : Sl} {size bytes : Nat} {zero : Array Value} {K : Sl → HP}
    (hB : Bld t q s l sl) (hx : LsW t (s.w 0) (s.w kx) m xs)
    (hK : ∀ s' sl', Step [q] s s' → Bld t q s' (l ++ m) sl' → K sl' s'.H) 
    (hn : size = t.n := by rfl) (hz : zero.size = t.n := by rfl) (hb : (l.length + m.length) * bytes ≤ 140737488355328 := by first | omega | (simp; omega))
    (hl : l.length + m.length < 4611686018427387904 := by first | omega | (simp; omega)) (hq : q < 2305843009213693952 + 1152921504606846976 * s.H.size := by first | omega | (unfold own; omega)) (hq0 : q ≠ 0 := by first | assumption | omega | (unfold own; omega)) : app size bytes zero sl xs K s.H := by
  subst hn
  obtain ⟨new, n1, n2, n3, n4⟩ := hx.row
  have hxl := hx.len
  have hsl := hB.ls.len
  refine ⟨new, n2, fun hc => ?_, fun hc => ?_⟩
  · cases e : sl.a with
    | none =>
      have h0 := hB.ls.nil e
      have hm : m = [] := List.eq_nil_of_length_eq_zero (by omega)
      have hl0 : l = [] := List.eq_nil_of_length_eq_zero (by omega)
      subst hm hl0
      simp only
      have := hK s ⟨none, sl.len + xs.len, sl.cap⟩ Step.refl ⟨⟨by simp; simp at hxl hsl; omega, by simp at hxl hsl ⊢; omega, fun _ => h0, fun a ha => by cases ha⟩, fun a ha => by cases ha⟩
      exact this
    | some a =>
      obtain ⟨g1, g2⟩ := hB.ls.at_ a e
      have hown := hB.own a e
      obtain ⟨b, o, sp⟩ := a
      by_cases hc0 : sl.cap = 0
      · have hm : m = [] := List.eq_nil_of_length_eq_zero (by omega)
        have hl0 : l = [] := List.eq_nil_of_length_eq_zero (by omega)
        subst hm hl0
        have hnew : new = [] := List.eq_nil_of_length_eq_zero (by simpa using n1)
        subst hnew
        exact hK s ⟨some ⟨b, o, sp⟩, sl.len + xs.len, sl.cap⟩ Step.refl ⟨⟨by simp at hxl hsl ⊢; omega, hc, fun h => (by cases h), fun a ha => ⟨fun h => by simp only at h; omega, fun j x hx => by simp at hx⟩⟩, fun a ha i h1 h2 => by simp only [hc0, Nat.zero_mul] at h2; omega⟩
      have g1 := g1 (by omega)
      simp at g1; subst g1
      simp only [add_at]
      simp only at hown g2
      rw [hsl]
      have hcap : (l.length + m.length) * t.n ≤ sl.cap * t.n := Nat.mul_le_mul_right _ (by omega)
      rw [Nat.add_mul] at hcap
      refine sts_rule (k := q) (k' := 0) new (fun j hj => ?_) n3 (by omega) hq0 fun s' h' => ?_
      · have := hown (l.length * t.n + j) (by omega) (by rw [n1] at hj; omega)
        rwa [show o + l.length * t.n + 0 + j = o + (l.length * t.n + j) by omega]
      · have hst : Step [q] s s' := h'.step (q := q) (by simp) hq0 fun i hi => by
          obtain ⟨v, hv⟩ := hown (l.length * t.n + i) (by omega) (by rw [n1] at hi; omega)
          rw [show o + l.length * t.n + 0 + i = o + (l.length * t.n + i) by omega]
          exact (w_some hv).2
        refine hK s' _ hst ⟨⟨by simp [hxl], by simp; omega, fun h => (by cases h), fun a ha => ?_⟩, fun a ha i hi1 hi2 => ?_⟩
        · simp at ha; subst ha
          refine ⟨fun _ => rfl, fun j x hj => ?_⟩
          by_cases ej : j < l.length
          · rw [List.getElem?_append_left ej] at hj
            exact (g2 j x hj).mono hst.v0 hst.v0
          · rw [List.getElem?_append_right (by omega)] at hj
            have := n4 (s'.w 0) b (o + l.length * t.n) (by have := h'.here; rwa [Nat.add_zero] at this) _ _ hj
            have e2 : o + j * t.n = o + l.length * t.n + (j - l.length) * t.n := by
              rw [Nat.sub_mul]
              have : l.length * t.n ≤ j * t.n := Nat.mul_le_mul_right _ (by omega)
              omega
            simp only
            rw [e2]
            exact this.mono hst.v0 (VLe.refl _)
        · simp at ha; subst ha
          simp only at hi2 ⊢
          rw [List.length_append, Nat.add_mul] at hi1
          obtain ⟨v, hv⟩ := hown i (by omega) hi2
          refine ⟨v, ?_⟩
          have := h'.old b (o + i) (fun ⟨_, h1, h2⟩ => by rw [n1] at h2; omega)
          exact w_mk (this.2.trans (w_some hv).1) (this.1.trans (w_some hv).2)
  · refine ⟨growslice_fits hc (by rw [hsl, hxl]; exact hb), by omega, ?_⟩
    obtain ⟨old, o1, o2, o3, o4⟩ := hB.ls.row
    refine ⟨old, o2, fun ty c hcc => ?_⟩
    refine newc_f (K := fun b => K ⟨some (at0 b), sl.len + xs.len, c⟩) (κ := fun i => if i < (l.length + m.length) * t.n then 0 else q) (lo := 0) (hi := 0) (fun i => ?_) (fun i _ => by simp) fun s' b hnew => ?_
    · split <;> omega
    · have hst : Step [q] s s' := hnew.step.n
      have hat : At (s'.w 0) b 0 (old ++ new) := fun i v hi => by
        have hlt := (List.getElem?_eq_some_iff.1 hi).1
        rw [List.length_append] at hlt
        refine w_mk ?_ ?_
        · rw [Nat.zero_add, hnew.here, List.getElem?_append_left (by simpa using hlt), hi]; rfl
        · rw [Nat.zero_add, hnew.col, if_pos (by rw [Nat.add_mul]; omega)]
      refine hK s' ⟨some (at0 b), sl.len + xs.len, c⟩ hst ⟨⟨by simp [hsl, hxl], by simp; omega, fun h => (by cases h), fun a ha => ?_⟩, fun a ha i hi1 hi2 => ?_⟩
      · simp at ha; subst ha
        refine ⟨fun _ => rfl, fun j x hj => ?_⟩
        simp only
        by_cases ej : j < l.length
        · rw [List.getElem?_append_left ej] at hj
          have := o4 (s'.w 0) b 0 (fun i v hi => hat i v (by rw [List.getElem?_append_left (List.getElem?_eq_some_iff.1 hi).1]; exact hi)) j x hj
          exact this.mono hst.v0 (VLe.refl _)
        · rw [List.getElem?_append_right (by omega)] at hj
          have := n4 (s'.w 0) b (l.length * t.n) (fun i v hi => by
            have := hat (old.length + i) v (by rw [List.getElem?_append_right (by omega)]; simpa using hi)
            rwa [Nat.zero_add, o1] at this) _ x hj
          have e2 : 0 + j * t.n = l.length * t.n + (j - l.length) * t.n := by
            rw [Nat.sub_mul]
            have : l.length * t.n ≤ j * t.n := Nat.mul_le_mul_right _ (by omega)
            omega
          rw [e2]
          exact this.mono hst.v0 (VLe.refl _)
      · simp at ha; subst ha
        simp only at hi2 ⊢
        rw [List.length_append] at hi1
        have hlen : (old ++ new ++ zrow zero (c - (sl.len + xs.len))).length = c * t.n := by
          rw [List.length_append, List.length_append, zrowC_length, o1, n1, hz, ← Nat.add_mul, ← Nat.add_mul]
          congr 1; omega
        rw [Nat.zero_add]
        refine ⟨(old ++ new ++ zrow zero (c - (sl.len + xs.len)))[i]'(by omega), w_mk ?_ ?_⟩
        · rw [hnew.here, List.getElem?_eq_getElem (by omega)]; rfl
        · rw [hnew.col, if_neg (by omega)]
/-- one thing, in a new block -/
theorem Ls.single {α : Type} {t : Ty α} {V W : View} {x : α} {vs : List Value} {b : Nat} (h : t.R V x vs) (ha : At W b 0 vs) : LsW t V W [x] ⟨some (at0 b), 1, 1⟩ :=
  ⟨rfl, Nat.le_refl _, fun h => (by cases h), fun a e => by
    simp at e; subst e
    refine ⟨fun _ => rfl, fun j y hj => ?_⟩
    cases j with
    | zero => simp at hj; subst hj; exact ⟨vs, h, by simpa using ha⟩
    | succ j => simp at hj⟩
theorem app1_rule {α : Type} {t : Ty α} {q : Nat} {s : St} {l : List α} (x : α) {cs : Array Value} {sl : Sl} {size bytes : Nat} {zero : Array Value} {K : Sl → HP}
    (hB : Bld t q s l sl) (hx : t.R (s.w 0) x cs.toList) 
    (hK : ∀ s' sl', Step [q] s s' → Bld t q s' (l ++ [x]) sl' → K sl' s'.H) (hn : size = t.n := by rfl) (hz : zero.size = t.n := by rfl)
    (hb : (l.length + 1) * bytes ≤ 140737488355328 := by first | omega | (simp; omega))
    (hl : l.length < 4611686018427387903 := by first | omega | (simp; omega)) (hq : q < 2305843009213693952 + 1152921504606846976 * s.H.size := by first | omega | (unfold own; omega)) (hq0 : q ≠ 0 := by first | assumption | omega | (unfold own; omega)) :
    newc cs (fun b => app size bytes zero sl ⟨some (at0 b), 1, 1⟩ K) s.H := by
  refine newc_k 1 (by omega) fun s1 b h1 h2 => ?_
  have e1 : Step [] s s1 := h1.step
  refine app_rule (hB.st e1 (by simp)) (Ls.single (t.mono e1.v0 hx) h2) (fun s2 sl2 h3 h4 => hK s2 sl2 (e1.n.trans h3) h4) hn hz (by simpa using hb) (by simp; omega) (by rw [h1.sz]; omega) hq0
/-! reading -/
theorem ixL_rule {α : Type} {t : Ty α} {V W : View} {l : List α} {sl : Sl} {size : Nat} {i : Int} {K : Addr → HP} {H : Heap} (h : LsW t V W l sl) (h0 : 0 ≤ i) (h1 : i < l.length) 
    (hK : ∀ b o x, l[i.toNat]? = some x → El t V W x b o → K ⟨b, o, none⟩ H) (hn : size = t.n := by rfl) : ixL sl size i K H := by
  subst hn
  obtain ⟨b, o, ha⟩ := Ls.lt h (j := i.toNat) (by omega)
  refine ⟨_, ha, h0, by rw [h.len]; exact h1, ?_⟩
  rw [add_at]
  have hx : l[i.toNat]? = some (l[i.toNat]'(by omega)) := List.getElem?_eq_getElem _
  exact hK _ _ _ hx ((h.at_ _ ha).2 _ _ hx)
theorem bcells_length (s : ByteArray) : (bcells s).length = s.size := by simp [bcells]
theorem ldBy_rule {s : St} {V : View} {k : Nat} {l : List UInt8} {sl : Sl} {K : ByteArray → HP} (h : LsW tBy V (s.w k) l sl) (hK : K ⟨l.toArray⟩ s.H) : ldBy sl K s.H := by
  refine ⟨⟨l.toArray⟩, ?_, hK⟩
  obtain ⟨vs, h1, h2, h3, h4⟩ := h.row
  have hvs : vs = bcells ⟨l.toArray⟩ := by
    apply List.ext_getElem?
    intro j
    by_cases hj : j < l.length
    · have hb : j < vs.length := by rw [h1]; simp [tBy]; exact hj
      let W' : View := fun b i => (vs[i]?).map .v
      obtain ⟨ws, g1, g2⟩ := h4 W' 0 0 (fun i v hi => by simp [W', hi]) j l[j] (List.getElem?_eq_getElem hj)
      change ws = _ at g1
      subst g1
      have := g2 0 _ rfl
      simp only [W', tBy, Nat.mul_one, Nat.zero_add, Nat.add_zero, Option.map_eq_some_iff, Xo.v.injEq] at this
      obtain ⟨v, hv, rfl⟩ := this
      rw [hv]
      simp [bcells, hj]
    · rw [List.getElem?_eq_none (by rw [h1]; simp [tBy]; omega), List.getElem?_eq_none (by rw [bcells_length]; simp [ByteArray.size]; omega)]
  rw [← hvs]
  simpa [tBy] using h2
theorem At.bytes {W : View} {b o : Nat} {bs : ByteArray} (h : At W b o (bcells bs)) {V : View} (j : Nat) (x : UInt8) (hx : bs.data.toList[j]? = some x) : El tBy V W x b (o + j * tBy.n) := by
  refine ⟨[.int .u8 x.toNat], rfl, fun i v hi => ?_⟩
  have e : i = 0 := by cases i with
    | zero => rfl
    | succ j => simp at hi
  subst e
  simp at hi; subst hi
  simp only [tBy, Nat.mul_one, Nat.add_zero]
  exact h j _ (by simp only [bcells, List.getElem?_map, hx, Option.map_some])
theorem s2b_rule {s : St} {bs : ByteArray} {K : Sl → HP} (q : Nat) (hq : q < 2305843009213693952 + 1152921504606846976 * s.H.size) (hK : ∀ s' sl, Step [] s s' → s'.H.size = s.H.size + 1 → Bld tBy q s' bs.data.toList sl → K sl s'.H) : s2b bs K s.H := by
  intro cap ty hc
  refine newc_f (K := fun b => K ⟨some (at0 b), bs.size, cap⟩) (cs := bcells bs ++ List.replicate (cap - bs.size) (Value.int .u8 0)) (lo := cap) (hi := cap + 1) (κ := fun i => if i < bs.size then 0 else if i < cap then q else 0) (fun i => by split; omega; split <;> omega) (fun i hi => ?_) fun s' b hnew => ?_
  · split at hi
    · exact absurd rfl hi
    · split at hi
      · omega
      · exact absurd rfl hi
  · have hat : At (s'.w 0) b 0 (bcells bs) := fun i v hi => by
      have hlt := (List.getElem?_eq_some_iff.1 hi).1
      rw [bcells_length] at hlt
      refine w_mk ?_ ?_
      · rw [Nat.zero_add, hnew.here, List.getElem?_append_left (by rw [bcells_length]; exact hlt), hi]; rfl
      · rw [Nat.zero_add, hnew.col, if_pos hlt]
    have hsz : bs.data.toList.length = bs.size := by simp
    refine hK s' ⟨some (at0 b), bs.size, cap⟩ hnew.step hnew.sz ⟨⟨hsz.symm, hc, fun h => (by cases h), fun a ha => ?_⟩, fun a ha i h1 h2 => ?_⟩
    · simp at ha; subst ha
      exact ⟨fun _ => rfl, fun j x hj => hat.bytes j x hj⟩
    · simp at ha; subst ha
      simp only [tBy, Nat.mul_one] at h1 h2
      rw [hsz] at h1
      simp only [Nat.zero_add]
      refine ⟨(bcells bs ++ List.replicate (cap - bs.size) (Value.int .u8 0))[i]'(by simp [bcells_length]; omega), w_mk ?_ ?_⟩
      · rw [hnew.here, List.getElem?_eq_getElem (by simp [bcells_length]; omega)]; rfl
      · rw [hnew.col, if_neg (by omega), if_pos h2]
/-- a part of a slice -/
theorem slL_rule {α : Type} {t : Ty α} {V W : View} {l : List α} {sl : Sl} {size : Nat} {lo hi mx : Int} {K : Sl → HP} {H : Heap} (h : LsW t V W l sl) (h0 : 0 ≤ lo) (h1 : lo ≤ hi) (h2 : hi ≤ l.length) (h3 : hi ≤ mx) (h4 : mx ≤ sl.cap)
    (hK : ∀ sl', LsW t V W ((l.take hi.toNat).drop lo.toNat) sl' → sl'.cap = mx.toNat - lo.toNat → K sl' H) (hn : size = t.n := by rfl) : slL sl size lo hi mx K H := by
  subst hn
  refine ⟨⟨h0, h1, h3, h4⟩, hK _ ⟨?_, ?_, ?_, ?_⟩ rfl⟩
  · simp; omega
  · simp; omega
  · intro he
    simp only at he ⊢
    split at he
    · omega
    · simp only [Option.map_eq_none_iff] at he
      have := h.nil he; omega
  · intro a ha
    simp only at ha
    cases e : sl.a with
    | none => rw [e] at ha; simp at ha
    | some a' =>
      obtain ⟨g1, g2⟩ := h.at_ a' e
      obtain ⟨b, o, sp⟩ := a'
      rw [e] at ha
      simp only [Option.map_some] at ha
      by_cases em : mx.toNat = lo.toNat
      · rw [if_pos em] at ha
        refine ⟨fun h => by simp only at h; omega, fun j x hj => ?_⟩
        rw [List.getElem?_drop, List.getElem?_eq_none (by simp; omega)] at hj
        cases hj
      · rw [if_neg em] at ha
        have g1 := g1 (by omega)
        simp at g1; subst g1
        rw [add_at] at ha
        simp at ha; subst ha
        refine ⟨fun _ => rfl, fun j x hj => ?_⟩
        rw [List.getElem?_drop, List.getElem?_take] at hj
        split at hj
        · have := g2 _ _ hj
          simp only at this ⊢
          rwa [show o + lo.toNat * t.n + j * t.n = o + (lo.toNat + j) * t.n by rw [Nat.add_mul]; omega]
        · cases hj
/-! loops -/
theorem least {P : Nat → Prop} : ∀ n, P n → ∃ m, P m ∧ ∀ k, P k → m ≤ k := by
  intro n
  induction n using Nat.strongRecOn with
  | ind n ih =>
    intro h
    by_cases e : ∃ k, k < n ∧ P k
    · obtain ⟨k, h1, h2⟩ := e; exact ih k h1 h2
    · exact ⟨n, h, fun k hk => by
        by_cases h3 : k < n
        · exact absurd ⟨k, h3, hk⟩ e
        · omega⟩
open Classical in
theorem loop_rule {σ : Type} {step : (σ → HP) → σ → HP} {ι : Type} (enc : ι → σ) (I : ι → St → Prop) (μ : ι → St → Nat) {v0 : σ} (i0 : ι) {s0 : St} (hv : v0 = enc i0) (h0 : I i0 s0)
    (h : ∀ i s, I i s → ∀ R : σ → HP, (∀ i' s', I i' s' → μ i' s' < μ i s → R (enc i') s'.H) → step R (enc i) s.H) : loop step v0 s0.H := by
  subst hv
  let P : σ → Heap → Nat → Prop := fun v H n => ∃ i s, v = enc i ∧ H = s.H ∧ I i s ∧ μ i s = n
  have hl : ∀ v H, (∃ n, P v H n) → ∃ m, P v H m ∧ ∀ k, P v H k → m ≤ k := fun v H ⟨n, hn⟩ => least n hn
  let M : σ → Heap → Nat := fun v H => if hh : ∃ n, P v H n then (hl v H hh).choose else 0
  refine ⟨fun v H => ∃ n, P v H n, M, ⟨_, i0, s0, rfl, rfl, h0, rfl⟩, ?_⟩
  intro v H hI
  have e1 : M v H = (hl v H hI).choose := dif_pos hI
  have h2 := (hl v H hI).choose_spec
  rw [← e1] at h2
  obtain ⟨⟨i, s, hv1, hH1, hi, hn⟩, _⟩ := h2
  rw [← hn, hv1, hH1]
  refine h i s hi _ fun i' s' hi' hlt => ?_
  have hex : ∃ n, P (enc i') s'.H n := ⟨_, i', s', rfl, rfl, hi', rfl⟩
  refine ⟨hex, ?_⟩
  have e2 : M (enc i') s'.H = (hl _ _ hex).choose := dif_pos hex
  have h3 := (hl _ _ hex).choose_spec
  rw [← e2] at h3
  have := h3.2 _ ⟨i', s', rfl, rfl, hi', rfl⟩
  omega
end Go.Ph
end
section
set_option linter.all false
namespace Go.Ph
theorem asI_v {k : IntKind} {n : Int} {K : Int → HP} : asI k (.int k n) K = K n := by simp [asI]
theorem asL_v {a : Option Addr} {n c : Nat} {K : Sl → HP} : asL (.slice a n c) K = K ⟨a, n, c⟩ := rfl
theorem asS_v {n : ByteArray} {K : ByteArray → HP} : asS (.string n) K = K n := rfl
theorem asB_v {n : Bool} {K : Bool → HP} : asB (.bool n) K = K n := rfl
theorem asM_v {n : Option Nat} {K : Option Nat → HP} : asM (.map n) K = K n := rfl
theorem asP_v {n : Option Addr} {K : Option Addr → HP} : asP (.pointer n) K = K n := rfl
theorem nn_at {b o : Nat} {K : Addr → HP} {H : Heap} (h : K ⟨b, o, none⟩ H) : nn (some ⟨b, o, none⟩) K H := ⟨_, rfl, h⟩
theorem ldI_at {s : St} {q b o i : Nat} {vs : List Value} {k : IntKind} {K : Int → HP} {n : Int} (h : At (s.w q) b o vs) (hi : vs[i]? = some (.int k n)) (hK : K n s.H) : ldI k (Addr.add ⟨b, o, none⟩ i) K s.H := ⟨n, h.cell i hi, hK⟩
theorem ldB_at {s : St} {q b o i : Nat} {vs : List Value} {K : Bool → HP} {n : Bool} (h : At (s.w q) b o vs) (hi : vs[i]? = some (.bool n)) (hK : K n s.H) : ldB (Addr.add ⟨b, o, none⟩ i) K s.H := ⟨n, h.cell i hi, hK⟩
theorem ldS_at {s : St} {q b o i : Nat} {vs : List Value} {K : ByteArray → HP} {n : ByteArray} (h : At (s.w q) b o vs) (hi : vs[i]? = some (.string n)) (hK : K n s.H) : ldS (Addr.add ⟨b, o, none⟩ i) K s.H := ⟨n, h.cell i hi, hK⟩
theorem ldP_at {s : St} {q b o i : Nat} {vs : List Value} {K : Option Addr → HP} {n : Option Addr} (h : At (s.w q) b o vs) (hi : vs[i]? = some (.pointer n)) (hK : K n s.H) : ldP (Addr.add ⟨b, o, none⟩ i) K s.H := ⟨n, h.cell i hi, hK⟩
theorem ldM_at {s : St} {q b o i : Nat} {vs : List Value} {K : Option Nat → HP} {n : Option Nat} (h : At (s.w q) b o vs) (hi : vs[i]? = some (.map n)) (hK : K n s.H) : ldM (Addr.add ⟨b, o, none⟩ i) K s.H := ⟨n, h.cell i hi, hK⟩
theorem ldL_at {s : St} {q b o i : Nat} {vs : List Value} {K : Sl → HP} {n : Sl} (h : At (s.w q) b o vs) (hi : vs[i]? = some (.slice n.a n.len n.cap)) (hK : K n s.H) : ldL (Addr.add ⟨b, o, none⟩ i) K s.H := ⟨n, h.cell i hi, hK⟩
theorem ldP_at0 {s : St} {q b o : Nat} {vs : List Value} {K : Option Addr → HP} {n : Option Addr} (h : At (s.w q) b o vs) (hi : vs[0]? = some (.pointer n)) (hK : K n s.H) : ldP ⟨b, o, none⟩ K s.H := ⟨n, by have := h.cell 0 hi; rwa [add_at, Nat.add_zero] at this, hK⟩
theorem ldI_at0 {s : St} {q b o : Nat} {vs : List Value} {k : IntKind} {K : Int → HP} {n : Int} (h : At (s.w q) b o vs) (hi : vs[0]? = some (.int k n)) (hK : K n s.H) : ldI k ⟨b, o, none⟩ K s.H := ⟨n, by have := h.cell 0 hi; rwa [add_at, Nat.add_zero] at this, hK⟩
theorem ldB_at0 {s : St} {q b o : Nat} {vs : List Value} {K : Bool → HP} {n : Bool} (h : At (s.w q) b o vs) (hi : vs[0]? = some (.bool n)) (hK : K n s.H) : ldB ⟨b, o, none⟩ K s.H := ⟨n, by have := h.cell 0 hi; rwa [add_at, Nat.add_zero] at this, hK⟩
theorem ldS_at0 {s : St} {q b o : Nat} {vs : List Value} {K : ByteArray → HP} {n : ByteArray} (h : At (s.w q) b o vs) (hi : vs[0]? = some (.string n)) (hK : K n s.H) : ldS ⟨b, o, none⟩ K s.H := ⟨n, by have := h.cell 0 hi; rwa [add_at, Nat.add_zero] at this, hK⟩
theorem ldM_at0 {s : St} {q b o : Nat} {vs : List Value} {K : Option Nat → HP} {n : Option Nat} (h : At (s.w q) b o vs) (hi : vs[0]? = some (.map n)) (hK : K n s.H) : ldM ⟨b, o, none⟩ K s.H := ⟨n, by have := h.cell 0 hi; rwa [add_at, Nat.add_zero] at this, hK⟩
theorem ldL_at0 {s : St} {q b o : Nat} {vs : List Value} {K : Sl → HP} {n : Sl} (h : At (s.w q) b o vs) (hi : vs[0]? = some (.slice n.a n.len n.cap)) (hK : K n s.H) : ldL ⟨b, o, none⟩ K s.H := ⟨n, by have := h.cell 0 hi; rwa [add_at, Nat.add_zero] at this, hK⟩
theorem bif_rule {c : Bool} {A B : HP} {H : Heap} (h1 : c = true → A H) (h2 : c = false → B H) : (bif c then A else B) H := by cases c <;> simp_all
theorem bif_dec {p : Prop} [Decidable p] {A B : HP} {H : Heap} (h1 : p → A H) (h2 : ¬p → B H) : (bif decide p then A else B) H := by by_cases h : p <;> simp_all
theorem bif_ndec {p : Prop} [Decidable p] {A B : HP} {H : Heap} (h1 : ¬p → A H) (h2 : p → B H) : (bif !decide p then A else B) H := by by_cases h : p <;> simp_all
theorem bif_t {A B : HP} {H : Heap} (h1 : A H) : (bif true then A else B) H := h1
theorem bif_f {A B : HP} {H : Heap} (h1 : B H) : (bif false then A else B) H := h1
theorem held_rule {A K : HP} {H : Heap} (h1 : A H) (h2 : K H) : held A K H := ⟨h1, h2⟩
theorem cat_rule {x y : ByteArray} {K : ByteArray → HP} {H : Heap} (h : x.size + y.size ≤ 9223372036854775807) (hK : K (x ++ y) H) : cat x y K H := ⟨h, hK⟩
/-- nothing of other blocks is touched -/
def Oth (b : Nat) (s s' : St) : Prop := ∀ x i, x ≠ b → s'.c x i = s.c x i ∧ pk s'.H x i = pk s.H x i
theorem Oth.w {b : Nat} {s s' : St} (h : Oth b s s') {k x i : Nat} (hx : x ≠ b) : s'.w k x i = s.w k x i := by
  unfold St.w; rw [(h x i hx).1, (h x i hx).2]
/-- a field is written -/
theorem fld_rule {s : St} {k b i : Nat} {vs : List Value} {v : Value} {K : HP} (h : At (s.w k) b 0 vs) (hi : i < vs.length) (hv : one v = true) (hk : k ≠ 0)
    (hK : ∀ s' : St, Step [k] s s' → s'.H.size = s.H.size → At (s'.w k) b 0 (vs.set i v) → Oth b s s' → K s'.H) : sts (Addr.add ⟨b, 0, none⟩ i) 0 [v] K s.H := by
  rw [add_at]
  have h0 := h i _ (List.getElem?_eq_getElem hi)
  have hc := (w_some h0).2
  have hlt := w_lt h0
  refine sts_rule (k := k) (k' := k) [v] (fun j hj => ?_) (by simpa using hv) ?_ hk fun s' h' => ?_
  · have e : j = 0 := by simp at hj; exact hj
    subst e
    exact ⟨_, h0⟩
  · rw [← hc]; exact s.wf _ _ hlt
  · refine hK s' (h'.step (q := k) (by simp) hk fun j hj => ?_) h'.sz ?_ fun x j hx => h'.old x j fun h => hx h.1
    · have e : j = 0 := by simp at hj; exact hj
      subst e; exact hc
    · intro j y hj
      by_cases e : j = i
      · subst e
        have : y = v := by rw [List.getElem?_set_self hi] at hj; simpa using hj.symm
        subst this
        have := h'.here 0 y rfl
        simpa using this
      · rw [List.getElem?_set_ne (Ne.symm e)] at hj
        have h2 := h j y hj
        have h3 := h'.old b (0 + j) (fun ⟨_, h4, h5⟩ => by simp at h5; omega)
        exact w_mk (h3.2.trans (w_some h2).1) (h3.1.trans (w_some h2).2)
/-! texts -/
theorem ba_ext {a b : ByteArray} (h : a.data.toList = b.data.toList) : a = b := by
  cases a; cases b; simp at h; simp [h]
theorem ba_len (p : ByteArray) : p.data.toList.length = p.size := by simp
theorem ba_nil (p : ByteArray) : p = ⟨#[]⟩ ↔ p.size = 0 := by
  constructor
  · rintro rfl; rfl
  · intro h; apply ba_ext; simpa using List.eq_nil_of_length_eq_zero ((ba_len p).trans h)
theorem ixS_rule {p : ByteArray} {i : Int} {K : Int → HP} {H : Heap} (h0 : 0 ≤ i) (h1 : i < p.size) (hK : ∀ c : UInt8, p.data.toList[i.toNat]? = some c → K c.toNat H) : ixS p i K H :=
  ⟨h0, by omega, hK _ (by rw [List.getElem?_eq_getElem (by rw [ba_len]; omega)]; simp; rfl)⟩
end Go.Ph
end
section
set_option linter.all false
namespace Go.Ph
open S
abbrev EntM := G_rf04_Entry
abbrev TurnM := G_rf04_Turn
def tEnt : Ty EntM := ⟨2, fun _ x vs => vs = [.string x.Name, .int .i64 x.File], by rintro _ _ _ rfl; rfl, fun _ h => h, by rintro _ _ _ rfl; simp [one]⟩
def tTurn : Ty TurnM := ⟨3, fun _ x vs => vs = [.string x.From, .string x.To, .int .i64 x.File], by rintro _ _ _ rfl; rfl, fun _ h => h, by rintro _ _ _ rfl; simp [one]⟩
structure WrM where
  At : Int
  B : ByteArray
def tWr : Ty WrM := ⟨2, fun _ x vs => vs = [.int .i64 x.At, .string x.B], by rintro _ _ _ rfl; rfl, fun _ h => h, by rintro _ _ _ rfl; simp [one]⟩
structure RFile where
  now : ByteArray
  sure : ByteArray
  waits : List WrM
def tRFile : Ty RFile := ⟨3, fun V x vs => ∃ sl : Sl, vs = [.string x.now, .string x.sure, sl.v] ∧ Ls tWr V x.waits sl, by rintro _ _ _ ⟨_, rfl, _⟩; rfl, by rintro _ _ _ _ h ⟨sl, rfl, h1⟩; exact ⟨sl, rfl, h1.mono h h⟩, by rintro _ _ _ ⟨_, rfl, _⟩; simp [one]⟩
namespace R
def find (l : List EntM) (n : ByteArray) : Int := match l.find? (fun e => decide (e.Name = n)) with | some e => e.File | none => -1
def without (l : List EntM) (n : ByteArray) : List EntM := l.filter (fun e => !decide (e.Name = n))
def gt (a b : ByteArray) : Bool := !(slt a b || decide (a = b))
def insAt (m : List EntM) (x : ByteArray) : Nat → Nat
  | 0 => 0
  | k + 1 => match m[k]? with
    | some e => if gt e.Name x then insAt m x k else k + 1
    | none => k + 1
def put (l : List EntM) (x : EntM) : List EntM := (without l x.Name).take (insAt (without l x.Name) x.Name (without l x.Name).length) ++ [x] ++ (without l x.Name).drop (insAt (without l x.Name) x.Name (without l x.Name).length)
def do_ (l : List EntM) (t : TurnM) : List EntM :=
  if t.File < 0 then
    if find l t.From < 0 then l
    else if t.To = ⟨#[]⟩ then without l t.From else put (without l t.From) ⟨t.To, find l t.From⟩
  else if t.To = ⟨#[]⟩ then l else put l ⟨t.To, t.File⟩
end R
theorem find_ok {s : St} {l : List EntM} {n : ByteArray} {sl : Sl} {K : Int → HP} (h : Ls tEnt (s.w 0) l sl) (hb : l.length ≤ 1000000000000) (hK : K (R.find l n) s.H) : rf04_find sl n K s.H := by
  unfold rf04_find
  refine loop_rule (fun i : Nat => [.int .i64 i]) (fun i s' => s' = s ∧ i ≤ l.length ∧ R.find (l.drop i) n = R.find l n) (fun i _ => l.length - i) 0 rfl ⟨rfl, Nat.zero_le _, rfl⟩ ?_
  rintro i s' ⟨rfl, hi, hf⟩ G hG
  simp only [List.getD_cons_zero, List.getD_cons_succ, asI_v, asL_v, asS_v, asB_v, asM_v, asP_v]
  rw [h.len]
  refine bif_dec (fun hc => ?_) (fun hc => ?_)
  · refine ixL_rule h (by omega) (by omega) fun b o x hx he => ?_
    obtain ⟨_, rfl, ha⟩ := he
    rw [Int.toNat_natCast] at hx
    have hd : l.drop i = x :: l.drop (i + 1) := by
      obtain ⟨h1, h2⟩ := List.getElem?_eq_some_iff.1 hx
      rw [List.drop_eq_getElem_cons h1, h2]
    rw [hd] at hf
    repeat (first|refine nn_at ?_|refine ldI_at ha rfl ?_|refine ldB_at ha rfl ?_|refine ldS_at ha rfl ?_|refine ldP_at ha rfl ?_|refine ldM_at ha rfl ?_|refine ldL_at ha rfl ?_)
    refine bif_dec (fun hn => ?_) (fun hn => ?_)
    · refine ixL_rule h (by omega) (by omega) fun b o x' hx' he => ?_
      obtain ⟨_, rfl, ha⟩ := he
      rw [Int.toNat_natCast, hx] at hx'
      simp at hx'; subst hx'
      repeat (first|refine nn_at ?_|refine ldI_at ha rfl ?_|refine ldB_at ha rfl ?_|refine ldS_at ha rfl ?_|refine ldP_at ha rfl ?_|refine ldM_at ha rfl ?_|refine ldL_at ha rfl ?_)
      rw [← hf] at hK
      simpa [R.find, hn] using hK
    · rw [w64_id (by omega) (by omega)]
      refine hG (i + 1) s' ⟨rfl, by omega, ?_⟩ (by omega)
      rw [← hf]
      simp [R.find, hn]
  · have : i = l.length := by omega
    subst this
    rw [← hf] at hK
    simpa [R.find] using hK
theorem put_len (l : List EntM) (x : EntM) : (R.put l x).length ≤ l.length + 1 := by
  have : (R.without l x.Name).length ≤ l.length := List.length_filter_le _ _
  simp [R.put]; omega
/-! the disk -/
structure RDisk where
  files : List RFile
  now : List EntM
  sure : List EntM
  waits : List TurnM
  cap : Int
  down : Bool
  calls : Int
  fail : Int
  crash : Int
  err : Int
/-- a disk of colour k stands in block b -/
structure RD (k : Nat) (s : St) (b : Nat) (d : RDisk) : Prop where
  k0 : k ≠ 0
  at_ : ∃ f n u w : Sl, At (s.w k) b 0 [.slice f.a f.len f.cap, .slice n.a n.len n.cap, .slice u.a u.len u.cap, .slice w.a w.len w.cap, .int .i64 d.cap, .bool d.down, .int .i64 d.calls, .int .i64 d.fail, .int .i64 d.crash, .int .i64 d.err] ∧
    Ls tRFile (s.w 0) d.files f ∧ Ls tEnt (s.w 0) d.now n ∧ Ls tEnt (s.w 0) d.sure u ∧ Ls tTurn (s.w 0) d.waits w
theorem RD.st {k : Nat} {s s' : St} {b : Nat} {d : RDisk} {S : List Nat} (h : RD k s b d) (hs : Step S s s') (hk : k ∉ S) : RD k s' b d := by
  obtain ⟨k0, f, n, u, w, h1, h2, h3, h4, h5⟩ := h
  exact ⟨k0, f, n, u, w, h1.mono (hs.view hk), h2.st hs, h3.st hs, h4.st hs, h5.st hs⟩
/-- the numbers of a disk are small -/
structure RDisk.Ok (d : RDisk) : Prop where
  now : d.now.length ≤ 1024
  sure : d.sure.length ≤ 1024
  calls0 : 0 ≤ d.calls
  calls : d.calls ≤ 1000000000000
  waits : d.waits.length ≤ d.calls
  files : d.files.length ≤ 1024 + d.calls
  fail : -1 ≤ d.fail ∧ d.fail < 9223372036854775808
  crash : -1 ≤ d.crash ∧ d.crash < 9223372036854775808
namespace R
def begin (d : RDisk) : RDisk × Int :=
  if d.down then (d, 11)
  else
    let d' := { d with calls := d.calls + 1, crash := if 0 ≤ d.crash then d.crash - 1 else d.crash, fail := if 0 ≤ d.fail then d.fail - 1 else d.fail }
    if d.crash = 0 then ({ d' with down := true }, 11) else if d.fail = 0 then (d', d.err) else (d', 0)
def turn (d : RDisk) (t : TurnM) : RDisk := { d with waits := d.waits ++ [t], now := do_ d.now t }
def unlink (d : RDisk) (n : ByteArray) : RDisk × Int :=
  let (d', e) := begin d
  if e ≠ 0 then (d', e) else if find d'.now n < 0 then (d', 7) else (turn d' ⟨n, ⟨#[]⟩, -1⟩, 0)
def syncDir (d : RDisk) : RDisk × Int :=
  let (d', e) := begin d
  if e ≠ 0 then (d', e) else ({ d' with sure := d'.now, waits := [] }, 0)
end R
theorem R.begin_now (d : RDisk) : (R.begin d).1.now = d.now := by
  unfold R.begin; split
  · rfl
  · dsimp only; split
    · rfl
    · split <;> rfl
end Go.Ph
end
section
set_option linter.all false
namespace Go.Ph
/-- the entries of a map, in the order in which they came -/
structure Ents (es : List MapEntry) (m : List (ByteArray × Int)) : Prop where
  kv : es.map (fun e => (e.key, e.val)) = m.map (fun x => (Value.string x.1, Value.int .i64 x.2))
  nd : (m.map (·.1)).Nodup
/-- a map's object -/
structure MapAt (k : Nat) (s : St) (b : Nat) (es : List MapEntry) (cl : Nat) (m : List (ByteArray × Int)) : Prop where
  here : s.w k b 0 = some (.o (.map es.toArray cl))
  ents : Ents es m
  born : ∀ e ∈ es, e.born < cl
  uniq : (es.map (·.born)).Nodup
theorem MapAt.st {k : Nat} {s s' : St} {b : Nat} {es : List MapEntry} {cl : Nat} {m : List (ByteArray × Int)} {S : List Nat} (h : MapAt k s b es cl m) (hs : Step S s s') (hk : k ∉ S) : MapAt k s' b es cl m :=
  ⟨hs.view hk _ _ _ h.here, h.ents, h.born, h.uniq⟩
theorem MapAt.obj {k : Nat} {s : St} {b : Nat} {es : List MapEntry} {cl : Nat} {m : List (ByteArray × Int)} (h : MapAt k s b es cl m) : s.H[b]? = some (.map es.toArray cl) := (obj_pk (w_some h.here).1).1
def look (m : List (ByteArray × Int)) (n : ByteArray) : Option Int := (m.find? (fun x => decide (x.1 = n))).map (·.2)
def mset (m : List (ByteArray × Int)) (n : ByteArray) (i : Int) : List (ByteArray × Int) :=
  if (look m n).isSome then m.map (fun x => if x.1 = n then (n, i) else x) else m ++ [(n, i)]
theorem sameNow_str (a b : ByteArray) : Instr.sameNow .string (.string a) (.string b) = some (decide (a = b)) := by
  have : (a == b) = decide (a = b) := by
    cases a; cases b
    show ((_ : Array UInt8) == _) = _
    rw [Bool.eq_iff_iff]; simp
  simp [Instr.sameNow, this]
theorem findNow_none : ∀ (es : List MapEntry) (m : List (ByteArray × Int)) (n : ByteArray) (i : Nat), es.map (fun e => (e.key, e.val)) = m.map (fun x => (Value.string x.1, Value.int .i64 x.2)) →
    look m n = none → Instr.findNow .string (.string n) es i = some none
  | [], m, n, i, h, hl => rfl
  | e :: es, [], n, i, h, hl => by simp at h
  | e :: es, x :: m, n, i, h, hl => by
    simp only [List.map_cons, List.cons.injEq, Prod.mk.injEq] at h
    obtain ⟨⟨h1, h2⟩, h3⟩ := h
    simp only [Instr.findNow, h1, sameNow_str]
    by_cases hx : x.1 = n
    · simp [look, hx] at hl
    · rw [decide_eq_false (fun h => hx h.symm)]
      exact findNow_none es m n (i + 1) h3 (by simpa [look, hx] using hl)
theorem findNow_some : ∀ (es : List MapEntry) (m : List (ByteArray × Int)) (n : ByteArray) (i : Nat) (v : Int), es.map (fun e => (e.key, e.val)) = m.map (fun x => (Value.string x.1, Value.int .i64 x.2)) →
    look m n = some v → ∃ j, j < es.length ∧ m[j]? = some (n, v) ∧ Instr.findNow .string (.string n) es i = some (some (i + j, .int .i64 v))
  | [], [], n, i, v, h, hl => by simp [look] at hl
  | [], x :: m, n, i, v, h, hl => by simp at h
  | e :: es, [], n, i, v, h, hl => by simp at h
  | e :: es, x :: m, n, i, v, h, hl => by
    simp only [List.map_cons, List.cons.injEq, Prod.mk.injEq] at h
    obtain ⟨⟨h1, h2⟩, h3⟩ := h
    simp only [Instr.findNow, h1, sameNow_str]
    by_cases hx : x.1 = n
    · simp [look, hx] at hl
      exact ⟨0, by simp, by simp [← hx, ← hl], by simp [hx, h2, hl]⟩
    · rw [decide_eq_false (fun h => hx h.symm)]
      obtain ⟨j, g1, g2, g3⟩ := findNow_some es m n (i + 1) v h3 (by simpa [look, hx] using hl)
      exact ⟨j + 1, by simpa using g1, by simpa using g2, by rw [show i + (j + 1) = i + 1 + j by omega]; exact g3⟩
theorem mget_rule {k : Nat} {s : St} {b : Nat} {es : List MapEntry} {cl : Nat} {m : List (ByteArray × Int)} {n : ByteArray} {K0 : HP} {K1 : Value → HP} (h : MapAt k s b es cl m)
    (h0 : look m n = none → K0 s.H) (h1 : ∀ i, look m n = some i → K1 (.int .i64 i) s.H) : mget .string (some b) (.string n) K0 K1 s.H := by
  cases e : look m n with
  | none => exact ⟨_, _, none, h.obj, findNow_none _ _ _ _ h.ents.kv e, h0 e⟩
  | some v =>
    obtain ⟨j, g1, g2, g3⟩ := findNow_some _ _ _ 0 _ h.ents.kv e
    exact ⟨_, _, some (0 + j, .int .i64 v), h.obj, g3, h1 v e⟩
theorem mlen_rule {k : Nat} {s : St} {b : Nat} {es : List MapEntry} {cl : Nat} {m : List (ByteArray × Int)} {K : Int → HP} (h : MapAt k s b es cl m) (hK : K m.length s.H) : mlen (some b) K s.H := by
  refine ⟨_, _, h.obj, ?_⟩
  have := congrArg List.length h.ents.kv
  simp at this
  simpa [this] using hK
theorem look_none {m : List (ByteArray × Int)} {n : ByteArray} (h : look m n = none) : ∀ x ∈ m, x.1 ≠ n := by
  simp [look] at h
  intro x hx e
  exact h x.1 x.2 hx e
theorem nodup_idx {α : Type} {l : List α} (h : l.Nodup) {i j : Nat} {x : α} (hi : l[i]? = some x) (hj : l[j]? = some x) : i = j := by
  obtain ⟨h1, h2⟩ := List.getElem?_eq_some_iff.1 hi
  obtain ⟨h3, h4⟩ := List.getElem?_eq_some_iff.1 hj
  exact (List.getElem_inj h).1 (h2.trans h4.symm)
theorem mput_rule {k : Nat} {s : St} {b : Nat} {es : List MapEntry} {cl : Nat} {m : List (ByteArray × Int)} {n : ByteArray} {i : Int} {K : HP} (h : MapAt k s b es cl m) (hk : k ≠ 0)
    (hK : ∀ s' es' cl', Step [k] s s' → s'.H.size = s.H.size → Oth b s s' → MapAt k s' b es' cl' (mset m n i) → K s'.H) : mput .string (some b) (.string n) (.int .i64 i) K s.H := by
  have hlen := congrArg List.length h.ents.kv
  simp at hlen
  cases e : look m n with
  | none =>
    refine ⟨b, _, _, none, rfl, h.obj, findNow_none _ _ _ _ h.ents.kv e, ?_⟩
    simp only
    refine seto_rule h.here rfl fun s' h' => ?_
    refine hK s' (es ++ [⟨.string n, .int .i64 i, cl⟩]) (cl + 1) (h'.step (by simp) hk (obj_rest h.here)) h'.sz (fun x j hx => h'.old x j hx) ⟨by simpa using h'.here, ?_, ?_, ?_⟩
    · have hm : mset m n i = m ++ [(n, i)] := by simp [mset, e]
      rw [hm]
      refine ⟨by simp [h.ents.kv], ?_⟩
      rw [List.map_append, List.nodup_append]
      refine ⟨h.ents.nd, by simp, ?_⟩
      intro x hx y hy
      simp at hy; subst hy
      obtain ⟨z, hz, rfl⟩ := List.mem_map.1 hx
      exact look_none e z hz
    · intro x hx
      rcases List.mem_append.1 hx with hx | hx
      · have := h.born x hx; omega
      · simp at hx; subst hx; simp
    · rw [List.map_append, List.nodup_append]
      refine ⟨h.uniq, by simp, ?_⟩
      intro x hx y hy
      simp at hy; subst hy
      obtain ⟨z, hz, rfl⟩ := List.mem_map.1 hx
      have := h.born z hz; omega
  | some v =>
    obtain ⟨j, g1, g2, g3⟩ := findNow_some _ _ _ 0 _ h.ents.kv e
    refine ⟨b, _, _, some (0 + j, .int .i64 v), rfl, h.obj, g3, ?_⟩
    simp only
    refine seto_rule h.here rfl fun s' h' => ?_
    refine hK s' (es.modify j fun e => { e with key := .string n, val := .int .i64 i }) cl (h'.step (by simp) hk (obj_rest h.here)) h'.sz (fun x j hx => h'.old x j hx) ⟨by simpa using h'.here, ?_, ?_, ?_⟩
    · have hm : mset m n i = m.map (fun x => if x.1 = n then (n, i) else x) := by simp [mset, e]
      rw [hm]
      have hk1 : (m.map (fun x => if x.1 = n then (n, i) else x)).map (·.1) = m.map (·.1) := by
        rw [List.map_map]
        apply List.map_congr_left
        intro x _
        simp only [Function.comp]
        split
        · rename_i h; exact h.symm
        · rfl
      refine ⟨?_, by rw [hk1]; exact h.ents.nd⟩
      apply List.ext_getElem?
      intro a
      have ha := congrArg (fun l => l[a]?) h.ents.kv
      simp only [List.getElem?_map] at ha
      simp only [List.getElem?_map, List.getElem?_modify]
      cases hma : m[a]? with
      | none => rw [hma] at ha; simp at ha; simp [ha]
      | some x =>
        rw [hma] at ha
        cases hea : es[a]? with
        | none => rw [hea] at ha; simp at ha
        | some y =>
          rw [hea] at ha
          simp only [Option.map_some, Option.some.injEq, Prod.mk.injEq] at ha ⊢
          by_cases hx : x.1 = n
          · have haj : a = j := nodup_idx h.ents.nd (x := n) (by simp [hma, hx]) (by simp [g2])
            subst haj
            simp [hx]
          · have haj : j ≠ a := by
              rintro rfl
              rw [g2] at hma
              simp at hma
              exact hx (by rw [← hma])
            simp [haj, hx, ha]
    · intro x hx
      rw [List.mem_iff_getElem?] at hx
      obtain ⟨a, ha⟩ := hx
      rw [List.getElem?_modify] at ha
      cases hea : es[a]? with
      | none => rw [hea] at ha; simp at ha
      | some y =>
        rw [hea] at ha
        simp at ha
        have := h.born y (List.mem_iff_getElem?.2 ⟨a, hea⟩)
        rw [← ha]
        split <;> exact this
    · have : (es.modify j fun e => { e with key := .string n, val := .int .i64 i }).map (·.born) = es.map (·.born) := by
        apply List.ext_getElem?
        intro a
        simp only [List.getElem?_map, List.getElem?_modify]
        cases es[a]? with
        | none => rfl
        | some y => simp only [Option.map_some, Option.some.injEq]; split <;> rfl
      rw [this]; exact h.uniq
def mrem (m : List (ByteArray × Int)) (n : ByteArray) : List (ByteArray × Int) := m.filter (fun x => !decide (x.1 = n))
theorem erase_filter {α : Type} (p : α → Bool) : ∀ (l : List α) (j : Nat), (∀ a x, l[a]? = some x → (p x = false ↔ a = j)) → j < l.length → l.eraseIdx j = l.filter p
  | [], j, h, hj => by simp at hj
  | y :: l, 0, h, hj => by
    have h0 : p y = false := (h 0 y rfl).2 rfl
    have : l.filter p = l := List.filter_eq_self.2 fun x hx => by
      obtain ⟨a, ha⟩ := List.mem_iff_getElem?.1 hx
      have := h (a + 1) x (by simpa using ha)
      cases hp : p x
      · have := this.1 hp; omega
      · rfl
    simp [h0, this]
  | y :: l, j + 1, h, hj => by
    have h0 : p y = true := by
      cases hp : p y
      · have := (h 0 y rfl).1 hp; omega
      · rfl
    have hj' : j < l.length := by simp at hj; omega
    simp only [List.eraseIdx_cons_succ, List.filter_cons, h0, if_true]
    rw [erase_filter p l j (fun a x ha => by rw [h (a + 1) x (by simpa using ha)]; omega) hj']
def isKey (n : ByteArray) : Value → Bool
  | .string s => decide (s = n)
  | _ => false
/-- a map as entries, one of which is taken away -/
theorem mdel_rule {k : Nat} {s : St} {b : Nat} {es : List MapEntry} {cl : Nat} {m : List (ByteArray × Int)} {n : ByteArray} {K : HP} (h : MapAt k s b es cl m) (hk : k ≠ 0)
    (hK : ∀ s', Step [k] s s' → s'.H.size = s.H.size → Oth b s s' → MapAt k s' b (es.filter fun e => !isKey n e.key) cl (mrem m n) → K s'.H) : mdel .string (some b) (.string n) K s.H := by
  have hkv : ∀ (a : Nat) (y : MapEntry) (x : ByteArray × Int), es[a]? = some y → m[a]? = some x → y.key = .string x.1 := fun a y x hy hx => by
    have ha := congrArg (fun l => l[a]?) h.ents.kv
    simp only [List.getElem?_map, hy, hx, Option.map_some, Option.some.injEq, Prod.mk.injEq] at ha
    exact ha.1
  have hlen := congrArg List.length h.ents.kv
  simp at hlen
  have hkey : ∀ (a : Nat) (y : MapEntry), es[a]? = some y → ∃ x, m[a]? = some x ∧ y.key = .string x.1 := fun a y hy => by
    have hlt := (List.getElem?_eq_some_iff.1 hy).1
    exact ⟨m[a]'(by omega), List.getElem?_eq_getElem (by omega), hkv _ _ _ hy (List.getElem?_eq_getElem (by omega))⟩
  have fin : MapAt k s b es cl m → ∀ s' : St, s'.w k b 0 = some (.o (.map (es.filter fun e => !isKey n e.key).toArray cl)) → MapAt k s' b (es.filter fun e => !isKey n e.key) cl (mrem m n) := fun _ s' hh => by
    refine ⟨hh, ⟨?_, ?_⟩, fun e he => h.born e (List.mem_filter.1 he).1, ?_⟩
    · have e1 : (es.filter fun e => !isKey n e.key).map (fun e => (e.key, e.val)) = (es.map (fun e => (e.key, e.val))).filter (fun x => !isKey n x.1) := by
        rw [List.filter_map]; rfl
      have e2 : (m.filter fun x => !decide (x.1 = n)).map (fun x => (Value.string x.1, Value.int IntKind.i64 x.2)) = (m.map (fun x => (Value.string x.1, Value.int IntKind.i64 x.2))).filter (fun x => !isKey n x.1) := by
        rw [List.filter_map]
        rfl
      rw [e1, h.ents.kv, mrem, e2]
    · exact h.ents.nd.sublist (List.Sublist.map _ List.filter_sublist)
    · exact h.uniq.sublist (List.Sublist.map _ List.filter_sublist)
  cases e : look m n with
  | none =>
    refine ⟨b, _, _, none, rfl, h.obj, findNow_none _ _ _ _ h.ents.kv e, ?_⟩
    simp only
    have hes : (es.filter fun e => !isKey n e.key) = es := List.filter_eq_self.2 fun y hy => by
      obtain ⟨a, ha⟩ := List.mem_iff_getElem?.1 hy
      obtain ⟨x, hx, hxy⟩ := hkey a y ha
      rw [hxy]
      have := look_none e x (List.mem_iff_getElem?.2 ⟨a, hx⟩)
      simp [isKey, this]
    refine seto_rule h.here rfl fun s' h' => ?_
    exact hK s' (h'.step (by simp) hk (obj_rest h.here)) h'.sz (fun x j hx => h'.old x j hx) (fin h s' (by rw [hes]; exact h'.here))
  | some v =>
    obtain ⟨j, g1, g2, g3⟩ := findNow_some _ _ _ 0 _ h.ents.kv e
    refine ⟨b, _, _, some (0 + j, .int .i64 v), rfl, h.obj, g3, ?_⟩
    simp only
    have hes : (es.toArray.eraseIdxIfInBounds (0 + j)) = (es.filter fun e => !isKey n e.key).toArray := by
      rw [Nat.zero_add, Array.eraseIdxIfInBounds, dif_pos (by simpa using g1)]
      rw [List.eraseIdx_toArray]
      congr 1
      refine erase_filter _ _ _ (fun a y hy => ?_) g1
      obtain ⟨x, hx, hxy⟩ := hkey a y hy
      rw [hxy]
      simp only [isKey, Bool.not_eq_false', decide_eq_true_eq]
      constructor
      · intro hn
        exact nodup_idx h.ents.nd (x := n) (by simp [hx, hn]) (by simp [g2])
      · rintro rfl
        rw [g2] at hx
        simp at hx
        rw [← hx]
    rw [hes]
    refine seto_rule h.here rfl fun s' h' => ?_
    exact hK s' (h'.step (by simp) hk (obj_rest h.here)) h'.sz (fun x j hx => h'.old x j hx) (fin h s' h'.here)
/-! iterators -/
structure Iter (q : Nat) (s : St) (it b : Nat) (since cl : Nat) (seen : List Nat) : Prop where
  here : ∃ st, s.w q it 0 = some (.o (.mapIter (some b) since seen.toArray st)) ∧ (seen ≠ [] → st = cl)
theorem Iter.st {q : Nat} {s s' : St} {it b since cl : Nat} {seen : List Nat} {S : List Nat} (h : Iter q s it b since cl seen) (hs : Step S s s') (hk : q ∉ S) : Iter q s' it b since cl seen := by
  obtain ⟨st, h1, h2⟩ := h; exact ⟨st, hs.view hk _ _ _ h1, h2⟩
theorem mrng_rule {k : Nat} {s : St} {b : Nat} {es : List MapEntry} {cl : Nat} {m : List (ByteArray × Int)} {K : Nat → HP} (h : MapAt k s b es cl m) (q : Nat) (hq : q < 2305843009213693952 + 1152921504606846976 * s.H.size)
    (hK : ∀ s' it, Step [] s s' → s'.H.size = s.H.size + 1 → Iter q s' it b cl cl [] → K it s'.H) : mrng (some b) K s.H := by
  refine ⟨_, _, h.obj, ?_⟩
  refine newo_rule q hq rfl fun s' it n => ?_
  exact hK s' it n.step n.sz ⟨_, n.here, fun h => absurd rfl h⟩
theorem mnext_rule {k q : Nat} {s : St} {it b since : Nat} {es : List MapEntry} {cl : Nat} {m : List (ByteArray × Int)} {seen : List Nat} {K0 : HP} {K1 : Value → Value → HP} (hi : Iter q s it b since cl seen) (h : MapAt k s b es cl m) (hk : k ≠ q) (hq0 : q ≠ 0)
    (hs : ∀ e ∈ es, e.born < since)
    (h0 : (∀ e ∈ es, e.born ∈ seen) → K0 s.H)
    (h1 : ∀ e ∈ es, e.born ∉ seen → ∀ s', Step [q] s s' → s'.H.size = s.H.size → Iter q s' it b since cl (seen ++ [e.born]) → K1 e.key e.val s'.H) :
    mnext it K0 (fun _ _ => ment it K1) s.H := by
  obtain ⟨st, g1, g2⟩ := hi
  have ho := (obj_pk (w_some g1).1).1
  unfold mnext
  rw [ho]
  refine ⟨_, _, h.obj, ?_, ?_, ?_⟩
  · cases seen with
    | nil => simp
    | cons x r =>
      have := g2 (by simp)
      subst this
      cases hes : es with
      | nil => simp
      | cons e es' =>
        have := h.born e (by simp [hes])
        simp
        intros; omega
  · intro hemp
    refine h0 fun e he => ?_
    rw [Array.isEmpty_iff] at hemp
    by_cases hc : e.born ∈ seen
    · exact hc
    · exfalso
      have hin : e ∈ (Array.filter (fun x => decide (x.born < since)) (Array.filter (fun e => !seen.toArray.contains e.born) es.toArray)) := by
        simp only [Array.mem_filter, List.mem_toArray]
        exact ⟨⟨he, by simpa using hc⟩, by simpa using hs e he⟩
      rw [hemp] at hin
      simp at hin
  · intro e he hc
    have he' : e ∈ es := by simpa using he
    have hc' : e.born ∉ seen := by simpa using hc
    refine seto_rule g1 rfl fun s' h' => ?_
    have hst : Step [q] s s' := h'.step (by simp) hq0 (obj_rest g1)
    have hm := h.st hst (by simpa using hk)
    refine ⟨b, since, (seen ++ [e.born]).toArray, cl, e.born, es.toArray, e, ?_, ?_, hm.obj, ?_, h1 e he' hc' s' hst h'.sz ⟨cl, by simpa using h'.here, fun _ => rfl⟩⟩
    · have := (obj_pk (w_some h'.here).1).1
      simpa using this
    · simp
    · simp only [List.find?_toArray]
      rw [List.find?_eq_some_iff_append]
      obtain ⟨l1, l2, hl⟩ := List.append_of_mem he'
      refine ⟨by simp, l1, l2, hl, fun x hx => ?_⟩
      have hu := h.uniq
      rw [hl, List.map_append, List.nodup_append] at hu
      have := hu.2.2 x.born (List.mem_map_of_mem hx) e.born (by simp)
      simpa using this
end Go.Ph
end
section
set_option linter.all false
namespace Go.Ph
open S
abbrev MoveM := G_vdisk_move
abbrev PatchM := G_vdisk_patch
def tMove : Ty MoveM := ⟨3, fun _ x vs => vs = [.int .i64 x.node, .string x.name, .bool x.made], by rintro _ _ _ rfl; rfl, fun _ h => h, by rintro _ _ _ rfl; simp [one]⟩
def tPatch : Ty PatchM := ⟨2, fun _ x vs => vs = [.int .i64 x.place, .string x.bytes], by rintro _ _ _ rfl; rfl, fun _ h => h, by rintro _ _ _ rfl; simp [one]⟩
structure VNode where
  seen : ByteArray
  sure : ByteArray
  patches : List PatchM
  fresh : Bool
def VNode.calm (x : VNode) : VNode := { x with fresh := false }
structure VDisk where
  room : Int
  nodes : List VNode
  seen : List (ByteArray × Int)
  sure : List (ByteArray × Int)
  moves : List MoveM
  off : Bool
  count : Int
  fl : Int
  fc : Int
  cl : Int
  cc : Int
structure NodeAt (c : Nat) (s : St) (p : Nat) (x : VNode) : Prop where
  at_ : ∃ sl : Sl, At (s.w c) p 0 [.string x.seen, .string x.sure, .slice sl.a sl.len sl.cap, .bool x.fresh] ∧ Bld tPatch (c + 1) s x.patches sl
theorem NodeAt.st {c : Nat} {s s' : St} {p : Nat} {x : VNode} {S : List Nat} (h : NodeAt c s p x) (hs : Step S s s') (h1 : c ∉ S) (h2 : c + 1 ∉ S) : NodeAt c s' p x := by
  obtain ⟨sl, g1, g2⟩ := h
  exact ⟨sl, g1.mono (hs.view h1), g2.st hs h2⟩
structure Nodes (k : Nat) (s : St) (l : List VNode) (ps : List (Option Addr)) : Prop where
  len : ps.length = l.length
  at_ : ∀ j x, l[j]? = some x → ∃ p, ps[j]? = some (some ⟨p, 0, none⟩) ∧ NodeAt (k + 10 + 2 * j) s p x
/-- the map of the names that are sure; none as long as a disk is made -/
def SureAt (k : Nat) (s : St) (mu : Option Nat) (m : List (ByteArray × Int)) : Prop := ∃ r es cl, mu = some r ∧ MapAt k s r es cl m
theorem SureAt.st {k : Nat} {s s' : St} {mu : Option Nat} {m : List (ByteArray × Int)} {S : List Nat} (h : SureAt k s mu m) (hs : Step S s s') (hk : k ∉ S) : SureAt k s' mu m := by
  obtain ⟨r, es, cl, h1, h2⟩ := h
  exact ⟨r, es, cl, h1, h2.st hs hk⟩
structure VDp (k : Nat) (s : St) (b : Nat) (v : VDisk) (ps : List (Option Addr)) : Prop where
  k0 : k ≠ 0
  at_ : ∃ (n m : Sl) (ms : Nat) (mu : Option Nat), At (s.w k) b 0 [.int .i64 v.room, .slice n.a n.len n.cap, .map (some ms), .map mu, .slice m.a m.len m.cap, .bool v.off, .int .i64 v.count, .int .i64 v.fl, .int .i64 v.fc, .int .i64 v.cl, .int .i64 v.cc] ∧
    Bld tP (k + 1) s ps n ∧ Bld tMove (k + 2) s v.moves m ∧ (∃ es cl, MapAt (k + 3) s ms es cl v.seen) ∧ SureAt (k + 4) s mu v.sure
  nodes : Nodes k s v.nodes ps
/-- a disk, it may be one that is being made -/
structure VDq (k : Nat) (s : St) (b : Nat) (v : VDisk) (ps : List (Option Addr)) : Prop where
  k0 : k ≠ 0
  at_ : ∃ (n m : Sl) (ms : Nat) (mu : Option Nat), At (s.w k) b 0 [.int .i64 v.room, .slice n.a n.len n.cap, .map (some ms), .map mu, .slice m.a m.len m.cap, .bool v.off, .int .i64 v.count, .int .i64 v.fl, .int .i64 v.fc, .int .i64 v.cl, .int .i64 v.cc] ∧
    Bld tP (k + 1) s ps n ∧ Bld tMove (k + 2) s v.moves m ∧ (∃ es cl, MapAt (k + 3) s ms es cl v.seen)
  nodes : Nodes k s v.nodes ps
theorem VDp.q {k : Nat} {s : St} {b : Nat} {v : VDisk} {ps : List (Option Addr)} (h : VDp k s b v ps) : VDq k s b v ps := by
  obtain ⟨k0, ⟨n, m, ms, mu, h1, h2, h3, h4, h5⟩, h6⟩ := h
  exact ⟨k0, ⟨n, m, ms, mu, h1, h2, h3, h4⟩, h6⟩
/-- the colours of a disk -/
def dk (k : Nat) : List Nat := List.range' k 1125899906842624
theorem mem_dk {k x : Nat} : x ∈ dk k ↔ k ≤ x ∧ x < k + 1125899906842624 := by simp [dk, List.mem_range'_1]
theorem dk1 {k j : Nat} (h : j < 1125899906842624) : ∀ x, x ∈ [k + j] → x ∈ dk k := by intro x hx; simp at hx; rw [mem_dk]; omega
/-- a disk's colours are none of those that are yet to come -/
def Ko (k : Nat) (s : St) : Prop := k + 1125899906842624 ≤ own s ∨ (own s + 16 ≤ k ∧ k + 1125899906842624 ≤ own s + 1152921504606846976)
theorem Ko.mono {k : Nat} {S : List Nat} {s s' : St} (h : Ko k s) (e : Step S s s') : Ko k s' := by
  have := e.sz
  unfold Ko own at *
  rcases Nat.lt_or_ge s.H.size s'.H.size with h1 | h1
  · left; omega
  · have : s'.H.size = s.H.size := by omega
    rw [this]; exact h
theorem Nodes.st {k : Nat} {s s' : St} {l : List VNode} {ps : List (Option Addr)} {S : List Nat} (h : Nodes k s l ps) (hs : Step S s s') (hS : ∀ j, k + 10 + j ∉ S) : Nodes k s' l ps :=
  ⟨h.len, fun j x hx => by
    obtain ⟨p, h1, h2⟩ := h.at_ j x hx
    exact ⟨p, h1, h2.st hs (hS _) (by have := hS (2 * j + 1); rwa [show k + 10 + (2 * j + 1) = k + 10 + 2 * j + 1 by omega] at this)⟩⟩
theorem VDq.st {k : Nat} {s s' : St} {b : Nat} {v : VDisk} {ps : List (Option Addr)} {S : List Nat} (h : VDq k s b v ps) (hs : Step S s s') (hS : ∀ j, k + j ∉ S) : VDq k s' b v ps := by
  obtain ⟨k0, ⟨n, m, ms, mu, h1, h2, h3, ⟨es, cl, h4⟩⟩, h6⟩ := h
  exact ⟨k0, ⟨n, m, ms, mu, h1.mono (hs.view (by simpa using hS 0)), h2.st hs (hS 1), h3.st hs (hS 2), ⟨es, cl, h4.st hs (hS 3)⟩⟩, h6.st hs fun j => by have := hS (10 + j); rwa [← Nat.add_assoc] at this⟩
theorem VDp.st {k : Nat} {s s' : St} {b : Nat} {v : VDisk} {ps : List (Option Addr)} {S : List Nat} (h : VDp k s b v ps) (hs : Step S s s') (hS : ∀ j, k + j ∉ S) : VDp k s' b v ps := by
  obtain ⟨k0, ⟨n, m, ms, mu, h1, h2, h3, ⟨es, cl, h4⟩, h5⟩, h6⟩ := h
  exact ⟨k0, ⟨n, m, ms, mu, h1.mono (hs.view (by simpa using hS 0)), h2.st hs (hS 1), h3.st hs (hS 2), ⟨es, cl, h4.st hs (hS 3)⟩, h5.st hs (hS 4)⟩, h6.st hs fun j => by have := hS (10 + j); rwa [← Nat.add_assoc] at this⟩
namespace V
def give (m : List (ByteArray × Int)) (mv : MoveM) : List (ByteArray × Int) :=
  let m1 := m.filter (fun x => !decide (x.2 = mv.node))
  if mv.name = ⟨#[]⟩ then m1 else mset m1 mv.name mv.node
def size (v : VDisk) (i : Int) : Int := match v.nodes[i.toNat]? with | some x => x.seen.size | none => 0
def free (v : VDisk) : Int := v.room - (v.seen.map fun x => size v x.2).sum
def change (v : VDisk) : VDisk × Int :=
  if v.off then (v, 11)
  else
    let v' := { v with count := v.count + 1, cl := if v.cl < 0 then v.cl else v.cl - 1, fl := if v.fl < 0 then v.fl else v.fl - 1 }
    if v.cl = 0 then ({ v' with off := true }, 11) else if v.fl = 0 then (v', v.fc) else (v', 0)
def find (v : VDisk) (n : ByteArray) : Int × Int := match look v.seen n with | some i => (i, 0) | none => (0, 7)
def turn (v : VDisk) (mv : MoveM) : VDisk := { v with moves := v.moves ++ [mv], seen := give v.seen mv }
def fix (v : VDisk) : VDisk := { v with sure := v.seen, moves := [], nodes := v.nodes.map VNode.calm }
end V
/-- how many stamps are still to come -/
def unseen (cl : Nat) (seen : List Nat) : Nat := ((List.range cl).filter fun x => !seen.contains x).length
theorem unseen_lt {cl b : Nat} {seen : List Nat} (h : b < cl) (hn : b ∉ seen) : unseen cl (seen ++ [b]) < unseen cl seen := by
  unfold unseen
  have e : (List.range cl).filter (fun x => !(seen ++ [b]).contains x) = ((List.range cl).filter fun x => !seen.contains x).filter fun x => !decide (x = b) := by
    rw [List.filter_filter]
    apply List.filter_congr
    intro x _
    by_cases h1 : x ∈ seen <;> by_cases h2 : x = b <;> simp [h1, h2]
  rw [e]
  have hin : b ∈ (List.range cl).filter fun x => !seen.contains x := by simp [h, hn]
  exact (List.length_filter_lt_length_iff_exists (p := fun x => !decide (x = b))).2 ⟨b, hin, by simp⟩
theorem give_ok {k : Nat} {s : St} {b : Nat} {es : List MapEntry} {cl : Nat} {m : List (ByteArray × Int)} {mv : MoveM} {K : HP} (h : MapAt k s b es cl m) (hk : k ≠ 0) (hko' : k ≠ own s)
    (hK : ∀ s' es' cl', Step [k] s s' → MapAt k s' b es' cl' (V.give m mv) → K s'.H) : vdisk_names_give (some b) mv K s.H := by
  unfold vdisk_names_give
  refine newc_0 fun s1 b1 n1 a1 => ?_
  have e1 := n1.step
  have hz1 := n1.sz
  refine mrng_rule (h.st e1 (by simp)) (own s) (by unfold own; omega) fun s2 it e2 z2 i2 => ?_
  have m2 := (h.st e1 (by simp)).st e2 (by simp)
  have a2 := a1.mono e2.v0
  have e02 := e1.trans e2
  have hq0 : own s ≠ 0 := by unfold own; omega
  refine loop_rule (ι := List Nat) (fun _ => []) (fun seen s' => ∃ es' m', Step [own s, k] s s' ∧ At (s'.w 0) b1 0 [.int .i64 mv.node, .string mv.name, .bool mv.made] ∧ Iter (own s) s' it b cl cl seen ∧ MapAt k s' b es' cl m' ∧
    m'.filter (fun x => !decide (x.2 = mv.node)) = m.filter (fun x => !decide (x.2 = mv.node)) ∧ ∀ e ∈ es', e.born ∈ seen → e.val ≠ .int .i64 mv.node) (fun seen _ => unseen cl seen) [] rfl
    ⟨es, m, e02.n, a2, i2, m2, rfl, by simp⟩ ?_
  rintro seen s3 ⟨es3, m3, e3, a3, i3, h3, hf, hv⟩ G hG
  refine mnext_rule i3 h3 hko' hq0 h3.born ?_ ?_
  · intro hall
    have hm : m3 = m.filter (fun x => !decide (x.2 = mv.node)) := by
      rw [← hf]
      refine (List.filter_eq_self.2 fun x hx => ?_).symm
      obtain ⟨a, ha⟩ := List.mem_iff_getElem?.1 hx
      have hl := congrArg List.length h3.ents.kv
      simp at hl
      have hlt := (List.getElem?_eq_some_iff.1 ha).1
      have hea : es3[a]? = some (es3[a]'(by omega)) := List.getElem?_eq_getElem _
      have hkv := congrArg (fun l => l[a]?) h3.ents.kv
      simp only [List.getElem?_map, ha, hea, Option.map_some, Option.some.injEq, Prod.mk.injEq] at hkv
      have hmem := List.getElem_mem (l := es3) (n := a) (by omega)
      have := hv _ hmem (hall _ hmem)
      rw [hkv.2] at this
      simpa using this
    repeat (first|refine nn_at ?_|refine ldI_at a3 rfl ?_|refine ldB_at a3 rfl ?_|refine ldS_at a3 rfl ?_|refine ldP_at a3 rfl ?_|refine ldM_at a3 rfl ?_|refine ldL_at a3 rfl ?_)
    refine bif_ndec (fun hn => ?_) (fun hn => ?_)
    · repeat (first|refine nn_at ?_|refine ldI_at a3 rfl ?_|refine ldB_at a3 rfl ?_|refine ldS_at a3 rfl ?_|refine ldP_at a3 rfl ?_|refine ldM_at a3 rfl ?_|refine ldL_at a3 rfl ?_)
      refine mput_rule h3 hk fun s4 es4 cl4 e4 z4 o4 h4 => ?_
      have e34 : Step [own s, k] s s4 := e3.trans (e4.mono (by simp))
      refine hK s4 es4 cl4 e34.loc ?_
      simpa [V.give, hn, ← hm] using h4
    · refine hK s3 es3 cl e3.loc ?_
      simpa [V.give, hn, ← hm] using h3
  · intro e he hns s4 e4 z4 i4
    have h4 := h3.st e4 (by simpa using hko')
    have a4 := a3.mono e4.v0
    have e34 : Step [own s, k] s s4 := e3.trans (e4.mono (by simp))
    obtain ⟨a, ha⟩ := List.mem_iff_getElem?.1 he
    have hl := congrArg List.length h3.ents.kv
    simp at hl
    have hlt := (List.getElem?_eq_some_iff.1 ha).1
    have hma : m3[a]? = some (m3[a]'(by omega)) := List.getElem?_eq_getElem _
    have hkv := congrArg (fun l => l[a]?) h3.ents.kv
    simp only [List.getElem?_map, ha, hma, Option.map_some, Option.some.injEq, Prod.mk.injEq] at hkv
    refine ⟨_, hkv.1, _, hkv.2, ?_⟩
    repeat (first|refine nn_at ?_|refine ldI_at a4 rfl ?_|refine ldB_at a4 rfl ?_|refine ldS_at a4 rfl ?_|refine ldP_at a4 rfl ?_|refine ldM_at a4 rfl ?_|refine ldL_at a4 rfl ?_)
    refine bif_dec (fun hc => ?_) (fun hc => ?_)
    · refine mdel_rule h4 hk fun s5 e5 z5 o5 h5 => ?_
      refine hG (seen ++ [e.born]) s5 ⟨_, _, e34.trans (e5.mono (by simp)), a4.mono e5.v0, i4.st e5 (by simpa using hko'.symm), h5, ?_, ?_⟩ (unseen_lt (h3.born e he) hns)
      · rw [← hf, mrem, List.filter_filter]
        apply List.filter_congr
        intro x hx
        by_cases hxn : x.1 = (m3[a]'(by omega)).1
        · obtain ⟨c, hcx⟩ := List.mem_iff_getElem?.1 hx
          have : c = a := nodup_idx h3.ents.nd (x := x.1) (by simp [hcx]) (by simp [hma, hxn])
          subst this
          rw [hma] at hcx
          simp at hcx
          rw [← hcx]
          simp [hc]
        · simp [hxn]
      · intro e' he' hb
        rw [List.mem_filter] at he'
        rw [List.mem_append, List.mem_singleton] at hb
        rcases hb with hb | hb
        · exact hv e' he'.1 hb
        · exfalso
          obtain ⟨c, hce⟩ := List.mem_iff_getElem?.1 he'.1
          have : c = a := nodup_idx h3.uniq (x := e.born) (by simp [hce, hb]) (by simp [ha])
          subst this
          rw [ha] at hce
          simp at hce
          subst hce
          have := he'.2
          rw [hkv.1] at this
          simp [isKey] at this
    · refine hG (seen ++ [e.born]) s4 ⟨es3, m3, e34, a4, i4, h4, hf, ?_⟩ (unseen_lt (h3.born e he) hns)
      intro e' he' hb
      rw [List.mem_append, List.mem_singleton] at hb
      rcases hb with hb | hb
      · exact hv e' he' hb
      · obtain ⟨c, hce⟩ := List.mem_iff_getElem?.1 he'
        have : c = a := nodup_idx h3.uniq (x := e.born) (by simp [hce, hb]) (by simp [ha])
        subst this
        rw [ha] at hce
        simp at hce
        subst hce
        rw [hkv.2]
        simpa using hc
theorem sum_seen (f : MapEntry → Int) : ∀ (es : List MapEntry) (seen : List Nat) (e : MapEntry), e ∈ es → e.born ∉ seen → (es.map (·.born)).Nodup →
    (es.map fun x => if x.born ∈ seen ++ [e.born] then f x else 0).sum = (es.map fun x => if x.born ∈ seen then f x else 0).sum + f e
  | [], seen, e, he, hn, hu => by simp at he
  | y :: es, seen, e, he, hn, hu => by
    rw [List.map_cons, List.nodup_cons] at hu
    simp only [List.map_cons, List.sum_cons]
    by_cases hy : y.born = e.born
    · have hye : y = e := by
        rcases List.mem_cons.1 he with h | h
        · exact h.symm
        · exact absurd (List.mem_map.2 ⟨e, h, hy.symm⟩) hu.1
      subst hye
      have : (es.map fun x => if x.born ∈ seen ++ [y.born] then f x else 0) = es.map fun x => if x.born ∈ seen then f x else 0 := by
        apply List.map_congr_left
        intro x hx
        have : x.born ≠ y.born := fun h => hu.1 (List.mem_map.2 ⟨x, hx, h⟩)
        simp [this]
      rw [this]
      simp [hn]; omega
    · have he' : e ∈ es := by
        rcases List.mem_cons.1 he with h | h
        · subst h; exact absurd rfl hy
        · exact h
      rw [sum_seen f es seen e he' hn hu.2]
      simp [hy]; omega
theorem sum_le {α : Type} (f : α → Int) (g : α → Int) : ∀ (l : List α), (∀ x ∈ l, f x ≤ g x) → (l.map f).sum ≤ (l.map g).sum
  | [], h => by simp
  | x :: l, h => by
    simp only [List.map_cons, List.sum_cons]
    have := h x (by simp)
    have := sum_le f g l (fun x hx => h x (by simp [hx]))
    omega
theorem sum_const {α : Type} (c : Int) : ∀ (l : List α), (l.map fun _ => c).sum = c * l.length
  | [] => by simp
  | x :: l => by simp only [List.map_cons, List.sum_cons, sum_const c l, List.length_cons]; push_cast; rw [Int.mul_add]; omega
/-- what a disk in memory keeps to -/
structure VDisk.Ok (v : VDisk) : Prop where
  room : 0 ≤ v.room ∧ v.room ≤ 4194304
  seen : v.seen.length ≤ 1024
  names : ∀ x ∈ v.seen, 0 ≤ x.2 ∧ x.2 < v.nodes.length
  sizes : ∀ x ∈ v.nodes, x.seen.size ≤ 4194304
  nodes : v.nodes.length ≤ 1000000000000
  moves : v.moves.length ≤ 1000000000000
  count : 0 ≤ v.count ∧ v.count < 1000000000000
  fl : -1 ≤ v.fl ∧ v.fl < 9223372036854775808
  cl : -1 ≤ v.cl ∧ v.cl < 9223372036854775808
theorem V.size_bd {v : VDisk} (h : ∀ x ∈ v.nodes, x.seen.size ≤ 4194304) (i : Int) : 0 ≤ V.size v i ∧ V.size v i ≤ 4194304 := by
  unfold V.size
  split
  · rename_i x hx
    have := h x (List.mem_iff_getElem?.2 ⟨_, hx⟩)
    omega
  · omega
theorem free_ok {k : Nat} {s : St} {b : Nat} {v : VDisk} {ps : List (Option Addr)} {K : Int → HP} (h : VDq k s b v ps) (hr : 0 ≤ v.room ∧ v.room ≤ 4194304) (hl : v.seen.length ≤ 1024) (hn : ∀ x ∈ v.seen, 0 ≤ x.2 ∧ x.2 < v.nodes.length) (hz : ∀ x ∈ v.nodes, x.seen.size ≤ 4194304) (hnl : v.nodes.length ≤ 1000000000000) (hko : Ko k s)
    (hK : ∀ s', Step [] s s' → K (V.free v) s'.H) : vdisk_Disk_free (some ⟨b, 0, none⟩) K s.H := by
  obtain ⟨k0, ⟨n, m, ms, mu, h1, h2, h3, ⟨es, cl, h4⟩⟩, h6⟩ := h
  unfold vdisk_Disk_free
  repeat (first|refine nn_at ?_|refine ldI_at h1 rfl ?_|refine ldB_at h1 rfl ?_|refine ldS_at h1 rfl ?_|refine ldP_at h1 rfl ?_|refine ldM_at h1 rfl ?_|refine ldL_at h1 rfl ?_)
  refine mrng_rule h4 (own s) (by unfold own; omega) fun s2 it e2 z2 i2 => ?_
  have hq0 : own s ≠ 0 := by unfold own; omega
  let f : MapEntry → Int := fun e => match e.val with | .int _ i => V.size v i | _ => 0
  have hlen := congrArg List.length h4.ents.kv
  simp at hlen
  have hfb : ∀ e, 0 ≤ f e ∧ f e ≤ 4194304 := fun e => by
    simp only [f]
    split
    · exact V.size_bd hz _
    · omega
  have hsum : ∀ seen : List Nat, 0 ≤ (es.map fun x => if x.born ∈ seen then f x else 0).sum ∧ (es.map fun x => if x.born ∈ seen then f x else 0).sum ≤ 4294967296 := fun seen => by
    have g1 := sum_le (fun x : MapEntry => if x.born ∈ seen then f x else 0) (fun _ => 4194304) es (fun x _ => by
      have := hfb x
      show (if x.born ∈ seen then f x else 0) ≤ 4194304
      split <;> omega)
    have g2 := sum_le (fun _ => 0) (fun x : MapEntry => if x.born ∈ seen then f x else 0) es (fun x _ => by
      have := hfb x
      show 0 ≤ (if x.born ∈ seen then f x else 0)
      split <;> omega)
    rw [sum_const] at g1 g2
    omega
  have hall : (es.map f).sum = (v.seen.map fun x => V.size v x.2).sum := by
    have e1 : es.map f = (es.map fun e => (e.key, e.val)).map (fun x => match x.2 with | .int _ i => V.size v i | _ => 0) := by rw [List.map_map]; rfl
    rw [e1, h4.ents.kv, List.map_map]
    rfl
  refine loop_rule (ι := List Nat) (fun seen => [.int .i64 (v.room - (es.map fun x => if x.born ∈ seen then f x else 0).sum)]) (fun seen s' => Step [own s] s s' ∧ Iter (own s) s' it ms cl cl seen) (fun seen _ => unseen cl seen) [] (by simp [sum_const]) ⟨e2.n, i2⟩ ?_
  rintro seen s3 ⟨e3, i3⟩ G hG
  simp only [List.getD_cons_zero, List.getD_cons_succ, asI_v, asL_v, asS_v, asB_v, asM_v, asP_v]
  have hcl : ∀ j, j < 1125899906842624 → k + j ∉ [own s] := by intro j hj; unfold Ko at hko; simp; omega
  have h43 := h4.st e3 (hcl 3 (by omega))
  refine mnext_rule i3 h43 (by have := hcl 3 (by omega); simpa using this) hq0 h4.born ?_ ?_
  · intro ha
    have : (es.map fun x => if x.born ∈ seen then f x else 0) = es.map f := List.map_congr_left fun x hx => by simp [ha x hx]
    rw [this, hall]
    exact hK s3 e3.loc
  · intro e he hns s4 e4 z4 i4
    have e34 := e3.trans e4
    obtain ⟨a, ha⟩ := List.mem_iff_getElem?.1 he
    have hlt := (List.getElem?_eq_some_iff.1 ha).1
    have hma : v.seen[a]? = some (v.seen[a]'(by omega)) := List.getElem?_eq_getElem _
    have hkv := congrArg (fun l => l[a]?) h4.ents.kv
    simp only [List.getElem?_map, ha, hma, Option.map_some, Option.some.injEq, Prod.mk.injEq] at hkv
    refine ⟨_, hkv.1, _, hkv.2, ?_⟩
    have h14 := h1.mono (e34.view (k := k) (by simpa using hcl 0 (by omega)))
    repeat (first|refine nn_at ?_|refine ldI_at h14 rfl ?_|refine ldB_at h14 rfl ?_|refine ldS_at h14 rfl ?_|refine ldP_at h14 rfl ?_|refine ldM_at h14 rfl ?_|refine ldL_at h14 rfl ?_)
    have hin := hn _ (List.mem_iff_getElem?.2 ⟨a, hma⟩)
    have h24 := h2.st e34 (hcl 1 (by omega))
    have hpl := h6.len
    refine ixL_rule h24.ls hin.1 (by rw [hpl]; exact hin.2) fun b' o x hx hel => ?_
    obtain ⟨_, rfl, hel⟩ := hel
    have hlt2 : (v.seen[a]'(by omega)).2.toNat < v.nodes.length := by omega
    obtain ⟨p, hp1, hp2⟩ := h6.at_ _ _ (List.getElem?_eq_getElem hlt2)
    rw [hx] at hp1
    simp at hp1
    subst hp1
    refine ldP_at0 hel rfl ?_
    obtain ⟨sl, q1, q2⟩ := hp2
    have q3 := q1.mono (e34.view (by have := hcl (10 + 2 * (v.seen[a]'(by omega)).2.toNat) (by omega); rwa [← Nat.add_assoc] at this))
    repeat (first|refine nn_at ?_|refine ldI_at q3 rfl ?_|refine ldB_at q3 rfl ?_|refine ldS_at q3 rfl ?_|refine ldP_at q3 rfl ?_|refine ldM_at q3 rfl ?_|refine ldL_at q3 rfl ?_)
    have hs1 := hsum seen
    have hs2 := hsum (seen ++ [e.born])
    have hss := sum_seen f es seen e he hns h4.uniq
    have hfe : f e = (v.nodes[(v.seen[a]'(by omega)).2.toNat]'hlt2).seen.size := by
      simp only [f, hkv.2]
      unfold V.size
      rw [List.getElem?_eq_getElem hlt2]
    rw [← hfe, show v.room - (es.map fun x => if x.born ∈ seen then f x else 0).sum - f e = v.room - (es.map fun x => if x.born ∈ seen ++ [e.born] then f x else 0).sum by omega, w64_id (by omega) (by omega)]
    exact hG (seen ++ [e.born]) s4 ⟨e34, i4⟩ (unseen_lt (h4.born e he) hns)
/-- a part of the struct that stands behind others is written -/
theorem spring_ok {s : St} {k b i : Nat} {vs : List Value} {l : Int} {K : Bool → HP} (h : At (s.w k) b 0 vs) (hi : vs[i]? = some (.int .i64 l)) (hl : -9223372036854775808 < l ∧ l < 9223372036854775808) (hk : k ≠ 0)
    (hK : ∀ s', Step [k] s s' → Oth b s s' → At (s'.w k) b 0 (vs.set i (.int .i64 (if l < 0 then l else l - 1))) → K (decide (l = 0)) s'.H) : vdisk_trap_spring (some (Addr.add ⟨b, 0, none⟩ i)) K s.H := by
  unfold vdisk_trap_spring
  refine nn_some.2 ?_
  rw [add_at] at *
  have hlt : i < vs.length := (List.getElem?_eq_some_iff.1 hi).1
  have c0 : cell s.H (Addr.add ⟨b, 0 + i, none⟩ 0) = some (.int .i64 l) := by rw [add_at]; exact w_cell (h i _ hi)
  refine (ldI_of c0).2 ?_
  refine bif_dec (fun hn => ?_) (fun hn => ?_)
  · rw [if_pos hn] at hK
    have : vs.set i (.int .i64 l) = vs := by
      apply List.ext_getElem?
      intro j
      rw [List.getElem?_set]
      split
      · rename_i e; subst e; simp [hlt, (List.getElem?_eq_some_iff.1 hi).2]
      · rfl
    rw [this] at hK
    have := hK s Step.refl (fun _ _ _ => ⟨rfl, rfl⟩) h
    rwa [decide_eq_false (by omega)] at this
  · rw [if_neg hn] at hK
    refine nn_some.2 ?_
    refine (ldI_of c0).2 ?_
    refine nn_some.2 ?_
    rw [w64_id (by omega) (by omega)]
    have : Addr.add ⟨b, 0 + i, none⟩ 0 = Addr.add ⟨b, 0, none⟩ i := by simp [add_at]
    rw [this]
    refine fld_rule h hlt rfl hk fun s2 e2 z2 a2 o2 => ?_
    refine nn_some.2 ?_
    refine (ldI_of (n := l - 1) ?_).2 ?_
    · rw [add_at]; exact w_cell (a2 i _ (by simp [hlt]))
    · have := hK s2 e2 o2 a2
      rw [show decide (l - 1 < 0) = decide (l = 0) by by_cases h : l = 0 <;> simp [h] <;> omega]
      exact this
theorem change_ok {k : Nat} {s : St} {b : Nat} {v : VDisk} {ps : List (Option Addr)} {K : Int → HP} (h : VDp k s b v ps) (hv : v.Ok)
    (hK : ∀ s', Step [k] s s' → VDp k s' b (V.change v).1 ps → K (V.change v).2 s'.H) : vdisk_Disk_change (some ⟨b, 0, none⟩) K s.H := by
  have hh := h
  obtain ⟨k0, ⟨n, m, ms, mu, h1, h2, h3, ⟨es, cl, h4⟩, h5⟩, h6⟩ := h
  unfold vdisk_Disk_change
  repeat (first|refine nn_at ?_|refine ldI_at h1 rfl ?_|refine ldB_at h1 rfl ?_|refine ldS_at h1 rfl ?_|refine ldP_at h1 rfl ?_|refine ldM_at h1 rfl ?_|refine ldL_at h1 rfl ?_)
  cases hdn : v.off
  case true =>
    refine bif_t ?_
    simp only [V.change, hdn, if_true] at hK
    exact hK s Step.refl hh
  case false =>
  refine bif_f ?_
  repeat (first|refine nn_at ?_|refine ldI_at h1 rfl ?_|refine ldB_at h1 rfl ?_|refine ldS_at h1 rfl ?_|refine ldP_at h1 rfl ?_|refine ldM_at h1 rfl ?_|refine ldL_at h1 rfl ?_)
  have := hv.count
  have := hv.fl
  have := hv.cl
  rw [w64_id (by omega) (by omega)]
  refine fld_rule h1 (by simp) rfl k0 fun s2 e2 z2 a2 _ => ?_
  simp only [List.set_cons_succ, List.set_cons_zero] at a2
  refine nn_at ?_
  refine nn_at ?_
  refine spring_ok a2 rfl (by omega) k0 fun s3 e3 o3 a3 => ?_
  simp only [List.set_cons_succ, List.set_cons_zero] at a3
  refine spring_ok a3 rfl (by omega) k0 fun s4 e4 o4 a4 => ?_
  simp only [List.set_cons_succ, List.set_cons_zero] at a4
  have e24 := (e2.trans e3).trans e4
  refine bif_dec (fun hc => ?_) (fun hc => ?_)
  · refine nn_at ?_
    refine fld_rule a4 (by simp) rfl k0 fun s5 e5 z5 a5 o5 => ?_
    simp only [List.set_cons_succ, List.set_cons_zero] at a5
    simp only [V.change, hdn, hc, if_true] at hK
    refine hK s5 (e24.trans e5) ?_
    exact ⟨k0, ⟨n, m, ms, mu, by simpa [hc] using a5, h2.st (e24.trans e5) (by simp), h3.st (e24.trans e5) (by simp), ⟨es, cl, h4.st (e24.trans e5) (by simp)⟩, h5.st (e24.trans e5) (by simp)⟩, h6.st (e24.trans e5) fun j => by simp; omega⟩
  · have fin : VDp k s4 b { v with count := v.count + 1, cl := if v.cl < 0 then v.cl else v.cl - 1, fl := if v.fl < 0 then v.fl else v.fl - 1 } ps :=
      ⟨k0, ⟨n, m, ms, mu, by simpa [hdn] using a4, h2.st e24 (by simp), h3.st e24 (by simp), ⟨es, cl, h4.st e24 (by simp)⟩, h5.st e24 (by simp)⟩, h6.st e24 fun j => by simp; omega⟩
    refine bif_dec (fun hf => ?_) (fun hf => ?_)
    · refine nn_at ?_
      refine (ldI_of (n := v.fc) ?_).2 ?_
      · rw [add_at, add_at]; exact w_cell (a4 8 _ rfl)
      · simp only [V.change, hdn, hc, hf] at hK
        refine hK s4 e24 ?_
        simpa [hf, hdn] using fin
    · simp only [V.change, hdn, hc, hf] at hK
      refine hK s4 e24 ?_
      simpa [hdn] using fin
theorem vfind_ok {k : Nat} {s : St} {b : Nat} {v : VDisk} {ps : List (Option Addr)} {n : ByteArray} {K : Int → Int → HP} (h : VDp k s b v ps)
    (hK : K (V.find v n).1 (V.find v n).2 s.H) : vdisk_Disk_find (some ⟨b, 0, none⟩) n K s.H := by
  obtain ⟨k0, ⟨n, m, ms, mu, h1, h2, h3, ⟨es, cl, h4⟩, h5⟩, h6⟩ := h
  unfold vdisk_Disk_find vdisk_Disk_find_j1
  repeat (first|refine nn_at ?_|refine ldI_at h1 rfl ?_|refine ldB_at h1 rfl ?_|refine ldS_at h1 rfl ?_|refine ldP_at h1 rfl ?_|refine ldM_at h1 rfl ?_|refine ldL_at h1 rfl ?_)
  refine mget_rule h4 (fun hn => ?_) (fun i hi => ?_)
  · refine bif_f ?_
    simpa [V.find, hn] using hK
  · refine ⟨_, rfl, bif_t ?_⟩
    simpa [V.find, hi] using hK
theorem touch_ok {k : Nat} {s : St} {b : Nat} {v : VDisk} {ps : List (Option Addr)} {n : ByteArray} {K : Int → Int → HP} (h : VDp k s b v ps) (hv : v.Ok)
    (hK : ∀ s', Step [k] s s' → VDp k s' b (V.change v).1 ps → K (if (V.change v).2 = 0 then (V.find v n).1 else 0) (if (V.change v).2 = 0 then (V.find v n).2 else (V.change v).2) s'.H) : vdisk_Disk_touch (some ⟨b, 0, none⟩) n K s.H := by
  unfold vdisk_Disk_touch
  refine change_ok h hv fun s2 e2 h2 => ?_
  have hK2 := hK s2 e2 h2
  refine bif_ndec (fun hz => ?_) (fun hz => ?_)
  · rwa [if_neg hz, if_neg hz] at hK2
  · rw [if_pos hz, if_pos hz] at hK2
    refine vfind_ok h2 ?_
    have : V.find (V.change v).1 n = V.find v n := by
      have : (V.change v).1.seen = v.seen := by
        unfold V.change; split
        · rfl
        · dsimp only; split
          · rfl
          · split <;> rfl
      simp [V.find, this]
    rw [this]
    exact hK2
theorem vturn_ok {k : Nat} {s : St} {b : Nat} {v : VDisk} {ps : List (Option Addr)} {mv : MoveM} {K : HP} (h : VDp k s b v ps) (hm : v.moves.length ≤ 1000000000000) (hko : Ko k s)
    (hK : ∀ s', Step [k, k + 2, k + 3] s s' → VDp k s' b (V.turn v mv) ps → K s'.H) : vdisk_Disk_turn (some ⟨b, 0, none⟩) mv K s.H := by
  obtain ⟨k0, ⟨n, m, ms, mu, h1, h2, h3, ⟨es, cl, h4⟩, h5⟩, h6⟩ := h
  unfold vdisk_Disk_turn
  refine newc_0 fun s1 b1 n1 a1 => ?_
  have e1 := n1.step
  have h11 := h1.mono (e1.view (k := k) (by simp))
  unfold ld_G_vdisk_move
  repeat (first|refine nn_at ?_|refine ldI_at h11 rfl ?_|refine ldB_at h11 rfl ?_|refine ldS_at h11 rfl ?_|refine ldP_at h11 rfl ?_|refine ldM_at h11 rfl ?_|refine ldL_at h11 rfl ?_)
  repeat (first|refine nn_at ?_|refine ldI_at a1 rfl ?_|refine ldB_at a1 rfl ?_|refine ldS_at a1 rfl ?_|refine ldP_at a1 rfl ?_|refine ldM_at a1 rfl ?_|refine ldL_at a1 rfl ?_)
  refine newc_0 fun s2 b2 n2 a2 => ?_
  have e2 := n2.step
  have e02 := e1.trans e2
  have h12 := h1.mono (e02.view (k := k) (by simp))
  have hz1 := n1.sz
  have hz2 := n2.sz
  have hko2 := hko.mono e02
  refine held_rule (ldL_at h12 rfl rfl) ?_
  refine app_rule (q := k + 2) (h3.st e02 (by simp)) (Ls.single (t := tMove) (x := mv) rfl a2) (fun s3 sl3 e3 b3 => ?_) (hq := by unfold Ko own at hko2; omega)
  have e03 : Step [k + 2] s s3 := e02.n.trans e3
  have h13 := h1.mono (e03.view (k := k) (by simp))
  repeat (first|refine nn_at ?_|refine ldI_at h13 rfl ?_|refine ldB_at h13 rfl ?_|refine ldS_at h13 rfl ?_|refine ldP_at h13 rfl ?_|refine ldM_at h13 rfl ?_|refine ldL_at h13 rfl ?_)
  refine fld_rule h13 (by simp) rfl k0 fun s4 e4 z4 a4 o4 => ?_
  simp only [List.set_cons_succ, List.set_cons_zero] at a4
  repeat (first|refine nn_at ?_|refine ldI_at a4 rfl ?_|refine ldB_at a4 rfl ?_|refine ldS_at a4 rfl ?_|refine ldP_at a4 rfl ?_|refine ldM_at a4 rfl ?_|refine ldL_at a4 rfl ?_)
  have a14 := a1.mono ((e2.v0.trans e3.v0).trans e4.v0)
  repeat (first|refine nn_at ?_|refine ldI_at a14 rfl ?_|refine ldB_at a14 rfl ?_|refine ldS_at a14 rfl ?_|refine ldP_at a14 rfl ?_|refine ldM_at a14 rfl ?_|refine ldL_at a14 rfl ?_)
  have e04 : Step [k, k + 2] s s4 := e03.tr e4
  have hsz4 := e04.sz
  refine give_ok (h4.st e04 (by simp)) (by omega) (by have := hko.mono e04; unfold Ko at this; omega) fun s5 es5 cl5 e5 h45 => ?_
  have e05 : Step [k, k + 2, k + 3] s s5 := e04.tr e5
  have e45 : Step [k, k + 3] s3 s5 := e4.tr e5
  refine hK s5 e05 ⟨k0, ⟨n, sl3, ms, mu, a4.mono (e5.view (by simp)), h2.st e05 (by simp), b3.st e45 (by simp), ⟨es5, cl5, h45⟩, h5.st e05 (by simp)⟩, h6.st e05 fun j => by simp; omega⟩
theorem mclone_rule {k k' : Nat} {s : St} {b : Nat} {es : List MapEntry} {cl : Nat} {m : List (ByteArray × Int)} {K : Nat → HP} (h : MapAt k s b es cl m) (hk' : k' < 2305843009213693952 + 1152921504606846976 * s.H.size)
    (hK : ∀ s' b', Step [] s s' → s'.H.size = s.H.size + 1 → MapAt k' s' b' es cl m → K b' s'.H) : mclone (some b) K s.H := by
  refine ⟨b, _, _, rfl, h.obj, ?_⟩
  refine newo_rule k' hk' rfl fun s' b' n => hK s' b' n.step n.sz ⟨n.here, h.ents, h.born, h.uniq⟩
theorem Clone_ok {k k' : Nat} {s : St} {b : Nat} {es : List MapEntry} {cl : Nat} {m : List (ByteArray × Int)} {K : Option Nat → HP} (h : MapAt k s b es cl m) (hk' : k' < 2305843009213693952 + 1152921504606846976 * s.H.size)
    (hK : ∀ s' b', Step [] s s' → s'.H.size = s.H.size + 1 → MapAt k' s' b' es cl m → K (some b') s'.H) : maps_Clone_vdisk_names_string_int (some b) K s.H := by
  unfold maps_Clone_vdisk_names_string_int
  exact bif_f (mclone_rule h hk' hK)
theorem Nodes.upd {k : Nat} {s s' : St} {l : List VNode} {ps : List (Option Addr)} {j p : Nat} {x x' : VNode} (h : Nodes k s l ps) (hj : l[j]? = some x) (hp : ps[j]? = some (some ⟨p, 0, none⟩)) (hs : Step [k + 10 + 2 * j, k + 11 + 2 * j] s s') (hx : NodeAt (k + 10 + 2 * j) s' p x') : Nodes k s' (l.set j x') ps :=
  ⟨by simp [h.len], fun i y hi => by
    by_cases e : j = i
    · subst e
      rw [List.getElem?_set_self (List.getElem?_eq_some_iff.1 hj).1] at hi
      simp at hi; subst hi
      exact ⟨p, hp, hx⟩
    · rw [List.getElem?_set_ne e] at hi
      obtain ⟨p', g1, g2⟩ := h.at_ i y hi
      exact ⟨p', g1, g2.st hs (by simp; omega) (by simp; omega)⟩⟩
theorem take_map_set {α : Type} (f : α → α) : ∀ (l : List α) (i : Nat) (h : i < l.length), ((l.take i).map f ++ l.drop i).set i (f (l[i]'h)) = (l.take (i + 1)).map f ++ l.drop (i + 1)
  | [], i, h => by simp at h
  | x :: l, 0, h => by simp
  | x :: l, i + 1, h => by
    have := take_map_set f l i (by simpa using h)
    simpa using this
theorem fix_ok {k : Nat} {s : St} {b : Nat} {v : VDisk} {ps : List (Option Addr)} {K : HP} (h : VDp k s b v ps) (hn : v.nodes.length ≤ 1000000000000) (hko : Ko k s)
    (hK : ∀ s', Step (dk k) s s' → VDp k s' b (V.fix v) ps → K s'.H) : vdisk_Disk_fix (some ⟨b, 0, none⟩) K s.H := by
  obtain ⟨k0, ⟨n, m, ms, mu, h1, h2, h3, ⟨es, cl, h4⟩, h5⟩, h6⟩ := h
  unfold vdisk_Disk_fix
  repeat (first|refine nn_at ?_|refine ldI_at h1 rfl ?_|refine ldB_at h1 rfl ?_|refine ldS_at h1 rfl ?_|refine ldP_at h1 rfl ?_|refine ldM_at h1 rfl ?_|refine ldL_at h1 rfl ?_)
  refine Clone_ok (k' := k + 4) h4 (by unfold Ko own at hko; omega) fun s1 mu1 e1 z1 h51 => ?_
  have h11 := h1.mono (e1.view (k := k) (by simp))
  repeat (first|refine nn_at ?_|refine ldI_at h11 rfl ?_|refine ldB_at h11 rfl ?_|refine ldS_at h11 rfl ?_|refine ldP_at h11 rfl ?_|refine ldM_at h11 rfl ?_|refine ldL_at h11 rfl ?_)
  refine fld_rule h11 (by simp) rfl k0 fun s2 e2 z2 a2 o2 => ?_
  simp only [List.set_cons_succ, List.set_cons_zero] at a2
  repeat (first|refine nn_at ?_|refine ldI_at a2 rfl ?_|refine ldB_at a2 rfl ?_|refine ldS_at a2 rfl ?_|refine ldP_at a2 rfl ?_|refine ldM_at a2 rfl ?_|refine ldL_at a2 rfl ?_)
  refine fld_rule a2 (by simp) rfl k0 fun s3 e3 z3 a3 o3 => ?_
  simp only [List.set_cons_succ, List.set_cons_zero] at a3
  repeat (first|refine nn_at ?_|refine ldI_at a3 rfl ?_|refine ldB_at a3 rfl ?_|refine ldS_at a3 rfl ?_|refine ldP_at a3 rfl ?_|refine ldM_at a3 rfl ?_|refine ldL_at a3 rfl ?_)
  have e13 := e2.trans e3
  have e03 : Step [k] s s3 := e1.n.trans e13
  have e03' : Step (dk k) s s3 := e03.mono (dk1 (j := 0) (by omega))
  have hlen := h6.len
  have h23 := h2.st e03 (by simp)
  refine loop_rule (fun i : Nat => [.int .i64 i]) (fun i s' => i ≤ v.nodes.length ∧ Step (dk k) s s' ∧ At (s'.w k) b 0 [.int .i64 v.room, .slice n.a n.len n.cap, .map (some ms), .map (some mu1), .slice none 0 0, .bool v.off, .int .i64 v.count, .int .i64 v.fl, .int .i64 v.fc, .int .i64 v.cl, .int .i64 v.cc] ∧
    Bld tP (k + 1) s' ps n ∧ MapAt (k + 3) s' ms es cl v.seen ∧ MapAt (k + 4) s' mu1 es cl v.seen ∧ Nodes k s' ((v.nodes.take i).map VNode.calm ++ v.nodes.drop i) ps) (fun i _ => v.nodes.length - i) 0 rfl
    ⟨Nat.zero_le _, e03', a3, h23, h4.st e03 (by simp), h51.st e13 (by simp), by simpa using h6.st e03 fun j => by simp; omega⟩ ?_
  rintro i s4 ⟨hi, e4, a4, b4, m4, mu4, n4⟩ G hG
  simp only [List.getD_cons_zero, List.getD_cons_succ, asI_v, asL_v, asS_v, asB_v, asM_v, asP_v]
  have hnl : n.len = v.nodes.length := by rw [h2.ls.len, hlen]
  rw [hnl]
  refine bif_dec (fun hc => ?_) (fun hc => ?_)
  · refine ixL_rule b4.ls (by omega) (by omega) fun b' o x hx hel => ?_
    obtain ⟨_, rfl, hel⟩ := hel
    rw [Int.toNat_natCast] at hx
    have hlt : i < v.nodes.length := by omega
    have hcur : ((v.nodes.take i).map VNode.calm ++ v.nodes.drop i)[i]? = some v.nodes[i] := by
      rw [List.getElem?_append_right (by simp; omega)]; simp; rw [show i + (i - min i v.nodes.length) = i by omega]; exact List.getElem?_eq_getElem hlt
    obtain ⟨p, hp1, hp2⟩ := n4.at_ _ _ hcur
    rw [hx] at hp1
    simp at hp1
    subst hp1
    refine ldP_at0 hel rfl ?_
    obtain ⟨sl, q1, q2⟩ := hp2
    repeat (first|refine nn_at ?_|refine ldI_at q1 rfl ?_|refine ldB_at q1 rfl ?_|refine ldS_at q1 rfl ?_|refine ldP_at q1 rfl ?_|refine ldM_at q1 rfl ?_|refine ldL_at q1 rfl ?_)
    refine fld_rule q1 (by simp) rfl (by omega) fun s5 e5 z5 a5 o5 => ?_
    simp only [List.set_cons_succ, List.set_cons_zero] at a5
    rw [w64_id (by omega) (by omega)]
    have hN : NodeAt (k + 10 + 2 * i) s5 p v.nodes[i].calm := ⟨sl, a5, q2.st e5 (by simp)⟩
    have hup := n4.upd hcur hx (e5.mono (by simp)) hN
    refine hG (i + 1) s5 ⟨by omega, e4.trans (e5.mono (by intro x hx; simp at hx; rw [mem_dk]; omega)), a4.mono (e5.view (by simp; omega)), b4.st e5 (by simp; omega), m4.st e5 (by simp; omega), mu4.st e5 (by simp; omega), ?_⟩ (by omega)
    have : ((v.nodes.take i).map VNode.calm ++ v.nodes.drop i).set i v.nodes[i].calm = ((v.nodes.take (i + 1)).map VNode.calm ++ v.nodes.drop (i + 1)) := by
      exact take_map_set VNode.calm v.nodes i hlt
    rw [this] at hup
    exact hup
  · have : i = v.nodes.length := by omega
    subst this
    refine hK s4 e4 ⟨k0, ⟨n, ⟨none, 0, 0⟩, ms, mu1, a4, b4, Bld.nil, ⟨es, cl, m4⟩, ⟨mu1, es, cl, rfl, mu4⟩⟩, by simpa [V.fix] using n4⟩
theorem vDown_ok {k : Nat} {s : St} {b : Nat} {v : VDisk} {ps : List (Option Addr)} {K : Bool → HP} (h : VDp k s b v ps) (hK : K v.off s.H) : vdisk_Disk_Down (some ⟨b, 0, none⟩) K s.H := by
  obtain ⟨k0, ⟨n, m, ms, mu, h1, _⟩, _⟩ := h
  unfold vdisk_Disk_Down
  repeat (first|refine nn_at ?_|refine ldI_at h1 rfl ?_|refine ldB_at h1 rfl ?_|refine ldS_at h1 rfl ?_|refine ldP_at h1 rfl ?_|refine ldM_at h1 rfl ?_|refine ldL_at h1 rfl ?_)
  exact hK
def V.data (v : VDisk) (i : Int) : ByteArray := match v.nodes[i.toNat]? with | some x => x.seen | none => ⟨#[]⟩
def V.text (v : VDisk) (n : ByteArray) : ByteArray × Int :=
  if v.off then (⟨#[]⟩, 11) else if (V.find v n).2 = 0 then (V.data v (V.find v n).1, 0) else (⟨#[]⟩, (V.find v n).2)
theorem look_mem {m : List (ByteArray × Int)} {n : ByteArray} {i : Int} (h : look m n = some i) : (n, i) ∈ m := by
  simp only [look, Option.map_eq_some_iff] at h
  obtain ⟨x, h1, h2⟩ := h
  have := List.find?_some h1
  simp at this
  have hm := List.mem_of_find?_eq_some h1
  rw [← this, ← h2]; exact hm
theorem V.find_ok {v : VDisk} {n : ByteArray} (h : (V.find v n).2 = 0) : look v.seen n = some (V.find v n).1 := by
  unfold V.find at *
  cases e : look v.seen n with
  | none => rw [e] at h; simp at h
  | some i => rfl
theorem text_ok {k : Nat} {s : St} {b : Nat} {v : VDisk} {ps : List (Option Addr)} {n : ByteArray} {K : ByteArray → Int → HP} (h : VDp k s b v ps) (hn : ∀ x ∈ v.seen, 0 ≤ x.2 ∧ x.2 < v.nodes.length)
    (hK : K (V.text v n).1 (V.text v n).2 s.H) : vdisk_Disk_text (some ⟨b, 0, none⟩) n K s.H := by
  have hh := h
  obtain ⟨k0, ⟨nn, m, ms, mu, h1, h2, h3, ⟨es, cl, h4⟩, h5⟩, h6⟩ := h
  unfold vdisk_Disk_text
  repeat (first|refine nn_at ?_|refine ldI_at h1 rfl ?_|refine ldB_at h1 rfl ?_|refine ldS_at h1 rfl ?_|refine ldP_at h1 rfl ?_|refine ldM_at h1 rfl ?_|refine ldL_at h1 rfl ?_)
  cases hdn : v.off
  case true =>
    refine bif_t ?_
    simpa [V.text, hdn] using hK
  case false =>
  refine bif_f ?_
  refine vfind_ok hh ?_
  simp only [V.text, hdn, Bool.false_eq_true, if_false] at hK
  refine bif_ndec (fun hz => ?_) (fun hz => ?_)
  · rw [if_neg hz] at hK
    exact hK
  · rw [if_pos hz] at hK
    have hl := V.find_ok hz
    generalize (V.find v n).1 = i at *
    have hin := hn _ (look_mem hl)
    simp only at hin
    repeat (first|refine nn_at ?_|refine ldI_at h1 rfl ?_|refine ldB_at h1 rfl ?_|refine ldS_at h1 rfl ?_|refine ldP_at h1 rfl ?_|refine ldM_at h1 rfl ?_|refine ldL_at h1 rfl ?_)
    have hpl := h6.len
    refine ixL_rule h2.ls hin.1 (by rw [hpl]; exact hin.2) fun b' o x hx hel => ?_
    obtain ⟨_, rfl, hel⟩ := hel
    have hlt2 : i.toNat < v.nodes.length := by omega
    obtain ⟨p, hp1, hp2⟩ := h6.at_ _ _ (List.getElem?_eq_getElem hlt2)
    rw [hx] at hp1
    simp at hp1
    subst hp1
    refine ldP_at0 hel rfl ?_
    obtain ⟨sl, q1, q2⟩ := hp2
    repeat (first|refine nn_at ?_|refine ldI_at q1 rfl ?_|refine ldB_at q1 rfl ?_|refine ldS_at q1 rfl ?_|refine ldP_at q1 rfl ?_|refine ldM_at q1 rfl ?_|refine ldL_at q1 rfl ?_)
    simpa [V.data, List.getElem?_eq_getElem hlt2] using hK
end Go.Ph
end
section
set_option linter.all false
namespace Go.Ph
open S
def okc (c : UInt8) : Bool := (decide (97 ≤ c.toNat) && decide (c.toNat ≤ 122)) || (decide (48 ≤ c.toNat) && decide (c.toNat ≤ 57)) || decide (c.toNat = 46) || decide (c.toNat = 45)
def nameOk (s : ByteArray) : Bool := decide (1 ≤ s.size) && decide (s.size ≤ 32) && s.data.toList.all okc
def letters : ByteArray := ⟨#[97, 98, 99, 100, 101, 102, 103, 104, 105, 106, 107, 108, 109, 110, 111, 112, 113, 114, 115, 116, 117, 118, 119, 120, 121, 122, 48, 49, 50, 51, 52, 53, 54, 55, 56, 57, 46, 45]⟩
theorem letters_ok : ∀ n : Fin 256, decide (firstIdx letters (UInt8.ofNat n.1) < 0) = !okc (UInt8.ofNat n.1) := by decide +kernel
theorem letter_ok (c : UInt8) : decide (firstIdx letters c < 0) = !okc c := by
  have := letters_ok ⟨c.toNat, c.toNat_lt⟩
  simpa using this
theorem all_take {p : UInt8 → Bool} {l : List UInt8} {i : Nat} {c : UInt8} (h : l[i]? = some c) (ha : (l.take i).all p = true) : (l.take (i + 1)).all p = p c := by
  rw [List.take_add_one, h]
  simp only [Option.toList, List.all_append, ha, List.all_cons, List.all_nil, Bool.and_true, Bool.true_and]
theorem all_false {p : UInt8 → Bool} {l : List UInt8} {i : Nat} {c : UInt8} (h : l[i]? = some c) (hp : p c = false) : l.all p = false := by
  rw [List.all_eq_false]
  exact ⟨c, List.mem_of_getElem? h, by simp [hp]⟩
theorem named_ok {s : St} {p : ByteArray} {K : Bool → HP} (hb : p.size ≤ 9223372036854775807) (hK : K (nameOk p) s.H) : vdisk_named p K s.H := by
  unfold vdisk_named
  refine loop_rule (fun i : Nat => [.int .i64 i]) (fun i s' => s' = s ∧ i ≤ p.size ∧ (p.data.toList.take i).all okc = true) (fun i _ => p.size - i) 0 rfl ⟨rfl, Nat.zero_le _, rfl⟩ ?_
  rintro i s' ⟨rfl, hi, ha⟩ G hG
  simp only [List.getD_cons_zero, List.getD_cons_succ, asI_v, asL_v, asS_v, asB_v, asM_v, asP_v]
  refine bif_dec (fun hc => ?_) (fun hc => ?_)
  · refine ixS_rule (by omega) (by omega) fun c hx => ?_
    unfold strings_IndexByte internal_stringslite_IndexByte internal_bytealg_IndexByteString
    rw [Int.toNat_natCast] at hx
    have hu : (((c.toNat : Int)).toNat).toUInt8 = c := by simp
    rw [hu]
    change (bif decide (firstIdx letters c < 0) then K false else G [Value.int IntKind.i64 (w64 ((i : Int) + 1))]) s'.H
    rw [letter_ok c]
    have hat := all_take hx ha
    cases hok : okc c
    · refine bif_t ?_
      have := all_false hx hok
      simpa [nameOk, this] using hK
    · refine bif_f ?_
      rw [w64_id (by omega) (by omega)]
      exact hG (i + 1) s' ⟨rfl, by omega, by rw [hat]; exact hok⟩ (by omega)
  · have : i = p.size := by omega
    subst this
    rw [List.take_of_length_le (by rw [ba_len]; exact Nat.le_refl _)] at ha
    refine bif_ndec (fun hn => ?_) (fun hn => ?_)
    · rw [ba_nil] at hn
      have : decide ((p.size : Int) ≤ 32) = nameOk p := by
        simp only [nameOk, ha, Bool.and_true, show decide (1 ≤ p.size) = true by simp; omega, Bool.true_and]
        by_cases h : p.size ≤ 32
        · simp [h]; omega
        · simp [h]; omega
      rw [this]; exact hK
    · rw [ba_nil] at hn
      simpa [nameOk, hn] using hK
/-- a heap that grew by itself -/
theorem grow_st (s : St) (H' : Heap) (hz : s.H.size ≤ H'.size) (hs : ∀ i, i < s.H.size → H'[i]? = s.H[i]?) :
    ∃ s' : St, s'.H = H' ∧ Step [] s s' ∧ ∀ b i x, s.H.size ≤ b → pk H' b i = some x → s'.w 0 b i = some x := by
  have hp : ∀ b i, b < s.H.size → pk H' b i = pk s.H b i := fun b i hb => by unfold pk; rw [hs b hb]
  refine ⟨⟨H', fun b i => if b < s.H.size then s.c b i else 0, fun b i hb => ?_, fun b i hb => ?_⟩, rfl, ⟨hz, fun b i hb _ => ⟨by simp [hb], hp b i hb⟩, fun b hb => by unfold sh; rw [hs b hb]⟩, fun b i x hb hx => w_mk hx ?_⟩
  · split
    · rename_i h; have := s.wf b i h; omega
    · omega
  · split at hb
    · rename_i h
      have := s.fz b i hb
      unfold frz at this ⊢
      simp only [hs b h]
      exact this
    · exact absurd rfl hb
  · show (if b < s.H.size then s.c b i else 0) = 0
    rw [if_neg (by omega)]
def V.names (v : VDisk) : List ByteArray := if v.off then [] else (v.seen.map (·.1)).mergeSort bLe
theorem vNames_ok {C : Cx} {k : Nat} {s : St} {b : Nat} {v : VDisk} {ps : List (Option Addr)} {K : Sl → HP} (h : VDp k s b v ps) (hsz : ∀ n ∈ v.seen.map (·.1), n.size ≤ 9223372036854775807) (hln : v.seen.length ≤ 1000000)
    (hK : ∀ s' r, Step [] s s' → Ls tS (s'.w 0) (V.names v) r → K r s'.H) : vdisk_Disk_Names C (some ⟨b, 0, none⟩) K s.H := by
  obtain ⟨k0, ⟨n, m, ms, mu, h1, h2, h3, ⟨es, cl, h4⟩, h5⟩, h6⟩ := h
  unfold vdisk_Disk_Names maps_Keys_vdisk_names_string_int
  repeat (first|refine nn_at ?_|refine ldI_at h1 rfl ?_|refine ldB_at h1 rfl ?_|refine ldS_at h1 rfl ?_|refine ldP_at h1 rfl ?_|refine ldM_at h1 rfl ?_|refine ldL_at h1 rfl ?_)
  cases hd : v.off
  case true =>
    refine bif_t (hK s _ Step.refl ?_)
    simp only [V.names, hd, if_true]; exact Ls.nil_
  case false =>
  refine bif_f ?_
  repeat (first|refine nn_at ?_|refine ldI_at h1 rfl ?_|refine ldB_at h1 rfl ?_|refine ldS_at h1 rfl ?_|refine ldP_at h1 rfl ?_|refine ldM_at h1 rfl ?_|refine ldL_at h1 rfl ?_)
  refine newc_0 fun s1 b1 n1 a1 => ?_
  have h41 := h4.st n1.step (by simp)
  have hkeys : es.map (·.key) = (v.seen.map (·.1)).map Value.string := by
    have := congrArg (List.map (·.1)) h4.ents.kv
    simp only [List.map_map] at this ⊢
    exact this
  refine ⟨b1, ms, es.toArray, cl, v.seen.map (·.1), rfl, rfl, rfl, w_cell (a1 0 _ rfl), h41.obj, by simpa using hkeys, h4.born, by simpa using h4.uniq, h4.ents.nd, hsz, by simpa using hln, fun r H' hz hs hr hb => ?_⟩
  obtain ⟨s2, rfl, e2, hw⟩ := grow_st s1 H' hz hs
  refine hK s2 r (n1.step.trans e2) ?_
  have hvn : V.names v = (v.seen.map (·.1)).mergeSort bLe := by simp [V.names, hd]
  rw [hvn]
  obtain ⟨q1, q2, q3⟩ := hr
  refine ⟨q1, q2, fun ha => ?_, fun a ha => ?_⟩
  · rw [ha] at q3; exact q3.2
  · rw [ha] at q3
    obtain ⟨q4, q5⟩ := q3
    refine ⟨fun _ => q4, fun j x hj => ⟨[.string x], rfl, fun i y hi => ?_⟩⟩
    have e : i = 0 := by cases i with
      | zero => rfl
      | succ i => simp at hi
    subst e
    simp at hi; subst hi
    have := q5 j x hj
    obtain ⟨ab, ao, sp⟩ := a
    simp at q4; subst q4
    rw [add_at] at this
    simp only [tS, Nat.mul_one, Nat.add_zero]
    exact hw _ _ _ (hb _ ha) (cell_pk this)
end Go.Ph
end
section
set_option linter.all false
namespace Go.Ph
theorem bless_eq : ∀ (x y : List UInt8), Op.bytesLess x y = decide (x < y)
  | [], [] => by simp [Op.bytesLess]
  | _ :: _, [] => by simp [Op.bytesLess]
  | [], _ :: _ => by simp [Op.bytesLess]
  | a :: x, b :: y => by
    rw [Op.bytesLess, bless_eq x y]
    simp only [List.cons_lt_cons_iff]
    by_cases h1 : a < b <;> by_cases h2 : a = b <;> by_cases h3 : x < y <;> simp [h1, h2, h3]
theorem slt_eq (a b : ByteArray) : slt a b = decide (a.data.toList < b.data.toList) := by
  unfold slt; rw [bless_eq, ByteArray.toList_eq, ByteArray.toList_eq]
theorem slt_irrefl (a : ByteArray) : slt a a = false := by rw [slt_eq]; simp [List.lt_irrefl]
theorem slt_trans {a b c : ByteArray} (h : slt a b = true) (k : slt b c = true) : slt a c = true := by
  rw [slt_eq, decide_eq_true_eq] at *; exact List.lt_trans h k
theorem slt_tri (a b : ByteArray) : slt a b = true ∨ a = b ∨ slt b a = true := by
  rw [slt_eq, slt_eq, decide_eq_true_eq, decide_eq_true_eq]
  by_cases h : a.data.toList < b.data.toList
  · exact .inl h
  · by_cases h2 : b.data.toList < a.data.toList
    · exact .inr (.inr h2)
    · exact .inr (.inl (ba_ext (List.le_antisymm (List.not_lt.1 h2) (List.not_lt.1 h))))
theorem gt_eq (a b : ByteArray) : R.gt a b = slt b a := by
  unfold R.gt
  rcases slt_tri a b with h | h | h
  · have : slt b a = false := by cases e : slt b a with | false => rfl | true => have := slt_trans h e; rw [slt_irrefl] at this; cases this
    simp [h, this]
  · subst h; simp [slt_irrefl]
  · have h1 : slt a b = false := by cases e : slt a b with | false => rfl | true => have := slt_trans h e; rw [slt_irrefl] at this; cases this
    have h2 : a ≠ b := by rintro rfl; rw [slt_irrefl] at h; cases h
    simp [h, h1, h2]
theorem bLe_trans (a b c : ByteArray) (h : bLe a b = true) (k : bLe b c = true) : bLe a c = true := by
  simp only [bLe, Bool.not_eq_true'] at *
  cases e : slt c a with
  | false => rfl
  | true =>
    rcases slt_tri b a with h1 | h1 | h1
    · rw [h] at h1; cases h1
    · subst h1; rw [k] at e; cases e
    · have := slt_trans e h1; rw [k] at this; cases this
theorem bLe_total (a b : ByteArray) : (bLe a b || bLe b a) = true := by
  simp only [bLe]
  rcases slt_tri a b with h | h | h
  · have : slt b a = false := by cases e : slt b a with | false => rfl | true => have := slt_trans h e; rw [slt_irrefl] at this; cases this
    simp [this]
  · subst h; simp [slt_irrefl]
  · have : slt a b = false := by cases e : slt a b with | false => rfl | true => have := slt_trans h e; rw [slt_irrefl] at this; cases this
    simp [this]
theorem bLe_anti {a b : ByteArray} (h : bLe a b = true) (k : bLe b a = true) : a = b := by
  simp only [bLe, Bool.not_eq_true'] at *
  rcases slt_tri a b with h1 | h1 | h1
  · rw [k] at h1; cases h1
  · exact h1
  · rw [h] at h1; cases h1
theorem slt_bLe {a b : ByteArray} (h : slt a b = true) : bLe a b = true := by
  simp only [bLe, Bool.not_eq_true']
  cases e : slt b a with | false => rfl | true => have := slt_trans h e; rw [slt_irrefl] at this; cases this
/-- names in order, each file once -/
structure Good (N : Nat) (l : List EntM) : Prop where
  sorted : l.Pairwise fun a b => slt a.Name b.Name = true
  files : (l.map (·.File)).Nodup
  rng : ∀ e ∈ l, 0 ≤ e.File ∧ e.File < N
structure NamesSim (N : Nat) (m : List (ByteArray × Int)) (l : List EntM) : Prop where
  good : Good N l
  mem : ∀ n i, (n, i) ∈ m ↔ (⟨n, i⟩ : EntM) ∈ l
  nd : (m.map (·.1)).Nodup
theorem Good.inj {N : Nat} {l : List EntM} (h : Good N l) {x y : EntM} (hx : x ∈ l) (hy : y ∈ l) (hn : x.Name = y.Name) : x = y := by
  have := h.sorted
  induction l with
  | nil => cases hx
  | cons z l ih =>
    rw [List.pairwise_cons] at this
    rcases List.mem_cons.1 hx with rfl | hx' <;> rcases List.mem_cons.1 hy with rfl | hy'
    · rfl
    · have h1 := this.1 y hy'; rw [hn, slt_irrefl] at h1; cases h1
    · have h1 := this.1 x hx'; rw [hn, slt_irrefl] at h1; cases h1
    · refine ih ⟨this.2, ?_, fun e he => h.rng e (by simp [he])⟩ hx' hy' this.2
      have := h.files; simp at this; exact this.2
theorem find_mem {N : Nat} {l : List EntM} (h : Good N l) {n : ByteArray} {i : Int} : (⟨n, i⟩ : EntM) ∈ l → R.find l n = i := by
  intro hm
  unfold R.find
  cases e : l.find? (fun e => decide (e.Name = n)) with
  | none => have := List.find?_eq_none.1 e _ hm; simp at this
  | some x =>
    have h1 := List.find?_some e
    simp at h1
    have h2 := List.mem_of_find?_eq_some e
    have := h.inj h2 hm h1
    simp [this]
theorem find_none {l : List EntM} {n : ByteArray} (h : ∀ i, (⟨n, i⟩ : EntM) ∉ l) : R.find l n = -1 := by
  unfold R.find
  cases e : l.find? (fun e => decide (e.Name = n)) with
  | none => rfl
  | some x =>
    have h1 := List.find?_some e
    simp at h1
    have h2 := List.mem_of_find?_eq_some e
    exact absurd (by rw [← h1]; exact h2) (h x.File)
theorem NamesSim.find {N : Nat} {m : List (ByteArray × Int)} {l : List EntM} (h : NamesSim N m l) (n : ByteArray) : (∀ i, look m n = some i → R.find l n = i ∧ 0 ≤ i ∧ i < N ∧ (⟨n, i⟩ : EntM) ∈ l) ∧ (look m n = none → R.find l n = -1) := by
  refine ⟨fun i hi => ?_, fun hn => ?_⟩
  · have h1 := (h.mem n i).1 (look_mem hi)
    exact ⟨find_mem h.good h1, (h.good.rng _ h1).1, (h.good.rng _ h1).2, h1⟩
  · refine find_none fun i hi => ?_
    exact look_none hn _ ((h.mem n i).2 hi) rfl
theorem mem_without {l : List EntM} {n : ByteArray} {e : EntM} : e ∈ R.without l n ↔ e ∈ l ∧ e.Name ≠ n := by simp [R.without, List.mem_filter]
theorem Good.without {N : Nat} {l : List EntM} (h : Good N l) (n : ByteArray) : Good N (R.without l n) :=
  ⟨h.sorted.sublist List.filter_sublist, h.files.sublist (List.Sublist.map _ List.filter_sublist), fun e he => h.rng e (mem_without.1 he).1⟩
theorem insAt_le (m : List EntM) (x : ByteArray) : ∀ k, R.insAt m x k ≤ k
  | 0 => Nat.le_refl _
  | k + 1 => by
    unfold R.insAt
    split
    · split
      · exact Nat.le_trans (insAt_le m x k) (Nat.le_succ _)
      · exact Nat.le_refl _
    · exact Nat.le_refl _
theorem insAt_gt (m : List EntM) (x : ByteArray) : ∀ k j e, R.insAt m x k ≤ j → j < k → m[j]? = some e → slt x e.Name = true
  | 0, j, e, h1, h2, h3 => by omega
  | k + 1, j, e, h1, h2, h3 => by
    unfold R.insAt at h1
    split at h1
    · rename_i y hy
      split at h1
      · rename_i hg
        by_cases ej : j = k
        · subst ej
          rw [hy] at h3; simp at h3; subst h3
          rwa [gt_eq] at hg
        · exact insAt_gt m x k j e h1 (by omega) h3
      · omega
    · omega
theorem insAt_lt (m : List EntM) (x : ByteArray) : ∀ k e, 0 < R.insAt m x k → m[R.insAt m x k - 1]? = some e → R.gt e.Name x = false
  | 0, e, h1, h2 => by simp [R.insAt] at h1
  | k + 1, e, h1, h2 => by
    unfold R.insAt at h1 h2
    split at h1
    · rename_i y hy
      rw [hy] at h2
      simp only at h2
      split at h1
      · rename_i hg
        rw [if_pos hg] at h2
        exact insAt_lt m x k e h1 h2
      · rename_i hg
        rw [if_neg hg] at h2
        simp only [Nat.add_sub_cancel] at h2
        rw [hy] at h2; simp at h2; subst h2
        simpa using hg
    · rename_i hy
      rw [hy] at h2
      simp only [Nat.add_sub_cancel] at h2
      rw [hy] at h2; cases h2
theorem mem_put {l : List EntM} {x e : EntM} : e ∈ R.put l x ↔ e = x ∨ (e ∈ l ∧ e.Name ≠ x.Name) := by
  unfold R.put
  rw [List.mem_append, List.mem_append, List.mem_singleton]
  have h1 := List.take_append_drop (R.insAt (R.without l x.Name) x.Name (R.without l x.Name).length) (R.without l x.Name)
  have h2 : e ∈ R.without l x.Name ↔ e ∈ (R.without l x.Name).take (R.insAt (R.without l x.Name) x.Name (R.without l x.Name).length) ∨ e ∈ (R.without l x.Name).drop (R.insAt (R.without l x.Name) x.Name (R.without l x.Name).length) := by
    rw [← List.mem_append, h1]
  rw [← mem_without, h2]
  constructor
  · rintro ((h | h) | h)
    · exact .inr (.inl h)
    · exact .inl h
    · exact .inr (.inr h)
  · rintro (h | h | h)
    · exact .inl (.inr h)
    · exact .inl (.inl h)
    · exact .inr h
theorem put_perm (l : List EntM) (x : EntM) : (R.put l x).Perm (x :: R.without l x.Name) := by
  unfold R.put
  have h1 := List.take_append_drop (R.insAt (R.without l x.Name) x.Name (R.without l x.Name).length) (R.without l x.Name)
  rw [List.append_assoc, List.singleton_append]
  refine List.perm_middle.trans ?_
  rw [h1]
theorem Good.put {N : Nat} {l : List EntM} (h : Good N l) (x : EntM) (hx : 0 ≤ x.File ∧ x.File < N) (hf : ∀ e ∈ l, e.Name ≠ x.Name → e.File ≠ x.File) : Good N (R.put l x) := by
  have hw := h.without x.Name
  refine ⟨?_, ?_, fun e he => ?_⟩
  · unfold R.put
    have hle := insAt_le (R.without l x.Name) x.Name (R.without l x.Name).length
    have hgt := insAt_gt (R.without l x.Name) x.Name (R.without l x.Name).length
    have hlt := insAt_lt (R.without l x.Name) x.Name (R.without l x.Name).length
    have hne : ∀ e ∈ R.without l x.Name, e.Name ≠ x.Name := fun e he => (mem_without.1 he).2
    have hs := hw.sorted
    revert hle hgt hlt hne hs
    generalize R.without l x.Name = m
    generalize R.insAt m x.Name m.length = k
    intro hle hgt hlt hne hs
    have hs' := hs
    rw [← List.take_append_drop k m, List.pairwise_append] at hs'
    obtain ⟨s1, s2, s3⟩ := hs'
    have hdrop : ∀ b ∈ m.drop k, slt x.Name b.Name = true := fun b hb => by
      obtain ⟨j, hj⟩ := List.mem_iff_getElem?.1 hb
      rw [List.getElem?_drop] at hj
      exact hgt (k + j) b (by omega) (List.getElem?_eq_some_iff.1 hj).1 hj
    have htake : ∀ a ∈ m.take k, slt a.Name x.Name = true := fun a ha => by
      obtain ⟨j, hj⟩ := List.mem_iff_getElem?.1 ha
      rw [List.getElem?_take] at hj
      split at hj
      · rename_i hjk
        have hk1 : k - 1 < m.length := by omega
        have hg := hlt m[k - 1] (by omega) (List.getElem?_eq_getElem hk1)
        rw [gt_eq] at hg
        have hl : slt m[k - 1].Name x.Name = true := by
          rcases slt_tri m[k - 1].Name x.Name with h1 | h1 | h1
          · exact h1
          · exact absurd h1 (hne _ (List.getElem_mem _))
          · rw [hg] at h1; cases h1
        by_cases e : j = k - 1
        · subst e
          rw [List.getElem?_eq_getElem hk1] at hj
          simp at hj; rw [← hj]; exact hl
        · have hjm := (List.getElem?_eq_some_iff.1 hj)
          obtain ⟨hj1, hj2⟩ := hjm
          have := List.pairwise_iff_getElem.1 hs j (k - 1) hj1 hk1 (by omega)
          rw [hj2] at this
          exact slt_trans this hl
      · cases hj
    rw [List.append_assoc, List.singleton_append, List.pairwise_append, List.pairwise_cons]
    refine ⟨s1, ⟨hdrop, s2⟩, fun a ha b hb => ?_⟩
    rcases List.mem_cons.1 hb with rfl | hb
    · exact htake a ha
    · exact s3 a ha b hb
  · rw [((put_perm l x).map (·.File)).nodup_iff, List.map_cons, List.nodup_cons]
    refine ⟨fun hm => ?_, hw.files⟩
    obtain ⟨e, he, hee⟩ := List.mem_map.1 hm
    have := mem_without.1 he
    exact hf e this.1 this.2 hee
  · rcases mem_put.1 he with rfl | he
    · exact hx
    · exact h.rng e he.1
theorem mem_mset {m : List (ByteArray × Int)} {n : ByteArray} {i : Int} {a : ByteArray} {j : Int} : (a, j) ∈ mset m n i ↔ (a = n ∧ j = i) ∨ ((a, j) ∈ m ∧ a ≠ n) := by
  unfold mset
  split
  · rename_i hs
    obtain ⟨w, hw⟩ := Option.isSome_iff_exists.1 hs
    have hwm := look_mem hw
    rw [List.mem_map]
    constructor
    · rintro ⟨x, hx, hxe⟩
      split at hxe
      · simp at hxe; exact .inl ⟨hxe.1.symm, hxe.2.symm⟩
      · rename_i hne
        rw [hxe] at hx hne
        exact .inr ⟨hx, hne⟩
    · rintro (⟨rfl, rfl⟩ | ⟨h1, h2⟩)
      · exact ⟨_, hwm, by simp⟩
      · exact ⟨_, h1, by simp [h2]⟩
  · rename_i hs
    have hl : look m n = none := by simpa using hs
    have := look_none hl
    rw [List.mem_append, List.mem_singleton]
    constructor
    · rintro (h | h)
      · exact .inr ⟨h, this _ h⟩
      · simp at h; exact .inl h
    · rintro (⟨rfl, rfl⟩ | ⟨h1, h2⟩)
      · exact .inr rfl
      · exact .inl h1
theorem mset_nd {m : List (ByteArray × Int)} (h : (m.map (·.1)).Nodup) (n : ByteArray) (i : Int) : ((mset m n i).map (·.1)).Nodup := by
  unfold mset
  split
  · have : (m.map (fun x => if x.1 = n then (n, i) else x)).map (·.1) = m.map (·.1) := by
      rw [List.map_map]
      apply List.map_congr_left
      intro x _
      simp only [Function.comp]
      split
      · rename_i h; exact h.symm
      · rfl
    rw [this]; exact h
  · rename_i hs
    have hl : look m n = none := by simpa using hs
    rw [List.map_append, List.nodup_append]
    refine ⟨h, by simp, ?_⟩
    intro x hx y hy
    simp at hy; subst hy
    obtain ⟨z, hz, rfl⟩ := List.mem_map.1 hx
    exact look_none hl z hz
/-- a file's names are taken from it: the map forgets the file, the list the name -/
theorem NamesSim.drop {N : Nat} {m : List (ByteArray × Int)} {l : List EntM} (h : NamesSim N m l) {n : ByteArray} {i : Int} (hi : (⟨n, i⟩ : EntM) ∈ l) : NamesSim N (m.filter fun x => !decide (x.2 = i)) (R.without l n) := by
  refine ⟨h.good.without n, fun a j => ?_, h.nd.sublist (List.Sublist.map _ List.filter_sublist)⟩
  rw [List.mem_filter, mem_without, ← h.mem]
  have hfi : ∀ e ∈ l, e.File = i → e = ⟨n, i⟩ := fun e he hei => by
    obtain ⟨a, ha⟩ := List.mem_iff_getElem?.1 he
    obtain ⟨c, hc⟩ := List.mem_iff_getElem?.1 hi
    have : a = c := nodup_idx h.good.files (x := i) (by simp [ha, hei]) (by simp [hc])
    subst this
    rw [ha] at hc; simpa using hc
  constructor
  · rintro ⟨h1, h2⟩
    refine ⟨h1, ?_⟩
    rintro rfl
    have h3 := h.good.inj ((h.mem _ _).1 h1) hi rfl
    simp at h3
    simp [h3] at h2
  · rintro ⟨h1, h2⟩
    refine ⟨h1, ?_⟩
    simp only [Bool.not_eq_true', decide_eq_false_iff_not]
    rintro rfl
    have := hfi _ ((h.mem _ _).1 h1) rfl
    simp at this
    exact h2 this
theorem NamesSim.set {N : Nat} {m : List (ByteArray × Int)} {l : List EntM} (h : NamesSim N m l) {n : ByteArray} {i : Int} (hr : 0 ≤ i ∧ i < N) (hi : ∀ e ∈ l, e.File ≠ i) : NamesSim N (mset m n i) (R.put l ⟨n, i⟩) := by
  refine ⟨h.good.put ⟨n, i⟩ hr (fun e he _ => hi e he), fun a j => ?_, mset_nd h.nd n i⟩
  rw [mem_mset, mem_put, ← h.mem]
  simp
theorem NamesSim.more {N N' : Nat} {m : List (ByteArray × Int)} {l : List EntM} (h : NamesSim N m l) (hN : N ≤ N') : NamesSim N' m l :=
  ⟨⟨h.good.sorted, h.good.files, fun e he => by have := h.good.rng e he; omega⟩, h.mem, h.nd⟩
/-- the names of the map, in order, are the list's -/
theorem NamesSim.names {N : Nat} {m : List (ByteArray × Int)} {l : List EntM} (h : NamesSim N m l) : (m.map (·.1)).mergeSort bLe = l.map (·.Name) := by
  have hl : (l.map (·.Name)).Pairwise fun a b => slt a b = true := by rw [List.pairwise_map]; exact h.good.sorted
  have hnd : (l.map (·.Name)).Nodup := hl.imp fun hab => by rintro rfl; rw [slt_irrefl] at hab; cases hab
  refine List.Perm.eq_of_pairwise (le := fun a b => bLe a b = true) (fun a b _ _ h1 h2 => bLe_anti h1 h2) (List.pairwise_mergeSort bLe_trans bLe_total _) (hl.imp slt_bLe) ?_
  refine (List.mergeSort_perm _ _).trans ?_
  rw [List.perm_ext_iff_of_nodup h.nd hnd]
  intro a
  rw [List.mem_map, List.mem_map]
  constructor
  · rintro ⟨⟨b, j⟩, hb, rfl⟩
    exact ⟨_, (h.mem _ _).1 hb, rfl⟩
  · rintro ⟨⟨b, j⟩, hb, rfl⟩
    exact ⟨_, (h.mem _ _).2 hb, rfl⟩
theorem NamesSim.len {N : Nat} {m : List (ByteArray × Int)} {l : List EntM} (h : NamesSim N m l) : m.length = l.length := by
  have := congrArg List.length h.names
  simpa using this
end Go.Ph
end
section
set_option linter.all false
namespace Go.Ph
open S
def TrapSim (l r c : Int) : Prop := l = r ∨ (l < 0 ∧ 4611686018427387904 ≤ r + c)
def pm (p : PatchM) : WrM := ⟨p.place, p.bytes⟩
def SameF (x : VNode) (f : RFile) : Prop := x.seen = f.now ∧ x.sure = f.sure ∧ x.patches.map pm = f.waits
def Known (v : VDisk) (j : Nat) : Prop := (∃ n, (n, (j : Int)) ∈ v.seen) ∨ (∃ n, (n, (j : Int)) ∈ v.sure) ∨ ∃ x, v.nodes[j]? = some x ∧ x.fresh = true
structure NodeOk (c : Int) (x : VNode) : Prop where
  seen : x.seen.size ≤ 4194304
  sure : x.sure.size ≤ 4194304
  patches : ∀ p ∈ x.patches, 0 ≤ p.place ∧ p.place + p.bytes.size ≤ 4194304
  len : (x.patches.length : Int) ≤ c
structure Sim (v : VDisk) (d : RDisk) : Prop where
  room : v.room = d.cap ∧ 0 ≤ v.room ∧ v.room ≤ 4194304
  off : v.off = d.down
  count : v.count = d.calls ∧ 0 ≤ d.calls
  fl : TrapSim v.fl d.fail d.calls ∧ -1 ≤ v.fl ∧ v.fl < 9223372036854775808 ∧ -1 ≤ d.fail ∧ d.fail < 9223372036854775808
  fc : 0 ≤ v.fl → v.fc = d.err
  cl : TrapSim v.cl d.crash d.calls ∧ -1 ≤ v.cl ∧ v.cl < 9223372036854775808 ∧ -1 ≤ d.crash ∧ d.crash < 9223372036854775808
  nodes : v.nodes.length = d.files.length ∧ (v.nodes.length : Int) ≤ 1024 + d.calls
  mvl : v.moves.length = d.waits.length ∧ (v.moves.length : Int) ≤ d.calls
  seen : v.seen = v.moves.foldl V.give v.sure
  now : d.now = d.waits.foldl R.do_ d.sure
  names : ∀ i, i ≤ v.moves.length → NamesSim v.nodes.length ((v.moves.take i).foldl V.give v.sure) ((d.waits.take i).foldl R.do_ d.sure) ∧ ((d.waits.take i).foldl R.do_ d.sure).length ≤ 1024
  fresh : ∀ (j : Nat) (x : VNode), v.nodes[j]? = some x → (x.fresh = true ↔ ∃ t ∈ d.waits, t.File = j)
  tfile : ∀ t ∈ d.waits, t.File < v.nodes.length
  cont : ∀ (j : Nat) (x : VNode) (f : RFile), v.nodes[j]? = some x → d.files[j]? = some f → Known v j → SameF x f
  sizes : ∀ x ∈ v.nodes, NodeOk d.calls x
theorem Sim.ns {v : VDisk} {d : RDisk} (h : Sim v d) : NamesSim v.nodes.length v.seen d.now ∧ d.now.length ≤ 1024 := by
  have := h.names v.moves.length (Nat.le_refl _)
  rw [List.take_length, h.mvl.1, List.take_length, ← h.seen, ← h.now] at this
  exact this
theorem Sim.vok {v : VDisk} {d : RDisk} (h : Sim v d) (hc : d.calls < 1000000000000 - 1024) : v.Ok := by
  have hn := h.ns
  have := h.count
  have := h.nodes
  have := h.mvl
  refine ⟨h.room.2, by rw [hn.1.len]; exact hn.2, fun x hx => ?_, fun x hx => (h.sizes x hx).seen, by omega, by omega, by omega, h.fl.2.1 |> fun a => ⟨a, h.fl.2.2.1⟩, h.cl.2.1 |> fun a => ⟨a, h.cl.2.2.1⟩⟩
  exact hn.1.good.rng _ ((hn.1.mem x.1 x.2).1 hx)
theorem Sim.dok {v : VDisk} {d : RDisk} (h : Sim v d) (hc : d.calls < 1000000000000 - 1024) : d.Ok := by
  have hn := h.ns
  have := h.count
  have := h.nodes
  have := h.mvl
  have h0 := (h.names 0 (Nat.zero_le _)).2
  simp at h0
  exact ⟨hn.2, h0, this.2 |> fun _ => h.count.2, by omega, by omega, by omega, h.fl.2.2.2, h.cl.2.2.2⟩
theorem begin_sim {v : VDisk} {d : RDisk} (h : Sim v d) (hc : d.calls < 1000000000000 - 1024) : Sim (V.change v).1 (R.begin d).1 ∧ (V.change v).2 = (R.begin d).2 ∧ (V.change v).1.nodes = v.nodes ∧ (V.change v).1.seen = v.seen ∧ (V.change v).1.moves = v.moves ∧ (V.change v).1.sure = v.sure ∧
    (R.begin d).1.calls ≤ d.calls + 1 ∧ ((R.begin d).2 = 0 → (v.moves.length : Int) + 1 ≤ (R.begin d).1.calls ∧ (R.begin d).1.calls = d.calls + 1) := by
  obtain ⟨g1, g2, g3, g4, g5, g6, g7, g8, g9, g10, g11, g12, g13, g14, g15⟩ := h
  unfold V.change R.begin
  rw [g2]
  cases hd : d.down
  case true =>
    simp only [if_true]
    exact ⟨⟨g1, g2, g3, g4, g5, g6, g7, g8, g9, g10, g11, g12, g13, g14, g15⟩, by trivial, by trivial, by trivial, by trivial, by trivial, by omega, by simp⟩
  case false =>
    simp only [Bool.false_eq_true, if_false]
    have tr : ∀ l r : Int, TrapSim l r d.calls → -1 ≤ r → -1 ≤ l → TrapSim (if l < 0 then l else l - 1) (if 0 ≤ r then r - 1 else r) (d.calls + 1) := fun l r ht hr hl => by
      unfold TrapSim at *
      rcases ht with rfl | ⟨h1, h2⟩
      · by_cases e : l < 0
        · rw [if_pos e, if_neg (by omega)]; exact .inl rfl
        · rw [if_neg e, if_pos (by omega)]; exact .inl rfl
      · rw [if_pos h1, if_pos (by omega)]; exact .inr ⟨h1, by omega⟩
    have hcl0 : v.cl = 0 ↔ d.crash = 0 := by
      have := g6.1
      unfold TrapSim at this
      omega
    have hfl0 : v.fl = 0 ↔ d.fail = 0 := by
      have := g4.1
      unfold TrapSim at this
      omega
    have hb : ∀ l : Int, -1 ≤ l ∧ l < 9223372036854775808 → -1 ≤ (if l < 0 then l else l - 1) ∧ (if l < 0 then l else l - 1) < 9223372036854775808 := fun l hl => by split <;> omega
    have hb' : ∀ l : Int, -1 ≤ l ∧ l < 9223372036854775808 → -1 ≤ (if 0 ≤ l then l - 1 else l) ∧ (if 0 ≤ l then l - 1 else l) < 9223372036854775808 := fun l hl => by split <;> omega
    have base : ∀ o : Bool, Sim { v with count := v.count + 1, cl := if v.cl < 0 then v.cl else v.cl - 1, fl := if v.fl < 0 then v.fl else v.fl - 1, off := o } { d with calls := d.calls + 1, crash := if 0 ≤ d.crash then d.crash - 1 else d.crash, fail := if 0 ≤ d.fail then d.fail - 1 else d.fail, down := o } := fun o => by
      refine ⟨g1, rfl, ⟨by simp only; omega, by simp only; omega⟩, ⟨tr _ _ g4.1 g4.2.2.2.1 g4.2.1, (hb _ ⟨g4.2.1, g4.2.2.1⟩).1, (hb _ ⟨g4.2.1, g4.2.2.1⟩).2, hb' _ g4.2.2.2⟩, ?_, ⟨tr _ _ g6.1 g6.2.2.2.1 g6.2.1, (hb _ ⟨g6.2.1, g6.2.2.1⟩).1, (hb _ ⟨g6.2.1, g6.2.2.1⟩).2, hb' _ g6.2.2.2⟩, ⟨g7.1, by simp only; omega⟩, ⟨g8.1, by simp only; omega⟩, g9, g10, g11, g12, g13, g14, fun x hx => ?_⟩
      · intro hh
        refine g5 ?_
        simp only at hh
        split at hh <;> omega
      · have := g15 x hx
        exact ⟨this.1, this.2, this.3, by have := this.4; simp only; omega⟩
    by_cases hcr : d.crash = 0
    · rw [if_pos hcr, if_pos (hcl0.2 hcr)]
      exact ⟨base true, rfl, rfl, rfl, rfl, rfl, by simp only; omega, by simp⟩
    · rw [if_neg hcr, if_neg (fun h => hcr (hcl0.1 h))]
      have b0 := base false
      by_cases hf : d.fail = 0
      · rw [if_pos hf, if_pos (hfl0.2 hf)]
        refine ⟨by simpa [hd, g2] using b0, g5 (by rw [hfl0.2 hf]; omega), rfl, rfl, rfl, rfl, by simp only; omega, fun _ => ⟨by simp only; omega, rfl⟩⟩
      · rw [if_neg hf, if_neg (fun h => hf (hfl0.1 h))]
        exact ⟨by simpa [hd, g2] using b0, rfl, rfl, rfl, rfl, rfl, by simp only; omega, fun _ => ⟨by simp only; omega, rfl⟩⟩
/-- a turn of a name that is there: no file comes -/
theorem turn_sim {v : VDisk} {d : RDisk} {mv : MoveM} {t : TurnM} (h : Sim v d) (hc : (v.moves.length : Int) + 1 ≤ d.calls) (hn : NamesSim v.nodes.length (V.give v.seen mv) (R.do_ d.now t)) (hl : (R.do_ d.now t).length ≤ 1024)
    (ht : t.File < 0) (hk : ∀ n j, (n, j) ∈ V.give v.seen mv → ∃ n', (n', j) ∈ v.seen) : Sim (V.turn v mv) (R.turn d t) := by
  obtain ⟨g1, g2, g3, g4, g5, g6, g7, g8, g9, g10, g11, g12, g13, g14, g15⟩ := h
  refine ⟨g1, g2, g3, g4, g5, g6, g7, ⟨by simp [V.turn, R.turn, g8.1], by simp [V.turn, R.turn]; omega⟩, by simp [V.turn, ← g9], by simp [R.turn, ← g10], ?_, ?_, ?_, ?_, g15⟩
  · intro i hi
    simp only [V.turn, R.turn] at hi ⊢
    simp only [List.length_append, List.length_singleton] at hi
    by_cases e : i ≤ v.moves.length
    · rw [List.take_append_of_le_length e, List.take_append_of_le_length (by rw [← g8.1]; exact e)]
      exact g11 i e
    · have : i = v.moves.length + 1 := by omega
      subst this
      rw [List.take_of_length_le (by simp), List.take_of_length_le (by simp [g8.1]), List.foldl_append, List.foldl_append, ← g9, ← g10]
      exact ⟨hn, hl⟩
  · intro j x hx
    rw [g12 j x hx]
    simp only [R.turn, List.mem_append, List.mem_singleton]
    constructor
    · rintro ⟨t', h1, h2⟩; exact ⟨t', .inl h1, h2⟩
    · rintro ⟨t', h1 | h1, h2⟩
      · exact ⟨t', h1, h2⟩
      · subst h1; omega
  · intro t' ht'
    simp only [R.turn, List.mem_append, List.mem_singleton] at ht'
    rcases ht' with h1 | h1
    · exact g13 t' h1
    · subst h1; simp only [V.turn]; omega
  · intro j x f hx hf hkn
    refine g14 j x f hx hf ?_
    rcases hkn with ⟨n, hn⟩ | h1 | h1
    · exact .inl (hk n _ hn)
    · exact .inr (.inl h1)
    · exact .inr (.inr h1)
theorem give_nil (m : List (ByteArray × Int)) (i : Int) (b : Bool) : V.give m ⟨i, ⟨#[]⟩, b⟩ = m.filter fun x => !decide (x.2 = i) := by simp [V.give]
theorem do_unlink (l : List EntM) (n : ByteArray) : R.do_ l ⟨n, ⟨#[]⟩, -1⟩ = if R.find l n < 0 then l else R.without l n := by simp [R.do_]
theorem fix_sim {v : VDisk} {d : RDisk} (h : Sim v d) : Sim (V.fix v) { d with sure := d.now, waits := [] } := by
  have hns := h.ns
  obtain ⟨g1, g2, g3, g4, g5, g6, g7, g8, g9, g10, g11, g12, g13, g14, g15⟩ := h
  refine ⟨g1, g2, g3, g4, g5, g6, by simpa [V.fix] using g7, ⟨rfl, by simp [V.fix]; exact g3.2⟩, rfl, rfl, ?_, ?_, by simp, ?_, ?_⟩
  · intro i hi
    simp only [V.fix, List.length_nil, Nat.le_zero] at hi
    subst hi
    simpa [V.fix] using hns
  · intro j x hx
    simp only [V.fix, List.getElem?_map, Option.map_eq_some_iff] at hx
    obtain ⟨y, hy, rfl⟩ := hx
    simp [VNode.calm]
  · intro j x f hx hf hkn
    simp only [V.fix, List.getElem?_map, Option.map_eq_some_iff] at hx
    obtain ⟨y, hy, rfl⟩ := hx
    have : Known v j := by
      rcases hkn with h1 | h1 | ⟨x, h1, h2⟩
      · exact .inl h1
      · exact .inl h1
      · simp only [V.fix, List.getElem?_map, Option.map_eq_some_iff] at h1
        obtain ⟨z, hz, rfl⟩ := h1
        cases h2
    exact g14 j y f hy hf this
  · intro x hx
    simp only [V.fix, List.mem_map] at hx
    obtain ⟨y, hy, rfl⟩ := hx
    have := g15 y hy
    exact ⟨this.1, this.2, this.3, this.4⟩
/-- the program's disk of colours from k on stands in block b and is like d -/
def DV (k : Nat) (s : St) (b : Nat) (d : RDisk) : Prop := ∃ v ps, VDp k s b v ps ∧ Sim v d
theorem DV.st {k : Nat} {s s' : St} {b : Nat} {d : RDisk} {S : List Nat} (h : DV k s b d) (hs : Step S s s') (hS : ∀ j, k + j ∉ S) : DV k s' b d := by
  obtain ⟨v, ps, h1, h2⟩ := h; exact ⟨v, ps, h1.st hs hS, h2⟩
theorem dk3 {k : Nat} : ∀ x, x ∈ [k, k + 2, k + 3] → x ∈ dk k := by intro x hx; simp at hx; rw [mem_dk]; omega
theorem dk0 {k : Nat} : ∀ x, x ∈ [k] → x ∈ dk k := by intro x hx; simp at hx; rw [mem_dk]; omega
theorem vUnlink_ok {k : Nat} {s : St} {b : Nat} {d : RDisk} {n : ByteArray} {K : Int → HP} (h : DV k s b d) (hc : d.calls < 1000000000000 - 1024) (hko : Ko k s)
    (hK : ∀ s', Step (dk k) s s' → DV k s' b (R.unlink d n).1 → K (R.unlink d n).2 s'.H) : vdisk_Disk_Unlink (some ⟨b, 0, none⟩) n K s.H := by
  obtain ⟨v, ps, hv, hs⟩ := h
  obtain ⟨b1, b2, b3, b4, b5, b6, b7, b8⟩ := begin_sim hs hc
  unfold vdisk_Disk_Unlink
  refine touch_ok hv (hs.vok hc) fun s1 e1 h1 => ?_
  have hns := b1.ns
  have hfd : R.find (R.begin d).1.now n = R.find d.now n := by rw [R.begin_now]
  unfold R.unlink at hK
  simp only at hK
  by_cases hz : (V.change v).2 = 0
  · rw [if_pos hz, if_pos hz]
    rw [b2] at hz
    rw [if_neg (by simpa using hz)] at hK
    have hf := hns.1.find n
    refine bif_dec (fun h0 => ?_) (fun h0 => ?_)
    · have hl := V.find_ok h0
      generalize (V.find v n).1 = i at *
      rw [← b4] at hl
      obtain ⟨f1, f2, f3, f4⟩ := hf.1 _ hl
      rw [if_neg (by omega)] at hK
      have hmv := b8 hz
      have hvl : v.moves.length ≤ 1000000000000 := by have := hs.mvl; omega
      refine vturn_ok h1 (by rw [b5]; exact hvl) (hko.mono e1) fun s2 e2 h2 => ?_
      rw [h0]
      refine hK s2 ((e1.mono dk0).trans (e2.mono dk3)) ⟨_, ps, h2, turn_sim b1 (by rw [b5]; exact hmv.1) ?_ ?_ (by show (-1 : Int) < 0; omega) ?_⟩
      · rw [give_nil, do_unlink, if_neg (by omega)]
        exact hns.1.drop f4
      · rw [do_unlink, if_neg (by omega)]
        exact Nat.le_trans (List.length_filter_le _ _) hns.2
      · intro a j ha
        rw [give_nil, List.mem_filter] at ha
        exact ⟨a, ha.1⟩
    · have hl : look v.seen n = none := by
        unfold V.find at h0
        cases e : look v.seen n with
        | none => rfl
        | some i => rw [e] at h0; exact absurd rfl h0
      rw [← b4] at hl
      have := hf.2 hl
      rw [if_pos (by omega)] at hK
      have h7 : (V.find v n).2 = 7 := by unfold V.find; rw [← b4, hl]
      rw [h7]
      exact hK s1 (e1.mono dk0) ⟨_, ps, h1, b1⟩
  · rw [if_neg hz, if_neg hz]
    rw [b2] at hz
    rw [if_pos hz] at hK
    refine bif_dec (fun h0 => ?_) (fun h0 => ?_)
    · rw [b2] at h0; exact absurd h0 hz
    · rw [b2]
      exact hK s1 (e1.mono dk0) ⟨_, ps, h1, b1⟩
theorem vSyncDir_ok {k : Nat} {s : St} {b : Nat} {d : RDisk} {K : Int → HP} (h : DV k s b d) (hc : d.calls < 1000000000000 - 1024) (hko : Ko k s)
    (hK : ∀ s', Step (dk k) s s' → DV k s' b (R.syncDir d).1 → K (R.syncDir d).2 s'.H) : vdisk_Disk_SyncDir (some ⟨b, 0, none⟩) K s.H := by
  obtain ⟨v, ps, hv, hs⟩ := h
  obtain ⟨b1, b2, b3, b4, b5, b6, b7, b8⟩ := begin_sim hs hc
  unfold vdisk_Disk_SyncDir
  refine change_ok hv (hs.vok hc) fun s1 e1 h1 => ?_
  unfold R.syncDir at hK
  simp only at hK
  refine bif_dec (fun hz => ?_) (fun hz => ?_)
  · rw [hz]
    rw [b2] at hz
    rw [if_neg (by simpa using hz)] at hK
    have hnl := hs.nodes
    refine fix_ok h1 (by rw [b3]; omega) (hko.mono e1) fun s2 e2 h2 => ?_
    exact hK s2 ((e1.mono dk0).trans e2) ⟨_, ps, h2, fix_sim b1⟩
  · rw [b2] at hz ⊢
    rw [if_pos hz] at hK
    exact hK s1 (e1.mono dk0) ⟨_, ps, h1, b1⟩
end Go.Ph
end
section
set_option linter.all false
namespace Go.Ph
open S
namespace R
def bad (e : Int) : Bool := decide (e ≠ 0) && decide (e ≠ 11)
def again (op : RDisk → RDisk × Int) (d : RDisk) : RDisk × Int := if bad (op d).2 then op (op d).1 else op d
def drop (d : RDisk) (n : ByteArray) : RDisk × Int :=
  if d.down = false ∧ find d.now n < 0 then (d, 0)
  else if (unlink d n).2 ≠ 0 then unlink d n else again syncDir (unlink d n).1
def unlinkAll (d : RDisk) : List ByteArray → RDisk × Int
  | [] => (d, 0)
  | n :: l => if (unlink d n).2 ≠ 0 then unlink d n else unlinkAll (unlink d n).1 l
def pre (s p : ByteArray) : Bool := decide (p.size ≤ s.size) && decide (s.extract 0 p.size = p)
def suf (s p : ByteArray) : Bool := decide (p.size ≤ s.size) && decide (s.extract (s.size - p.size) s.size = p)
def dotN : ByteArray := ⟨#[46, 110]⟩
def tidies (l : List ByteArray) (p : ByteArray) : List ByteArray := l.filter fun s => pre s p && suf s dotN
def tidy (d : RDisk) (p : ByteArray) : RDisk × Int := if d.down then (d, 0) else unlinkAll d (tidies (d.now.map (·.Name)) p)
end R
def RInv (d : RDisk) : Prop := ∃ v, Sim v d
theorem DV.inv {k : Nat} {s : St} {b : Nat} {d : RDisk} (h : DV k s b d) : RInv d := by obtain ⟨v, ps, h1, h2⟩ := h; exact ⟨v, h2⟩
theorem RInv.ok {d : RDisk} (h : RInv d) (hc : d.calls < 1000000000000 - 1024) : d.Ok := by obtain ⟨v, h⟩ := h; exact h.dok hc
theorem R.begin_calls (d : RDisk) : (R.begin d).1.calls ≤ d.calls + 1 := by
  unfold R.begin; split
  · simp only; omega
  · dsimp only; split
    · simp only; omega
    · split <;> (simp only; omega)
theorem R.unlink_calls (d : RDisk) (n : ByteArray) : (R.unlink d n).1.calls ≤ d.calls + 1 := by
  unfold R.unlink; simp only
  split
  · exact R.begin_calls d
  · split
    · exact R.begin_calls d
    · exact R.begin_calls d
theorem R.syncDir_calls (d : RDisk) : (R.syncDir d).1.calls ≤ d.calls + 1 := by
  unfold R.syncDir; simp only
  split
  · exact R.begin_calls d
  · exact R.begin_calls d
theorem unlink_inv {d : RDisk} (n : ByteArray) (h : RInv d) (hc : d.calls < 1000000000000 - 1024) : RInv (R.unlink d n).1 := by
  obtain ⟨v, hs⟩ := h
  obtain ⟨b1, b2, b3, b4, b5, b6, b7, b8⟩ := begin_sim hs hc
  unfold R.unlink
  simp only
  split
  · exact ⟨_, b1⟩
  · rename_i hz
    split
    · exact ⟨_, b1⟩
    · rename_i hf
      have hz' : (R.begin d).2 = 0 := by simpa using hz
      have hns := b1.ns
      obtain ⟨i, hi⟩ : ∃ i, look (V.change v).1.seen n = some i := by
        cases e : look (V.change v).1.seen n with
        | some i => exact ⟨i, rfl⟩
        | none => have := (hns.1.find n).2 e; omega
      obtain ⟨f1, f2, f3, f4⟩ := (hns.1.find n).1 i hi
      refine ⟨_, turn_sim (mv := ⟨i, ⟨#[]⟩, false⟩) b1 (by rw [b5]; exact (b8 hz').1) ?_ ?_ (by show (-1 : Int) < 0; omega) ?_⟩
      · rw [give_nil, do_unlink, if_neg (by omega)]
        exact hns.1.drop f4
      · rw [do_unlink, if_neg (by omega)]
        exact Nat.le_trans (List.length_filter_le _ _) hns.2
      · intro a j ha
        rw [give_nil, List.mem_filter] at ha
        exact ⟨a, ha.1⟩
theorem slS_rule {p : ByteArray} {lo hi : Int} {K : ByteArray → HP} {H : Heap} (h : 0 ≤ lo ∧ lo ≤ hi ∧ hi ≤ p.size) (hK : K (p.extract lo.toNat hi.toNat) H) : slS p lo hi K H := ⟨h, hK⟩
theorem pre_ok {s p : ByteArray} {K : Bool → HP} {H : Heap} (hK : K (R.pre s p) H) : strings_HasPrefix s p K H := by
  unfold strings_HasPrefix internal_stringslite_HasPrefix
  unfold R.pre at hK
  refine bif_dec (fun h => ?_) (fun h => ?_)
  · refine slS_rule (by omega) ?_
    rw [decide_eq_true (by omega)] at hK
    simpa using hK
  · rw [decide_eq_false (by omega)] at hK
    exact hK
theorem suf_ok {s p : ByteArray} {K : Bool → HP} {H : Heap} (hs : s.size ≤ 1000000000000) (hK : K (R.suf s p) H) : strings_HasSuffix s p K H := by
  unfold strings_HasSuffix internal_stringslite_HasSuffix
  unfold R.suf at hK
  refine bif_dec (fun h => ?_) (fun h => ?_)
  · rw [w64_id (by omega) (by omega)]
    refine slS_rule (by omega) ?_
    rw [decide_eq_true (by omega)] at hK
    rw [show ((s.size : Int) - (p.size : Int)).toNat = s.size - p.size by omega]
    simpa using hK
  · rw [decide_eq_false (by omega)] at hK
    exact hK
theorem R.unlinkAll_ne {d : RDisk} {n : ByteArray} {l : List ByteArray} (h : (R.unlink d n).2 ≠ 0) : R.unlinkAll d (n :: l) = R.unlink d n := by simp only [R.unlinkAll]; rw [if_pos h]
theorem R.unlinkAll_eq {d : RDisk} {n : ByteArray} {l : List ByteArray} (h : (R.unlink d n).2 = 0) : R.unlinkAll d (n :: l) = R.unlinkAll (R.unlink d n).1 l := by simp only [R.unlinkAll]; rw [if_neg (by simpa using h)]
theorem R.unlinkAll_calls : ∀ (l : List ByteArray) (d : RDisk), (R.unlinkAll d l).1.calls ≤ d.calls + l.length
  | [], d => by simp [R.unlinkAll]
  | n :: l, d => by
    have h1 := R.unlink_calls d n
    have h2 := R.unlinkAll_calls l (R.unlink d n).1
    simp only [List.length_cons]
    by_cases h : (R.unlink d n).2 = 0
    · rw [R.unlinkAll_eq h]; omega
    · rw [R.unlinkAll_ne h]; omega
/-! the program's -/
theorem vNamesD_ok {C : Cx} {k : Nat} {s : St} {b : Nat} {d : RDisk} {K : Sl → HP} (h : DV k s b d) (hnm : ∀ e ∈ d.now, e.Name.size ≤ 9223372036854775807)
    (hK : ∀ s' r, Step [] s s' → Ls tS (s'.w 0) (if d.down then [] else d.now.map (·.Name)) r → K r s'.H) : vdisk_Disk_Names C (some ⟨b, 0, none⟩) K s.H := by
  obtain ⟨v, ps, hv, hs⟩ := id h
  have hln : v.seen.length = d.now.length := by
    have := congrArg List.length hs.ns.1.names
    simpa [List.length_mergeSort] using this
  refine vNames_ok hv (fun n hn => ?_) (by have := hs.names v.moves.length (Nat.le_refl _); have h2 := this.2; rw [List.take_of_length_le (by rw [hs.mvl.1]; exact Nat.le_refl _), ← hs.now] at h2; omega) fun s' r e l => hK s' r e ?_
  · obtain ⟨⟨m, i⟩, hx, rfl⟩ := List.mem_map.1 hn
    exact hnm _ ((hs.ns.1.mem m i).1 hx)
  unfold V.names at l
  rw [hs.off, hs.ns.1.names] at l
  exact l
theorem vDownD_ok {k : Nat} {s : St} {b : Nat} {d : RDisk} {K : Bool → HP} (h : DV k s b d) (hK : K d.down s.H) : vdisk_Disk_Down (some ⟨b, 0, none⟩) K s.H := by
  obtain ⟨v, ps, hv, hs⟩ := h
  exact vDown_ok hv (by rw [hs.off]; exact hK)
/-- a file's bytes -/
def R.data (d : RDisk) (n : ByteArray) : ByteArray := match d.files[(R.find d.now n).toNat]? with | some f => f.now | none => ⟨#[]⟩
def R.text (d : RDisk) (n : ByteArray) : ByteArray × Int := if d.down then (⟨#[]⟩, 11) else if R.find d.now n < 0 then (⟨#[]⟩, 7) else (R.data d n, 0)
theorem text_sim {v : VDisk} {d : RDisk} (h : Sim v d) (n : ByteArray) : V.text v n = R.text d n := by
  unfold V.text R.text
  rw [h.off]
  cases hd : d.down
  · simp only [Bool.false_eq_true, if_false]
    have hf := h.ns.1.find n
    unfold V.find
    cases e : look v.seen n with
    | none => have := hf.2 e; simp only; rw [if_neg (by omega), if_pos (by omega)]
    | some i =>
      obtain ⟨f1, f2, f3, f4⟩ := hf.1 i e
      simp only
      rw [if_pos trivial, if_neg (by omega)]
      unfold V.data R.data
      rw [f1]
      have hlt : i.toNat < v.nodes.length := by omega
      have hlt2 : i.toNat < d.files.length := by rw [← h.nodes.1]; exact hlt
      have := h.cont i.toNat _ _ (List.getElem?_eq_getElem hlt) (List.getElem?_eq_getElem hlt2) (.inl ⟨n, by rw [Int.toNat_of_nonneg f2]; exact look_mem e⟩)
      rw [List.getElem?_eq_getElem hlt, List.getElem?_eq_getElem hlt2]
      simp only
      rw [this.1]
  · rfl
theorem textD_ok {k : Nat} {s : St} {b : Nat} {d : RDisk} {n : ByteArray} {K : ByteArray → Int → HP} (h : DV k s b d) (hK : K (R.text d n).1 (R.text d n).2 s.H) : vdisk_Disk_text (some ⟨b, 0, none⟩) n K s.H := by
  obtain ⟨v, ps, hv, hs⟩ := h
  refine text_ok hv (fun x hx => ?_) (by rw [text_sim hs]; exact hK)
  exact hs.ns.1.good.rng _ ((hs.ns.1.mem x.1 x.2).1 hx)
theorem vSize_ok {k : Nat} {s : St} {b : Nat} {d : RDisk} {n : ByteArray} {K : Int → Int → HP} (h : DV k s b d) (hK : K (R.text d n).1.size (R.text d n).2 s.H) : vdisk_Disk_Size (some ⟨b, 0, none⟩) n K s.H := by
  unfold vdisk_Disk_Size
  exact textD_ok h hK
theorem vRead_ok {k : Nat} {s : St} {b : Nat} {d : RDisk} {n : ByteArray} {K : Sl → Int → HP} (h : DV k s b d)
    (hK : ∀ s' r, Step [] s s' → Ls tBy (s'.w 0) (R.text d n).1.data.toList r → K r (R.text d n).2 s'.H) : vdisk_Disk_Read (some ⟨b, 0, none⟩) n K s.H := by
  unfold vdisk_Disk_Read
  refine textD_ok h ?_
  refine s2b_rule 1 (by omega) fun s' r e _ hb => hK s' r e hb.ls
def R.has (d : RDisk) (n : ByteArray) : Bool := !d.down && decide (0 ≤ R.find d.now n)
theorem Has_ok {k : Nat} {s : St} {b : Nat} {d : RDisk} {n : ByteArray} {K : Bool → HP} (h : DV k s b d) (hK : K (R.has d n) s.H) : safe_Has (some ⟨b, 0, none⟩) n K s.H := by
  unfold safe_Has
  refine vSize_ok h ?_
  have : decide ((R.text d n).2 = 0) = R.has d n := by
    unfold R.text R.has
    cases hd : d.down
    · by_cases hf : R.find d.now n < 0
      · rw [decide_eq_false (show ¬0 ≤ R.find d.now n by omega)]; simp [hf]
      · rw [decide_eq_true (show 0 ≤ R.find d.now n by omega)]; simp [hf]
    · simp
  rw [this]; exact hK
theorem vTidy_ok {C : Cx} {k : Nat} {s : St} {b : Nat} {d : RDisk} {p : ByteArray} {K : Int → HP} (h : DV k s b d) (hc : d.calls + 1024 < 1000000000000 - 1024) (hnm : ∀ e ∈ d.now, e.Name.size ≤ 32) (hko : Ko k s)
    (hK : ∀ s', Step (dk k) s s' → DV k s' b (R.tidy d p).1 → K (R.tidy d p).2 s'.H) : safe_Tidy C (some ⟨b, 0, none⟩) p K s.H := by
  have hok := h.inv.ok (by omega)
  have hnow := hok.now
  unfold safe_Tidy
  refine vNamesD_ok h (fun e he => by have := hnm e he; omega) fun s1 r e1 l1 => ?_
  have h1 := h.st e1 (by simp)
  unfold R.tidy at hK
  generalize hl : (if d.down then [] else d.now.map (·.Name)) = l at *
  have hlen : l.length ≤ 1024 := by rw [← hl]; split <;> simp; omega
  have hsz : ∀ x ∈ l, x.size ≤ 32 := fun x hx => by
    rw [← hl] at hx
    split at hx
    · cases hx
    · obtain ⟨e, he, rfl⟩ := List.mem_map.1 hx; exact hnm e he
  have hrl := l1.len
  have hK' : ∀ s', Step (dk k) s s' → DV k s' b (R.unlinkAll d (R.tidies l p)).1 → K (R.unlinkAll d (R.tidies l p)).2 s'.H := by
    rw [← hl]
    intro s' g1 g2
    have := hK s' g1
    split at this
    · rename_i hd; rw [if_pos hd] at g2 ⊢; exact this g2
    · rename_i hd; rw [if_neg hd] at g2 ⊢; exact this g2
  refine loop_rule (ι := Nat × RDisk) (fun x => [.int .i64 x.1]) (fun x s2 => x.1 ≤ l.length ∧ Step (dk k) s1 s2 ∧ DV k s2 b x.2 ∧ x.2.calls ≤ d.calls + x.1 ∧ R.unlinkAll d (R.tidies l p) = R.unlinkAll x.2 (R.tidies (l.drop x.1) p)) (fun x _ => l.length - x.1) (0, d) rfl
      ⟨Nat.zero_le _, Step.refl, h1, by simp, rfl⟩ ?_
  rintro ⟨i, di⟩ s2 ⟨hi2, e2, r2, c2, u2⟩ G2 hG2
  simp only [List.getD_cons_zero, List.getD_cons_succ, asI_v, asL_v, asS_v, asB_v, asM_v, asP_v]
  simp only at hi2 r2 c2 u2
  refine bif_dec (fun hlt2 => ?_) (fun hlt2 => ?_)
  · refine ixL_rule (Ls.st l1 e2) (by omega) (by omega) fun b' o x hx he => ?_
    obtain ⟨_, rfl, ha⟩ := he
    rw [Int.toNat_natCast] at hx
    refine ldS_at0 ha rfl ?_
    have hxs := hsz x (List.mem_of_getElem? hx)
    have hdr : l.drop i = x :: l.drop (i + 1) := by
      obtain ⟨g1, g2⟩ := List.getElem?_eq_some_iff.1 hx
      rw [List.drop_eq_getElem_cons g1, g2]
    have skip : (R.pre x p && R.suf x R.dotN) = false → safe_Tidy_j2 C (some ⟨b, 0, none⟩) p r (r.len : Nat) i K G2 s2.H := fun ht => by
      unfold safe_Tidy_j2
      rw [w64_id (by omega) (by omega)]
      refine hG2 (i + 1, di) s2 ⟨by simp only; omega, e2, r2, by simp only; omega, ?_⟩ (by simp only; omega)
      rw [u2, hdr, R.tidies, List.filter_cons, ht]
      rfl
    refine pre_ok ?_
    refine bif_rule (fun hp => ?_) (fun hp => ?_)
    · refine suf_ok (by omega) ?_
      unfold safe_Tidy_j1
      refine bif_rule (fun hq => ?_) (fun hq => ?_)
      · have ht : (R.pre x p && R.suf x R.dotN) = true := by rw [hp]; exact hq
        refine vUnlink_ok r2 (by omega) ((hko.mono e1).mono e2) fun s3 e3 r3 => ?_
        have hcc := R.unlink_calls di x
        refine bif_ndec (fun hz => ?_) (fun hz => ?_)
        · rw [u2, hdr, R.tidies, List.filter_cons, ht, if_pos rfl, R.unlinkAll_ne hz] at hK'
          exact hK' s3 (e1.n.trans (e2.trans e3)) r3
        · unfold safe_Tidy_j2
          rw [w64_id (by omega) (by omega)]
          refine hG2 (i + 1, (R.unlink di x).1) s3 ⟨by simp only; omega, e2.trans e3, r3, by show (R.unlink di x).1.calls ≤ d.calls + ((i + 1 : Nat) : Int); omega, ?_⟩ (by simp only; omega)
          rw [u2, hdr, R.tidies, List.filter_cons, ht, if_pos rfl, R.unlinkAll_eq hz]
          rfl
      · refine skip ?_
        rw [hp]; exact hq
    · unfold safe_Tidy_j1
      refine bif_f (skip ?_)
      rw [hp]; rfl
  · have : i = l.length := by omega
    subst this
    rw [List.drop_length] at u2
    rw [u2] at hK'
    exact hK' s2 (e1.n.trans e2) r2
/-! calls that are handed on -/
def tF : Ty FV := ⟨1, fun _ f vs => vs = [f.v], by rintro _ _ _ rfl; rfl, fun _ h => h, by rintro _ _ _ rfl; simp [one]⟩
theorem ldF_at0 {s : St} {q b o : Nat} {vs : List Value} {K : FV → HP} {n : FV} (h : At (s.w q) b o vs) (hi : vs[0]? = some n.v) (hK : K n s.H) : ldF ⟨b, o, none⟩ K s.H := ⟨n, by have := h.cell 0 hi; rwa [add_at, Nat.add_zero] at this, hK⟩
/-- f does op to the disk, from s0 on; c is how many calls that makes at most -/
structure Impl (C : Cx) (k b : Nat) (s0 : St) (f : FV) (op : RDisk → RDisk × Int) (c : Nat) : Prop where
  run : ∀ (s : St) (d : RDisk) (K : Value → HP), Step (dk k) s0 s → DV k s b d → d.calls + c < 1000000000000 - 1024 → (∀ s', Step (dk k) s s' → DV k s' b (op d).1 → K (.int .i64 (op d).2) s'.H) → C.ap f [] K s.H
  calls : ∀ d, (op d).1.calls ≤ d.calls + c
theorem Impl.st {C : Cx} {k b : Nat} {s0 s1 : St} {f : FV} {op : RDisk → RDisk × Int} {c : Nat} (h : Impl C k b s0 f op c) (hs : Step (dk k) s0 s1) : Impl C k b s1 f op c :=
  ⟨fun s d K e => h.run s d K (hs.trans e), h.calls⟩
theorem again_ok {C : Cx} {k b : Nat} {s : St} {d : RDisk} {f : FV} {op : RDisk → RDisk × Int} {c : Nat} {K : Int → HP} (hf : Impl C k b s f op c) (h : DV k s b d) (hc : d.calls + 2 * c < 1000000000000 - 1024)
    (hK : ∀ s', Step (dk k) s s' → DV k s' b (R.again op d).1 → K (R.again op d).2 s'.H) : safe_again C f K s.H := by
  unfold safe_again
  refine hf.run s d _ Step.refl h (by omega) fun s1 e1 h1 => ?_
  simp only [asI, decide_true]
  unfold R.again at hK
  unfold safe_again_j1
  have hcc := hf.calls d
  refine bif_ndec (fun hz => ?_) (fun hz => ?_)
  · refine bif_ndec (fun h11 => ?_) (fun h11 => ?_)
    · have hb : R.bad (op d).2 = true := by simp [R.bad, hz, h11]
      rw [if_pos hb] at hK
      refine hf.run s1 _ _ e1 h1 (by omega) fun s2 e2 h2 => ?_
      simp only [asI, decide_true]
      exact hK s2 (e1.trans e2) h2
    · have hb : ¬R.bad (op d).2 = true := by simp [R.bad, h11]
      rw [if_neg hb] at hK
      exact hK s1 e1 h1
  · have hb : ¬R.bad (op d).2 = true := by simp [R.bad, hz]
    rw [if_neg hb] at hK
    refine bif_f ?_
    exact hK s1 e1 h1
theorem again_calls {op : RDisk → RDisk × Int} {c : Nat} (h : ∀ d, (op d).1.calls ≤ d.calls + c) (d : RDisk) : (R.again op d).1.calls ≤ d.calls + 2 * c := by
  unfold R.again
  have h1 := h d
  have h2 := h (op d).1
  split <;> omega
def R.steps : List (RDisk → RDisk × Int) → RDisk → RDisk × Int
  | [], d => (d, 0)
  | f :: l, d => if (f d).2 ≠ 0 then f d else R.steps l (f d).1
theorem steps_ok {C : Cx} {k b : Nat} {s : St} {d : RDisk} {fs : List FV} {ops : List (RDisk → RDisk × Int)} {c : Nat} {sl : Sl} {K : Int → HP} (hl : Ls tF (s.w 0) fs sl) (hn : fs.length = ops.length) (hn8 : fs.length ≤ 8) (hf : ∀ (i : Nat) (f : FV) (op : RDisk → RDisk × Int), fs[i]? = some f → ops[i]? = some op → Impl C k b s f op c) (h : DV k s b d)
    (hc : d.calls + 8 * c < 1000000000000 - 1024) (hK : ∀ s', Step (dk k) s s' → DV k s' b (R.steps ops d).1 → K (R.steps ops d).2 s'.H) : safe_steps C sl K s.H := by
  unfold safe_steps
  have hsl := hl.len
  refine loop_rule (ι := Nat × RDisk) (fun x => [.int .i64 x.1]) (fun x s2 => x.1 ≤ fs.length ∧ Step (dk k) s s2 ∧ DV k s2 b x.2 ∧ x.2.calls ≤ d.calls + x.1 * c ∧ R.steps ops d = R.steps (ops.drop x.1) x.2) (fun x _ => fs.length - x.1) (0, d) rfl
      ⟨Nat.zero_le _, Step.refl, h, by simp, rfl⟩ ?_
  rintro ⟨i, di⟩ s2 ⟨hi2, e2, r2, c2, u2⟩ G2 hG2
  simp only [List.getD_cons_zero, List.getD_cons_succ, asI_v, asL_v, asS_v, asB_v, asM_v, asP_v]
  simp only at hi2 r2 c2 u2
  have hic : i * c ≤ 8 * c := Nat.mul_le_mul_right _ (by omega)
  refine bif_dec (fun hlt => ?_) (fun hlt => ?_)
  · refine ixL_rule (Ls.st hl e2) (by omega) (by omega) fun b' o x hx he => ?_
    obtain ⟨_, rfl, ha⟩ := he
    rw [Int.toNat_natCast] at hx
    refine ldF_at0 ha rfl ?_
    have hio : i < ops.length := by omega
    have hdr : ops.drop i = ops[i] :: ops.drop (i + 1) := List.drop_eq_getElem_cons hio
    have hI := hf i x ops[i] hx (List.getElem?_eq_getElem hio)
    have hic2 : (i + 1) * c ≤ 8 * c := Nat.mul_le_mul_right _ (by omega)
    rw [Nat.add_mul, Nat.one_mul] at hic2
    have hcc := hI.calls di
    refine hI.run s2 di _ e2 r2 (by omega) fun s3 e3 r3 => ?_
    simp only [asI, decide_true]
    refine bif_ndec (fun hz => ?_) (fun hz => ?_)
    · rw [u2, hdr, R.steps, if_pos hz] at hK
      exact hK s3 (e2.trans e3) r3
    · rw [w64_id (by omega) (by omega)]
      refine hG2 (i + 1, (ops[i] di).1) s3 ⟨by simp only; omega, e2.trans e3, r3, ?_, ?_⟩ (by simp only; omega)
      · show (ops[i] di).1.calls ≤ d.calls + (((i + 1) * c : Nat) : Int)
        rw [Nat.add_mul, Nat.one_mul]; push_cast; push_cast at c2; omega
      · rw [u2, hdr, R.steps, if_neg (by simpa using hz)]
  · have : i = ops.length := by omega
    subst this
    rw [List.drop_length] at u2
    rw [u2] at hK
    exact hK s2 e2 r2
theorem pair_ls {V : View} {f g : FV} {b : Nat} (h : At V b 0 [f.v, g.v]) : Ls tF V [f, g] ⟨some (at0 b), 2, 2⟩ :=
  ⟨rfl, Nat.le_refl _, fun h => (by cases h), fun a e => by
    simp at e; subst e
    refine ⟨fun _ => rfl, fun j y hj => ?_⟩
    match j, hj with
    | 0, hj => simp at hj; subst hj; exact ⟨_, rfl, fun i v hi => by
        have e : i = 0 := by cases i with
          | zero => rfl
          | succ i => simp at hi
        subst e; simp at hi; subst hi; exact h 0 _ rfl⟩
    | 1, hj => simp at hj; subst hj; exact ⟨_, rfl, fun i v hi => by
        have e : i = 0 := by cases i with
          | zero => rfl
          | succ i => simp at hi
        subst e; simp at hi; subst hi; exact h 1 _ rfl⟩
    | j + 2, hj => simp at hj⟩
theorem Drop_ok {C : Cx} {k : Nat} {s : St} {b : Nat} {d : RDisk} {n : ByteArray} {K : Int → HP} (h : DV k s b d) (hc : d.calls + 16 < 1000000000000 - 1024) (hko : Ko k s)
    (hK : ∀ s', Step (dk k) s s' → DV k s' b (R.drop d n).1 → K (R.drop d n).2 s'.H) : safe_Drop C (some ⟨b, 0, none⟩) n K s.H := by
  unfold safe_Drop
  refine newc_0 fun s1 b1 n1 a1 => ?_
  refine newc_0 fun s2 b2 n2 a2 => ?_
  have e02 := n1.step.trans n2.step
  have a12 := a1.mono n2.step.v0
  have h2 := h.st e02 (by simp)
  refine ldP_at0 a12 rfl ?_
  refine vDownD_ok h2 ?_
  have ho2 := hko.mono e02
  have j1 : ¬(d.down = false ∧ R.find d.now n < 0) → safe_Drop_j1 C b1 b2 false K s2.H := fun hn => by
    unfold safe_Drop_j1
    refine bif_f ?_
    intro f1 hf1
    intro f2 hf2
    refine newc_0 fun s3 b3 n3 a3 => ?_
    have e3 := n3.step
    refine steps_ok (c := 2) (ops := [fun d => R.unlink d n, R.again R.syncDir]) (pair_ls a3) rfl (by simp) ?_ (h2.st e3 (by simp)) (by omega) ?_
    · intro i f op hi ho
      match i, hi, ho with
      | 0, hi, ho =>
        simp at hi ho; subst hi; subst ho
        refine ⟨fun s4 d4 K4 e4 h4 c4 hK4 => ?_, fun d => by have := R.unlink_calls d n; omega⟩
        refine hf1 _ _ _ ?_
        show safe_Drop_1 (at0 b1) (at0 b2) (fun r => K4 (.int .i64 r)) s4.H
        unfold safe_Drop_1
        refine ldP_at0 ((a12.mono e3.v0).mono e4.v0) rfl ?_
        refine ldS_at0 ((a2.mono e3.v0).mono e4.v0) rfl ?_
        exact vUnlink_ok h4 (by omega) ((ho2.mono e3).mono e4) hK4
      | 1, hi, ho =>
        simp at hi ho; subst hi; subst ho
        refine ⟨fun s4 d4 K4 e4 h4 c4 hK4 => ?_, fun d => again_calls (c := 1) (fun d => R.syncDir_calls d) d⟩
        refine hf2 _ _ _ ?_
        show safe_Drop_2 C (at0 b1) (fun r => K4 (.int .i64 r)) s4.H
        unfold safe_Drop_2
        refine ldP_at0 ((a12.mono e3.v0).mono e4.v0) rfl ?_
        intro f3 hf3
        refine again_ok (c := 1) ⟨fun s5 d5 K5 e5 h5 c5 hK5 => ?_, fun d => R.syncDir_calls d⟩ h4 (by omega) hK4
        refine hf3 _ _ _ ?_
        show vdisk_Disk_SyncDir (some (at0 b)) (fun r => K5 (.int .i64 r)) s5.H
        exact vSyncDir_ok h5 (by omega) (((ho2.mono e3).mono e4).mono e5) hK5
      | i + 2, hi, ho => simp at hi
    · have e03 := e02.trans e3
      have hst : R.steps [fun d => R.unlink d n, R.again R.syncDir] d = R.drop d n := by
        unfold R.drop
        rw [if_neg hn]
        simp only [R.steps]
        by_cases hz : (R.unlink d n).2 = 0
        · by_cases hy : (R.again R.syncDir (R.unlink d n).1).2 = 0
          · simp only [hz, hy, ne_eq, not_true_eq_false, if_false]
            exact Prod.ext rfl hy.symm
          · simp only [hz, hy, ne_eq, not_true_eq_false, if_false, not_false_eq_true, if_true]
        · simp only [hz, ne_eq, not_false_eq_true, if_true]
      rw [hst]
      intro s4 e4 h4
      exact hK s4 (e03.n.trans e4) h4
  cases hdn : d.down
  · simp only [Bool.not_false]
    refine bif_t ?_
    refine ldP_at0 a12 rfl ?_
    refine ldS_at0 a2 rfl ?_
    refine Has_ok h2 ?_
    by_cases hf : R.find d.now n < 0
    · have : R.has d n = false := by rw [R.has, decide_eq_false (by omega), Bool.and_false]
      rw [this]
      unfold safe_Drop_j1
      refine bif_t ?_
      unfold R.drop at hK
      rw [if_pos ⟨hdn, hf⟩] at hK
      exact hK s2 e02.n h2
    · have : R.has d n = true := by rw [R.has, decide_eq_true (by omega), hdn]; rfl
      rw [this]
      exact j1 fun hx => hf hx.2
  · simp only [Bool.not_true]
    refine bif_f ?_
    exact j1 fun hx => by rw [hdn] at hx; cases hx.1
end Go.Ph
end
section
set_option linter.all false
namespace Go.Ph
open S
theorem newo_word {s : St} {o : Obj} {K : Nat → HP} (k : Nat) (hk : k < 2305843009213693952 + 1152921504606846976 * s.H.size) (ho : Obj.cl o = false) (h : ∀ (s' : St) (b : Nat), NewO s s' b k o → K b s'.H) : newo o K s.H :=
  newo_rule k hk ho h
structure FileM where
  name : ByteArray
  data : ByteArray
/-- bytes behind a slice that is only read -/
inductive BySl (V : View) (l : List UInt8) (sl : Sl) : Prop where
  | ls (h : Ls tBy V l sl)
  | no (h : l = []) (h0 : sl.len = 0)
theorem BySl.len {V : View} {l : List UInt8} {sl : Sl} (h : BySl V l sl) : sl.len = l.length := by
  cases h with
  | ls h => exact h.len
  | no h h0 => subst h; exact h0
theorem BySl.mono {V V' : View} {l : List UInt8} {sl : Sl} (h : BySl V l sl) (hV : VLe V V') : BySl V' l sl := by
  cases h with
  | ls h => exact .ls (LsW.mono h hV hV)
  | no h h0 => exact .no h h0
theorem BySl.st {s s' : St} {l : List UInt8} {sl : Sl} {S : List Nat} (h : BySl (s.w 0) l sl) (hs : Step S s s') : BySl (s'.w 0) l sl := h.mono hs.v0
theorem ldBySl {s : St} {l : List UInt8} {sl : Sl} {K : ByteArray → HP} (h : BySl (s.w 0) l sl) (hK : K ⟨l.toArray⟩ s.H) : ldBy sl K s.H := by
  cases h with
  | ls h => exact ldBy_rule h hK
  | no h h0 =>
    subst h
    refine ⟨⟨#[]⟩, ?_, hK⟩
    obtain ⟨a, n, c⟩ := sl
    simp only at h0
    subst h0
    cases a with
    | none => rfl
    | some a => exact ⟨rfl, fun j v hj => by simp [bcells] at hj⟩
def tFileM : Ty FileM := ⟨2, fun V x vs => ∃ sl : Sl, vs = [.string x.name, .slice sl.a sl.len sl.cap] ∧ BySl V x.data.data.toList sl, by rintro _ _ _ ⟨_, rfl, _⟩; rfl, by rintro _ _ _ _ h ⟨sl, rfl, h1⟩; exact ⟨sl, rfl, h1.mono h⟩, by rintro _ _ _ ⟨_, rfl, _⟩; simp [one]⟩
theorem newc_sts {s : St} {cs : Array Value} {vs : List Value} {K : Nat → HP} (hl : cs.size = vs.length) (hv : ∀ v ∈ vs, one v = true)
    (h : ∀ s' b, Step [] s s' → At (s'.w 0) b 0 vs → K b s'.H) : newc cs (fun b => sts (at0 b) 0 vs (K b)) s.H := by
  have hq0 : own s ≠ 0 := by unfold own; omega
  refine newc_k (own s) (by unfold own; omega) fun s1 b n1 a1 => ?_
  refine sts_rule (k := own s) (k' := 0) vs (fun j hj => ?_) hv (by omega) hq0 fun s2 h2 => ?_
  · have hj' : j < cs.toList.length := by simp; omega
    exact ⟨_, by have := a1 j _ (List.getElem?_eq_getElem hj'); simpa using this⟩
  · have e2 : Step [own s] s1 s2 := h2.step (q := own s) (by simp) hq0 fun i hi => by
      have hj' : i < cs.toList.length := by simp; omega
      have := a1 i _ (List.getElem?_eq_getElem hj')
      have := (w_some this).2
      simpa using this
    refine h s2 b ((n1.step.n.trans e2).loc) ?_
    have := h2.here
    simpa using this
namespace R
def newGo (cap : Int) : List FileM → RDisk → Int → Option RDisk
  | [], d, _ => some d
  | f :: l, d, used => if (!nameOk f.name || decide (0 ≤ find d.now f.name) || decide (cap - used < f.data.size)) = true then none
    else newGo cap l { d with files := d.files ++ [⟨f.data, f.data, []⟩], now := put d.now ⟨f.name, d.files.length⟩ } (used + f.data.size)
def new (files : List FileM) (cap : Int) : Option RDisk :=
  if cap < 1 ∨ 4194304 < cap ∨ 1024 < files.length then none
  else (newGo cap files ⟨[], [], [], [], cap, false, 0, -1, -1, 0⟩ 0).map fun d => { d with sure := d.now }
end R
/-- a disk that is being made -/
structure Mk (v : VDisk) (d : RDisk) (cap used : Int) (i : Nat) : Prop where
  v0 : v.room = cap ∧ v.sure = [] ∧ v.moves = [] ∧ v.off = false ∧ v.count = 0 ∧ v.fl = -1 ∧ v.fc = 0 ∧ v.cl = -1 ∧ v.cc = 0
  d0 : d.cap = cap ∧ d.sure = [] ∧ d.waits = [] ∧ d.down = false ∧ d.calls = 0 ∧ d.fail = -1 ∧ d.crash = -1 ∧ d.err = 0
  len : v.nodes.length = i ∧ d.files.length = i
  names : NamesSim i v.seen d.now
  sum : (v.seen.map fun x => V.size v x.2).sum = used
  used : 0 ≤ used ∧ used ≤ cap ∧ cap ≤ 4194304
  same : ∀ (j : Nat) (x : VNode) (f : RFile), v.nodes[j]? = some x → d.files[j]? = some f → SameF x f
  ok : ∀ x ∈ v.nodes, NodeOk 0 x ∧ x.fresh = false
  nl : d.now.length ≤ i
theorem Mk.add {v : VDisk} {d : RDisk} {cap used : Int} {i : Nat} (h : Mk v d cap used i) (x : FileM) (hf : R.find d.now x.name < 0) (hr : (x.data.size : Int) ≤ cap - used) :
    Mk { v with nodes := v.nodes ++ [⟨x.data, x.data, [], false⟩], seen := mset v.seen x.name i } { d with files := d.files ++ [⟨x.data, x.data, []⟩], now := R.put d.now ⟨x.name, (d.files.length : Int)⟩ } cap (used + x.data.size) (i + 1) := by
  obtain ⟨g1, g2, g3, g4, g5, g6, g7, g8, g9⟩ := h
  have hl : look v.seen x.name = none := by
    cases e : look v.seen x.name with
    | none => rfl
    | some j => have := (g4.find x.name).1 j e; omega
  have hms : mset v.seen x.name i = v.seen ++ [(x.name, (i : Int))] := by simp [mset, hl]
  refine ⟨g1, g2, ⟨by simp [g3.1], by simp [g3.2]⟩, ?_, ?_, by omega, ?_, ?_, ?_⟩
  · rw [g3.2]
    refine (g4.more (Nat.le_succ i)).set ⟨by omega, by omega⟩ fun e he => ?_
    have := g4.good.rng e he
    omega
  · simp only
    rw [hms, List.map_append, List.sum_append]
    have e1 : (v.seen.map fun y => V.size { v with nodes := v.nodes ++ [⟨x.data, x.data, [], false⟩], seen := v.seen ++ [(x.name, (i : Int))] } y.2) = v.seen.map fun y => V.size v y.2 := by
      apply List.map_congr_left
      intro y hy
      have := g4.good.rng _ ((g4.mem y.1 y.2).1 hy)
      simp only at this
      unfold V.size
      simp only
      rw [List.getElem?_append_left (by omega)]
    rw [e1, g5]
    have : V.size { v with nodes := v.nodes ++ [⟨x.data, x.data, [], false⟩], seen := v.seen ++ [(x.name, (i : Int))] } (i : Int) = x.data.size := by
      unfold V.size
      simp only [Int.toNat_natCast]
      rw [List.getElem?_append_right (by omega)]
      simp [g3.1]
    simp [this]
  · intro j y f hy hfl
    simp only at hy hfl
    by_cases e : j < i
    · rw [List.getElem?_append_left (by omega)] at hy hfl
      exact g7 j y f hy hfl
    · rw [List.getElem?_append_right (by omega)] at hy hfl
      have hj : j = i := by
        have := (List.getElem?_eq_some_iff.1 hy).1
        simp at this; omega
      subst hj
      simp [g3.1] at hy
      simp [g3.2] at hfl
      subst hy hfl
      exact ⟨rfl, rfl, rfl⟩
  · intro y hy
    simp only [List.mem_append, List.mem_singleton] at hy
    rcases hy with hy | rfl
    · exact g8 y hy
    · exact ⟨⟨by simp only; omega, by simp only; omega, by simp, by simp⟩, rfl⟩
  · have := put_len d.now ⟨x.name, (d.files.length : Int)⟩
    simp only; omega
theorem Mk.free {v : VDisk} {d : RDisk} {cap used : Int} {i : Nat} (h : Mk v d cap used i) : V.free v = cap - used := by
  unfold V.free; rw [h.sum, h.v0.1]
theorem Mk.sim {v : VDisk} {d : RDisk} {cap used : Int} {i : Nat} (h : Mk v d cap used i) (hi : i ≤ 1024) : Sim { v with sure := v.seen } { d with sure := d.now } := by
  obtain ⟨⟨a1, a2, a3, a4, a5, a6, a7, a8, a9⟩, ⟨b1, b2, b3, b4, b5, b6, b7, b8⟩, g3, g4, g5, g6, g7, g8, g9⟩ := h
  refine ⟨⟨by simp only; omega, by simp only; omega, by simp only; omega⟩, by simp only [a4, b4], ⟨by simp only; omega, by simp only; omega⟩, ⟨.inl (by simp only; omega), by simp only; omega, by simp only; omega, by simp only; omega, by simp only; omega⟩, by simp only; omega,
    ⟨.inl (by simp only; omega), by simp only; omega, by simp only; omega, by simp only; omega, by simp only; omega⟩, ⟨by simp only; omega, by simp only; omega⟩, ⟨by simp only [a3, b3]; rfl, by simp only [a3]; simp; omega⟩, by simp only [a3]; rfl, by simp only [b3]; rfl, ?_, ?_, by simp only [b3]; simp, fun j x f hx hf _ => g7 j x f hx hf, fun x hx => by simp only [b5]; exact (g8 x hx).1⟩
  · intro j hj
    simp only [a3, List.length_nil, Nat.le_zero] at hj
    subst hj
    simp only [List.take_zero, List.foldl_nil]
    exact ⟨by rw [g3.1]; exact g4, by omega⟩
  · intro j x hx
    simp only [b3, (g8 x (List.mem_of_getElem? hx)).2]
    simp
theorem vNew_ok {k : Nat} {s : St} {files : List FileM} {sl : Sl} {cap : Int} {K : Option Addr → HP} (h : Ls tFileM (s.w 0) files sl) (hk0 : k ≠ 0) (hko : Ko k s) (hfn : ∀ f ∈ files, f.name.size ≤ 9223372036854775807)
    (h0 : R.new files cap = none → ∀ s', Step (dk k) s s' → K none s'.H)
    (h1 : ∀ d, R.new files cap = some d → ∀ s' b, Step (dk k) s s' → DV k s' b d → K (some ⟨b, 0, none⟩) s'.H) : vdisk_New sl cap K s.H := by
  unfold vdisk_New
  have hlen := h.len
  unfold R.new at h0 h1
  have j1t : (cap < 1 ∨ 4194304 < cap ∨ 1024 < files.length) → vdisk_New_j1 sl cap true K s.H := fun hc => by
    unfold vdisk_New_j1
    refine bif_t ?_
    rw [if_pos hc] at h0
    exact h0 rfl s Step.refl
  refine bif_dec (fun c1 => ?_) (fun c1 => ?_)
  · exact j1t (.inl c1)
  · refine bif_dec (fun c2 => ?_) (fun c2 => ?_)
    · exact j1t (.inr (.inl c2))
    · by_cases c3 : (1024 : Int) < (sl.len : Nat)
      · rw [decide_eq_true c3]; exact j1t (.inr (.inr (by omega)))
      · rw [decide_eq_false c3]
        have hn : ¬(cap < 1 ∨ 4194304 < cap ∨ 1024 < files.length) := by omega
        rw [if_neg hn] at h0 h1
        unfold vdisk_New_j1
        refine bif_f ?_
        refine newo_word (k + 3) (by unfold Ko own at hko; omega) rfl fun s0 ms n0 => ?_
        have e0 := n0.step
        have hko0 := hko.mono e0
        have hm0 : MapAt (k + 3) s0 ms [] 0 [] := ⟨n0.here, ⟨rfl, by simp⟩, by simp, by simp⟩
        refine newc_k (s := s0) k (by unfold Ko own at hko0; omega) fun s1 b n1 a1 => ?_
        have e1 := n1.step
        have hnk : ∀ j, j < 1125899906842624 → k + j ≠ own s := fun j hj => by unfold Ko at hko; omega
        refine loop_rule (ι := Nat × VDisk × RDisk × Int × List (Option Addr)) (fun x => [.int .i64 x.1])
          (fun x s' => x.1 ≤ files.length ∧ Step (dk k) s s' ∧ VDq k s' b x.2.1 x.2.2.2.2 ∧ Mk x.2.1 x.2.2.1 cap x.2.2.2.1 x.1 ∧
            R.newGo cap files ⟨[], [], [], [], cap, false, 0, -1, -1, 0⟩ 0 = R.newGo cap (files.drop x.1) x.2.2.1 x.2.2.2.1 ∧
            ∃ (n m : Sl), At (s'.w k) b 0 [.int .i64 x.2.1.room, .slice n.a n.len n.cap, .map (some ms), .map none, .slice m.a m.len m.cap, .bool x.2.1.off, .int .i64 x.2.1.count, .int .i64 x.2.1.fl, .int .i64 x.2.1.fc, .int .i64 x.2.1.cl, .int .i64 x.2.1.cc] ∧
              Bld tP (k + 1) s' x.2.2.2.2 n ∧ Bld tMove (k + 2) s' x.2.1.moves m ∧ (∃ es cl, MapAt (k + 3) s' ms es cl x.2.1.seen) ∧ Nodes k s' x.2.1.nodes x.2.2.2.2) (fun x _ => files.length - x.1)
          (0, ⟨cap, [], [], [], [], false, 0, -1, 0, -1, 0⟩, ⟨[], [], [], [], cap, false, 0, -1, -1, 0⟩, 0, []) rfl
          ⟨Nat.zero_le _, e0.n.trans e1.n, ⟨hk0, ⟨⟨none, 0, 0⟩, ⟨none, 0, 0⟩, ms, none, a1, Bld.nil, Bld.nil, ⟨[], 0, hm0.st e1 (by simp)⟩⟩, ⟨rfl, fun j x hx => by simp at hx⟩⟩,
            ⟨by simp, by simp, ⟨rfl, rfl⟩, ⟨⟨by simp, by simp, by simp⟩, by simp, by simp⟩, rfl, ⟨Int.le_refl _, by show (0 : Int) ≤ cap; omega, by omega⟩, by simp, by simp, by simp⟩, by simp only [List.drop_zero],
            ⟨none, 0, 0⟩, ⟨none, 0, 0⟩, a1, Bld.nil, Bld.nil, ⟨[], 0, hm0.st e1 (by simp)⟩, ⟨rfl, fun j x hx => by simp at hx⟩⟩ ?_
        rintro ⟨i, v, d, used, ps⟩ s2 ⟨hi, e2, v2, mk, g2, n, m, a2, b2, c2, ⟨es, cl, m2⟩, nd2⟩ G hG
        simp only [List.getD_cons_zero, List.getD_cons_succ, asI_v, asL_v, asS_v, asB_v, asM_v, asP_v]
        simp only at hi v2 mk g2 a2 b2 c2 m2 nd2
        have hko2 := hko.mono e2
        refine bif_dec (fun hlt => ?_) (fun hlt => ?_)
        · refine ixL_rule (Ls.st h e2) (by omega) (by omega) fun b' o x hx he => ?_
          obtain ⟨_, ⟨xs, rfl, hxs⟩, ha⟩ := he
          rw [Int.toNat_natCast] at hx
          have hdr : files.drop i = x :: files.drop (i + 1) := by
            obtain ⟨q1, q2⟩ := List.getElem?_eq_some_iff.1 hx
            rw [List.drop_eq_getElem_cons q1, q2]
          rw [hdr] at g2
          unfold ld_G_api_File
          repeat (first|refine nn_at ?_|refine ldI_at ha rfl ?_|refine ldB_at ha rfl ?_|refine ldS_at ha rfl ?_|refine ldP_at ha rfl ?_|refine ldM_at ha rfl ?_|refine ldL_at ha rfl ?_)
          refine newc_sts rfl (by simp [one]) fun s3 t7 e3 a7 => ?_
          have a23 := a2.mono (e3.view (k := k) (by simp))
          have m23 := m2.st e3 (by simp)
          have e23 : Step (dk k) s s3 := e2.trans e3.n
          have bad : (!nameOk x.name || decide (0 ≤ R.find d.now x.name) || decide (cap - used < x.data.size)) = true → ∀ s4, Step [] s3 s4 → vdisk_New_j3 b t7 sl (sl.len : Nat) i true K G s4.H := fun hb s4 e4 => by
            unfold vdisk_New_j3
            refine bif_t ?_
            simp only [R.newGo] at g2
            rw [if_pos hb] at g2
            rw [g2] at h0
            exact h0 rfl s4 (e23.trans e4.n)
          repeat (first|refine nn_at ?_|refine ldI_at a23 rfl ?_|refine ldB_at a23 rfl ?_|refine ldS_at a23 rfl ?_|refine ldP_at a23 rfl ?_|refine ldM_at a23 rfl ?_|refine ldL_at a23 rfl ?_)
          repeat (first|refine nn_at ?_|refine ldI_at a7 rfl ?_|refine ldB_at a7 rfl ?_|refine ldS_at a7 rfl ?_|refine ldP_at a7 rfl ?_|refine ldM_at a7 rfl ?_|refine ldL_at a7 rfl ?_)
          have hfd := mk.names.find x.name
          refine mget_rule m23 (fun hl => ?_) (fun j hl => ?_)
          · have hneg := hfd.2 hl
            unfold vdisk_New_j2
            refine bif_f ?_
            repeat (first|refine nn_at ?_|refine ldI_at a7 rfl ?_|refine ldB_at a7 rfl ?_|refine ldS_at a7 rfl ?_|refine ldP_at a7 rfl ?_|refine ldM_at a7 rfl ?_|refine ldL_at a7 rfl ?_)
            refine named_ok (hfn x (List.mem_of_getElem? hx)) ?_
            cases hnm : nameOk x.name
            · refine bif_t (held_rule trivial (bad (by rw [hnm]; rfl) s3 Step.refl))
            · refine bif_f ?_
              refine ldL_at a7 rfl ?_
              have v23 := v2.st e3 (by simp)
              have hrng : ∀ y ∈ v.seen, 0 ≤ y.2 ∧ y.2 < (v.nodes.length : Int) := fun y hy => by
                have := mk.names.good.rng _ ((mk.names.mem y.1 y.2).1 hy)
                simp only at this
                rw [mk.len.1]; exact this
              have hlen1 := mk.len.1
              have hlen2 := mk.len.2
              refine free_ok v23 (by have := mk.used; have := mk.v0.1; omega) (by rw [mk.names.len]; have := mk.nl; omega) hrng (fun y hy => ((mk.ok y hy).1).seen) (by omega) (hko.mono e23) fun s4 e4 => ?_
              have e24 := e3.trans e4
              have a24 := a23.mono (e4.view (k := k) (by simp))
              have a74 := a7.mono e4.v0
              refine held_rule (ldL_at a74 rfl rfl) ?_
              have hxl := hxs.len
              have hxl' : xs.len = x.data.size := by rw [hxl, ba_len]
              rw [mk.free]
              by_cases hrm : cap - used < (xs.len : Nat)
              · rw [decide_eq_true hrm]
                refine bad ?_ s4 e4
                rw [hxl'] at hrm
                rw [decide_eq_true hrm]; simp
              · rw [decide_eq_false hrm]
                unfold vdisk_New_j3
                refine bif_f ?_
                repeat (first|refine nn_at ?_|refine ldI_at a24 rfl ?_|refine ldB_at a24 rfl ?_|refine ldS_at a24 rfl ?_|refine ldP_at a24 rfl ?_|refine ldM_at a24 rfl ?_|refine ldL_at a24 rfl ?_)
                repeat (first|refine nn_at ?_|refine ldI_at a74 rfl ?_|refine ldB_at a74 rfl ?_|refine ldS_at a74 rfl ?_|refine ldP_at a74 rfl ?_|refine ldM_at a74 rfl ?_|refine ldL_at a74 rfl ?_)
                repeat (first|refine nn_at ?_|refine ldI_at a24 rfl ?_|refine ldB_at a24 rfl ?_|refine ldS_at a24 rfl ?_|refine ldP_at a24 rfl ?_|refine ldM_at a24 rfl ?_|refine ldL_at a24 rfl ?_)
                refine mput_rule (m2.st e24 (by simp)) (by omega) fun s5 es5 cl5 e5 z5 o5 m5 => ?_
                have a25 := a24.mono (e5.view (k := k) (by simp))
                repeat (first|refine nn_at ?_|refine ldI_at a25 rfl ?_|refine ldB_at a25 rfl ?_|refine ldS_at a25 rfl ?_|refine ldP_at a25 rfl ?_|refine ldM_at a25 rfl ?_|refine ldL_at a25 rfl ?_)
                have a75 := a74.mono e5.v0
                have hx5 := (hxs.st e24).st e5
                repeat (first|refine nn_at ?_|refine ldI_at a75 rfl ?_|refine ldB_at a75 rfl ?_|refine ldS_at a75 rfl ?_|refine ldP_at a75 rfl ?_|refine ldM_at a75 rfl ?_|refine ldL_at a75 rfl ?_)
                refine ldBySl hx5 ?_
                repeat (first|refine nn_at ?_|refine ldI_at a75 rfl ?_|refine ldB_at a75 rfl ?_|refine ldS_at a75 rfl ?_|refine ldP_at a75 rfl ?_|refine ldM_at a75 rfl ?_|refine ldL_at a75 rfl ?_)
                refine ldBySl hx5 ?_
                have hxd : (⟨x.data.data.toList.toArray⟩ : ByteArray) = x.data := by apply ba_ext; simp
                rw [hxd]
                have hko5 := (hko2.mono e24).mono e5
                refine newc_k (s := s5) (k + 10 + 2 * i) (by unfold Ko own at hko5; omega) fun s6 p6 n6 a6 => ?_
                have e6 := n6.step
                have a26 := a25.mono (e6.view (k := k) (by simp))
                refine held_rule (ldL_at a26 rfl rfl) ?_
                refine newc_0 fun s7 b7 n7 a77 => ?_
                have e7 := n7.step
                have a27 := a26.mono (e7.view (k := k) (by simp))
                refine held_rule (ldL_at a27 rfl rfl) ?_
                have hko7 := (hko5.mono e6).mono e7
                have b27 := (((b2.st e24 (by simp)).st e5 (by simp)).st e6 (by simp)).st e7 (by simp)
                have hpl : ps.length = i := by rw [nd2.len]; exact hlen1
                refine app_rule b27 (Ls.single (t := tP) (x := some ⟨p6, 0, none⟩) rfl a77) (fun s8 sl8 e8 b8 => ?_) (hq := by unfold Ko own at hko7; omega)
                have a28 := a27.mono (e8.view (k := k) (by simp))
                repeat (first|refine nn_at ?_|refine ldI_at a28 rfl ?_|refine ldB_at a28 rfl ?_|refine ldS_at a28 rfl ?_|refine ldP_at a28 rfl ?_|refine ldM_at a28 rfl ?_|refine ldL_at a28 rfl ?_)
                refine fld_rule a28 (by simp) rfl hk0 fun s9 e9 z9 a9 o9 => ?_
                simp only [List.set_cons_succ, List.set_cons_zero] at a9
                have e59 : Step [k, k + 1] s5 s9 := ((e6.n.trans e7.n).trans (e8.mono (by simp))).trans (e9.mono (by simp))
                have e49 : Step [k, k + 1, k + 3] s4 s9 := e5.tr e59
                have e29 : Step [k, k + 1, k + 3] s2 s9 := e24.n.trans e49
                have e69 : Step [k, k + 1] s6 s9 := (e7.n.trans (e8.mono (by simp))).trans (e9.mono (by simp))
                have hdk : ∀ y, y ∈ [k, k + 1, k + 3] → y ∈ dk k := by intro y hy; simp at hy; rw [mem_dk]; omega
                rw [w64_id (by omega) (by omega)]
                have hN : Nodes k s9 (v.nodes ++ [⟨x.data, x.data, [], false⟩]) (ps ++ [some ⟨p6, 0, none⟩]) := by
                  refine ⟨by simp [nd2.len], fun j y hy => ?_⟩
                  by_cases ej : j < v.nodes.length
                  · rw [List.getElem?_append_left ej] at hy
                    obtain ⟨p', q1, q2⟩ := nd2.at_ j y hy
                    exact ⟨p', by rw [List.getElem?_append_left (by omega)]; exact q1, q2.st e29 (by simp; omega) (by simp; omega)⟩
                  · rw [List.getElem?_append_right (by omega)] at hy
                    have hj : j = v.nodes.length := by
                      have := (List.getElem?_eq_some_iff.1 hy).1
                      simp at this; omega
                    subst hj
                    simp at hy; subst hy
                    refine ⟨p6, by rw [List.getElem?_append_right (by omega)]; simp [hpl, hlen1], ⟨none, 0, 0⟩, ?_, Bld.nil⟩
                    have := a6.mono (e69.view (k := k + 10 + 2 * i) (by simp; omega))
                    rw [hlen1]
                    exact this
                have hmk := mk.add x (by have := hfd.2 hl; omega) (by omega)
                have hnl : n.len = i := by rw [b2.ls.len, hpl]
                rw [hnl] at m5
                have m9 := m5.st e59 (by simp)
                have c9 := c2.st e29 (by simp)
                refine hG (i + 1, { v with nodes := v.nodes ++ [⟨x.data, x.data, [], false⟩], seen := mset v.seen x.name i }, { d with files := d.files ++ [⟨x.data, x.data, []⟩], now := R.put d.now ⟨x.name, (d.files.length : Int)⟩ }, used + x.data.size, ps ++ [some ⟨p6, 0, none⟩]) s9
                  ⟨by omega, e2.trans (e29.mono hdk), ⟨hk0, ⟨sl8, m, ms, none, a9, b8.st e9 (by simp), c9, ⟨es5, cl5, m9⟩⟩, hN⟩, hmk, ?_, sl8, m, a9, b8.st e9 (by simp), c9, ⟨es5, cl5, m9⟩, hN⟩ (by simp only; omega)
                rw [g2]
                simp only [R.newGo]
                rw [if_neg (by rw [hnm, decide_eq_false (show ¬0 ≤ R.find d.now x.name by have := hfd.2 hl; omega), decide_eq_false (by omega)]; simp)]
          · refine ⟨_, rfl, ?_⟩
            have hpos := (hfd.1 j hl)
            unfold vdisk_New_j2
            refine bif_t (held_rule trivial (bad (by rw [decide_eq_true (show 0 ≤ R.find d.now x.name by omega)]; simp) s3 Step.refl))
        · have : i = files.length := by omega
          subst this
          rw [List.drop_length] at g2
          simp only [R.newGo] at g2
          rw [g2] at h1
          repeat (first|refine nn_at ?_|refine ldI_at a2 rfl ?_|refine ldB_at a2 rfl ?_|refine ldS_at a2 rfl ?_|refine ldP_at a2 rfl ?_|refine ldM_at a2 rfl ?_|refine ldL_at a2 rfl ?_)
          refine Clone_ok (k' := k + 4) m2 (by unfold Ko own at hko2; omega) fun s3 mu e3 z3 m3 => ?_
          have a3 := a2.mono (e3.view (k := k) (by simp))
          repeat (first|refine nn_at ?_|refine ldI_at a3 rfl ?_|refine ldB_at a3 rfl ?_|refine ldS_at a3 rfl ?_|refine ldP_at a3 rfl ?_|refine ldM_at a3 rfl ?_|refine ldL_at a3 rfl ?_)
          refine fld_rule a3 (by simp) rfl hk0 fun s4 e4 z4 a4 o4 => ?_
          simp only [List.set_cons_succ, List.set_cons_zero] at a4
          have e24 : Step [k] s2 s4 := e3.n.trans e4
          have hs := mk.sim (by omega)
          exact h1 _ rfl s4 b (e2.trans (e24.mono dk0)) ⟨{ v with sure := v.seen }, ps, ⟨hk0, ⟨n, m, ms, some mu, a4, b2.st e24 (by simp), c2.st e24 (by simp), ⟨es, cl, m2.st e24 (by simp)⟩, ⟨mu, es, cl, rfl, m3.st e4 (by simp)⟩⟩, nd2.st e24 (fun j => by simp; omega)⟩, hs⟩
end Go.Ph
end
section
set_option linter.all false
namespace Go.Ph
open S
theorem zrowC_get {α : Type} {t : Ty α} {zero : Array Value} (hz : zero.size = t.n) : ∀ (n j i : Nat) (v : Value), j < n → zero.toList[i]? = some v → (zrow zero n)[j * t.n + i]? = some v
  | 0, j, i, v, h, hv => by omega
  | n + 1, 0, i, v, h, hv => by
    simp only [zrow, Nat.zero_mul, Nat.zero_add]
    rw [List.getElem?_append_left (List.getElem?_eq_some_iff.1 hv).1]; exact hv
  | n + 1, j + 1, i, v, h, hv => by
    simp only [zrow]
    have hl : zero.toList.length = t.n := by simp [hz]
    rw [List.getElem?_append_right (by rw [hl, Nat.add_mul]; omega), hl]
    rw [show (j + 1) * t.n + i - t.n = j * t.n + i by rw [Nat.add_mul]; omega]
    exact zrowC_get hz n j i v (by omega) hv
/-- a new row of one thing, of colour q -/
theorem mkSl_rule {α : Type} {t : Ty α} {s : St} {z : α} {zero : Array Value} {bytes : Nat} {n : Int} {K : Sl → HP} (q : Nat) (hq : q < 2305843009213693952 + 1152921504606846976 * s.H.size) (hR : t.R (s.w 0) z zero.toList)
    (h0 : 0 ≤ n) (hb : bytes * n ≤ 281474976710656) (hn : n ≤ 9223372036854775807)
    (hK : ∀ s' sl, Step [] s s' → s'.H.size = s.H.size + 1 → LsW t (s'.w 0) (s'.w q) (List.replicate n.toNat z) sl → K sl s'.H) : mkSl bytes zero n n K s.H := by
  have hz : zero.size = t.n := by have := t.len hR; simpa using this
  refine ⟨⟨h0, Int.le_refl _, hb, hn⟩, fun ty => ?_⟩
  refine newc_f (K := fun b => K ⟨some (at0 b), n.toNat, n.toNat⟩) (lo := 0) (hi := 0) (fun _ => q) (fun _ => hq) (fun i _ => by simp) fun s' b hn => ?_
  refine hK s' _ hn.step hn.sz ⟨by simp, Nat.le_refl _, fun h => (by cases h), fun a ha => ?_⟩
  simp at ha; subst ha
  refine ⟨fun _ => rfl, fun j x hj => ⟨zero.toList, ?_, fun i v hi => ?_⟩⟩
  · rw [List.getElem?_replicate] at hj
    split at hj
    · simp at hj; subst hj; exact t.mono hn.step.v0 hR
    · cases hj
  · have hj' := (List.getElem?_eq_some_iff.1 hj).1
    simp at hj'
    refine w_mk ?_ (hn.col _)
    simp only [Nat.zero_add]
    rw [hn.here, zrowC_get hz n.toNat j i v (by omega) hi]
    rfl
theorem ixLw_rule {α : Type} {t : Ty α} {V W : View} {l : List α} {sl : Sl} {size : Nat} {i : Int} {K : Addr → HP} {H : Heap} (h : LsW t V W l sl) (h0 : 0 ≤ i) (h1 : i < l.length)
    (hK : ∀ b o x, sl.a = some ⟨b, o, none⟩ → l[i.toNat]? = some x → El t V W x b (o + i.toNat * t.n) → K ⟨b, o + i.toNat * t.n, none⟩ H) (hn : size = t.n := by rfl) : ixL sl size i K H := by
  subst hn
  obtain ⟨b, o, ha⟩ := Ls.lt h (j := i.toNat) (by omega)
  refine ⟨_, ha, h0, by rw [h.len]; exact h1, ?_⟩
  rw [add_at]
  have hx : l[i.toNat]? = some (l[i.toNat]'(by omega)) := List.getElem?_eq_getElem _
  exact hK _ _ _ ha hx ((h.at_ _ ha).2 _ _ hx)
/-- an element is written -/
theorem setL_rule {α : Type} {t : Ty α} {s : St} {q b o i : Nat} {l : List α} {sl : Sl} {x : α} {vs : List Value} {K : HP} (h : LsW t (s.w 0) (s.w q) l sl) (ha : sl.a = some ⟨b, o, none⟩) (hi : i < l.length) (hR : t.R (s.w 0) x vs) (hq0 : q ≠ 0) (hn : 0 < t.n)
    (hK : ∀ s', Step [q] s s' → s'.H.size = s.H.size → LsW t (s'.w 0) (s'.w q) (l.set i x) sl → K s'.H) : sts ⟨b, o + i * t.n, none⟩ 0 vs K s.H := by
  have hvl := t.len hR
  have hall := (h.at_ _ ha).2
  simp only at hall
  obtain ⟨ws, w1, w2⟩ := hall i l[i] (List.getElem?_eq_getElem hi)
  have hwl := t.len w1
  have hc : ∀ j, j < vs.length → ∃ v0, s.w q b (o + i * t.n + 0 + j) = some (.v v0) := fun j hj => by
    exact ⟨_, by have := w2 j _ (List.getElem?_eq_getElem (by omega)); simpa using this⟩
  obtain ⟨v0, hv0⟩ := hc 0 (by omega)
  have hqlt : q < 1152921504606846976 + 1152921504606846976 * s.H.size := by rw [← (w_some hv0).2]; exact s.wf _ _ (w_lt hv0)
  refine sts_rule (k := q) (k' := q) vs hc (t.one hR) hqlt hq0 fun s' h' => ?_
  have hst : Step [q] s s' := h'.step (q := q) (by simp) hq0 fun j hj => by
    obtain ⟨v, hv⟩ := hc j hj
    exact (w_some hv).2
  refine hK s' hst h'.sz ⟨by simp [h.len], h.cap, h.nil, fun a ha' => ?_⟩
  rw [ha] at ha'
  simp at ha'; subst ha'
  refine ⟨fun _ => rfl, fun j y hj => ?_⟩
  by_cases e : i = j
  · subst e
    rw [List.getElem?_set_self hi] at hj
    simp at hj; subst hj
    exact ⟨vs, t.mono hst.v0 hR, by have := h'.here; simpa using this⟩
  · rw [List.getElem?_set_ne e] at hj
    obtain ⟨us, u1, u2⟩ := hall j y hj
    have hul := t.len u1
    refine ⟨us, t.mono hst.v0 u1, fun a v hav => ?_⟩
    have hlt := (List.getElem?_eq_some_iff.1 hav).1
    have hu := u2 a v hav
    have := h'.old b (o + j * t.n + a) (fun ⟨_, h1, h2⟩ => by
      rcases Nat.lt_or_gt_of_ne e with e1 | e1
      · have : (i + 1) * t.n ≤ j * t.n := Nat.mul_le_mul_right _ e1
        rw [Nat.add_mul] at this; omega
      · have : (j + 1) * t.n ≤ i * t.n := Nat.mul_le_mul_right _ e1
        rw [Nat.add_mul] at this; omega)
    exact w_mk (this.2.trans (w_some hu).1) (this.1.trans (w_some hu).2)
theorem LsW.st {α : Type} {t : Ty α} {s s' : St} {q : Nat} {l : List α} {sl : Sl} {S : List Nat} (h : LsW t (s.w 0) (s.w q) l sl) (hs : Step S s s') (hq : q ∉ S) : LsW t (s'.w 0) (s'.w q) l sl := h.mono hs.v0 (hs.view hq)
def V.mark (m : List (ByteArray × Int)) (base : List Bool) : List Bool := (List.range base.length).map fun j => base.getD j false || m.any fun x => decide (x.2 = (j : Int))
def valIs (j : Int) : Value → Bool
  | .int _ i => decide (i = j)
  | _ => false
def marked (es : List MapEntry) (seen : List Nat) (base : List Bool) : List Bool := (List.range base.length).map fun j => base.getD j false || es.any fun e => decide (e.born ∈ seen) && valIs (j : Int) e.val
theorem any_kv {es : List MapEntry} {m : List (ByteArray × Int)} (h : Ents es m) (j : Int) : (es.any fun e => valIs j e.val) = m.any fun x => decide (x.2 = j) := by
  have e1 : (es.any fun e => valIs j e.val) = (es.map (fun e => (e.key, e.val))).any fun x => valIs j x.2 := by rw [List.any_map]; rfl
  rw [e1, h.kv, List.any_map]
  rfl
theorem marked_nil (es : List MapEntry) (base : List Bool) : marked es [] base = base := by
  apply List.ext_getElem?
  intro j
  simp only [marked, List.getElem?_map, List.not_mem_nil, decide_false, Bool.false_and]
  by_cases e : j < base.length
  · rw [List.getElem?_range e]; simp [e]
  · rw [List.getElem?_eq_none (by simp; omega), List.getElem?_eq_none (by omega)]; rfl
theorem marked_add {es : List MapEntry} {seen : List Nat} {base : List Bool} {e : MapEntry} {i : Nat} (he : e ∈ es) (hu : (es.map (·.born)).Nodup) (hv : ∃ k, e.val = .int k (i : Int)) (hi : i < base.length) :
    marked es (seen ++ [e.born]) base = (marked es seen base).set i true := by
  obtain ⟨k, hv⟩ := hv
  have hb : ∀ x ∈ es, x.born = e.born → x = e := fun x hx hxe => by
    obtain ⟨a, ha⟩ := List.mem_iff_getElem?.1 hx
    obtain ⟨c, hc⟩ := List.mem_iff_getElem?.1 he
    have : a = c := nodup_idx hu (x := e.born) (by simp [ha, hxe]) (by simp [hc])
    subst this
    rw [ha] at hc; simpa using hc
  apply List.ext_getElem?
  intro j
  by_cases ej : j < base.length
  · by_cases e1 : i = j
    · subst e1
      rw [List.getElem?_set_self (by simp [marked]; omega)]
      simp only [marked, List.getElem?_map, List.getElem?_range ej, Option.map_some, Option.some.injEq]
      have : (es.any fun x => decide (x.born ∈ seen ++ [e.born]) && valIs (i : Int) x.val) = true := by
        rw [List.any_eq_true]
        exact ⟨e, he, by simp [hv, valIs]⟩
      rw [this, Bool.or_true]
    · rw [List.getElem?_set_ne e1]
      simp only [marked, List.getElem?_map, List.getElem?_range ej, Option.map_some, Option.some.injEq]
      congr 1
      rw [Bool.eq_iff_iff, List.any_eq_true, List.any_eq_true]
      constructor
      · rintro ⟨x, hx, hxx⟩
        refine ⟨x, hx, ?_⟩
        simp only [Bool.and_eq_true, decide_eq_true_eq, List.mem_append, List.mem_singleton] at hxx ⊢
        refine ⟨?_, hxx.2⟩
        rcases hxx.1 with h | h
        · exact h
        · have := hb x hx h
          subst this
          rw [hv] at hxx
          simp [valIs] at hxx
          exact absurd hxx (by omega)
      · rintro ⟨x, hx, hxx⟩
        refine ⟨x, hx, ?_⟩
        simp only [Bool.and_eq_true, decide_eq_true_eq, List.mem_append, List.mem_singleton] at hxx ⊢
        exact ⟨.inl hxx.1, hxx.2⟩
  · rw [List.getElem?_eq_none (by simp [marked]; omega), List.getElem?_eq_none (by simp [marked]; omega)]
theorem marked_all {es : List MapEntry} {m : List (ByteArray × Int)} {seen : List Nat} {base : List Bool} (h : Ents es m) (ha : ∀ e ∈ es, e.born ∈ seen) : marked es seen base = V.mark m base := by
  unfold marked V.mark
  apply List.map_congr_left
  intro j _
  congr 1
  rw [← any_kv h]
  rw [Bool.eq_iff_iff, List.any_eq_true, List.any_eq_true]
  constructor
  · rintro ⟨x, hx, hxx⟩; exact ⟨x, hx, by simpa [ha x hx] using hxx⟩
  · rintro ⟨x, hx, hxx⟩; exact ⟨x, hx, by simpa [ha x hx] using hxx⟩
theorem mrng_none {K : Nat → HP} {H : Heap} (h : newo (.mapIter none 0 #[] 0) K H) : mrng none K H := h
theorem mark_ok {k q : Nat} {s : St} {r : Option Nat} {m : List (ByteArray × Int)} {base : List Bool} {has : Sl} {K : HP} (h : SureAt k s r m) (hB : LsW tB (s.w 0) (s.w q) base has) (hk : k ≠ q ∧ k ≠ q + 1) (hq0 : q ≠ 0) (hq : q + 1 < 2305843009213693952 + 1152921504606846976 * s.H.size)
    (hr : ∀ x ∈ m, 0 ≤ x.2 ∧ x.2 < base.length) (hK : ∀ s', Step [q, q + 1] s s' → LsW tB (s'.w 0) (s'.w q) (V.mark m base) has → K s'.H) :
    mrng r (fun t32 => loop (σ := List Value) (fun R2 vs2 =>
      mnext t32 K fun t33k t33v =>
      ment t32 fun t35k t35v =>
      inS t35k fun t35k =>
      inI .i64 t35v fun t35v =>
      ixL has 1 t35v fun t39 =>
      sts t39 0 [.bool true] (
      R2 [])) []) s.H := by
  have h0 := (Or.inr h : (r = none ∧ m = []) ∨ SureAt k s r m)
  clear h
  rcases h0 with ⟨rfl, rfl⟩ | ⟨r, es, cl, rfl, h⟩
  · refine mrng_none ?_
    refine newo_word (q + 1) hq rfl fun s1 it n1 => ?_
    refine loop_rule (ι := Unit) (fun _ => []) (fun _ s' => s' = s1) (fun _ _ => 0) () rfl rfl ?_
    rintro _ s' rfl G hG
    have ho := (obj_pk (w_some n1.here).1).1
    unfold mnext
    rw [ho]
    refine hK s' n1.step.n ?_
    have : V.mark [] base = base := by
      have := marked_nil [] base
      simpa [marked, V.mark] using this
    rw [this]
    exact hB.mono n1.step.v0 (n1.step.view (by simp))
  · refine mrng_rule h (q + 1) hq fun s1 it e1 z1 i1 => ?_
    refine loop_rule (ι := List Nat) (fun _ => []) (fun seen s' => Step [q, q + 1] s s' ∧ Iter (q + 1) s' it r cl cl seen ∧ LsW tB (s'.w 0) (s'.w q) (marked es seen base) has) (fun seen _ => unseen cl seen) [] rfl
      ⟨e1.n, i1, by rw [marked_nil]; exact hB.st e1 (by simp)⟩ ?_
    rintro seen s2 ⟨e2, i2, b2⟩ G hG
    have h2 := h.st e2 (by simpa using hk)
    refine mnext_rule i2 h2 hk.2 (by omega) h.born ?_ ?_
    · intro ha
      rw [marked_all h.ents ha] at b2
      exact hK s2 e2 b2
    · intro e he hns s3 e3 z3 i3
      obtain ⟨a, ha⟩ := List.mem_iff_getElem?.1 he
      have hlen := congrArg List.length h.ents.kv
      simp at hlen
      have hlt := (List.getElem?_eq_some_iff.1 ha).1
      have hma : m[a]? = some (m[a]'(by omega)) := List.getElem?_eq_getElem _
      have hkv := congrArg (fun l => l[a]?) h.ents.kv
      simp only [List.getElem?_map, ha, hma, Option.map_some, Option.some.injEq, Prod.mk.injEq] at hkv
      refine ⟨_, hkv.1, _, hkv.2, ?_⟩
      have hin := hr _ (List.mem_iff_getElem?.2 ⟨a, hma⟩)
      have b3 := b2.st e3 (by simp)
      have hml : (marked es seen base).length = base.length := by simp [marked]
      refine ixLw_rule b3 hin.1 (by rw [hml]; exact hin.2) fun b o x hsl hx hel => ?_
      refine setL_rule b3 hsl (by rw [hml]; omega) (x := true) rfl hq0 (by decide) fun s4 e4 z4 b4 => ?_
      have e24 : Step [q, q + 1] s2 s4 := (e3.mono (by simp)).trans (e4.mono (by simp))
      refine hG (seen ++ [e.born]) s4 ⟨e2.trans e24, i3.st e4 (by simp), ?_⟩ (unseen_lt (h.born e he) hns)
      rw [marked_add he h.uniq ⟨.i64, by rw [hkv.2, Int.toNat_of_nonneg hin.1]⟩ (by omega)]
      exact b4
def V.flags (v : VDisk) : List Bool := V.mark v.sure (V.mark v.seen (List.replicate v.nodes.length false))
def V.kn (v : VDisk) (j : Nat) : Bool := (V.flags v).getD j false || match v.nodes[j]? with | some x => x.fresh | none => false
def V.knownIdx (v : VDisk) (i : Nat) : List Nat := (List.range i).filter (V.kn v)
theorem mark_len (m : List (ByteArray × Int)) (b : List Bool) : (V.mark m b).length = b.length := by simp [V.mark]
theorem Step.loc2 {a b : St} {q : Nat} {S : List Nat} (h : Step (q :: (q + 1) :: S) a b) (hq : own a ≤ q) : Step S a b := (h.loc hq).loc (by omega)
theorem known_ok {k : Nat} {s : St} {b : Nat} {v : VDisk} {ps : List (Option Addr)} {K : Sl → HP} (h : VDp k s b v ps) (hn : v.nodes.length ≤ 1000000000000) (hko : Ko k s)
    (hr : ∀ x ∈ v.seen, 0 ≤ x.2 ∧ x.2 < v.nodes.length) (hr' : ∀ x ∈ v.sure, 0 ≤ x.2 ∧ x.2 < v.nodes.length)
    (hK : ∀ s' sl, Step [] s s' → Ls tP (s'.w 0) ((V.knownIdx v v.nodes.length).map fun j => ps.getD j none) sl → K sl s'.H) : vdisk_Disk_known (some ⟨b, 0, none⟩) K s.H := by
  have hh := h
  obtain ⟨k0, ⟨n, m, ms, mu, h1, h2, h3, ⟨es, cl, h4⟩, h5⟩, h6⟩ := h
  have hlen := h6.len
  have hnl : n.len = v.nodes.length := by rw [h2.ls.len, hlen]
  have hq0 : own s ≠ 0 := by unfold own; omega
  have hnk : ∀ j, j < 1125899906842624 → k + j ≠ own s ∧ k + j ≠ own s + 1 := fun j hj => by unfold Ko at hko; omega
  unfold vdisk_Disk_known
  repeat (first|refine nn_at ?_|refine ldI_at h1 rfl ?_|refine ldB_at h1 rfl ?_|refine ldS_at h1 rfl ?_|refine ldP_at h1 rfl ?_|refine ldM_at h1 rfl ?_|refine ldL_at h1 rfl ?_)
  rw [hnl]
  refine mkSl_rule (t := tB) (z := false) (n := (v.nodes.length : Int)) (own s) (by unfold own; omega) rfl (by omega) (by omega) (by omega) fun s1 has e1 z1 b1 => ?_
  rw [Int.toNat_natCast] at b1
  have a1 := h1.mono (e1.view (k := k) (by simp))
  repeat (first|refine nn_at ?_|refine ldI_at a1 rfl ?_|refine ldB_at a1 rfl ?_|refine ldS_at a1 rfl ?_|refine ldP_at a1 rfl ?_|refine ldM_at a1 rfl ?_|refine ldL_at a1 rfl ?_)
  refine newc_0 fun s2 b2 n2 a2 => ?_
  have e2 := n2.step
  have b12 := b1.st e2 (by simp)
  have hseen : SureAt (k + 3) s (some ms) v.seen := ⟨ms, es, cl, rfl, h4⟩
  refine loop_rule (fun i : Nat => [.int .i64 i]) (fun i s' => i ≤ 2 ∧ Step [own s, own s + 1] s s' ∧ At (s'.w 0) b2 0 [.map (some ms), .map mu] ∧
    LsW tB (s'.w 0) (s'.w (own s)) (if i = 0 then List.replicate v.nodes.length false else if i = 1 then V.mark v.seen (List.replicate v.nodes.length false) else V.flags v) has) (fun i _ => 2 - i) 0 rfl
    ⟨by omega, (e1.trans e2).n, a2, b12⟩ ?_
  rintro i s3 ⟨hi, e3, a3, b3⟩ G hG
  simp only [List.getD_cons_zero, List.getD_cons_succ, asI_v, asL_v, asS_v, asB_v, asM_v, asP_v]
  have hz3 := e3.sz
  refine bif_dec (fun hlt => ?_) (fun hlt => ?_)
  · have hls : LsW tM (s3.w 0) (s3.w 0) [some ms, mu] ⟨some (at0 b2), 2, 2⟩ := ⟨rfl, Nat.le_refl _, fun h => (by cases h), fun a e => by
      simp at e; subst e
      refine ⟨fun _ => rfl, fun j y hj => ?_⟩
      match j, hj with
      | 0, hj => simp at hj; subst hj; exact ⟨_, rfl, fun i v hi => by
          have e : i = 0 := by cases i with
            | zero => rfl
            | succ i => simp at hi
          subst e; simp at hi; subst hi; exact a3 0 _ rfl⟩
      | 1, hj => simp at hj; subst hj; exact ⟨_, rfl, fun i v hi => by
          have e : i = 0 := by cases i with
            | zero => rfl
            | succ i => simp at hi
          subst e; simp at hi; subst hi; exact a3 1 _ rfl⟩
      | j + 2, hj => simp at hj⟩
    refine ixL_rule hls (by omega) (by simp; omega) fun b' o x hx he => ?_
    obtain ⟨_, rfl, ha⟩ := he
    rw [Int.toNat_natCast] at hx
    refine ldM_at0 ha rfl ?_
    match i, hlt, hx, b3, hG with
    | 0, hlt, hx, b3, hG =>
      simp at hx; subst hx
      rw [if_pos rfl] at b3
      refine mark_ok (hseen.st e3 (by have := hnk 3 (by omega); simpa using this)) b3 (hnk 3 (by omega)) hq0 (by unfold own; omega) (by simpa using hr) fun s4 e4 b4 => ?_
      rw [w64_id (by omega) (by omega)]
      refine hG 1 s4 ⟨by omega, e3.trans e4, a3.mono e4.v0, ?_⟩ (by omega)
      simpa using b4
    | 1, hlt, hx, b3, hG =>
      simp at hx; subst hx
      rw [if_neg (by omega), if_pos rfl] at b3
      refine mark_ok (h5.st e3 (by have := hnk 4 (by omega); simpa using this)) b3 (hnk 4 (by omega)) hq0 (by unfold own; omega) (by simpa [mark_len] using hr') fun s4 e4 b4 => ?_
      rw [w64_id (by omega) (by omega)]
      refine hG 2 s4 ⟨by omega, e3.trans e4, a3.mono e4.v0, ?_⟩ (by omega)
      simpa [V.flags] using b4
    | j + 2, hlt, hx, b3, hG => omega
  · have h2i : i = 2 := by omega
    subst h2i
    rw [if_neg (by omega), if_neg (by omega)] at b3
    have hcl : ∀ j, j < 1125899906842624 → k + j ∉ [own s, own s + 1] := fun j hj => by have := hnk j hj; simp; omega
    have a13 := h1.mono (e3.view (k := k) (by simpa using hcl 0 (by omega)))
    repeat (first|refine nn_at ?_|refine ldI_at a13 rfl ?_|refine ldB_at a13 rfl ?_|refine ldS_at a13 rfl ?_|refine ldP_at a13 rfl ?_|refine ldM_at a13 rfl ?_|refine ldL_at a13 rfl ?_)
    have hfl : (V.flags v).length = v.nodes.length := by simp [V.flags, mark_len]
    have b23 := h2.st e3 (hcl 1 (by omega))
    have hN := h6
    have hkl : ∀ i, (V.knownIdx v i).length ≤ i := fun i => Nat.le_trans (List.length_filter_le _ _) (by simp)
    refine loop_rule (ι := Sl × Nat) (fun x => [.slice x.1.a x.1.len x.1.cap, .int .i64 x.2]) (fun x s' => x.2 ≤ v.nodes.length ∧ Step [own s + 2] s3 s' ∧ Bld tP (own s + 2) s' ((V.knownIdx v x.2).map fun j => ps.getD j none) x.1) (fun x _ => v.nodes.length - x.2) (⟨none, 0, 0⟩, 0) rfl
      ⟨Nat.zero_le _, Step.refl, Bld.nil⟩ ?_
    rintro ⟨t, i⟩ s4 ⟨hi4, e4, b4⟩ G3 hG3
    simp only [List.getD_cons_zero, List.getD_cons_succ, asI_v, asL_v, asS_v, asB_v, asM_v, asP_v]
    simp only at hi4 b4
    rw [hnl]
    have hz4 := e4.sz
    have e34 : Step [own s, own s + 1, own s + 2] s s4 := e3.tr e4
    have hcl3 : ∀ j, j < 1125899906842624 → k + j ∉ [own s, own s + 1, own s + 2] := fun j hj => by unfold Ko at hko; simp; omega
    refine bif_dec (fun hlt4 => ?_) (fun hlt4 => ?_)
    · refine ixL_rule (Ls.st b23.ls e4) (by omega) (by omega) fun b' o x hx he => ?_
      obtain ⟨_, rfl, ha⟩ := he
      rw [Int.toNat_natCast] at hx
      refine ldP_at0 ha rfl ?_
      refine ixL_rule (b3.st e4 (by simp)) (by omega) (by omega) fun b'' o' y hy he => ?_
      obtain ⟨_, rfl, hay⟩ := he
      rw [Int.toNat_natCast] at hy
      refine ldB_at0 hay rfl ?_
      have hilt : i < v.nodes.length := by omega
      obtain ⟨p, hp1, hp2⟩ := h6.at_ i _ (List.getElem?_eq_getElem hilt)
      rw [hx] at hp1
      simp at hp1
      subst hp1
      obtain ⟨sl, q1, q2⟩ := hp2
      have hadd : V.knownIdx v (i + 1) = V.knownIdx v i ++ (if V.kn v i then [i] else []) := by
        rw [V.knownIdx, List.range_succ, List.filter_append]
        simp [V.knownIdx, List.filter_cons]
      have hkn : V.kn v i = (y || v.nodes[i].fresh) := by
        simp only [V.kn, List.getD_eq_getElem?_getD, hy, List.getElem?_eq_getElem hilt]
        rfl
      have nxt : ∀ t' : Bool, t' = V.kn v i → vdisk_Disk_known_j1 has t (some ⟨p, 0, none⟩) n (v.nodes.length : Nat) i t' K G3 s4.H := fun t' ht => by
        unfold vdisk_Disk_known_j1 vdisk_Disk_known_j2
        rw [← ht] at hadd
        rw [w64_id (by omega) (by omega)]
        cases t'
        · refine bif_f ?_
          refine hG3 (t, i + 1) s4 ⟨hilt, e4, ?_⟩ (by simp only; omega)
          rw [hadd]; simpa using b4
        · refine bif_t ?_
          have := hkl i
          refine app1_rule (t := tP) ((some ⟨p, 0, none⟩ : Option Addr)) b4 rfl fun s5 sl5 e5 b5 => ?_
          refine hG3 (sl5, i + 1) s5 ⟨hilt, e4.trans e5, ?_⟩ (by simp only; omega)
          rw [hadd]
          simpa [List.getD_eq_getElem?_getD, hx] using b5
      cases y
      · refine bif_f ?_
        have q3 := q1.mono (e34.view (by have := hcl3 (10 + 2 * i) (by omega); rwa [← Nat.add_assoc] at this))
        repeat (first|refine nn_at ?_|refine ldI_at q3 rfl ?_|refine ldB_at q3 rfl ?_|refine ldS_at q3 rfl ?_|refine ldP_at q3 rfl ?_|refine ldM_at q3 rfl ?_|refine ldL_at q3 rfl ?_)
        exact nxt _ (by rw [hkn]; rfl)
      · refine bif_t ?_
        exact nxt true (by rw [hkn]; rfl)
    · have : i = v.nodes.length := by omega
      subst this
      refine hK s4 t ?_ b4.ls
      exact ((e34.loc (Nat.le_refl _)).loc (by omega)).loc (by omega)
end Go.Ph
end
section
set_option linter.all false
namespace Go.Ph
open S
def V.pl (v : VDisk) (j : Nat) : Int := match v.nodes[j]? with | some x => x.patches.length | none => 0
/-! the reference's -/
namespace R
def known (d : RDisk) (i : Nat) : Bool := d.now.any (fun e => decide (e.File = (i : Int))) || d.sure.any (fun e => decide (e.File = (i : Int))) || d.waits.any (fun e => decide (e.File = (i : Int)))
def wl (d : RDisk) (j : Nat) : Int := match d.files[j]? with | some x => x.waits.length | none => 0
end R
theorem any_take {α : Type} {p : α → Bool} {l : List α} {i : Nat} {x : α} (h : l[i]? = some x) (ha : (l.take i).any p = false) : (l.take (i + 1)).any p = p x := by
  rw [List.take_add_one, h]
  simp only [Option.toList, List.any_append, ha, List.any_cons, List.any_nil, Bool.or_false, Bool.false_or]
theorem any_true {α : Type} {p : α → Bool} {l : List α} {i : Nat} {x : α} (h : l[i]? = some x) (hp : p x = true) : l.any p = true := List.any_eq_true.2 ⟨x, List.mem_of_getElem? h, hp⟩
theorem kn_eq {v : VDisk} {d : RDisk} (h : Sim v d) (j : Nat) (hj : j < v.nodes.length) : V.kn v j = R.known d j := by
  have hn0 := (h.names 0 (Nat.zero_le _)).1
  simp only [List.take_zero, List.foldl_nil] at hn0
  have hns := h.ns.1
  have an : ∀ (m : List (ByteArray × Int)) (l : List EntM), NamesSim v.nodes.length m l → (m.any fun x => decide (x.2 = (j : Int))) = l.any fun e => decide (e.File = (j : Int)) := fun m l hml => by
    rw [Bool.eq_iff_iff, List.any_eq_true, List.any_eq_true]
    constructor
    · rintro ⟨⟨a, i⟩, h1, h2⟩; exact ⟨⟨a, i⟩, (hml.mem _ _).1 h1, h2⟩
    · rintro ⟨⟨a, i⟩, h1, h2⟩; exact ⟨⟨a, i⟩, (hml.mem _ _).2 h1, h2⟩
  have hx : v.nodes[j]? = some v.nodes[j] := List.getElem?_eq_getElem hj
  have hfr : v.nodes[j].fresh = d.waits.any fun t => decide (t.File = (j : Int)) := by
    rw [Bool.eq_iff_iff, h.fresh j _ hx, List.any_eq_true]
    constructor
    · rintro ⟨t, h1, h2⟩; exact ⟨t, h1, by simpa using h2⟩
    · rintro ⟨t, h1, h2⟩; exact ⟨t, h1, by simpa using h2⟩
  unfold V.kn R.known V.flags
  rw [hx]
  simp only
  rw [hfr]
  congr 1
  rw [← an _ _ hns, ← an _ _ hn0]
  simp only [V.mark, List.getD_eq_getElem?_getD, List.getElem?_map, List.length_map, List.length_range, List.length_replicate, List.getElem?_range hj, Option.map_some, Option.getD_some, List.getElem?_replicate]
  split <;> simp
end Go.Ph
end

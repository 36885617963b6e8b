/- Parts of the proof that pigeonholelaw18.DboxOpens returns true at every input and leaves the input as it was: what the words of the functions tell, part 2. -/
import Derived.Test.YtjojclbfnnkajaaGreatPhC1
section
set_option linter.all false
namespace Go.Ph
open S
/-- a record: its kind and ten numbers, and its data -/
structure RecM where
  f : List Int
  data : List UInt8
def RecM.kind (x : RecM) : Int := x.f.getD 0 0
def fieldsOf (r : G_api_Rec) : List Int := [r.Kind, r.User, r.Seq, r.Next, r.Base, r.Uid, r.Time, r.Flags, r.Body, r.Size, r.Origin]
structure RecAt (V : View) (x : RecM) (r : G_api_Rec) : Prop where
  f : fieldsOf r = x.f
  data : Ls tBy V x.data r.Data
theorem RecAt.st {s s' : St} {x : RecM} {r : G_api_Rec} {S : List Nat} (h : RecAt (s.w 0) x r) (hs : Step S s s') : RecAt (s'.w 0) x r := ⟨h.1, Ls.st h.2 hs⟩
theorem RecAt.len {V : View} {x : RecM} {r : G_api_Rec} (h : RecAt V x r) : x.f.length = 11 := by rw [← h.f]; rfl
def rowF (f : List Int) (sl : Sl) : List Value := f.map (Value.int .i64) ++ [.slice sl.a sl.len sl.cap]
theorem rowF_len (f : List Int) (sl : Sl) : (rowF f sl).length = f.length + 1 := by simp [rowF]
theorem rowF_get {f : List Int} {sl : Sl} {j : Nat} (h : j < f.length) : (rowF f sl)[j]? = some (.int .i64 (f.getD j 0)) := by
  unfold rowF
  rw [List.getElem?_append_left (by simpa using h), List.getElem?_map, List.getElem?_eq_getElem h]
  simp [List.getD_eq_getElem?_getD, h]
theorem rowF_data {f : List Int} {sl : Sl} (h : f.length = 11) : (rowF f sl)[11]? = some (.slice sl.a sl.len sl.cap) := by
  unfold rowF
  rw [List.getElem?_append_right (by simp [h])]
  simp [h]
theorem rowF_set {f : List Int} {sl : Sl} {j : Nat} {v : Int} (h : j < f.length) : (rowF f sl).set j (.int .i64 v) = rowF (f.set j v) sl := by
  unfold rowF
  rw [List.set_append_left _ _ (by simpa using h), List.map_set]
theorem rowF_setD {f : List Int} {sl sl' : Sl} (h : f.length = 11) : (rowF f sl).set 11 (.slice sl'.a sl'.len sl'.cap) = rowF f sl' := by
  unfold rowF
  rw [List.set_append_right _ _ (by simp [h])]
  simp [h]
theorem rowF_one (f : List Int) (sl : Sl) : ∀ v ∈ rowF f sl, one v = true := by
  intro v hv
  simp [rowF] at hv
  rcases hv with ⟨a, _, rfl⟩ | rfl <;> rfl
theorem ldRec {s : St} {q b : Nat} {f : List Int} {sl : Sl} {K : G_api_Rec → HP} (h : At (s.w q) b 0 (rowF f sl)) (hf : f.length = 11) (hK : ∀ r, fieldsOf r = f → r.Data = sl → K r s.H) : ld_G_api_Rec ⟨b, 0, none⟩ K s.H := by
  match f, hf, h, hK with
  | [a0, a1, a2, a3, a4, a5, a6, a7, a8, a9, a10], _, h, hK =>
    unfold ld_G_api_Rec
    repeat (first|refine nn_at ?_|refine ldI_at h rfl ?_|refine ldB_at h rfl ?_|refine ldS_at h rfl ?_|refine ldP_at h rfl ?_|refine ldM_at h rfl ?_|refine ldL_at h rfl ?_)
    exact hK ⟨a0, a1, a2, a3, a4, a5, a6, a7, a8, a9, a10, sl⟩ rfl rfl
/-- a field of a record: how many bytes it has, its bounds, and which it is -/
structure PartM where
  w : Nat
  lo : Int
  hi : Int
  j : Nat
def tPart (b : Nat) : Ty PartM := ⟨4, fun _ x vs => vs = [.int .i64 x.w, .int .i64 x.lo, .int .i64 x.hi, .pointer (some ⟨b, x.j, none⟩)], by rintro _ _ _ rfl; rfl, fun _ h => h, by rintro _ _ _ rfl; simp [one]⟩
def pUid : PartM := ⟨4, 1, 2147483648, 5⟩
def pFlags : PartM := ⟨1, 0, 31, 7⟩
def pBody : PartM := ⟨4, 1, 2147483648, 8⟩
def pNext : PartM := ⟨4, 1, 2147483649, 3⟩
def layout (k : Int) : List PartM :=
  if k = 1 then [⟨2, 1, 999, 1⟩, ⟨4, 1, 2147483648, 2⟩, pNext, ⟨4, 0, 2147483648, 4⟩]
  else if k = 2 then [pUid, ⟨8, 0, 4503599627370496, 6⟩, pFlags, pBody, ⟨4, 0, 32768, 9⟩, ⟨8, 0, 9007199254740992, 10⟩]
  else if k = 3 then [pUid] else if k = 4 then [pUid, pFlags] else if k = 5 then [pNext] else if k = 6 then [pBody] else []
theorem layout_cases (k : Int) {P : List PartM → Prop} (h1 : k = 1 → P [⟨2, 1, 999, 1⟩, ⟨4, 1, 2147483648, 2⟩, pNext, ⟨4, 0, 2147483648, 4⟩])
    (h2 : k = 2 → P [pUid, ⟨8, 0, 4503599627370496, 6⟩, pFlags, pBody, ⟨4, 0, 32768, 9⟩, ⟨8, 0, 9007199254740992, 10⟩]) (h3 : k = 3 → P [pUid]) (h4 : k = 4 → P [pUid, pFlags]) (h5 : k = 5 → P [pNext]) (h6 : k = 6 → P [pBody])
    (h0 : k ≠ 1 → k ≠ 2 → k ≠ 3 → k ≠ 4 → k ≠ 5 → k ≠ 6 → P []) : P (layout k) := by
  unfold layout
  by_cases e1 : k = 1
  · rw [if_pos e1]; exact h1 e1
  rw [if_neg e1]
  by_cases e2 : k = 2
  · rw [if_pos e2]; exact h2 e2
  rw [if_neg e2]
  by_cases e3 : k = 3
  · rw [if_pos e3]; exact h3 e3
  rw [if_neg e3]
  by_cases e4 : k = 4
  · rw [if_pos e4]; exact h4 e4
  rw [if_neg e4]
  by_cases e5 : k = 5
  · rw [if_pos e5]; exact h5 e5
  rw [if_neg e5]
  by_cases e6 : k = 6
  · rw [if_pos e6]; exact h6 e6
  rw [if_neg e6]
  exact h0 e1 e2 e3 e4 e5 e6
structure PartOk (p : PartM) : Prop where
  w : p.w = 1 ∨ p.w = 2 ∨ p.w = 4 ∨ p.w = 8
  j : 1 ≤ p.j ∧ p.j ≤ 10
  lo : 0 ≤ p.lo
  hi : 0 ≤ p.hi ∧ p.hi ≤ 9007199254740992
theorem layout_ok (k : Int) : ∀ p ∈ layout k, PartOk p := by
  refine layout_cases k (P := fun l => ∀ p ∈ l, PartOk p) ?_ ?_ ?_ ?_ ?_ ?_ ?_ <;> intros <;> (rename_i p hp; simp [pUid, pFlags, pBody, pNext] at hp <;> first | (rcases hp with rfl | rfl | rfl | rfl | rfl | rfl <;> exact ⟨by decide, by decide, by decide, by decide⟩) | (rcases hp with rfl | rfl | rfl | rfl <;> exact ⟨by decide, by decide, by decide, by decide⟩) | (rcases hp with rfl | rfl <;> exact ⟨by decide, by decide, by decide, by decide⟩) | (subst hp; exact ⟨by decide, by decide, by decide, by decide⟩))
theorem layout_len (k : Int) : (layout k).length ≤ 6 := by
  refine layout_cases k (P := fun l => l.length ≤ 6) ?_ ?_ ?_ ?_ ?_ ?_ ?_ <;> intros <;> simp
theorem Ls.of {α : Type} {t : Ty α} {V : View} (g : α → List Value) (hg : ∀ x, t.R V x (g x)) : ∀ (l : List α) (b o : Nat), At V b o (l.flatMap g) → ∀ j x, l[j]? = some x → El t V V x b (o + j * t.n)
  | [], b, o, h, j, x, hj => by simp at hj
  | y :: l, b, o, h, 0, x, hj => by
    simp at hj; subst hj
    refine ⟨g y, hg y, fun i v hi => ?_⟩
    have := h i v (by rw [List.flatMap_cons, List.getElem?_append_left]; exact hi; exact (List.getElem?_eq_some_iff.1 hi).1)
    simpa using this
  | y :: l, b, o, h, j + 1, x, hj => by
    have hl := t.len (hg y)
    have := Ls.of g hg l b (o + t.n) (fun i v hi => by
      have := h (t.n + i) v (by rw [List.flatMap_cons, List.getElem?_append_right (by omega), hl]; simpa using hi)
      rwa [← Nat.add_assoc] at this) j x (by simpa using hj)
    rwa [show o + (j + 1) * t.n = o + t.n + j * t.n by rw [Nat.add_mul]; omega]
theorem Ls.row_ {α : Type} {t : Ty α} {V : View} (g : α → List Value) (hg : ∀ x, t.R V x (g x)) {l : List α} {b n : Nat} (hn : n = l.length) (h : At V b 0 (l.flatMap g)) : Ls t V l ⟨some (at0 b), n, n⟩ :=
  ⟨hn, Nat.le_refl _, fun h => (by cases h), fun a e => by
    simp at e; subst e
    exact ⟨rfl, Ls.of g hg l b 0 h⟩⟩
def partRow (b : Nat) (x : PartM) : List Value := [.int .i64 x.w, .int .i64 x.lo, .int .i64 x.hi, .pointer (some ⟨b, x.j, none⟩)]
theorem parts_ok {s : St} {q b : Nat} {f : List Int} {sl : Sl} {K : Sl → HP} (h : At (s.w q) b 0 (rowF f sl)) (hf : f.length = 11)
    (hK : ∀ s' o, Step [] s s' → Ls (tPart b) (s'.w 0) (layout (f.getD 0 0)) o → (o.a.isNone = true ↔ layout (f.getD 0 0) = []) → K o s'.H) : record_parts (some ⟨b, 0, none⟩) K s.H := by
  unfold record_parts
  refine nn_at ?_
  refine newc_sts rfl (by simp [one]) fun s1 p3 e1 a3 => ?_
  refine nn_at ?_
  refine newc_sts rfl (by simp [one]) fun s2 p4 e2 a4 => ?_
  refine nn_at ?_
  refine newc_sts rfl (by simp [one]) fun s3 p5 e3 a5 => ?_
  refine nn_at ?_
  refine newc_sts rfl (by simp [one]) fun s4 p6 e4 a6 => ?_
  have h4 : At (s4.w q) b 0 (rowF f sl) := h.mono ((((e1.trans e2).trans e3).trans e4).view (by simp))
  have e14 := (((e1.trans e2).trans e3).trans e4)
  have b3 := a3.mono ((e2.trans e3).trans e4).v0
  have b4 := a4.mono (e3.trans e4).v0
  have b5 := a5.mono e4.v0
  refine nn_at ?_
  refine ldI_at h4 (rowF_get (by omega)) ?_
  have fin : ∀ (l : List PartM) (n : Nat) (cs : Array Value), layout (f.getD 0 0) = l → n = l.length → l ≠ [] → cs.toList = l.flatMap (partRow b) → newc cs (fun t => K ⟨some (at0 t), n, n⟩) s4.H := fun l n cs hl hn hne hcs => by
    refine newc_0 fun s5 p e5 a5 => ?_
    rw [hcs] at a5
    refine hK s5 _ (e14.trans e5.step) ?_ ?_
    · rw [hl]
      exact Ls.row_ (partRow b) (fun x => rfl) hn a5
    · rw [hl]; simp [hne]
  unfold ld_G_record_part
  refine bif_dec (fun k1 => ?_) (fun k1 => ?_)
  · refine nn_at ?_
    refine nn_at ?_
    repeat (first|refine nn_at ?_|refine ldI_at a6 rfl ?_|refine ldB_at a6 rfl ?_|refine ldS_at a6 rfl ?_|refine ldP_at a6 rfl ?_|refine ldM_at a6 rfl ?_|refine ldL_at a6 rfl ?_)
    exact fin [⟨2, 1, 999, 1⟩, ⟨4, 1, 2147483648, 2⟩, pNext, ⟨4, 0, 2147483648, 4⟩] 4 _ (by unfold layout; rw [if_pos k1]) rfl (by simp) (by rfl)
  refine bif_dec (fun k2 => ?_) (fun k2 => ?_)
  · repeat (first|refine nn_at ?_|refine ldI_at b3 rfl ?_|refine ldB_at b3 rfl ?_|refine ldS_at b3 rfl ?_|refine ldP_at b3 rfl ?_|refine ldM_at b3 rfl ?_|refine ldL_at b3 rfl ?_)
    repeat (first|refine nn_at ?_|refine ldI_at b4 rfl ?_|refine ldB_at b4 rfl ?_|refine ldS_at b4 rfl ?_|refine ldP_at b4 rfl ?_|refine ldM_at b4 rfl ?_|refine ldL_at b4 rfl ?_)
    repeat (first|refine nn_at ?_|refine ldI_at b5 rfl ?_|refine ldB_at b5 rfl ?_|refine ldS_at b5 rfl ?_|refine ldP_at b5 rfl ?_|refine ldM_at b5 rfl ?_|refine ldL_at b5 rfl ?_)
    exact fin [pUid, ⟨8, 0, 4503599627370496, 6⟩, pFlags, pBody, ⟨4, 0, 32768, 9⟩, ⟨8, 0, 9007199254740992, 10⟩] 6 _ (by unfold layout; rw [if_neg k1, if_pos k2]) rfl (by simp) (by rfl)
  refine bif_dec (fun k3 => ?_) (fun k3 => ?_)
  · repeat (first|refine nn_at ?_|refine ldI_at b3 rfl ?_|refine ldB_at b3 rfl ?_|refine ldS_at b3 rfl ?_|refine ldP_at b3 rfl ?_|refine ldM_at b3 rfl ?_|refine ldL_at b3 rfl ?_)
    exact fin [pUid] 1 _ (by unfold layout; rw [if_neg k1, if_neg k2, if_pos k3]) rfl (by simp) (by rfl)
  refine bif_dec (fun k4 => ?_) (fun k4 => ?_)
  · repeat (first|refine nn_at ?_|refine ldI_at b3 rfl ?_|refine ldB_at b3 rfl ?_|refine ldS_at b3 rfl ?_|refine ldP_at b3 rfl ?_|refine ldM_at b3 rfl ?_|refine ldL_at b3 rfl ?_)
    repeat (first|refine nn_at ?_|refine ldI_at b4 rfl ?_|refine ldB_at b4 rfl ?_|refine ldS_at b4 rfl ?_|refine ldP_at b4 rfl ?_|refine ldM_at b4 rfl ?_|refine ldL_at b4 rfl ?_)
    exact fin [pUid, pFlags] 2 _ (by unfold layout; rw [if_neg k1, if_neg k2, if_neg k3, if_pos k4]) rfl (by simp) (by rfl)
  refine bif_dec (fun k5 => ?_) (fun k5 => ?_)
  · repeat (first|refine nn_at ?_|refine ldI_at a6 rfl ?_|refine ldB_at a6 rfl ?_|refine ldS_at a6 rfl ?_|refine ldP_at a6 rfl ?_|refine ldM_at a6 rfl ?_|refine ldL_at a6 rfl ?_)
    exact fin [pNext] 1 _ (by unfold layout; rw [if_neg k1, if_neg k2, if_neg k3, if_neg k4, if_pos k5]) rfl (by simp) (by rfl)
  refine bif_dec (fun k6 => ?_) (fun k6 => ?_)
  · repeat (first|refine nn_at ?_|refine ldI_at b5 rfl ?_|refine ldB_at b5 rfl ?_|refine ldS_at b5 rfl ?_|refine ldP_at b5 rfl ?_|refine ldM_at b5 rfl ?_|refine ldL_at b5 rfl ?_)
    exact fin [pBody] 1 _ (by unfold layout; rw [if_neg k1, if_neg k2, if_neg k3, if_neg k4, if_neg k5, if_pos k6]) rfl (by simp) (by rfl)
  · have hl : layout (f.getD 0 0) = [] := by unfold layout; rw [if_neg k1, if_neg k2, if_neg k3, if_neg k4, if_neg k5, if_neg k6]
    exact hK s4 _ e14 (by rw [hl]; exact Ls.nil_) (by rw [hl]; simp)
/-- two records are one -/
theorem Same_ok {s : St} {x y : RecM} {r r2 : G_api_Rec} {K : Bool → HP} (h : RecAt (s.w 0) x r) (h2 : RecAt (s.w 0) y r2) (hK : ∀ s', Step [] s s' → K (decide (x.f = y.f ∧ x.data = y.data)) s'.H) : record_Same r r2 K s.H := by
  unfold record_Same
  refine newc_0 fun s1 p1 n1 a1 => ?_
  refine newc_0 fun s2 p2 n2 a2 => ?_
  have e1 := n1.step
  have e2 := n2.step
  have a12 := a1.mono e2.v0
  have all : ∀ {s' : St} {r : G_api_Rec} {K' : G_A11_int → HP}, (∀ s'' (t : G_A11_int), Step [] s' s'' → [t.c0, t.c1, t.c2, t.c3, t.c4, t.c5, t.c6, t.c7, t.c8, t.c9, t.c10] = fieldsOf r → K' t s''.H) → record_all r K' s'.H := fun {s' r K'} hk => by
    unfold record_all
    refine newc_0 fun s3 p3 n3 a3 => ?_
    have e3 := n3.step
    refine newc_k (own s') (by have := e3.sz; unfold own; omega) fun s4 p4 n4 a4 => ?_
    have e4 := n4.step
    have a34 := a3.mono e4.v0
    repeat (first|refine nn_at ?_|refine ldI_at a34 rfl ?_|refine ldB_at a34 rfl ?_|refine ldS_at a34 rfl ?_|refine ldP_at a34 rfl ?_|refine ldM_at a34 rfl ?_|refine ldL_at a34 rfl ?_)
    refine row_rule (own s') a4 rfl (by simp [one]) (by unfold own; omega) (.inl rfl) fun s5 e5 z5 a5 _ => ?_
    unfold ld_G_A11_int
    repeat (first|refine nn_at ?_|refine ldI_at a5 rfl ?_|refine ldB_at a5 rfl ?_|refine ldS_at a5 rfl ?_|refine ldP_at a5 rfl ?_|refine ldM_at a5 rfl ?_|refine ldL_at a5 rfl ?_)
    exact hk s5 _ (((e3.trans e4).n.trans e5).loc) rfl
  unfold ld_G_api_Rec
  repeat (first|refine nn_at ?_|refine ldI_at a12 rfl ?_|refine ldB_at a12 rfl ?_|refine ldS_at a12 rfl ?_|refine ldP_at a12 rfl ?_|refine ldM_at a12 rfl ?_|refine ldL_at a12 rfl ?_)
  repeat (first|refine nn_at ?_|refine ldI_at a2 rfl ?_|refine ldB_at a2 rfl ?_|refine ldS_at a2 rfl ?_|refine ldP_at a2 rfl ?_|refine ldM_at a2 rfl ?_|refine ldL_at a2 rfl ?_)
  refine all fun s3 t e3 ht => ?_
  have a23 := a2.mono e3.v0
  refine held_rule ?_ ?_
  · repeat (first|refine nn_at ?_|refine ldI_at a23 rfl ?_|refine ldB_at a23 rfl ?_|refine ldS_at a23 rfl ?_|refine ldP_at a23 rfl ?_|refine ldM_at a23 rfl ?_|refine ldL_at a23 rfl ?_)
    rfl
  refine all fun s4 t2 e4 ht2 => ?_
  have e04 := (((e1.trans e2).trans e3).trans e4)
  have a14 := (a12.mono e3.v0).mono e4.v0
  have a24 := a23.mono e4.v0
  have hc : (decide ((t.c0 : Int) = t2.c0) && (decide ((t.c1 : Int) = t2.c1) && (decide ((t.c2 : Int) = t2.c2) && (decide ((t.c3 : Int) = t2.c3) && (decide ((t.c4 : Int) = t2.c4) && (decide ((t.c5 : Int) = t2.c5) && (decide ((t.c6 : Int) = t2.c6) && (decide ((t.c7 : Int) = t2.c7) && (decide ((t.c8 : Int) = t2.c8) && (decide ((t.c9 : Int) = t2.c9) && (decide ((t.c10 : Int) = t2.c10) && true))))))))))) = decide (x.f = y.f) := by
    have e : (x.f = y.f) = ([t.c0, t.c1, t.c2, t.c3, t.c4, t.c5, t.c6, t.c7, t.c8, t.c9, t.c10] = [t2.c0, t2.c1, t2.c2, t2.c3, t2.c4, t2.c5, t2.c6, t2.c7, t2.c8, t2.c9, t2.c10]) := by
      rw [ht, ht2, ← h.f, ← h2.f]
    simp only [e]
    simp
  rw [hc]
  have hK' := hK s4 e04
  refine bif_dec (fun hx => ?_) (fun hx => ?_)
  · repeat (first|refine nn_at ?_|refine ldI_at a14 rfl ?_|refine ldB_at a14 rfl ?_|refine ldS_at a14 rfl ?_|refine ldP_at a14 rfl ?_|refine ldM_at a14 rfl ?_|refine ldL_at a14 rfl ?_)
    repeat (first|refine nn_at ?_|refine ldI_at a24 rfl ?_|refine ldB_at a24 rfl ?_|refine ldS_at a24 rfl ?_|refine ldP_at a24 rfl ?_|refine ldM_at a24 rfl ?_|refine ldL_at a24 rfl ?_)
    unfold bytes_Equal
    refine ldBy_rule (h.st e04).data ?_
    refine ldBy_rule (h2.st e04).data ?_
    have hba : ((⟨x.data.toArray⟩ : ByteArray) = ⟨y.data.toArray⟩) ↔ x.data = y.data := ba_inj
    have : decide ((⟨x.data.toArray⟩ : ByteArray) = ⟨y.data.toArray⟩) = decide (x.f = y.f ∧ x.data = y.data) := by
      rw [decide_eq_decide, hba]; simp [hx]
    rw [this]
    exact hK'
  · rwa [decide_eq_false (fun h => hx h.1)] at hK'
end Go.Ph
end
section
set_option linter.all false
namespace Go.Ph
open S
theorem ldI_j {s : St} {q b j : Nat} {vs : List Value} {k : IntKind} {K : Int → HP} {n : Int} (h : At (s.w q) b 0 vs) (hi : vs[j]? = some (.int k n)) (hK : K n s.H) : ldI k ⟨b, j, none⟩ K s.H := by
  rw [← at0_add]; exact ldI_at h hi hK
theorem fld_j {s : St} {k b j : Nat} {vs : List Value} {v : Value} {K : HP} (h : At (s.w k) b 0 vs) (hi : j < vs.length) (hv : one v = true) (hk : k ≠ 0)
    (hK : ∀ s' : St, Step [k] s s' → s'.H.size = s.H.size → At (s'.w k) b 0 (vs.set j v) → Oth b s s' → K s'.H) : sts ⟨b, j, none⟩ 0 [v] K s.H := by
  rw [← at0_add]; exact fld_rule h hi hv hk hK
def bareN (k : Int) (f : List Int) (l : List PartM) : List Int := l.foldl (fun g p => g.set p.j (f.getD p.j 0)) (k :: List.replicate 10 0)
theorem bareN_len (k : Int) (f : List Int) (l : List PartM) : (bareN k f l).length = 11 := by
  refine snoc_ind (P := fun l => (bareN k f l).length = 11) rfl (fun l p ih => ?_) l
  simp only [bareN, List.foldl_append, List.foldl_cons, List.foldl_nil, List.length_set] at ih ⊢
  exact ih
theorem bareN_snoc (k : Int) (f : List Int) (l : List PartM) (p : PartM) : bareN k f (l ++ [p]) = (bareN k f l).set p.j (f.getD p.j 0) := by simp [bareN]
/-- the numbers of a record that its kind tells -/
def bareF (f : List Int) : List Int := bareN (f.getD 0 0) f (layout (f.getD 0 0))
def bareR (x : RecM) : Bool := decide (x.f = bareF x.f ∧ x.data = if x.kind = 6 then x.data else [])
theorem bare_ok {s : St} {x : RecM} {r : G_api_Rec} {K : Bool → HP} (h : RecAt (s.w 0) x r) (hK : ∀ s', Step [] s s' → K (bareR x) s'.H) : record_bare r K s.H := by
  unfold record_bare
  have hxl := h.len
  have hq0 : own s ≠ 0 := by unfold own; omega
  refine newc_0 fun s1 p1 n1 a1 => ?_
  have e1 := n1.step
  have a1' : At (s1.w 0) p1 0 (rowF x.f r.Data) := by rw [← h.f]; exact a1
  refine ldI_at a1' (rowF_get (by omega)) ?_
  refine newc_k (own s) (by have := e1.sz; unfold own; omega) fun s2 p3 n2 a2 => ?_
  have e2 := n2.step
  refine row_rule (own s) a2 rfl (by simp [one]) hq0 (.inl rfl) fun s3 e3 z3 a3 _ => ?_
  have a13 : At (s3.w 0) p1 0 (rowF x.f r.Data) := (a1'.mono e2.v0).mono e3.v0
  have es3 : Step [own s] s s3 := (e1.trans e2).n.tr e3 (A := [])
  have a3' : At (s3.w (own s)) p3 0 (rowF (bareN x.kind x.f []) ⟨none, 0, 0⟩) := a3
  have hr := h.st es3
  refine parts_ok a13 hxl fun s4 o1 e4 l1 _ => ?_
  have a34 := a3'.mono (e4.view (by simp))
  have a14 := a13.mono e4.v0
  refine parts_ok a34 (bareN_len _ _ _) fun s5 o3 e5 l3 _ => ?_
  have a35 := a34.mono (e5.view (by simp))
  have a15 := a14.mono e5.v0
  have l15 := Ls.st l1 e5
  have hk : (bareN x.kind x.f []).getD 0 0 = x.kind := rfl
  rw [hk] at l3
  have es5 : Step [own s] s s5 := es3.trans (e4.trans e5).n
  have hLl := l3.len
  have hLL := layout_len x.kind
  change Ls (tPart p1) (s5.w 0) (layout x.kind) o1 at l15
  have hL := layout_ok x.kind
  have hbf : bareF x.f = bareN x.kind x.f (layout x.kind) := rfl
  rw [show bareR x = decide (x.f = bareN x.kind x.f (layout x.kind) ∧ x.data = if x.kind = 6 then x.data else []) from rfl] at hK
  generalize layout x.kind = L at *
  refine loop_rule (fun i : Nat => [.int .i64 i]) (fun i s' => i ≤ L.length ∧ Step [own s] s s' ∧ Step [own s] s5 s' ∧ At (s'.w (own s)) p3 0 (rowF (bareN x.kind x.f (L.take i)) ⟨none, 0, 0⟩)) (fun i _ => L.length - i) 0 rfl ⟨Nat.zero_le _, es5, Step.refl, a35⟩ ?_
  rintro i s6 ⟨hi, es6, e56, a36⟩ G hG
  simp only [List.getD_cons_zero, List.getD_cons_succ, asI_v, asL_v, asS_v, asB_v, asM_v, asP_v]
  have a16 := a15.mono e56.v0
  have fin : ∀ s7 (sl : Sl), Step [own s] s6 s7 → At (s7.w (own s)) p3 0 (rowF (bareN x.kind x.f L) sl) → Ls tBy (s7.w 0) (if x.kind = 6 then x.data else []) sl → record_bare_j1 p1 p3 K s7.H := fun s7 sl e7 a37 hsl => by
    unfold record_bare_j1
    have es7 := es6.trans e7
    refine ldRec (sl := r.Data) (a16.mono e7.v0) hxl fun r1 f1 d1 => ?_
    refine ldRec a37 (bareN_len _ _ _) fun r2 f2 d2 => ?_
    refine Same_ok (x := x) (y := ⟨bareN x.kind x.f L, if x.kind = 6 then x.data else []⟩) ⟨f1, by rw [d1]; exact (h.st es7).data⟩ ⟨f2, by rw [d2]; exact hsl⟩ fun s8 e8 => ?_
    exact hK s8 ((es7.trans e8.n).loc)
  refine bif_dec (fun hlt => ?_) (fun hlt => ?_)
  · have hz6 := es6.sz
    refine ixL_rule (Ls.st l3 e56) (by omega) (by omega) fun b3 q3 p hp hel => ?_
    rw [Int.toNat_natCast] at hp
    obtain ⟨vs, rfl, hat⟩ := hel
    unfold ld_G_record_part
    repeat (first|refine nn_at ?_|refine ldI_at hat rfl ?_|refine ldB_at hat rfl ?_|refine ldS_at hat rfl ?_|refine ldP_at hat rfl ?_|refine ldM_at hat rfl ?_|refine ldL_at hat rfl ?_)
    refine newc_sts rfl (by simp [one]) fun s7 p6 e7 a7 => ?_
    repeat (first|refine nn_at ?_|refine ldI_at a7 rfl ?_|refine ldB_at a7 rfl ?_|refine ldS_at a7 rfl ?_|refine ldP_at a7 rfl ?_|refine ldM_at a7 rfl ?_|refine ldL_at a7 rfl ?_)
    refine ixL_rule (Ls.st l15 (e56.trans e7.n)) (by omega) (by have := l15.len; omega) fun b4 q4 p' hp' hel' => ?_
    rw [Int.toNat_natCast, hp] at hp'
    have := Option.some.inj hp'
    subst this
    obtain ⟨vs, rfl, hat'⟩ := hel'
    refine ldP_at hat' rfl ?_
    have hpo := hL p (List.mem_of_getElem? hp)
    have hpj := hpo.j
    refine nn_at ?_
    refine ldI_j (a16.mono e7.v0) (rowF_get (by omega)) ?_
    refine nn_at ?_
    have a37 := a36.mono (e7.view (by simp))
    refine fld_j a37 (by rw [rowF_len, bareN_len]; omega) rfl hq0 (fun s8 e8 z8 a8 _ => ?_)
    rw [rowF_set (by rw [bareN_len]; omega)] at a8
    rw [w64_id (by omega) (by omega)]
    have ht : L.take (i + 1) = L.take i ++ [p] := by rw [List.take_succ, hp]; rfl
    refine hG (i + 1) s8 ⟨by omega, es6.trans (e7.n.trans e8), e56.trans (e7.n.trans e8), ?_⟩ (by omega)
    rw [ht, bareN_snoc]
    exact a8
  · have : i = L.length := by omega
    subst this
    rw [List.take_of_length_le (Nat.le_refl _)] at a36
    refine ldI_at a16 (rowF_get (by omega)) ?_
    refine bif_dec (fun h6 => ?_) (fun h6 => ?_)
    · refine ldL_at a16 (rowF_data hxl) ?_
      refine fld_rule a36 (by rw [rowF_len, bareN_len]; omega) rfl hq0 (fun s8 e8 z8 a8 _ => ?_)
      rw [rowF_setD (bareN_len _ _ _)] at a8
      refine fin s8 r.Data e8 a8 ?_
      rw [if_pos (show x.kind = 6 from h6)]
      exact ((h.st es6).st e8).data
    · refine fin s6 ⟨none, 0, 0⟩ Step.refl a36 ?_
      rw [if_neg (show ¬x.kind = 6 from h6)]
      exact Ls.nil_
def inBd (f : List Int) (p : PartM) : Bool := decide (p.lo ≤ f.getD p.j 0) && decide (f.getD p.j 0 ≤ p.hi)
/-- what is wrong with a record -/
def checkR (x : RecM) : Int :=
  if layout x.kind = [] then 16 else if (layout x.kind).all (inBd x.f) = false then 1 else if x.kind = 6 ∧ 32768 < x.data.length then 4 else if bareR x = true then 0 else 3
theorem Check_ok {s : St} {x : RecM} {r : G_api_Rec} {K : Int → HP} (h : RecAt (s.w 0) x r) (hK : ∀ s', Step [] s s' → K (checkR x) s'.H) : record_Check r K s.H := by
  unfold record_Check
  have hxl := h.len
  have hq0 : own s ≠ 0 := by unfold own; omega
  refine newc_0 fun s1 p1 n1 a1 => ?_
  have e1 := n1.step
  have a1' : At (s1.w 0) p1 0 (rowF x.f r.Data) := by rw [← h.f]; exact a1
  refine parts_ok a1' hxl fun s2 o e2 l2 hno => ?_
  have a2 := a1'.mono e2.v0
  have e12 := e1.trans e2
  change Ls (tPart p1) (s2.w 0) (layout x.kind) o at l2
  change _ ↔ layout x.kind = [] at hno
  have hL := layout_ok x.kind
  have hLL := layout_len x.kind
  unfold checkR at hK
  generalize layout x.kind = L at *
  refine bif_rule (fun h1 => ?_) (fun h1 => ?_)
  · rw [if_pos (hno.1 h1)] at hK
    exact hK s2 e12
  rw [if_neg (fun h => by rw [hno.2 h] at h1; cases h1)] at hK
  have hlen := l2.len
  refine loop_rule (fun i : Nat => [.int .i64 i]) (fun i s' => i ≤ L.length ∧ Step [] s2 s' ∧ (L.take i).all (inBd x.f) = true) (fun i _ => L.length - i) 0 rfl ⟨Nat.zero_le _, Step.refl, by simp⟩ ?_
  rintro i s3 ⟨hi, e3, hall⟩ G hG
  simp only [List.getD_cons_zero, List.getD_cons_succ, asI_v, asL_v, asS_v, asB_v, asM_v, asP_v]
  have e03 := e12.trans e3
  have a3 := a2.mono e3.v0
  refine bif_dec (fun hlt => ?_) (fun hlt => ?_)
  · refine ixL_rule (Ls.st l2 e3) (by omega) (by omega) fun b3 q3 p hp hel => ?_
    rw [Int.toNat_natCast] at hp
    obtain ⟨vs, rfl, hat⟩ := hel
    unfold ld_G_record_part
    repeat (first|refine nn_at ?_|refine ldI_at hat rfl ?_|refine ldB_at hat rfl ?_|refine ldS_at hat rfl ?_|refine ldP_at hat rfl ?_|refine ldM_at hat rfl ?_|refine ldL_at hat rfl ?_)
    refine newc_sts rfl (by simp [one]) fun s4 p5 e4 a4 => ?_
    have hpm := List.mem_of_getElem? hp
    have hpj := (hL p hpm).j
    have a34 := a3.mono e4.v0
    have hg : ∀ {K' : Int → HP}, K' (x.f.getD p.j 0) s4.H → ldI .i64 ⟨p1, p.j, none⟩ K' s4.H := fun hk => ldI_j a34 (rowF_get (by omega)) hk
    refine ldP_at a4 rfl ?_
    refine nn_at ?_
    refine hg ?_
    refine ldI_at a4 rfl ?_
    have bad : inBd x.f p = false → record_Check_j1 p1 o o.len i true K G s4.H := fun hb => by
      unfold record_Check_j1
      refine bif_t ?_
      have : L.all (inBd x.f) = false := by
        rw [Bool.eq_false_iff]
        intro hh
        rw [List.all_eq_true] at hh
        rw [hh p hpm] at hb
        cases hb
      rw [if_pos this] at hK
      exact hK s4 (e03.trans e4)
    refine bif_dec (fun h2 => ?_) (fun h2 => ?_) <;> change _ at h2 <;> simp only at h2
    · exact bad (by unfold inBd; rw [decide_eq_false (by omega)]; rfl)
    · refine ldP_at a4 rfl ?_
      refine nn_at ?_
      refine hg ?_
      refine ldI_at a4 rfl ?_
      by_cases h3 : p.hi < x.f.getD p.j 0
      · rw [decide_eq_true h3]
        exact bad (by unfold inBd; rw [decide_eq_false (show ¬ x.f.getD p.j 0 ≤ p.hi by omega), Bool.and_false])
      · rw [decide_eq_false h3]
        unfold record_Check_j1
        refine bif_f ?_
        rw [w64_id (by omega) (by omega)]
        refine hG (i + 1) s4 ⟨by omega, e3.trans e4, ?_⟩ (by omega)
        have ht : L.take (i + 1) = L.take i ++ [p] := by rw [List.take_succ, hp]; rfl
        rw [ht, List.all_append, hall]
        have : inBd x.f p = true := by
          unfold inBd; rw [decide_eq_true (show p.lo ≤ _ by omega), decide_eq_true (show _ ≤ p.hi by omega)]; rfl
        simp [this]
  · have : i = L.length := by omega
    subst this
    rw [List.take_of_length_le (Nat.le_refl _)] at hall
    rw [if_neg (by rw [hall]; simp)] at hK
    refine ldI_at a3 (rowF_get (by omega)) ?_
    have hd3 := (h.st e03).data
    have hdl := hd3.len
    have j2 : ¬(x.kind = 6 ∧ 32768 < x.data.length) → record_Check_j2 p1 false K s3.H := fun hn => by
      unfold record_Check_j2
      refine bif_f ?_
      rw [if_neg hn] at hK
      refine ldRec a3 hxl fun r1 f1 d1 => ?_
      refine bare_ok (x := x) ⟨f1, by rw [d1]; exact hd3⟩ fun s4 e4 => ?_
      have := hK s4 (e03.trans e4)
      refine bif_rule (fun hb => ?_) (fun hb => ?_)
      · rwa [if_neg (by simpa using hb)] at this
      · rwa [if_pos (by simpa using hb)] at this
    refine bif_dec (fun h6 => ?_) (fun h6 => ?_)
    · refine ldL_at a3 (rowF_data hxl) ?_
      by_cases h7 : (32768 : Int) < (r.Data.len : Nat)
      · rw [decide_eq_true h7]
        unfold record_Check_j2
        refine bif_t ?_
        rw [if_pos ⟨h6, by omega⟩] at hK
        exact hK s3 e03
      · rw [decide_eq_false h7]
        exact j2 (by omega)
    · exact j2 (fun h => h6 h.1)
end Go.Ph
end
section
set_option linter.all false
namespace Go.Ph
open S
theorem bClone_ok {s : St} {l : List UInt8} {sl : Sl} {K : Sl → HP} (h : Ls tBy (s.w 0) l sl) (hl : l.length ≤ 1000000000000) (hK : ∀ s' o, Step [] s s' → Ls tBy (s'.w 0) l o → K o s'.H) : bytes_Clone sl K s.H := by
  unfold bytes_Clone
  refine bif_rule (fun h1 => ?_) (fun h1 => ?_)
  · have : l = [] := by
      have hn : sl.a = none := by simpa using h1
      have h2 := h.nil hn
      have h3 := h.len
      have h4 := h.cap
      exact List.eq_nil_of_length_eq_zero (by omega)
    subst this
    exact hK s _ Step.refl Ls.nil_
  · refine newc_0 fun s1 p n1 a1 => ?_
    have e1 := n1.step
    have hz := e1.sz
    refine app_rule (q := own s) Bld.none_ (Ls.st h e1) (fun s2 o2 e2 b2 => ?_) rfl rfl (by simp; omega) (by simp; omega) (by unfold own; omega) (by unfold own; omega)
    exact hK s2 o2 ((e1.n.trans e2).loc) (by simpa using b2.ls)
/-- bytes that are taken -/
structure Src (q : Nat) (s : St) (b : Nat) (sl : Sl) (l : List UInt8) (at_ : Nat) (e : Int) : Prop where
  row : At (s.w q) b 0 [.slice sl.a sl.len sl.cap, .int .i64 at_, .int .i64 e]
  ls : Ls tBy (s.w 0) l sl
  le : at_ ≤ l.length
theorem Src.st {q : Nat} {s s' : St} {b : Nat} {sl : Sl} {l : List UInt8} {at_ : Nat} {e : Int} {S : List Nat} (h : Src q s b sl l at_ e) (hs : Step S s s') (hq : q ∉ S) : Src q s' b sl l at_ e :=
  ⟨h.row.mono (hs.view hq), Ls.st h.ls hs, h.le⟩
theorem failF_ok {q : Nat} {s : St} {b : Nat} {sl : Sl} {l : List UInt8} {at_ : Nat} {e c : Int} {K : Bool → HP} (h : Src q s b sl l at_ e) (hK : K (!decide (e = 0)) s.H) : octet_Source_fail (some ⟨b, 0, none⟩) false c K s.H := by
  unfold octet_Source_fail octet_Source_fail_j1 octet_Source_fail_j2
  refine bif_f (bif_f ?_)
  have a := h.row
  repeat (first|refine nn_at ?_|refine ldI_at a rfl ?_|refine ldB_at a rfl ?_|refine ldS_at a rfl ?_|refine ldP_at a rfl ?_|refine ldM_at a rfl ?_|refine ldL_at a rfl ?_)
  exact hK
theorem failT_ok {q : Nat} {s : St} {b : Nat} {sl : Sl} {l : List UInt8} {at_ : Nat} {c : Int} {K : Bool → HP} (h : Src q s b sl l at_ 0) (hq : q ≠ 0) (hc : c ≠ 0) (hK : ∀ s', Step [q] s s' → Src q s' b sl l at_ c → K true s'.H) : octet_Source_fail (some ⟨b, 0, none⟩) true c K s.H := by
  unfold octet_Source_fail octet_Source_fail_j1 octet_Source_fail_j2
  refine bif_t ?_
  have a := h.row
  refine nn_at ?_
  refine ldI_at a rfl ?_
  refine bif_dec (fun _ => ?_) (fun h => absurd rfl h)
  refine nn_at ?_
  refine fld_rule a (by simp) rfl hq (fun s1 e1 z1 a1 _ => ?_)
  repeat (first|refine nn_at ?_|refine ldI_at a1 rfl ?_|refine ldB_at a1 rfl ?_|refine ldS_at a1 rfl ?_|refine ldP_at a1 rfl ?_|refine ldM_at a1 rfl ?_|refine ldL_at a1 rfl ?_)
  rw [decide_eq_false hc]
  exact hK s1 e1 ⟨a1, Ls.st h.ls e1, h.le⟩
theorem Left_ok {q : Nat} {s : St} {b : Nat} {sl : Sl} {l : List UInt8} {at_ : Nat} {e : Int} {K : Int → HP} (h : Src q s b sl l at_ e) (hl : l.length ≤ 1000000000000) (hK : K ((l.length - at_ : Nat) : Int) s.H) : octet_Source_Left (some ⟨b, 0, none⟩) K s.H := by
  unfold octet_Source_Left
  have a := h.row
  have hlen := h.ls.len
  have hle := h.le
  repeat (first|refine nn_at ?_|refine ldI_at a rfl ?_|refine ldB_at a rfl ?_|refine ldS_at a rfl ?_|refine ldP_at a rfl ?_|refine ldM_at a rfl ?_|refine ldL_at a rfl ?_)
  rw [w64_id (by omega) (by omega), show ((sl.len : Nat) : Int) - (at_ : Int) = ((l.length - at_ : Nat) : Int) by omega]
  exact hK
def srcU (l : List UInt8) (at_ : Nat) (e : Int) (k : Nat) : Nat × Int × Int := if e ≠ 0 then (at_, e, 0) else if l.length < at_ + k then (at_, 2, 0) else (at_ + k, 0, getI l at_ k)
theorem U_ok {q : Nat} {s : St} {b : Nat} {sl : Sl} {l : List UInt8} {at_ k : Nat} {e : Int} {K : Int → HP} (h : Src q s b sl l at_ e) (hq : q ≠ 0) (hl : l.length ≤ 1000000000000) (hk : 1 ≤ k ∧ k ≤ 8)
    (hK : ∀ s', Step [q] s s' → Src q s' b sl l (srcU l at_ e k).1 (srcU l at_ e k).2.1 → K (srcU l at_ e k).2.2 s'.H) : octet_Source_U (some ⟨b, 0, none⟩) k K s.H := by
  unfold octet_Source_U octet_good
  refine bif_dec (fun _ => ?_) (fun h => absurd (by omega) h)
  rw [decide_eq_true (show (k : Int) ≤ 8 by omega)]
  refine failF_ok h ?_
  unfold srcU at hK
  by_cases he : e = 0
  · subst he
    rw [if_neg (by simp)] at hK
    refine bif_ndec (fun h => absurd rfl h) (fun _ => ?_)
    refine Left_ok h hl ?_
    have hle := h.le
    by_cases hs : l.length < at_ + k
    · rw [if_pos hs] at hK
      rw [decide_eq_true (by omega)]
      refine failT_ok h hq (by decide) fun s1 e1 h1 => ?_
      unfold octet_Source_U_j1
      exact bif_t (hK s1 e1 h1)
    · rw [if_neg hs] at hK
      rw [decide_eq_false (by omega)]
      refine failF_ok h ?_
      unfold octet_Source_U_j1
      refine bif_ndec (fun h => absurd rfl h) (fun _ => ?_)
      have a := h.row
      repeat (first|refine nn_at ?_|refine ldI_at a rfl ?_|refine ldB_at a rfl ?_|refine ldS_at a rfl ?_|refine ldP_at a rfl ?_|refine ldM_at a rfl ?_|refine ldL_at a rfl ?_)
      refine Get_ok h.ls (by omega) (by omega) ?_
      repeat (first|refine nn_at ?_|refine ldI_at a rfl ?_|refine ldB_at a rfl ?_|refine ldS_at a rfl ?_|refine ldP_at a rfl ?_|refine ldM_at a rfl ?_|refine ldL_at a rfl ?_)
      rw [w64_id (by omega) (by omega)]
      refine fld_rule a (by simp) rfl hq (fun s1 e1 z1 a1 _ => ?_)
      exact hK s1 e1 ⟨by simpa using a1, Ls.st h.ls e1, by simp only; omega⟩
  · rw [if_pos he] at hK
    refine bif_ndec (fun _ => ?_) (fun h => absurd h he)
    unfold octet_Source_U_j1
    exact bif_t (hK s Step.refl h)
/-- all that is left is taken -/
theorem Raw_ok {q : Nat} {s : St} {b : Nat} {sl : Sl} {l : List UInt8} {at_ : Nat} {e : Int} {K : Sl → HP} (h : Src q s b sl l at_ e) (hq : q ≠ 0) (hl : l.length ≤ 1000000000000)
    (hE : e ≠ 0 → K ⟨none, 0, 0⟩ s.H) (hO : e = 0 → ∀ s' o, Step [q] s s' → Src q s' b sl l l.length 0 → Ls tBy (s'.w 0) (l.drop at_) o → K o s'.H) : octet_Source_Raw (some ⟨b, 0, none⟩) ((l.length - at_ : Nat) : Int) K s.H := by
  unfold octet_Source_Raw
  rw [decide_eq_false (by omega)]
  refine failF_ok h ?_
  by_cases he : e = 0
  · subst he
    refine bif_ndec (fun h => absurd rfl h) (fun _ => ?_)
    refine Left_ok h hl ?_
    rw [decide_eq_false (by omega)]
    refine failF_ok h ?_
    unfold octet_Source_Raw_j1
    refine bif_ndec (fun h => absurd rfl h) (fun _ => ?_)
    have a := h.row
    have hle := h.le
    have hlen := h.ls.len
    have hcap := h.ls.cap
    repeat (first|refine nn_at ?_|refine ldI_at a rfl ?_|refine ldB_at a rfl ?_|refine ldS_at a rfl ?_|refine ldP_at a rfl ?_|refine ldM_at a rfl ?_|refine ldL_at a rfl ?_)
    rw [w64_id (n := (at_ : Int) + ((l.length - at_ : Nat) : Int)) (by omega) (by omega), show (at_ : Int) + ((l.length - at_ : Nat) : Int) = (l.length : Int) by omega]
    refine fld_rule a (by simp) rfl hq (fun s1 e1 z1 a1 _ => ?_)
    repeat (first|refine nn_at ?_|refine ldI_at a1 rfl ?_|refine ldB_at a1 rfl ?_|refine ldS_at a1 rfl ?_|refine ldP_at a1 rfl ?_|refine ldM_at a1 rfl ?_|refine ldL_at a1 rfl ?_)
    rw [w64_id (n := (l.length : Int) - ((l.length - at_ : Nat) : Int)) (by omega) (by omega), show (l.length : Int) - ((l.length - at_ : Nat) : Int) = (at_ : Int) by omega]
    have h1 := Ls.st h.ls e1
    refine slL_rule h1 (by omega) (by omega) (by omega) (by omega) (by omega) fun sA hA cA => ?_
    rw [Int.toNat_natCast, Int.toNat_natCast, List.take_of_length_le (Nat.le_refl _)] at hA
    refine bClone_ok hA (by rw [List.length_drop]; omega) fun s2 o e2 l2 => ?_
    exact hO rfl s2 o (e1.trans e2.n) ⟨by simpa using a1.mono (e2.view (by simp)), Ls.st h1 e2, Nat.le_refl _⟩ l2
  · refine bif_ndec (fun _ => ?_) (fun h => absurd h he)
    unfold octet_Source_Raw_j1
    exact bif_t (hE he)
theorem Done_ok {q : Nat} {s : St} {b : Nat} {sl : Sl} {l : List UInt8} {at_ : Nat} {e : Int} {K : Int → HP} (h : Src q s b sl l at_ e) (hl : l.length ≤ 1000000000000)
    (hK : K (if e = 0 ∧ at_ < l.length then 3 else e) s.H) : octet_Source_Done (some ⟨b, 0, none⟩) K s.H := by
  unfold octet_Source_Done
  have a := h.row
  have hle := h.le
  repeat (first|refine nn_at ?_|refine ldI_at a rfl ?_|refine ldB_at a rfl ?_|refine ldS_at a rfl ?_|refine ldP_at a rfl ?_|refine ldM_at a rfl ?_|refine ldL_at a rfl ?_)
  refine bif_dec (fun he => ?_) (fun he => ?_)
  · refine Left_ok h hl ?_
    unfold octet_Source_Done_j1
    refine bif_dec (fun h => ?_) (fun h => ?_)
    · rwa [if_pos ⟨he, by omega⟩] at hK
    · rwa [if_neg (by omega)] at hK
  · unfold octet_Source_Done_j1
    refine bif_f ?_
    rwa [if_neg (fun h => he h.1)] at hK
end Go.Ph
end
section
set_option linter.all false
namespace Go.Ph
open S
def total (L : List PartM) : Nat := (L.map (·.w)).sum
theorem total_snoc (L : List PartM) (p : PartM) : total (L ++ [p]) = total L + p.w := by simp [total]
def takeV (l : List UInt8) : List PartM → Nat → List Int
  | [], _ => []
  | p :: L, o => getI l o p.w :: takeV l L (o + p.w)
theorem takeV_snoc (l : List UInt8) (p : PartM) : ∀ (L : List PartM) (o : Nat), takeV l (L ++ [p]) o = takeV l L o ++ [getI l (o + total L : Nat) p.w]
  | [], o => by simp [takeV, total]
  | q :: L, o => by
    simp only [List.cons_append, takeV, takeV_snoc l p L]
    rw [show o + q.w + total L = o + total (q :: L) by simp [total]; omega]
theorem takeV_len (l : List UInt8) : ∀ (L : List PartM) (o : Nat), (takeV l L o).length = L.length
  | [], o => rfl
  | q :: L, o => by simp [takeV, takeV_len l L]
def fillF (k : Int) (L : List PartM) (vs : List Int) : List Int := (L.zip vs).foldl (fun g x => g.set x.1.j x.2) (k :: List.replicate 10 0)
theorem foldl_set_len : ∀ (xs : List (PartM × Int)) (g : List Int), (xs.foldl (fun g x => g.set x.1.j x.2) g).length = g.length
  | [], g => rfl
  | x :: xs, g => by rw [List.foldl_cons, foldl_set_len xs, List.length_set]
theorem fillF_len (k : Int) (L : List PartM) (vs : List Int) : (fillF k L vs).length = 11 := by unfold fillF; rw [foldl_set_len]; rfl
theorem zip_take {α β : Type} {l : List α} {m : List β} {i : Nat} {x : α} {y : β} (hx : l[i]? = some x) (hy : m[i]? = some y) : (l.take (i + 1)).zip (m.take (i + 1)) = (l.take i).zip (m.take i) ++ [(x, y)] := by
  have hi : i < l.length := (List.getElem?_eq_some_iff.1 hx).1
  have hj : i < m.length := (List.getElem?_eq_some_iff.1 hy).1
  rw [List.take_succ, List.take_succ, hx, hy]
  rw [List.zip_append (by rw [List.length_take, List.length_take]; omega)]
  rfl
def okV (L : List PartM) (vs : List Int) : Bool := (L.zip vs).all fun x => decide (x.1.lo ≤ x.2) && decide (x.2 ≤ x.1.hi)
def hiV (L : List PartM) (vs : List Int) : Bool := (L.zip vs).all fun x => decide (x.2 ≤ x.1.hi)
/-- the record of a payload -/
def readR (k : Int) (l : List UInt8) : Except Int RecM :=
  if layout k = [] then .error 16 else if l.length < total (layout k) then .error 2 else if k ≠ 6 ∧ total (layout k) < l.length then .error 3
  else if k = 6 ∧ 32768 < l.length - total (layout k) then .error 4
  else if okV (layout k) (takeV l (layout k) 0) = true then .ok ⟨fillF k (layout k) (takeV l (layout k) 0), if k = 6 then l.drop (total (layout k)) else []⟩ else .error 1
theorem readR_err {k : Int} {l : List UInt8} {e : Int} (h : readR k l = .error e) : e ≠ 0 := by
  unfold readR at h
  repeat (first | (split at h) | (cases h; decide) | cases h)
theorem check_fill {k : Int} {vs : List Int} {data : List UInt8} (hne : layout k ≠ []) (hl : vs.length = (layout k).length) (hh : hiV (layout k) vs = true) (hd : data.length ≤ 32768) (hd6 : k ≠ 6 → data = []) :
    checkR ⟨fillF k (layout k) vs, data⟩ = if okV (layout k) vs = true then 0 else 1 := by
  revert hne hl hh
  refine layout_cases k (P := fun L => L ≠ [] → vs.length = L.length → hiV L vs = true → checkR ⟨fillF k L vs, data⟩ = if okV L vs = true then 0 else 1) ?_ ?_ ?_ ?_ ?_ ?_ ?_
  · rintro rfl _ hl hh
    match vs, hl with
    | [a, b, c, d], _ =>
      have hd0 := hd6 (by decide)
      subst hd0
      simp [hiV, pNext] at hh
      simp [checkR, RecM.kind, fillF, layout, bareR, bareF, bareN, inBd, okV, pNext, hh]
      try split <;> simp_all
  · rintro rfl _ hl hh
    match vs, hl with
    | [a, b, c, d, e, f], _ =>
      have hd0 := hd6 (by decide)
      subst hd0
      simp [hiV, pUid, pFlags, pBody] at hh
      simp [checkR, RecM.kind, fillF, layout, bareR, bareF, bareN, inBd, okV, pUid, pFlags, pBody, hh]
      try split <;> simp_all
  · rintro rfl _ hl hh
    match vs, hl with
    | [a], _ =>
      have hd0 := hd6 (by decide)
      subst hd0
      simp [hiV, pUid] at hh
      simp [checkR, RecM.kind, fillF, layout, bareR, bareF, bareN, inBd, okV, pUid, hh]
      try split <;> simp_all
  · rintro rfl _ hl hh
    match vs, hl with
    | [a, b], _ =>
      have hd0 := hd6 (by decide)
      subst hd0
      simp [hiV, pUid, pFlags] at hh
      simp [checkR, RecM.kind, fillF, layout, bareR, bareF, bareN, inBd, okV, pUid, pFlags, hh]
      try split <;> simp_all
  · rintro rfl _ hl hh
    match vs, hl with
    | [a], _ =>
      have hd0 := hd6 (by decide)
      subst hd0
      simp [hiV, pNext] at hh
      simp [checkR, RecM.kind, fillF, layout, bareR, bareF, bareN, inBd, okV, pNext, hh]
      try split <;> simp_all
  · rintro rfl _ hl hh
    match vs, hl with
    | [a], _ =>
      simp [hiV, pBody] at hh
      have hd' : ¬ 32768 < data.length := by omega
      simp [checkR, RecM.kind, fillF, layout, bareR, bareF, bareN, inBd, okV, pBody, hh, hd']
      try split <;> simp_all
  · intro _ _ _ _ _ _ h
    exact absurd rfl h
theorem recEnd {s : St} {q b : Nat} {vs : List Value} {r : G_api_Rec} {K : G_api_Rec → HP} (h : At (s.w q) b 0 vs) (hl : vs.length = 12) (hq : q ≠ 0)
    (hK : ∀ s', Step [q] s s' → K r s'.H) : sts (at0 b) 0 [.int .i64 r.Kind, .int .i64 r.User, .int .i64 r.Seq, .int .i64 r.Next, .int .i64 r.Base, .int .i64 r.Uid, .int .i64 r.Time, .int .i64 r.Flags, .int .i64 r.Body, .int .i64 r.Size, .int .i64 r.Origin, .slice r.Data.a r.Data.len r.Data.cap] (ld_G_api_Rec (at0 b) fun r => K r) s.H := by
  refine row_rule q h (by rw [hl]; rfl) (by simp [one]) hq (.inl rfl) fun s1 e1 z1 a1 _ => ?_
  unfold ld_G_api_Rec
  repeat (first|refine nn_at ?_|refine ldI_at a1 rfl ?_|refine ldB_at a1 rfl ?_|refine ldS_at a1 rfl ?_|refine ldP_at a1 rfl ?_|refine ldM_at a1 rfl ?_|refine ldL_at a1 rfl ?_)
  exact hK s1 e1
theorem readEnd_ {s : St} {q4 q6 p4 p6 : Nat} {x : RecM} {sl : Sl} {vs4 : List Value} {e : Int} {K : G_api_Rec → Int → HP} (h4 : At (s.w q4) p4 0 vs4) (hl4 : vs4.length = 12) (h6 : At (s.w q6) p6 0 (rowF x.f sl)) (hx : x.f.length = 11) (hd : Ls tBy (s.w 0) x.data sl) (hq : q4 ≠ 0)
    (hE : e ≠ 0 → ∀ r s', Step [q4] s s' → K r e s'.H) (hO : e = 0 → ∀ r s', Step [q4] s s' → RecAt (s'.w 0) x r → K r 0 s'.H) : record_Read_j6 p4 p6 e K s.H := by
  unfold record_Read_j6
  refine bif_ndec (fun he => ?_) (fun he => ?_)
  · exact recEnd (r := ⟨0, 0, 0, 0, 0, 0, 0, 0, 0, 0, 0, ⟨none, 0, 0⟩⟩) h4 hl4 hq fun s' e' => hE he _ s' e'
  · refine ldRec h6 hx fun r f d => ?_
    refine recEnd h4 hl4 hq fun s' e' => ?_
    exact hO he r s' e' ⟨f, by rw [d]; exact Ls.st hd e'⟩
/-- the fields are set, and what was read is looked at -/
theorem readJ3_ok {s : St} {q4 q6 p4 p6 : Nat} {k : Int} {L : List PartM} {vs : List Int} {data : List UInt8} {sl t8 t9 : Sl} {vs4 : List Value} {e : Int} {K : G_api_Rec → Int → HP} (h4 : At (s.w q4) p4 0 vs4) (hl4 : vs4.length = 12) (h6 : At (s.w q6) p6 0 (rowF (k :: List.replicate 10 0) sl))
    (hd : Ls tBy (s.w 0) data sl) (hq : q4 ≠ 0 ∧ q6 ≠ 0 ∧ q4 ≠ q6) (hL : L = layout k) (h8 : Ls (tPart p6) (s.w 0) L t8) (h9 : Ls (tI .u64) (s.w 0) vs t9) (hvl : vs.length = L.length) (hpos : ∀ v ∈ vs, 0 ≤ v)
    (hE : ∀ e' r s', (if e ≠ 0 then e else if hiV L vs = true then checkR ⟨fillF k L vs, data⟩ else 1) = e' → e' ≠ 0 → Step [q4, q6] s s' → K r e' s'.H)
    (hO : ∀ r s', e = 0 → hiV L vs = true → checkR ⟨fillF k L vs, data⟩ = 0 → Step [q4, q6] s s' → RecAt (s'.w 0) ⟨fillF k L vs, data⟩ r → K r 0 s'.H) : record_Read_j3 p4 p6 t8 t9 e K s.H := by
  unfold record_Read_j3
  have hlen8 := h8.len
  have hlen9 := h9.len
  have hLo : ∀ p ∈ L, PartOk p := by rw [hL]; exact layout_ok k
  have hLL : L.length ≤ 6 := by rw [hL]; exact layout_len k
  refine loop_rule (ι := Nat × Int) (fun x => [.int .i64 x.2, .int .i64 x.1]) (fun x s' => x.1 ≤ L.length ∧ Step [q6] s s' ∧ (∃ f, f.length = 11 ∧ At (s'.w q6) p6 0 (rowF f sl) ∧ (x.2 = 0 → e = 0 ∧ f = fillF k (L.take x.1) (vs.take x.1) ∧ hiV (L.take x.1) (vs.take x.1) = true)) ∧ (x.2 ≠ 0 → x.2 = e ∨ (e = 0 ∧ x.2 = 1 ∧ hiV L vs = false))) (fun x _ => L.length - x.1) (0, e) rfl
    ⟨Nat.zero_le _, Step.refl, ⟨_, rfl, h6, fun h => ⟨h, rfl, rfl⟩⟩, fun _ => .inl rfl⟩ ?_
  rintro ⟨i, ei⟩ s1 ⟨hi, e1, ⟨f, hf, a6, hz⟩, hnz⟩ G hG
  simp only at hi hz hnz
  simp only [List.getD_cons_zero, List.getD_cons_succ, asI_v, asL_v, asS_v, asB_v, asM_v, asP_v]
  have h41 := h4.mono (e1.view (k := q4) (by simp; exact hq.2.2))
  refine bif_dec (fun hlt => ?_) (fun hlt => ?_)
  · refine ixL_rule (Ls.st h8 e1) (by omega) (by omega) fun b3 q3 p hp hel => ?_
    rw [Int.toNat_natCast] at hp
    obtain ⟨ws, rfl, hat⟩ := hel
    unfold ld_G_record_part
    repeat (first|refine nn_at ?_|refine ldI_at hat rfl ?_|refine ldB_at hat rfl ?_|refine ldS_at hat rfl ?_|refine ldP_at hat rfl ?_|refine ldM_at hat rfl ?_|refine ldL_at hat rfl ?_)
    refine newc_sts rfl (by simp [one]) fun s2 p14 e2 a14 => ?_
    have hpm := List.mem_of_getElem? hp
    have hpo := hLo p hpm
    have hhi := hpo.hi
    have hwh : wr .u64 p.hi = p.hi := wr_u64 (by omega) (by omega)
    obtain ⟨v, hv⟩ : ∃ v, vs[i]? = some v := ⟨_, List.getElem?_eq_getElem (by omega)⟩
    have hvp := hpos v (List.mem_of_getElem? hv)
    have ldv : ∀ {s3 : St} {K' : Int → HP}, Step [] s2 s3 → K' v s3.H → ixL t9 1 (i : Int) (fun t => ldI .u64 t K') s3.H := fun {s3 K'} e3 hk => by
      refine ixL_rule ((Ls.st h9 e1).st (e2.trans e3)) (by omega) (by omega) fun bx ox x hx hel => ?_
      obtain ⟨ws, rfl, hat⟩ := hel
      rw [Int.toNat_natCast, hv] at hx
      have := Option.some.inj hx
      subst this
      exact ldI_at0 hat rfl hk
    have a62 := a6.mono (e2.view (k := q6) (by simp))
    have zt := zip_take hp hv
    have hit : hiV (L.take (i + 1)) (vs.take (i + 1)) = (hiV (L.take i) (vs.take i) && decide (v ≤ p.hi)) := by
      unfold hiV; rw [zt, List.all_append]; simp
    have set : ∀ (ej : Int), (ej = 0 → ei = 0 ∧ v ≤ p.hi) → (ej ≠ 0 → ej = e ∨ (e = 0 ∧ ej = 1 ∧ hiV L vs = false)) → record_Read_j5 p4 p6 t9 ej i p14 t8 t8.len i K G s2.H := fun ej h1 h2 => by
      unfold record_Read_j5
      refine ldP_at a14 rfl ?_
      refine ldv Step.refl ?_
      refine ldI_at a14 rfl ?_
      refine nn_at ?_
      have hm : w64 (if (wr .u64 p.hi : Int) < v then (wr .u64 p.hi) else v) = if p.hi < v then p.hi else v := by
        rw [hwh]; split <;> exact w64_id (by omega) (by omega)
      rw [hm, w64_id (by omega) (by omega)]
      refine fld_j a62 (by rw [rowF_len, hf]; have := hpo.j; omega) rfl hq.2.1 (fun s3 e3 z3 a3 _ => ?_)
      rw [rowF_set (by rw [hf]; have := hpo.j; omega)] at a3
      refine hG (i + 1, ej) s3 ⟨by simp only; omega, e1.trans (e2.n.trans e3), ⟨_, by rw [List.length_set]; exact hf, a3, fun h => ?_⟩, h2⟩ (by simp only; omega)
      obtain ⟨g1, g2⟩ := h1 h
      obtain ⟨g3, g4, g5⟩ := hz g1
      refine ⟨g3, ?_, ?_⟩
      · rw [if_neg (by omega), g4]
        unfold fillF
        simp only [zt, List.foldl_append, List.foldl_cons, List.foldl_nil]
      · simp only [hit, g5, decide_eq_true g2]; rfl
    refine bif_dec (fun he => ?_) (fun he => ?_)
    · refine ldv Step.refl ?_
      refine ldI_at a14 rfl ?_
      rw [hwh]
      by_cases hov : p.hi < v
      · rw [decide_eq_true hov]
        unfold record_Read_j4
        refine bif_t (set 1 (fun h => absurd h (by decide)) fun _ => .inr ⟨(hz he).1, rfl, ?_⟩)
        rw [Bool.eq_false_iff]
        intro hh
        unfold hiV at hh
        rw [List.all_eq_true] at hh
        have := hh (p, v) (List.mem_of_getElem? (i := i) (by rw [List.getElem?_zip_eq_some]; exact ⟨hp, hv⟩))
        simp at this
        omega
      · rw [decide_eq_false hov]
        unfold record_Read_j4
        exact bif_f (set ei (fun h => ⟨h, by omega⟩) hnz)
    · unfold record_Read_j4
      exact bif_f (set ei (fun h => ⟨h, absurd h he⟩) hnz)
  · have : i = L.length := by omega
    subst this
    rw [List.take_of_length_le (Nat.le_refl _), List.take_of_length_le (by omega)] at hz
    refine bif_dec (fun he => ?_) (fun he => ?_)
    · obtain ⟨g3, g4, g5⟩ := hz he
      rw [g4] at a6
      refine ldRec a6 (fillF_len _ _ _) fun r f1 d1 => ?_
      refine Check_ok (x := ⟨fillF k L vs, data⟩) ⟨f1, by rw [d1]; exact Ls.st hd e1⟩ fun s2 e2 => ?_
      refine readEnd_ (x := ⟨fillF k L vs, data⟩) (h41.mono (e2.view (by simp))) hl4 (a6.mono (e2.view (by simp))) (fillF_len _ _ _) (Ls.st hd (e1.trans e2.n)) hq.1 ?_ ?_
      · intro hne r' s3 e3
        have e13 : Step [q4, q6] s s3 := Step.tr (Step.trans e1 e2.n) e3
        exact hE _ r' s3 (by rw [if_neg (by simpa using g3), if_pos g5]) hne e13
      · intro h0 r' s3 e3 hr
        have e13 : Step [q4, q6] s s3 := Step.tr (Step.trans e1 e2.n) e3
        exact hO r' s3 g3 g5 h0 e13 hr
    · refine readEnd_ (x := ⟨f, data⟩) h41 hl4 a6 hf (Ls.st hd e1) hq.1 ?_ ?_
      · intro hne r' s3 e3
        have e13 : Step [q4, q6] s s3 := Step.tr e1 e3
        rcases hnz he with h | ⟨h1, h2, h3⟩
        · exact hE _ r' s3 (by rw [if_pos (by rw [← h]; exact he)]; exact h.symm) hne e13
        · exact hE _ r' s3 (by rw [if_neg (by simpa using h1), if_neg (by rw [h3]; simp)]; exact h2.symm) hne e13
      · intro h; exact absurd h he
end Go.Ph
end
section
set_option linter.all false
namespace Go.Ph
open S
theorem Read_ok {s : St} {k : Int} {l : List UInt8} {sl : Sl} {K : G_api_Rec → Int → HP} (h : Ls tBy (s.w 0) l sl) (hl : l.length ≤ 1000000000)
    (hE : ∀ e r s', readR k l = .error e → e ≠ 0 → Step [] s s' → K r e s'.H)
    (hO : ∀ x r s', readR k l = .ok x → Step [] s s' → RecAt (s'.w 0) x r → K r 0 s'.H) : record_Read k sl K s.H := by
  unfold record_Read
  have hown : own s = 1152921504606846976 + 1152921504606846976 * s.H.size := rfl
  refine newc_k (own s) (by unfold own; omega) fun s1 p4 n1 a4 => ?_
  have e1 := n1.step
  have hz1 := e1.sz
  refine newc_k (own s + 1) (by unfold own; omega) fun s2 p6 n2 a2 => ?_
  have e2 := n2.step
  have hz2 := e2.sz
  refine row_rule (own s + 1) a2 rfl (by simp [one]) (by omega) (.inl rfl) fun s3 e3 z3 a63 _ => ?_
  have a63' : At (s3.w (own s + 1)) p6 0 (rowF (k :: List.replicate 10 0) ⟨none, 0, 0⟩) := a63
  have a43 := (a4.mono (e2.view (by simp))).mono (e3.view (by simp))
  have es3 : Step [own s, own s + 1, own s + 2, own s + 3] s s3 := (e1.trans e2).n.tr e3 (A := [])
  have hz3 := es3.sz
  unfold octet_NewSource
  refine bClone_ok (Ls.st h es3) (by omega) fun s4 o4 e4 l4 => ?_
  have hz4 := e4.sz
  refine newc_k (own s + 2) (by omega) fun s5 pS n5 aS => ?_
  have e5 := n5.step
  have e45 := e4.trans e5
  have hz5 := e5.sz
  have src : Src (own s + 2) s5 pS o4 l 0 0 := ⟨aS, Ls.st l4 e5, Nat.zero_le _⟩
  have a45 := a43.mono (e45.view (by simp))
  have a65 := a63'.mono (e45.view (by simp))
  refine parts_ok a65 rfl fun s6 o8 e6 l8 hno => ?_
  have a46 := a45.mono (e6.view (by simp))
  have a66 := a65.mono (e6.view (by simp))
  have src6 := src.st e6 (by simp)
  have es6 : Step [own s, own s + 1, own s + 2, own s + 3] s s6 := es3.trans (e45.trans e6).n
  have hz6 := es6.sz
  change Ls (tPart p6) (s6.w 0) (layout k) o8 at l8
  change _ ↔ layout k = [] at hno
  have hLo := layout_ok k
  have hLL := layout_len k
  have hrd : readR k l = readR k l := rfl
  conv at hrd => rhs; unfold readR
  refine bif_rule (fun h1 => ?_) (fun h1 => ?_)
  · rw [if_pos (hno.1 h1)] at hrd
    refine recEnd (r := ⟨0, 0, 0, 0, 0, 0, 0, 0, 0, 0, 0, ⟨none, 0, 0⟩⟩) a46 rfl (by omega) fun s7 e7 => ?_
    have q : Step [own s, own s + 1, own s + 2, own s + 3] s s7 := es6.tr e7
    exact hE 16 _ s7 hrd (by decide) (loc4 q)
  have hne : layout k ≠ [] := fun h => by rw [hno.2 h] at h1; cases h1
  rw [if_neg hne] at hrd
  have hlen8 := l8.len
  refine loop_rule (ι := Nat × Sl × List Int × Nat × Int) (fun x => [.slice x.2.1.a x.2.1.len x.2.1.cap, .int .i64 x.1])
    (fun x s' => x.1 ≤ (layout k).length ∧ Step [own s + 2, own s + 3] s6 s' ∧ Bld (tI .u64) (own s + 3) s' x.2.2.1 x.2.1 ∧ x.2.2.1.length = x.1 ∧ (∀ v ∈ x.2.2.1, 0 ≤ v) ∧ Src (own s + 2) s' pS o4 l x.2.2.2.1 x.2.2.2.2 ∧
      ((total ((layout k).take x.1) ≤ l.length ∧ x.2.2.2.1 = total ((layout k).take x.1) ∧ x.2.2.2.2 = 0 ∧ x.2.2.1 = takeV l ((layout k).take x.1) 0) ∨ (l.length < total ((layout k).take x.1) ∧ x.2.2.2.2 = 2)))
    (fun x _ => (layout k).length - x.1) (0, ⟨none, 0, 0⟩, [], 0, 0) rfl ⟨Nat.zero_le _, Step.refl, Bld.nil, rfl, by simp, src6, .inl ⟨by simp [total], by simp [total], rfl, rfl⟩⟩ ?_
  rintro ⟨i, o9, vs, at_, e⟩ s7 ⟨hi, e7, b9, hvl, hvp, sr, hcs⟩ G hG
  simp only at hi b9 hvl hvp sr hcs
  have hz7 := e7.sz
  have es7 : Step [own s, own s + 1, own s + 2, own s + 3] s s7 := es6.tr e7
  have a47 := a46.mono (e7.view (by simp <;> omega))
  have a67 := a66.mono (e7.view (by simp <;> omega))
  simp only [List.getD_cons_zero, List.getD_cons_succ, asI_v, asL_v, asS_v, asB_v, asM_v, asP_v]
  refine bif_dec (fun hlt => ?_) (fun hlt => ?_)
  · refine ixL_rule (Ls.st l8 e7) (by omega) (by omega) fun b3 q3 p hp hel => ?_
    rw [Int.toNat_natCast] at hp
    obtain ⟨ws, rfl, hat⟩ := hel
    unfold ld_G_record_part
    repeat (first|refine nn_at ?_|refine ldI_at hat rfl ?_|refine ldB_at hat rfl ?_|refine ldS_at hat rfl ?_|refine ldP_at hat rfl ?_|refine ldM_at hat rfl ?_|refine ldL_at hat rfl ?_)
    refine newc_sts rfl (by simp [one]) fun s8 p11 e8 a11 => ?_
    refine ldI_at a11 rfl ?_
    have hpo := hLo p (List.mem_of_getElem? hp)
    have hpw := hpo.w
    refine U_ok (sr.st e8 (by simp)) (by omega) (by omega) (by omega) fun s9 e9 sr9 => ?_
    have hz9 := (e8.n.trans e9 : Step [own s + 2] s7 s9).sz
    have hv0 : 0 ≤ (srcU l at_ e p.w).2.2 := by
      unfold srcU; split
      · exact Int.le_refl _
      · split
        · exact Int.le_refl _
        · exact (getI_bd _ _ _).1
    refine app1_rule (srcU l at_ e p.w).2.2 ((b9.st e8 (by simp)).st e9 (by simp)) rfl (fun s10 o10 e10 b10 => ?_) rfl rfl (by omega) (by omega) (by omega) (by omega)
    rw [w64_id (by omega) (by omega)]
    have ht : (layout k).take (i + 1) = (layout k).take i ++ [p] := by rw [List.take_succ, hp]; rfl
    have e78 : Step [own s + 2, own s + 3] s6 s8 := e7.trans e8.n
    have e79 : Step [own s + 2, own s + 3] s6 s9 := e78.tr e9
    have e710 : Step [own s + 2, own s + 3] s6 s10 := e79.tr e10
    refine hG (i + 1, o10, vs ++ [(srcU l at_ e p.w).2.2], (srcU l at_ e p.w).1, (srcU l at_ e p.w).2.1) s10 ⟨by simp only; omega, e710, b10, by simp [hvl], ?_, sr9.st e10 (by simp), ?_⟩ (by simp only; omega)
    · intro v hv
      simp only [List.mem_append, List.mem_singleton] at hv
      rcases hv with hv | rfl
      · exact hvp v hv
      · exact hv0
    · simp only [ht, total_snoc, takeV_snoc]
      unfold srcU
      rcases hcs with ⟨c1, c2, c3, c4⟩ | ⟨c1, c2⟩
      · rw [if_neg (by simpa using c3)]
        by_cases hs : l.length < at_ + p.w
        · rw [if_pos hs]
          exact .inr ⟨by omega, rfl⟩
        · rw [if_neg hs]
          refine .inl ⟨by omega, by simp only; omega, rfl, ?_⟩
          rw [c4, c2]; simp
      · rw [if_pos (by rw [c2]; decide)]
        exact .inr ⟨by omega, c2⟩
  · have : i = (layout k).length := by omega
    subst this
    rw [List.take_of_length_le (Nat.le_refl _)] at hcs
    have j1 : ∀ (s8 : St) (sd : Sl) (at2 : Nat) (data : List UInt8), Step [own s + 1, own s + 2] s7 s8 → At (s8.w (own s + 1)) p6 0 (rowF (k :: List.replicate 10 0) sd) → Ls tBy (s8.w 0) data sd → Src (own s + 2) s8 pS o4 l at2 e → (k ≠ 6 → data = [] ∧ at2 = at_) → (k = 6 → e = 0 → at2 = l.length ∧ data = l.drop at_) → (e ≠ 0 → data = []) → record_Read_j1 p4 p6 (some ⟨pS, 0, none⟩) o8 o9 K s8.H := fun s8 sd at2 data e8 a68 hds sr8 hn6 h6 hde => by
      have es8 : Step [own s, own s + 1, own s + 2, own s + 3] s s8 := es7.tr e8
      have a48 := a47.mono (e8.view (by simp <;> omega))
      have b98 := b9.st e8 (by simp <;> omega)
      have l88 := (Ls.st l8 e7).st e8
      have hdl := hds.len
      unfold record_Read_j1
      refine Done_ok sr8 (by omega) ?_
      have j3 : ∀ e' : Int, (e' ≠ 0 → readR k l = .error e') → (e' = 0 → e = 0 ∧ data.length ≤ 32768 ∧ (k ≠ 6 → data = []) ∧ readR k l = (if okV (layout k) vs = true then .ok ⟨fillF k (layout k) vs, data⟩ else .error 1)) → record_Read_j3 p4 p6 o8 o9 e' K s8.H := fun e' h1 h0 => by
        refine readJ3_ok (q4 := own s) (q6 := own s + 1) (L := layout k) (vs := vs) (data := data) a48 rfl a68 hds ⟨by omega, by omega, by omega⟩ rfl l88 b98.ls hvl hvp ?_ ?_
        · intro e2 r s9 he2 hne2 e9
          have q : Step [own s, own s + 1, own s + 2, own s + 3] s s9 := es8.tr e9
          refine hE e2 r s9 ?_ hne2 (loc4 q)
          by_cases hz : e' = 0
          · obtain ⟨g1, g2, g3, g4⟩ := h0 hz
            rw [if_neg (by simpa using hz)] at he2
            by_cases hh : hiV (layout k) vs = true
            · rw [if_pos hh, check_fill hne hvl hh g2 g3] at he2
              by_cases hk : okV (layout k) vs = true
              · rw [if_pos hk] at he2; exact absurd he2.symm hne2
              · rw [if_neg hk] at he2
                rw [g4, if_neg hk, he2]
            · rw [if_neg hh] at he2
              have hk : ¬ okV (layout k) vs = true := fun hk => hh (by
                unfold okV at hk
                unfold hiV
                rw [List.all_eq_true] at hk ⊢
                intro x hx
                have := hk x hx
                simp at this ⊢
                exact this.2)
              rw [g4, if_neg hk, he2]
          · rw [if_pos hz] at he2
            rw [h1 hz, he2]
        · intro r s9 hz hh hc e9 hr
          have q : Step [own s, own s + 1, own s + 2, own s + 3] s s9 := es8.tr e9
          obtain ⟨g1, g2, g3, g4⟩ := h0 hz
          rw [check_fill hne hvl hh g2 g3] at hc
          by_cases hk : okV (layout k) vs = true
          · rw [if_pos hk] at g4
            exact hO _ r s9 g4 (loc4 q) hr
          · rw [if_neg hk] at hc; cases hc
      have j2 : ∀ e' : Int, (e' ≠ 0 → readR k l = .error e') → (e' = 0 → e = 0 ∧ data.length ≤ 32768 ∧ (k ≠ 6 → data = []) ∧ readR k l = (if okV (layout k) vs = true then .ok ⟨fillF k (layout k) vs, data⟩ else .error 1)) → record_Read_j2 p4 p6 o8 o9 e' false K s8.H := fun e' h1 h0 => by
        unfold record_Read_j2
        exact bif_f (j3 e' h1 h0)
      rcases hcs with ⟨c1, c2, c3, c4⟩ | ⟨c1, c2⟩
      · subst c3
        rw [if_neg (by omega)] at hrd
        by_cases hd : at2 < l.length
        · rw [if_pos ⟨rfl, hd⟩]
          have hk6 : k ≠ 6 := fun h => by have := (h6 h rfl).1; omega
          rw [if_pos ⟨hk6, by have := (hn6 hk6).2; omega⟩] at hrd
          refine bif_dec (fun h => absurd h (by decide)) (fun _ => ?_)
          exact j2 3 (fun _ => hrd) (fun h => absurd h (by decide))
        · rw [if_neg (fun h => hd h.2)]
          have hn3 : ¬(k ≠ 6 ∧ total (layout k) < l.length) := fun h => by have := (hn6 h.1).2; omega
          rw [if_neg hn3] at hrd
          refine bif_dec (fun _ => ?_) (fun h => absurd rfl h)
          refine ldL_at a68 (rowF_data rfl) ?_
          have hdd : k = 6 → data.length = l.length - total (layout k) := fun h => by rw [(h6 h rfl).2, List.length_drop, c2]
          by_cases hlg : (32768 : Int) < (sd.len : Nat)
          · rw [decide_eq_true hlg]
            have hk6 : k = 6 := by
              rcases Int.decEq k 6 with hk | hk
              · have := (hn6 hk).1; rw [this] at hdl; simp at hdl; omega
              · exact hk
            rw [if_pos ⟨hk6, by have := hdd hk6; omega⟩] at hrd
            unfold record_Read_j2
            exact bif_t (j3 4 (fun _ => hrd) (fun h => absurd h (by decide)))
          · rw [decide_eq_false hlg]
            rw [if_neg (fun h => by have := hdd h.1; omega)] at hrd
            refine j2 0 (fun h => absurd rfl h) (fun _ => ⟨rfl, by omega, fun h => (hn6 h).1, ?_⟩)
            rw [hrd, c4]
            have : data = if k = 6 then l.drop (total (layout k)) else [] := by
              split
              · rename_i h; rw [(h6 h rfl).2, c2]
              · rename_i h; exact (hn6 h).1
            rw [this]
      · subst c2
        rw [if_pos c1] at hrd
        rw [if_neg (fun h => absurd h.1 (by decide))]
        refine bif_dec (fun h => absurd h (by decide)) (fun _ => ?_)
        exact j2 2 (fun _ => hrd) (fun h => absurd h (by decide))
    refine bif_dec (fun hk6 => ?_) (fun hk6 => ?_)
    · refine Left_ok sr (by omega) ?_
      refine Raw_ok sr (by omega) (by omega) ?_ ?_
      · intro he
        refine fld_rule a67 (by simp [rowF]) rfl (by omega) (fun s8 e8 z8 a8 _ => ?_)
        exact j1 s8 ⟨none, 0, 0⟩ at_ [] (Step.tr (A := [own s + 1]) (B := []) e8 Step.refl) (by simpa [rowF] using a8) Ls.nil_ (sr.st e8 (by simp)) (fun h => absurd hk6 h) (fun _ h => absurd h he) (fun _ => rfl)
      · intro he s8 o e8 sr8 l8' 
        refine fld_rule (a67.mono (e8.view (by simp))) (by simp [rowF]) rfl (by omega) (fun s9 e9 z9 a9 _ => ?_)
        have q : Step [own s + 1, own s + 2] s7 s9 := Step.tr e8 e9
        refine j1 s9 o l.length (l.drop at_) q (by simpa [rowF] using a9) (Ls.st l8' e9) ?_ (fun h => absurd hk6 h) (fun _ _ => ⟨rfl, rfl⟩) (fun h => absurd he h)
        rw [he]
        exact sr8.st e9 (by simp)
    · exact j1 s7 ⟨none, 0, 0⟩ at_ [] Step.refl a67 Ls.nil_ sr (fun _ => ⟨rfl, rfl⟩) (fun h => absurd h hk6) (fun _ => rfl)
end Go.Ph
end
section
set_option linter.all false
namespace Go.Ph
open S
def inb (n lo hi : Int) : Bool := decide (lo ≤ n) && decide (n ≤ hi)
theorem in_ok {n lo hi : Int} {K : Bool → HP} {H : Heap} (hK : K (inb n lo hi) H) : rf14_in n lo hi K H := by
  unfold rf14_in
  unfold inb at hK
  refine bif_dec (fun h => ?_) (fun h => ?_)
  · rwa [decide_eq_true h, Bool.true_and] at hK
  · rwa [decide_eq_false h, Bool.false_and] at hK
theorem in_and {n lo hi : Int} {c : Bool} {A : HP} {K : Bool → HP} {H : Heap} (hK : K (inb n lo hi && c) H) (hA : K c H → A H) : rf14_in n lo hi (fun t => bif t then A else K false) H := by
  refine in_ok (K := fun t => bif t then A else K false) ?_
  revert hK
  cases inb n lo hi
  · intro hK; exact bif_f (by simpa using hK)
  · intro hK; exact bif_t (hA (by simpa using hK))
theorem within_ok {s : St} {x : RecM} {r : G_api_Rec} {K : Bool → HP} (h : RecAt (s.w 0) x r) (hk : 1 ≤ x.kind ∧ x.kind ≤ 6) (hK : ∀ s', Step [] s s' → K ((layout x.kind).all (inBd x.f)) s'.H) : rf14_within r K s.H := by
  unfold rf14_within
  have hxl := h.len
  refine newc_0 fun s1 p1 n1 a1' => ?_
  have e1 := n1.step
  have a1 : At (s1.w 0) p1 0 (rowF x.f r.Data) := by rw [← h.f]; exact a1'
  have hK1 := hK s1 e1
  have e : ∀ p, inBd x.f p = inb (x.f.getD p.j 0) p.lo p.hi := fun p => rfl
  have g : ∀ {j : Nat} {K' : Int → HP}, j < 11 → K' (x.f.getD j 0) s1.H → ldI .i64 ((at0 p1).add j) K' s1.H := fun hj hk => ldI_at a1 (rowF_get (by omega)) hk
  refine g (by decide) ?_
  unfold layout at hK1
  refine bif_dec (fun k1 => ?_) (fun k1 => ?_)
  · rw [if_pos (show x.kind = 1 from k1)] at hK1
    simp only [List.all_cons, List.all_nil, Bool.and_true, e, pNext] at hK1
    refine g (by decide) (in_and hK1 fun h1 => ?_)
    refine g (by decide) (in_and h1 fun h2 => ?_)
    refine g (by decide) (in_and h2 fun h3 => ?_)
    exact g (by decide) (in_ok h3)
  rw [if_neg (show ¬x.kind = 1 from k1)] at hK1
  refine bif_dec (fun k2 => ?_) (fun k2 => ?_)
  · rw [if_pos (show x.kind = 2 from k2)] at hK1
    simp only [List.all_cons, List.all_nil, Bool.and_true, e, pUid, pFlags, pBody] at hK1
    refine g (by decide) (in_and hK1 fun h1 => ?_)
    refine g (by decide) (in_and h1 fun h2 => ?_)
    refine g (by decide) (in_and h2 fun h3 => ?_)
    refine g (by decide) (in_and h3 fun h4 => ?_)
    refine g (by decide) (in_and h4 fun h5 => ?_)
    exact g (by decide) (in_ok h5)
  rw [if_neg (show ¬x.kind = 2 from k2)] at hK1
  refine bif_dec (fun k3 => ?_) (fun k3 => ?_)
  · rw [if_pos (show x.kind = 3 from k3)] at hK1
    simp only [List.all_cons, List.all_nil, Bool.and_true, e, pUid] at hK1
    exact g (by decide) (in_ok hK1)
  rw [if_neg (show ¬x.kind = 3 from k3)] at hK1
  refine bif_dec (fun k4 => ?_) (fun k4 => ?_)
  · rw [if_pos (show x.kind = 4 from k4)] at hK1
    simp only [List.all_cons, List.all_nil, Bool.and_true, e, pUid, pFlags] at hK1
    refine g (by decide) (in_and hK1 fun h1 => ?_)
    exact g (by decide) (in_ok h1)
  rw [if_neg (show ¬x.kind = 4 from k4)] at hK1
  refine bif_dec (fun k5 => ?_) (fun k5 => ?_)
  · rw [if_pos (show x.kind = 5 from k5)] at hK1
    simp only [List.all_cons, List.all_nil, Bool.and_true, e, pNext] at hK1
    exact g (by decide) (in_ok hK1)
  rw [if_neg (show ¬x.kind = 5 from k5)] at hK1
  have hk' : 1 ≤ x.f.getD 0 0 ∧ x.f.getD 0 0 ≤ 6 := hk
  rw [if_pos (show x.kind = 6 from (show x.f.getD 0 0 = 6 by omega))] at hK1
  simp only [List.all_cons, List.all_nil, Bool.and_true, e, pBody] at hK1
  exact g (by decide) (in_ok hK1)
/-- a number that is too great for an int is the greatest -/
def cl (v : Int) : Int := if 9223372036854775807 < v then 9223372036854775807 else v
theorem get_ok {s : St} {l : List UInt8} {sl : Sl} {a k : Int} {K : Int → HP} (h : Ls tBy (s.w 0) l sl) (hl : l.length ≤ 1000000000) (ha : -100 ≤ a ∧ a < 9223372036854775808)
    (hK : K (cl (getI l a k)) s.H) : rf14_get sl a k K s.H := by
  unfold rf14_get
  refine rGet_ok h (by omega) ha ?_
  have hb := getI_bd l a k
  unfold cl at hK
  refine bif_dec (fun h1 => ?_) (fun h1 => ?_)
  · rwa [if_pos h1] at hK
  · rw [if_neg h1] at hK
    rw [w64_id (by omega) (by omega)]
    exact hK
theorem setS {s : St} {q p8 j : Nat} {f : List Int} {sl t1 : Sl} {l : List UInt8} {a k : Int} {K : HP} (h : Ls tBy (s.w 0) l t1) (hl : l.length ≤ 1000000000) (h8 : At (s.w q) p8 0 (rowF f sl)) (hf : f.length = 11) (hj : j < 11) (hq : q ≠ 0) (ha : -100 ≤ a ∧ a < 9223372036854775808)
    (hK : ∀ s', Step [q] s s' → Ls tBy (s'.w 0) l t1 → At (s'.w q) p8 0 (rowF (f.set j (cl (getI l a k))) sl) → K s'.H) : rf14_get t1 a k (fun t => sts ((at0 p8).add j) 0 [.int .i64 t] K) s.H := by
  refine get_ok (K := fun t => sts ((at0 p8).add j) 0 [.int .i64 t] K) h hl ha ?_
  refine fld_rule h8 (by rw [rowF_len]; omega) rfl hq (fun s1 e1 z1 a1 _ => ?_)
  rw [rowF_set (by omega)] at a1
  exact hK s1 e1 (Ls.st h e1) a1
theorem okV_cl (L : List PartM) (vs : List Int) (hL : ∀ p ∈ L, PartOk p) : okV L (vs.map cl) = okV L vs := by
  induction L generalizing vs with
  | nil => simp [okV]
  | cons p L ih =>
    cases vs with
    | nil => simp [okV]
    | cons v vs =>
      have hp := hL p (by simp)
      have h1 := hp.hi
      have h2 := hp.lo
      have := ih vs (fun q hq => hL q (by simp [hq]))
      simp only [okV, List.map_cons, List.zip_cons_cons, List.all_cons] at this ⊢
      rw [this]
      congr 1
      unfold cl
      split
      · rw [decide_eq_false (show ¬ 9223372036854775807 ≤ p.hi by omega), decide_eq_false (show ¬ v ≤ p.hi by omega), Bool.and_false, Bool.and_false]
      · rfl
theorem cl_id (L : List PartM) (vs : List Int) (hL : ∀ p ∈ L, PartOk p) (hl : vs.length = L.length) (h : okV L vs = true) : vs.map cl = vs := by
  induction L generalizing vs with
  | nil => have : vs = [] := List.eq_nil_of_length_eq_zero hl
           rw [this]; rfl
  | cons p L ih =>
    cases vs with
    | nil => rfl
    | cons v vs =>
      have h1 := (hL p (by simp)).hi
      simp only [okV, List.zip_cons_cons, List.all_cons, Bool.and_eq_true, decide_eq_true_eq] at h
      rw [List.map_cons, ih vs (fun q hq => hL q (by simp [hq])) (by simpa using hl) h.2]
      unfold cl
      rw [if_neg (by omega)]
theorem fill_all {k : Int} {vs : List Int} (hl : vs.length = (layout k).length) : (layout (fillF k (layout k) vs |>.getD 0 0)).all (inBd (fillF k (layout k) vs)) = okV (layout k) vs ∧ (fillF k (layout k) vs).getD 0 0 = k := by
  revert hl
  refine layout_cases k (P := fun L => vs.length = L.length → (layout (fillF k L vs |>.getD 0 0)).all (inBd (fillF k L vs)) = okV L vs ∧ (fillF k L vs).getD 0 0 = k) ?_ ?_ ?_ ?_ ?_ ?_ ?_
  · rintro rfl hl
    match vs, hl with
    | [a, b, c, d], _ => simp [fillF, layout, inBd, okV, pNext]
  · rintro rfl hl
    match vs, hl with
    | [a, b, c, d, e, f], _ => simp [fillF, layout, inBd, okV, pUid, pFlags, pBody]
  · rintro rfl hl
    match vs, hl with
    | [a], _ => simp [fillF, layout, inBd, okV, pUid]
  · rintro rfl hl
    match vs, hl with
    | [a, b], _ => simp [fillF, layout, inBd, okV, pUid, pFlags]
  · rintro rfl hl
    match vs, hl with
    | [a], _ => simp [fillF, layout, inBd, okV, pNext]
  · rintro rfl hl
    match vs, hl with
    | [a], _ => simp [fillF, layout, inBd, okV, pBody]
  · intro h1 h2 h3 h4 h5 h6 hl
    have : vs = [] := List.eq_nil_of_length_eq_zero hl
    subst this
    have hf : fillF k [] [] = k :: List.replicate 10 0 := rfl
    rw [hf]
    have : layout k = [] := by unfold layout; rw [if_neg h1, if_neg h2, if_neg h3, if_neg h4, if_neg h5, if_neg h6]
    simp [this, okV]
theorem rReadJ3_ok {s : St} {q4 q8 p4 p8 : Nat} {k : Int} {l : List UInt8} {vs4 : List Value} {data : List UInt8} {sl : Sl} {K : G_api_Rec → Int → HP} (h4 : At (s.w q4) p4 0 vs4) (hl4 : vs4.length = 12)
    (h8 : At (s.w q8) p8 0 (rowF (fillF k (layout k) ((takeV l (layout k) 0).map cl)) sl)) (hd : Ls tBy (s.w 0) data sl) (hk : 1 ≤ k ∧ k ≤ 6) (hq : q4 ≠ 0)
    (hE : okV (layout k) (takeV l (layout k) 0) = false → ∀ r s', Step [q4] s s' → K r 1 s'.H)
    (hO : okV (layout k) (takeV l (layout k) 0) = true → ∀ r s', Step [q4] s s' → RecAt (s'.w 0) ⟨fillF k (layout k) (takeV l (layout k) 0), data⟩ r → K r 0 s'.H) : rf14_Read_j3 p4 p8 K s.H := by
  unfold rf14_Read_j3
  refine ldRec h8 (fillF_len _ _ _) fun r f1 d1 => ?_
  have hvl : ((takeV l (layout k) 0).map cl).length = (layout k).length := by rw [List.length_map, takeV_len]
  have hfa := fill_all hvl
  refine within_ok (x := ⟨fillF k (layout k) ((takeV l (layout k) 0).map cl), data⟩) ⟨f1, by rw [d1]; exact hd⟩ (by show 1 ≤ List.getD _ 0 0 ∧ List.getD _ 0 0 ≤ 6; rw [hfa.2]; exact hk) fun s1 e1 => ?_
  rw [show (RecM.mk (fillF k (layout k) ((takeV l (layout k) 0).map cl)) data).kind = (fillF k (layout k) ((takeV l (layout k) 0).map cl)).getD 0 0 from rfl, hfa.1, okV_cl _ _ (layout_ok k)]
  have a4 := h4.mono (e1.view (by simp))
  have a8 := h8.mono (e1.view (by simp))
  refine bif_rule (fun h1 => ?_) (fun h1 => ?_)
  · have hf : okV (layout k) (takeV l (layout k) 0) = false := by simpa using h1
    exact recEnd (r := ⟨0, 0, 0, 0, 0, 0, 0, 0, 0, 0, 0, ⟨none, 0, 0⟩⟩) a4 hl4 hq fun s2 e2 => hE hf _ s2 (e1.n.trans e2)
  · have ht : okV (layout k) (takeV l (layout k) 0) = true := by simpa using h1
    refine ldRec a8 (fillF_len _ _ _) fun r2 f2 d2 => ?_
    refine recEnd a4 hl4 hq fun s2 e2 => ?_
    refine hO ht r2 s2 (e1.n.trans e2) ⟨?_, by rw [d2]; exact Ls.st (Ls.st hd e1) e2⟩
    rw [f2, cl_id _ _ (layout_ok k) (takeV_len _ _ _) ht]
theorem layout_nil {k : Int} : layout k = [] ↔ ¬(1 ≤ k ∧ k ≤ 6) := by
  refine layout_cases k (P := fun L => L = [] ↔ ¬(1 ≤ k ∧ k ≤ 6)) ?_ ?_ ?_ ?_ ?_ ?_ ?_ <;> intros <;> simp <;> omega
theorem rRead14_ok {s : St} {k : Int} {l : List UInt8} {sl : Sl} {K : G_api_Rec → Int → HP} (h : Ls tBy (s.w 0) l sl) (hl : l.length ≤ 1000000000)
    (hE : ∀ e r s', readR k l = .error e → e ≠ 0 → Step [] s s' → K r e s'.H)
    (hO : ∀ x r s', readR k l = .ok x → Step [] s s' → RecAt (s'.w 0) x r → K r 0 s'.H) : rf14_Read k sl K s.H := by
  unfold rf14_Read
  have hown : own s = 1152921504606846976 + 1152921504606846976 * s.H.size := rfl
  refine newc_k (own s) (by unfold own; omega) fun s1 p4 n1 a1 => ?_
  have e1 := n1.step
  have hz1 := e1.sz
  refine newc_0 fun s2 p9 n2 a9 => ?_
  have e2 := n2.step
  have a4 := a1.mono (e2.view (by simp))
  have es2 : Step [own s, own s + 1] s s2 := (e1.trans e2).n
  have hz2 := es2.sz
  have hrd : readR k l = readR k l := rfl
  conv at hrd => rhs; unfold readR
  have err : ∀ {e : Int} {s' : St}, readR k l = .error e → Step [own s, own s + 1] s s' → At (s'.w (own s)) p4 0 [.int .i64 0, .int .i64 0, .int .i64 0, .int .i64 0, .int .i64 0, .int .i64 0, .int .i64 0, .int .i64 0, .int .i64 0, .int .i64 0, .int .i64 0, .slice none 0 0] →
      sts (at0 p4) 0 [.int .i64 0, .int .i64 0, .int .i64 0, .int .i64 0, .int .i64 0, .int .i64 0, .int .i64 0, .int .i64 0, .int .i64 0, .int .i64 0, .int .i64 0, .slice none 0 0] (ld_G_api_Rec (at0 p4) fun r => K r e) s'.H := fun {e s'} he es ha =>
    recEnd (r := ⟨0, 0, 0, 0, 0, 0, 0, 0, 0, 0, 0, ⟨none, 0, 0⟩⟩) ha rfl (by omega) fun s3 e3 => hE e _ s3 he (readR_err he) ((es.tr e3 (S := [own s, own s + 1])).loc2 (Nat.le_refl _))
  have bad : ¬(1 ≤ k ∧ k ≤ 6) → rf14_Read_j1 k sl p4 ⟨some (at0 p9), 7, 7⟩ true K s2.H := fun hn => by
    unfold rf14_Read_j1
    refine bif_t ?_
    rw [if_pos (layout_nil.2 hn)] at hrd
    exact err hrd es2 a4
  refine bif_dec (fun h1 => ?_) (fun h1 => ?_)
  · exact bad (by omega)
  by_cases h2 : (6 : Int) < k
  · rw [decide_eq_true h2]; exact bad (by omega)
  rw [decide_eq_false h2]
  have hk : 1 ≤ k ∧ k ≤ 6 := by omega
  rw [if_neg (fun hn => layout_nil.1 hn hk)] at hrd
  unfold rf14_Read_j1
  refine bif_f ?_
  have hlen := h.len
  have hcap := h.cap
  have l9 : Ls (tI .i64) (s2.w 0) [0, 14, 29, 4, 5, 4, 4] ⟨some (at0 p9), 7, 7⟩ := Ls.row_ (fun x => [.int .i64 x]) (fun x => rfl) rfl a9
  have htot : ([0, 14, 29, 4, 5, 4, 4] : List Int)[k.toNat]? = some (total (layout k) : Int) ∧ total (layout k) ≤ 29 := by
    have : k = 1 ∨ k = 2 ∨ k = 3 ∨ k = 4 ∨ k = 5 ∨ k = 6 := by omega
    rcases this with rfl | rfl | rfl | rfl | rfl | rfl <;> exact ⟨rfl, by decide⟩
  refine ixL_rule l9 (by omega) (by simp; omega) fun bx ox x hx hel => ?_
  obtain ⟨ws, rfl, hat⟩ := hel
  rw [htot.1] at hx
  have := Option.some.inj hx
  subst this
  refine ldI_at0 hat rfl ?_
  have htl := htot.2
  generalize hT : total (layout k) = T at *
  refine bif_dec (fun h3 => ?_) (fun h3 => ?_)
  · rw [if_pos (by omega)] at hrd
    exact err hrd es2 a4
  rw [if_neg (by omega)] at hrd
  by_cases hn : k ≠ 6 ∧ T < l.length
  · rw [if_pos hn] at hrd
    rw [decide_eq_true (show (T : Int) < (sl.len : Nat) by omega), decide_eq_false hn.1]
    rw [cond_true]
    unfold rf14_Read_j2
    rw [Bool.not_false, cond_true]
    exact err hrd es2 a4
  · rw [if_neg hn] at hrd
    have hb : (bif decide ((T : Int) < (sl.len : Nat)) then rf14_Read_j2 k sl p4 T (!decide (k = 6)) K else rf14_Read_j2 k sl p4 T false K) = rf14_Read_j2 k sl p4 T false K := by
      by_cases h6 : k = 6
      · rw [decide_eq_true h6, Bool.not_true]
        cases decide ((T : Int) < (sl.len : Nat))
        · rw [cond_false]
        · rw [cond_true]
      · rw [decide_eq_false (show ¬ (T : Int) < (sl.len : Nat) by omega), cond_false]
    rw [hb]
    unfold rf14_Read_j2
    rw [cond_false, w64_id (by omega) (by omega)]
    refine bif_dec (fun h5 => ?_) (fun h5 => ?_)
    · have hk6 : k = 6 := by
        rcases Int.decEq k 6 with hk | hk
        · exact absurd ⟨hk, by omega⟩ hn
        · exact hk
      rw [if_pos ⟨hk6, by omega⟩] at hrd
      exact err hrd es2 a4
    rw [if_neg (by omega)] at hrd
    refine newc_k (own s + 1) (by omega) fun s3 p8 n3 a3 => ?_
    have e3 := n3.step
    have hz3 := e3.sz
    refine row_rule (own s + 1) a3 rfl (by simp [one]) (by omega) (.inl rfl) fun s5 e5 z5 a5 _ => ?_
    have a85 : At (s5.w (own s + 1)) p8 0 (rowF (k :: List.replicate 10 0) ⟨none, 0, 0⟩) := a5
    have a45 := (a4.mono (e3.view (by simp))).mono (e5.view (by simp))
    have es3 : Step [own s, own s + 1] s s3 := es2.trans e3.n
    have es5 : Step [own s, own s + 1] s s5 := es3.tr e5
    have h5' := Ls.st h es5
    have j3 : ∀ (s6 : St) (sd : Sl) (data : List UInt8), Step [own s + 1] s5 s6 → At (s6.w (own s + 1)) p8 0 (rowF (fillF k (layout k) ((takeV l (layout k) 0).map cl)) sd) → Ls tBy (s6.w 0) data sd → data = (if k = 6 then l.drop T else []) → rf14_Read_j3 p4 p8 K s6.H := fun s6 sd data e6 a86 hds hde => by
      have es6 : Step [own s, own s + 1] s s6 := es5.tr e6
      refine rReadJ3_ok (a45.mono (e6.view (by simp))) rfl a86 hds hk (by omega) ?_ ?_
      · intro hf r s7 e7
        rw [if_neg (by rw [hf]; simp)] at hrd
        exact hE 1 r s7 hrd (by decide) ((es6.tr e7 (S := [own s, own s + 1])).loc2 (Nat.le_refl _))
      · intro ht r s7 e7 hr
        rw [if_pos ht] at hrd
        refine hO _ r s7 hrd ((es6.tr e7 (S := [own s, own s + 1])).loc2 (Nat.le_refl _)) ?_
        rw [← hde]; exact hr
    refine bif_dec (fun k1 => ?_) (fun k1 => ?_)
    · subst k1
      refine setS h5' hl a85 rfl (by decide) (by omega) (by omega) fun s6 e6 l6 a6 => ?_
      refine setS l6 hl a6 rfl (by decide) (by omega) (by omega) fun s7 e7 l7 a7 => ?_
      refine setS l7 hl a7 rfl (by decide) (by omega) (by omega) fun s8 e8 l8 a8 => ?_
      refine setS l8 hl a8 rfl (by decide) (by omega) (by omega) fun s9 e9 l9 a9 => ?_
      exact j3 s9 ⟨none, 0, 0⟩ [] (((e6.trans e7).trans e8).trans e9) a9 Ls.nil_ rfl
    refine bif_dec (fun k2 => ?_) (fun k2 => ?_)
    · subst k2
      refine setS h5' hl a85 rfl (by decide) (by omega) (by omega) fun s6 e6 l6 a6 => ?_
      refine setS l6 hl a6 rfl (by decide) (by omega) (by omega) fun s7 e7 l7 a7 => ?_
      refine setS l7 hl a7 rfl (by decide) (by omega) (by omega) fun s8 e8 l8 a8 => ?_
      refine setS l8 hl a8 rfl (by decide) (by omega) (by omega) fun s9 e9 l9 a9 => ?_
      refine setS l9 hl a9 rfl (by decide) (by omega) (by omega) fun s10 e10 l10 a10 => ?_
      refine setS l10 hl a10 rfl (by decide) (by omega) (by omega) fun s11 e11 l11 a11 => ?_
      exact j3 s11 ⟨none, 0, 0⟩ [] (((((e6.trans e7).trans e8).trans e9).trans e10).trans e11) a11 Ls.nil_ rfl
    refine bif_dec (fun k3 => ?_) (fun k3 => ?_)
    · subst k3
      refine setS h5' hl a85 rfl (by decide) (by omega) (by omega) fun s6 e6 l6 a6 => ?_
      exact j3 s6 ⟨none, 0, 0⟩ [] e6 a6 Ls.nil_ rfl
    refine bif_dec (fun k4 => ?_) (fun k4 => ?_)
    · subst k4
      refine setS h5' hl a85 rfl (by decide) (by omega) (by omega) fun s6 e6 l6 a6 => ?_
      refine setS l6 hl a6 rfl (by decide) (by omega) (by omega) fun s7 e7 l7 a7 => ?_
      exact j3 s7 ⟨none, 0, 0⟩ [] (e6.trans e7) a7 Ls.nil_ rfl
    refine bif_dec (fun k5 => ?_) (fun k5 => ?_)
    · subst k5
      refine setS h5' hl a85 rfl (by decide) (by omega) (by omega) fun s6 e6 l6 a6 => ?_
      exact j3 s6 ⟨none, 0, 0⟩ [] e6 a6 Ls.nil_ rfl
    refine bif_dec (fun k6 => ?_) (fun k6 => ?_)
    · subst k6
      refine setS h5' hl a85 rfl (by decide) (by omega) (by omega) fun s6 e6 l6 a6 => ?_
      have ht4 : T = 4 := hT.symm
      subst ht4
      refine slL_rule l6 (by omega) (by omega) (by omega) (by omega) (Int.le_refl _) fun sD hD cD => ?_
      have eD : (l.take ((sl.len : Nat) : Int).toNat).drop (4 : Int).toNat = l.drop 4 := by rw [Int.toNat_natCast, hlen, List.take_of_length_le (Nat.le_refl _)]; rfl
      rw [eD] at hD
      refine fld_rule a6 (by simp [rowF]) rfl (by omega) (fun s7 e7 z7 a7 _ => ?_)
      rw [rowF_setD rfl] at a7
      exact j3 s7 sD (l.drop 4) (e6.trans e7) a7 (Ls.st hD e7) rfl
    · omega
end Go.Ph
end
section
set_option linter.all false
namespace Go.Ph
open S
/-- a record that was found -/
structure FoundM where
  at_ : Nat
  len : Nat
  x : RecM
def tFound : Ty FoundM := ⟨14, fun V x vs => ∃ sl : Sl, vs = .int .i64 x.at_ :: .int .i64 x.len :: rowF x.x.f sl ∧ x.x.f.length = 11 ∧ Ls tBy V x.x.data sl, by rintro _ _ _ ⟨_, rfl, h, _⟩; simp [rowF, h], by rintro _ _ _ _ h ⟨sl, rfl, h0, h1⟩; exact ⟨sl, rfl, h0, h1.mono h h⟩, by
  rintro _ _ _ ⟨sl, rfl, _, _⟩ v hv
  simp only [List.mem_cons] at hv
  rcases hv with rfl | rfl | hv
  · rfl
  · rfl
  · exact rowF_one _ _ v hv⟩
def found (f : FrM) : Option FoundM := match readR f.kind f.pay with | .ok x => some ⟨f.at_, f.len, x⟩ | .error _ => none
/-- the records that are found, and how many bytes stand in none -/
def founds (b : List UInt8) : List FoundM := (frames b).filterMap found
def sumLen (l : List FoundM) : Nat := (l.map (·.len)).sum
def broken (b : List UInt8) : Int := b.length - sumLen (founds b)
theorem sumLen_snoc (l : List FoundM) (x : FoundM) : sumLen (l ++ [x]) = sumLen l + x.len := by simp [sumLen]
structure FrsOk (b : List UInt8) (i : Nat) (l : List FrM) : Prop where
  len : l.length ≤ b.length - i
  sum : (l.map (·.len)).sum ≤ b.length - i
  all : ∀ f ∈ l, FraOk b f.at_ f
theorem scanN_ok (b : List UInt8) : ∀ (n i : Nat), i ≤ b.length → FrsOk b i (scanN b n i)
  | 0, i, h => ⟨by simp [scanN], by simp [scanN], by simp [scanN]⟩
  | n + 1, i, h => by
    rw [scanN]
    split
    · rename_i hi
      cases hf : frameAt b i with
      | error e =>
        have ih := scanN_ok b n (i + 1) (by omega)
        show FrsOk b i (scanN b n (i + 1))
        exact ⟨by have := ih.len; omega, by have := ih.sum; omega, ih.all⟩
      | ok f =>
        have fo := frameAt_ok hf
        have h1 := fo.pos
        have h2 := fo.in_
        have ih := scanN_ok b n (i + f.len) h2
        have h3 := ih.len
        have h4 := ih.sum
        refine ⟨by simp only [List.length_cons]; omega, by simp only [List.map_cons, List.sum_cons]; omega, ?_⟩
        intro g hg
        simp only [List.mem_cons] at hg
        rcases hg with rfl | hg
        · have := fo.at_; rw [this]; exact fo
        · exact ih.all g hg
    · exact ⟨by simp, by simp, by simp⟩
theorem frames_ok (b : List UInt8) : FrsOk b 0 (frames b) := scanN_ok b b.length 0 (Nat.zero_le _)
theorem filterMap_take {α β : Type} {g : α → Option β} {l : List α} {i : Nat} {x : α} (h : l[i]? = some x) : (l.take (i + 1)).filterMap g = (l.take i).filterMap g ++ (match g x with | some y => [y] | none => []) := by
  rw [List.take_succ, h, List.filterMap_append]
  cases hg : g x <;> simp [hg]
theorem sumF_le (l : List FrM) : sumLen (l.filterMap found) ≤ (l.map (·.len)).sum := by
  induction l with
  | nil => simp [sumLen]
  | cons f l ih =>
    rw [List.filterMap_cons]
    split
    · simp only [List.map_cons, List.sum_cons]; omega
    · rename_i y hy
      have : y.len = f.len := by
        unfold found at hy
        split at hy
        · cases hy; rfl
        · cases hy
      simp only [sumLen, List.map_cons, List.sum_cons] at ih ⊢
      omega
theorem sum_take_le (l : List FrM) (i : Nat) : ((l.take i).map (·.len)).sum ≤ (l.map (·.len)).sum := by
  conv => rhs; rw [← List.take_append_drop i l]
  rw [List.map_append, List.sum_append]; omega
theorem found_row {V : View} {x : RecM} {r : G_api_Rec} {a n : Nat} (h : RecAt V x r) : tFound.R V ⟨a, n, x⟩ [.int .i64 a, .int .i64 n, .int .i64 r.Kind, .int .i64 r.User, .int .i64 r.Seq, .int .i64 r.Next, .int .i64 r.Base, .int .i64 r.Uid, .int .i64 r.Time, .int .i64 r.Flags, .int .i64 r.Body, .int .i64 r.Size, .int .i64 r.Origin, .slice r.Data.a r.Data.len r.Data.cap] :=
  ⟨r.Data, by show _ = _ :: _ :: rowF x.f r.Data; rw [← h.f]; rfl, h.len, h.data⟩
theorem recScan_ok {C : Cx} {s : St} {q : Nat} {b : List UInt8} {sl : Sl} {K : Sl → Int → HP} (hb : Ls tBy (s.w 0) b sl) (hbl : b.length ≤ 1000000000) (hq0 : q ≠ 0) (hq : q < 2305843009213693952 + 1152921504606846976 * s.H.size)
    (hK : ∀ s' o, Step [q] s s' → Bld tFound q s' (founds b) o → K o (broken b) s'.H) : record_Scan C sl K s.H := by
  unfold record_Scan
  have hlen := hb.len
  have hown : own s = 1152921504606846976 + 1152921504606846976 * s.H.size := rfl
  refine Scan_ok hb hbl fun s1 o1 g1 e1 l1 => ?_
  have hz1 := e1.sz
  have hfo := frames_ok b
  have hfl := hfo.len
  have hfs := hfo.sum
  have hfa := hfo.all
  unfold broken founds at hK
  generalize frames b = F at *
  have hlF := l1.len
  refine loop_rule (ι := Nat × Sl) (fun x => [.slice x.2.a x.2.len x.2.cap, .int .i64 ((b.length : Int) - sumLen ((F.take x.1).filterMap found)), .int .i64 x.1]) (fun x s' => x.1 ≤ F.length ∧ Step [q] s s' ∧ Step [q] s1 s' ∧ Bld tFound q s' ((F.take x.1).filterMap found) x.2) (fun x _ => F.length - x.1) (0, ⟨none, 0, 0⟩) (by simp [sumLen, hlen]) ⟨Nat.zero_le _, e1.n, Step.refl, Bld.nil⟩ ?_
  rintro ⟨i, o⟩ s2 ⟨hi, e2, e12, b2⟩ G hG
  simp only at hi b2
  have hz2 := e2.sz
  simp only [List.getD_cons_zero, List.getD_cons_succ, asI_v, asL_v, asS_v, asB_v, asM_v, asP_v]
  refine bif_dec (fun hlt => ?_) (fun hlt => ?_)
  · refine ixL_rule (Ls.st l1 e12) (by omega) (by omega) fun bx ox f hf hel => ?_
    obtain ⟨ws, ⟨pl, rfl, hpl⟩, hat⟩ := hel
    rw [Int.toNat_natCast] at hf
    have hfm := List.mem_of_getElem? hf
    have fo := hfa f hfm
    have fo1 := fo.pay
    unfold ld_G_api_Frame
    repeat (first|refine nn_at ?_|refine ldI_at hat rfl ?_|refine ldB_at hat rfl ?_|refine ldS_at hat rfl ?_|refine ldP_at hat rfl ?_|refine ldM_at hat rfl ?_|refine ldL_at hat rfl ?_)
    refine newc_sts rfl (by simp [one]) fun s3 p7 e3 a7 => ?_
    repeat (first|refine nn_at ?_|refine ldI_at a7 rfl ?_|refine ldB_at a7 rfl ?_|refine ldS_at a7 rfl ?_|refine ldP_at a7 rfl ?_|refine ldM_at a7 rfl ?_|refine ldL_at a7 rfl ?_)
    have ft := filterMap_take (g := found) hf
    have hsum := sumF_le (F.take (i + 1))
    have hsum0 := sumF_le (F.take i)
    have hst := sum_take_le F (i + 1)
    have hst0 := sum_take_le F i
    have hcl : ((F.take i).filterMap found).length ≤ i := by
      have := List.length_filterMap_le found (F.take i)
      rw [List.length_take] at this; omega
    have hG' := hG
    refine Read_ok (Ls.st hpl e3) (by omega) ?_ ?_
    · intro e r s4 he hne e4
      refine newc_sts rfl (by simp [one]) fun s5 p8 e5 a8 => ?_
      refine bif_ndec (fun _ => ?_) (fun h => absurd h hne)
      unfold record_Scan_j1
      rw [w64_id (by omega) (by omega)]
      have hff : found f = none := by unfold found; rw [he]
      rw [hff, List.append_nil] at ft
      have e25 : Step [] s2 s5 := (e3.trans e4).trans e5
      have := hG' (i + 1, o) s5
      simp only [ft] at this
      exact this ⟨by omega, e2.trans e25.n, e12.trans e25.n, b2.st e25 (by simp)⟩ (by omega)
    · intro x r s4 he e4 hr
      refine newc_sts rfl (by simp [one]) fun s5 p8 e5 a8 => ?_
      refine bif_ndec (fun h => absurd rfl h) (fun _ => ?_)
      have hff : found f = some ⟨f.at_, f.len, x⟩ := by unfold found; rw [he]
      rw [hff] at ft
      have a75 := (a7.mono e4.v0).mono e5.v0
      repeat (first|refine nn_at ?_|refine ldI_at a75 rfl ?_|refine ldB_at a75 rfl ?_|refine ldS_at a75 rfl ?_|refine ldP_at a75 rfl ?_|refine ldM_at a75 rfl ?_|refine ldL_at a75 rfl ?_)
      unfold ld_G_api_Rec
      repeat (first|refine nn_at ?_|refine ldI_at a8 rfl ?_|refine ldB_at a8 rfl ?_|refine ldS_at a8 rfl ?_|refine ldP_at a8 rfl ?_|refine ldM_at a8 rfl ?_|refine ldL_at a8 rfl ?_)
      have e25 : Step [] s2 s5 := (e3.trans e4).trans e5
      have hz5 := e25.sz
      refine app1_rule (⟨f.at_, f.len, x⟩ : FoundM) (b2.st e25 (by simp)) (found_row (hr.st e5)) (fun s6 o6 e6 b6 => ?_) rfl rfl (by omega) (by omega) (by omega) (by omega)
      have a76 := a75.mono e6.v0
      repeat (first|refine nn_at ?_|refine ldI_at a76 rfl ?_|refine ldB_at a76 rfl ?_|refine ldS_at a76 rfl ?_|refine ldP_at a76 rfl ?_|refine ldM_at a76 rfl ?_|refine ldL_at a76 rfl ?_)
      unfold record_Scan_j1
      have hs : sumLen ((F.take i).filterMap found ++ [⟨f.at_, f.len, x⟩]) = sumLen ((F.take i).filterMap found) + f.len := sumLen_snoc _ _
      have hle : sumLen ((F.take (i + 1)).filterMap found) = sumLen ((F.take i).filterMap found) + f.len := by rw [ft]; exact hs
      have := hG' (i + 1, o6) s6
      simp only [ft, hs] at this
      rw [w64_id (n := _ - ((f.len : Nat) : Int)) (by omega) (by omega), w64_id (by omega) (by omega)]
      rw [show (b.length : Int) - (sumLen ((F.take i).filterMap found) : Int) - (f.len : Int) = (b.length : Int) - ((sumLen ((F.take i).filterMap found) + f.len : Nat) : Int) by omega]
      exact this ⟨by omega, e2.trans (e25.n.trans e6), e12.trans (e25.n.trans e6), b6⟩ (by omega)
  · have : i = F.length := by omega
    subst this
    rw [List.take_of_length_le (Nat.le_refl _)] at b2 ⊢
    exact hK s2 o e2 b2
theorem rScan14_ok {s : St} {b : List UInt8} {sl : Sl} {K : G_rf14_Lot → HP} (hb : Ls tBy (s.w 0) b sl) (hbl : b.length ≤ 1000000000)
    (hK : ∀ s' o, Step [] s s' → Ls tFound (s'.w 0) (founds b) o → K ⟨o, broken b⟩ s'.H) : rf14_Scan sl K s.H := by
  unfold rf14_Scan
  have hlen := hb.len
  have hown : own s = 1152921504606846976 + 1152921504606846976 * s.H.size := rfl
  refine newc_k (own s) (by unfold own; omega) fun s1 p2 n1 a1 => ?_
  have e1 := n1.step
  have hz1 := e1.sz
  refine newc_k (own s + 1) (by unfold own; omega) fun s2 p3 n2 a2 => ?_
  have e2 := n2.step
  have hz2 := e2.sz
  refine row_rule (own s + 1) a2 rfl (by simp [one]) (by omega) (.inl rfl) fun s3 e3 z3 a3 _ => ?_
  have a23 := (a1.mono (e2.view (by simp))).mono (e3.view (by simp))
  have es3 : Step [own s, own s + 1, own s + 2] s s3 := (e1.trans e2).n.tr e3 (A := [])
  refine rScan_ok (Ls.st hb es3) hbl fun s4 o4 g4 e4 l4 => ?_
  have a34 := a3.mono (e4.view (by simp))
  have a24 := a23.mono (e4.view (by simp))
  have es4 : Step [own s, own s + 1, own s + 2] s s4 := es3.trans e4.n
  have hz4 := es4.sz
  have hfo := frames_ok b
  have hfl := hfo.len
  have hfs := hfo.sum
  have hfa := hfo.all
  unfold broken founds at hK
  generalize frames b = F at *
  have hlF := l4.len
  refine loop_rule (ι := Nat) (fun x => [.int .i64 x]) (fun x s' => x ≤ F.length ∧ Step [own s, own s + 1, own s + 2] s s' ∧ Step [own s + 1, own s + 2] s4 s' ∧ ∃ o : Sl, Bld tFound (own s + 2) s' ((F.take x).filterMap found) o ∧ At (s'.w (own s + 1)) p3 0 [.slice o.a o.len o.cap, .int .i64 ((b.length : Int) - sumLen ((F.take x).filterMap found))]) (fun x _ => F.length - x) 0 rfl ⟨Nat.zero_le _, es4, Step.refl, ⟨none, 0, 0⟩, Bld.nil, by simpa [sumLen, hlen] using a34⟩ ?_
  rintro i s5 ⟨hi, e5, e45, o, b5, a5⟩ G hG
  have hz5 := e5.sz
  simp only [List.getD_cons_zero, List.getD_cons_succ, asI_v, asL_v, asS_v, asB_v, asM_v, asP_v]
  refine bif_dec (fun hlt => ?_) (fun hlt => ?_)
  · have F1 : ∀ {s' : St} {K' : Addr → HP}, Step [own s + 1, own s + 2] s4 s' → (∀ bx ox f pl, F[i]? = some f → Ls tBy (s'.w 0) f.pay pl → At (s'.w 0) bx ox [.int .i64 f.at_, .int .i64 f.len, .int .i64 f.kind, .slice pl.a pl.len pl.cap] → K' ⟨bx, ox, none⟩ s'.H) → ixL o4 4 (i : Int) K' s'.H := fun {s' K'} e hk => by
      refine ixL_rule (Ls.st l4 e) (by omega) (by omega) fun bx ox f hf hel => ?_
      obtain ⟨ws, ⟨pl, rfl, hpl⟩, hat⟩ := hel
      exact hk bx ox f pl (by simpa using hf) hpl hat
    refine F1 e45 fun bx ox f pl hf hpl hat => ?_
    refine ldI_at hat rfl ?_
    refine F1 e45 fun bx2 ox2 f2 pl2 hf2 hpl2 hat2 => ?_
    have : f2 = f := by rw [hf] at hf2; exact (Option.some.inj hf2).symm
    subst this
    refine ldL_at hat2 rfl ?_
    have hfm := List.mem_of_getElem? hf
    have fo := hfa f2 hfm
    have fo1 := fo.pay
    have ft := filterMap_take (g := found) hf
    have hsum := sumF_le (F.take (i + 1))
    have hsum0 := sumF_le (F.take i)
    have hst := sum_take_le F (i + 1)
    have hst0 := sum_take_le F i
    have hcl : ((F.take i).filterMap found).length ≤ i := by
      have := List.length_filterMap_le found (F.take i)
      rw [List.length_take] at this; omega
    have H1 : ∀ {s' : St}, Step [] s5 s' → (ldI .i64 ((⟨bx, ox, none⟩ : Addr).add 2) fun t _ => Value.int .i64 t = Value.int .i64 f2.kind) s'.H := fun e => ldI_at (hat.mono e.v0) rfl rfl
    have H2 : ∀ {s' : St}, Step [] s5 s' → (ldL ((⟨bx2, ox2, none⟩ : Addr).add 3) fun t _ => Value.slice t.a t.len t.cap = Value.slice pl2.a pl2.len pl2.cap) s'.H := fun e => ldL_at (hat2.mono e.v0) rfl rfl
    have jE : ∀ (s' : St) (e : Int) (p6 : Nat), readR f2.kind f2.pay = .error e → e ≠ 0 → Step [] s5 s' → rf14_Scan_j1 p2 p3 o4 i p6 e K G s'.H := fun s' e p6 he hne es => by
      unfold rf14_Scan_j1
      refine bif_dec (fun h => absurd h hne) (fun _ => ?_)
      unfold rf14_Scan_j2
      rw [w64_id (by omega) (by omega)]
      have hff : found f2 = none := by unfold found; rw [he]
      rw [hff, List.append_nil] at ft
      have := hG (i + 1) s'
      simp only [ft] at this
      exact this ⟨by omega, e5.trans es.n, e45.trans es.n, o, b5.st es (by simp), a5.mono (es.view (by simp))⟩ (by omega)
    have jO : ∀ (s' : St) (x : RecM) (r : G_api_Rec) (p6 : Nat), readR f2.kind f2.pay = .ok x → Step [] s5 s' → RecAt (s'.w 0) x r → At (s'.w 0) p6 0 [.int .i64 r.Kind, .int .i64 r.User, .int .i64 r.Seq, .int .i64 r.Next, .int .i64 r.Base, .int .i64 r.Uid, .int .i64 r.Time, .int .i64 r.Flags, .int .i64 r.Body, .int .i64 r.Size, .int .i64 r.Origin, .slice r.Data.a r.Data.len r.Data.cap] → rf14_Scan_j1 p2 p3 o4 i p6 0 K G s'.H := fun s' x r p6 he es hr a6 => by
      unfold rf14_Scan_j1
      refine bif_dec (fun _ => ?_) (fun h => absurd rfl h)
      have hff : found f2 = some ⟨f2.at_, f2.len, x⟩ := by unfold found; rw [he]
      rw [hff] at ft
      have a5' := a5.mono (es.view (k := own s + 1) (by simp))
      have hz' := es.sz
      refine ldL_at a5' rfl ?_
      refine F1 (e45.trans es.n) fun bx3 ox3 f3 pl3 hf3 hpl3 hat3 => ?_
      have : f3 = f2 := by rw [hf] at hf3; exact (Option.some.inj hf3).symm
      subst this
      refine ldI_at hat3 rfl ?_
      refine F1 (e45.trans es.n) fun bx4 ox4 f4 pl4 hf4 hpl4 hat4 => ?_
      have : f4 = f3 := by rw [hf] at hf4; exact (Option.some.inj hf4).symm
      subst this
      refine ldI_at hat4 rfl ?_
      unfold ld_G_api_Rec
      repeat (first|refine nn_at ?_|refine ldI_at a6 rfl ?_|refine ldB_at a6 rfl ?_|refine ldS_at a6 rfl ?_|refine ldP_at a6 rfl ?_|refine ldM_at a6 rfl ?_|refine ldL_at a6 rfl ?_)
      refine newc_k 1 (by omega) fun s7 p50 n7 a50 => ?_
      have e7 := n7.step
      have hz7 := e7.sz
      have a57 := a5'.mono (e7.view (by simp))
      refine held_rule (ldL_at a57 rfl rfl) ?_
      refine app_rule (kx := 1) ((b5.st es (by simp)).st e7 (by simp)) (Ls.single (tFound.mono e7.v0 (found_row hr)) a50) (fun s8 o8 e8 b8 => ?_) rfl rfl (by simp; omega) (by simp; omega) (by omega) (by omega)
      have a58 := a57.mono (e8.view (by simp))
      refine fld_rule a58 (by simp) rfl (by omega) (fun s9 e9 z9 a9 _ => ?_)
      refine ldI_at a9 rfl ?_
      have e59 : Step [own s + 1, own s + 2] s5 s9 := Step.tr (Step.trans (es.trans e7).n e8) e9
      refine F1 (e45.trans e59) fun bx5 ox5 f5 pl5 hf5 hpl5 hat5 => ?_
      have : f5 = f4 := by rw [hf] at hf5; exact (Option.some.inj hf5).symm
      subst this
      refine ldI_at hat5 rfl ?_
      refine fld_rule a9 (by simp) rfl (by omega) (fun s10 e10 z10 a10 _ => ?_)
      have e510 : Step [own s + 1, own s + 2] s5 s10 := e59.tr e10
      have e010 : Step [own s, own s + 1, own s + 2] s s10 := e5.tr e510
      unfold rf14_Scan_j2
      have hs : sumLen ((F.take i).filterMap found ++ [⟨f5.at_, f5.len, x⟩]) = sumLen ((F.take i).filterMap found) + f5.len := sumLen_snoc _ _
      have hle : sumLen ((F.take (i + 1)).filterMap found) = sumLen ((F.take i).filterMap found) + f5.len := by rw [ft]; exact hs
      rw [w64_id (by omega) (by omega)]
      have := hG (i + 1) s10
      simp only [ft, hs] at this
      refine this ⟨by omega, e010, e45.trans e510, o8, (b8.st e9 (by simp)).st e10 (by simp), ?_⟩ (by omega)
      rw [show (b.length : Int) - ((sumLen ((F.take i).filterMap found) + f5.len : Nat) : Int) = w64 ((b.length : Int) - (sumLen ((F.take i).filterMap found) : Int) - (f5.len : Int)) by rw [w64_id (by omega) (by omega)]; omega]
      exact a10
    refine both_rule ?_ ?_
    · refine rRead14_ok hpl2 (by omega) ?_ ?_
      · intro e r s6 he hne e6
        refine newc_k (own s5) (by have := e6.sz; unfold own; omega) fun s7 p6 n7 a7 => ?_
        have e67 := e6.trans n7.step
        refine held_rule (H1 e67) ?_
        refine held_rule (H2 e67) ?_
        refine row_rule 0 a7 rfl (by simp [one]) (by unfold own; omega) (.inr rfl) fun s8 e8 z8 a8 _ => ?_
        exact jE s8 e p6 he hne ((e67.n.trans e8).loc)
      · intro x r s6 he e6 hr
        refine newc_k (own s5) (by have := e6.sz; unfold own; omega) fun s7 p6 n7 a7 => ?_
        have e67 := e6.trans n7.step
        refine held_rule (H1 e67) ?_
        refine held_rule (H2 e67) ?_
        refine row_rule 0 a7 rfl (by simp [one]) (by unfold own; omega) (.inr rfl) fun s8 e8 z8 a8 _ => ?_
        exact jO s8 x r p6 he ((e67.n.trans e8).loc) ((hr.st n7.step).st e8) a8
    · refine newc_k (own s5) (by unfold own; omega) fun s6 p6 n6 a6 => ?_
      have e6 := n6.step
      refine held_rule (H1 e6) ?_
      refine held_rule (H2 e6) ?_
      refine rRead14_ok (Ls.st hpl2 e6) (by omega) ?_ ?_
      · intro e r s7 he hne e7
        refine row_rule 0 (a6.mono (e7.view (by simp))) rfl (by simp [one]) (by unfold own; omega) (.inr rfl) fun s8 e8 z8 a8 _ => ?_
        exact jE s8 e p6 he hne (((e6.trans e7).n.trans e8).loc)
      · intro x r s7 he e7 hr
        refine row_rule 0 (a6.mono (e7.view (by simp))) rfl (by simp [one]) (by unfold own; omega) (.inr rfl) fun s8 e8 z8 a8 _ => ?_
        exact jO s8 x r p6 he (((e6.trans e7).n.trans e8).loc) (hr.st e8) a8
  · have : i = F.length := by omega
    subst this
    rw [List.take_of_length_le (Nat.le_refl _)] at b5 a5
    unfold ld_G_rf14_Lot
    repeat (first|refine nn_at ?_|refine ldI_at a5 rfl ?_|refine ldB_at a5 rfl ?_|refine ldS_at a5 rfl ?_|refine ldP_at a5 rfl ?_|refine ldM_at a5 rfl ?_|refine ldL_at a5 rfl ?_)
    have a25 := a24.mono (e45.view (k := own s) (by simp <;> omega))
    refine row_rule (own s) a25 rfl (by simp [one]) (by omega) (.inl rfl) fun s6 e6 z6 a6 _ => ?_
    repeat (first|refine nn_at ?_|refine ldI_at a6 rfl ?_|refine ldB_at a6 rfl ?_|refine ldS_at a6 rfl ?_|refine ldP_at a6 rfl ?_|refine ldM_at a6 rfl ?_|refine ldL_at a6 rfl ?_)
    have e06 : Step [own s, own s + 1, own s + 2] s s6 := e5.tr e6
    exact hK s6 o (loc3 e06) (b5.st e6 (by simp)).ls
end Go.Ph
end
section
set_option linter.all false
namespace Go.Ph
open S
/-- a list that is built and changed: its cells, and the spare ones, have colour q -/
structure BldW {α : Type} (t : Ty α) (q : Nat) (s : St) (l : List α) (sl : Sl) : Prop where
  ls : LsW t (s.w 0) (s.w q) l sl
  own : ∀ a, sl.a = some a → ∀ i, l.length * t.n ≤ i → i < sl.cap * t.n → ∃ v, s.w q a.block (a.off + i) = some (.v v)
theorem BldW.nil {α : Type} {t : Ty α} {q : Nat} {s : St} : BldW t q s [] ⟨none, 0, 0⟩ := ⟨Ls.nil_, fun a ha => by cases ha⟩
theorem BldW.st {α : Type} {t : Ty α} {q : Nat} {s s' : St} {l : List α} {sl : Sl} {S : List Nat} (h : BldW t q s l sl) (hs : Step S s s') (hq : q ∉ S) : BldW t q s' l sl :=
  ⟨h.ls.st hs hq, fun a ha i h1 h2 => (h.own a ha i h1 h2).imp fun v hv => hs.view hq _ _ _ hv⟩
theorem appW2_rule {α : Type} {t : Ty α} {q kx : Nat} {s1 : St} {l : List α} {x : α} {sl : Sl} {b1 : Nat} {size bytes : Nat} {zero : Array Value} {K : Sl → HP}
    (hB1 : BldW t q s1 l sl) (hx1 : LsW t (s1.w 0) (s1.w kx) [x] ⟨some (at0 b1), 1, 1⟩)
    (hK1 : ∀ s' sl', Step [q] s1 s' → BldW t q s' (l ++ [x]) sl' → K sl' s'.H) (hn : size = t.n := by rfl) (hz : zero.size = t.n := by rfl)
    (hb : (l.length + 1) * bytes ≤ 140737488355328 := by first | omega | (simp; omega))
    (hl : l.length < 4611686018427387903 := by first | omega | (simp; omega)) (hq1 : q < 2305843009213693952 + 1152921504606846976 * s1.H.size := by first | omega | (unfold own; omega)) (hq0 : q ≠ 0 := by first | assumption | omega | (unfold own; omega)) :
    app size bytes zero sl ⟨some (at0 b1), 1, 1⟩ K s1.H := by
  subst hn
  obtain ⟨new, n1, n2, n3, n4⟩ := hx1.row
  have hsl := hB1.ls.len
  simp only [List.length_singleton, Nat.one_mul] at n1
  refine ⟨new, n2, fun hc => ?_, fun hc => ?_⟩
  · simp only at hc
    cases e : sl.a with
    | none => have := hB1.ls.nil e; omega
    | some a =>
      obtain ⟨g1, g2⟩ := hB1.ls.at_ a e
      have hown := hB1.own a e
      obtain ⟨b, o, sp⟩ := a
      simp at g1; subst g1
      simp only [add_at]
      simp only at hown g2
      rw [hsl]
      have hcap : (l.length + 1) * t.n ≤ sl.cap * t.n := Nat.mul_le_mul_right _ (by omega)
      rw [Nat.add_mul, Nat.one_mul] at hcap
      have hcells : ∀ j, j < new.length → ∃ v0, s1.w q b (o + l.length * t.n + j) = some (.v v0) := fun j hj => by
        have := hown (l.length * t.n + j) (by omega) (by omega)
        rwa [show o + l.length * t.n + j = o + (l.length * t.n + j) by omega]
      by_cases hz0 : new = []
      · subst hz0
        have hn0 : t.n = 0 := n1.symm
        simp only [sts]
        refine hK1 s1 _ Step.refl ⟨⟨by simp, by simp; omega, fun h => (by cases h), fun a ha => ?_⟩, fun a ha i hi1 hi2 => ?_⟩
        · simp at ha; subst ha
          refine ⟨rfl, fun j y hj => ?_⟩
          by_cases ej : j < l.length
          · rw [List.getElem?_append_left ej] at hj
            exact g2 j y hj
          · rw [List.getElem?_append_right (by omega)] at hj
            have hj0 : j - l.length = 0 := by
              have := (List.getElem?_eq_some_iff.1 hj).1
              simp at this; omega
            rw [hj0] at hj
            simp at hj; subst hj
            obtain ⟨ws, w1, w2⟩ := n4 (s1.w q) b (o + l.length * t.n) (fun i v hi => by simp at hi) 0 x rfl
            have := t.len w1
            have hws : ws = [] := List.eq_nil_of_length_eq_zero (by omega)
            subst hws
            exact ⟨[], w1, At.nil⟩
        · simp at ha; subst ha
          simp [hn0] at hi2
      have hlt0 : 0 < new.length := by cases new with | nil => exact absurd rfl hz0 | cons a l => simp
      have hqlt : q < 1152921504606846976 + 1152921504606846976 * s1.H.size := by
        obtain ⟨v0, hv0⟩ := hcells 0 hlt0
        rw [← (w_some hv0).2]; exact s1.wf _ _ (w_lt hv0)
      refine sts_rule (k := q) (k' := q) new (fun j hj => by rw [Nat.add_zero]; exact hcells j hj) n3 hqlt hq0 fun s' h' => ?_
      · have hst : Step [q] s1 s' := h'.step (q := q) (by simp) hq0 fun i hi => by
          obtain ⟨v, hv⟩ := hcells i hi
          rw [Nat.add_zero]
          exact (w_some hv).2
        have hkeep : ∀ i v, s1.w q b (o + i) = some (.v v) → ¬(l.length * t.n ≤ i ∧ i < l.length * t.n + t.n) → s'.w q b (o + i) = some (.v v) := fun i v hv hni => by
          have := h'.old b (o + i) (fun ⟨_, h1, h2⟩ => hni ⟨by omega, by omega⟩)
          exact w_mk (this.2.trans (w_some hv).1) (this.1.trans (w_some hv).2)
        refine hK1 s' _ hst ⟨⟨by simp, by simp; omega, fun h => (by cases h), fun a ha => ?_⟩, fun a ha i hi1 hi2 => ?_⟩
        · simp at ha; subst ha
          refine ⟨rfl, fun j y hj => ?_⟩
          simp only
          by_cases ej : j < l.length
          · rw [List.getElem?_append_left ej] at hj
            obtain ⟨ws, w1, w2⟩ := g2 j y hj
            have hwl := t.len w1
            refine ⟨ws, t.mono hst.v0 w1, fun a v hav => ?_⟩
            have hlt := (List.getElem?_eq_some_iff.1 hav).1
            have hu := w2 a v hav
            have : (j + 1) * t.n ≤ l.length * t.n := Nat.mul_le_mul_right _ (by omega)
            rw [Nat.add_mul] at this
            have := hkeep (j * t.n + a) v (by rwa [← Nat.add_assoc]) (by omega)
            rwa [← Nat.add_assoc] at this
          · rw [List.getElem?_append_right (by omega)] at hj
            have := n4 (s'.w q) b (o + l.length * t.n) (by have := h'.here; rwa [Nat.add_zero] at this) _ _ hj
            have e2 : o + j * t.n = o + l.length * t.n + (j - l.length) * t.n := by
              rw [Nat.sub_mul]
              have : l.length * t.n ≤ j * t.n := Nat.mul_le_mul_right _ (by omega)
              omega
            rw [e2]
            exact this.mono hst.v0 (VLe.refl _)
        · simp at ha; subst ha
          simp only at hi2 ⊢
          rw [List.length_append, Nat.add_mul] at hi1
          simp only [List.length_singleton, Nat.one_mul] at hi1
          obtain ⟨v, hv⟩ := hown i (by omega) hi2
          exact ⟨v, hkeep i v hv (by omega)⟩
  · simp only at hc
    refine ⟨growslice_fits hc (by rw [hsl]; exact hb), by simp only; omega, ?_⟩
    obtain ⟨old, o1, o2, o3, o4⟩ := hB1.ls.row
    refine ⟨old, o2, fun ty c hcc => ?_⟩
    refine newc_f (K := fun b => K ⟨some (at0 b), sl.len + 1, c⟩) (κ := fun i => q) (lo := 0) (hi := 0) (fun i => hq1) (fun i _ => by simp) fun s' b hnew => ?_
    have hst : Step [q] s1 s' := hnew.step.n
    have hat : At (s'.w q) b 0 (old ++ new) := fun i v hi => by
      have hlt := (List.getElem?_eq_some_iff.1 hi).1
      refine w_mk ?_ ?_
      · rw [Nat.zero_add, hnew.here, List.getElem?_append_left (by simpa using hlt), hi]; rfl
      · rw [Nat.zero_add, hnew.col]
    refine hK1 s' ⟨some (at0 b), sl.len + 1, c⟩ hst ⟨⟨by simp [hsl], by simp only at hcc ⊢; omega, fun h => (by cases h), fun a ha => ?_⟩, fun a ha i hi1 hi2 => ?_⟩
    · simp at ha; subst ha
      refine ⟨rfl, fun j y hj => ?_⟩
      simp only
      by_cases ej : j < l.length
      · rw [List.getElem?_append_left ej] at hj
        have := o4 (s'.w q) b 0 (fun i v hi => hat i v (by rw [List.getElem?_append_left (List.getElem?_eq_some_iff.1 hi).1]; exact hi)) j y hj
        exact this.mono hst.v0 (VLe.refl _)
      · rw [List.getElem?_append_right (by omega)] at hj
        have := n4 (s'.w q) b (l.length * t.n) (fun i v hi => by
          have := hat (old.length + i) v (by rw [List.getElem?_append_right (by omega)]; simpa using hi)
          rwa [Nat.zero_add, o1] at this) _ y hj
        have e2 : 0 + j * t.n = l.length * t.n + (j - l.length) * t.n := by
          rw [Nat.sub_mul]
          have : l.length * t.n ≤ j * t.n := Nat.mul_le_mul_right _ (by omega)
          omega
        rw [e2]
        exact this.mono hst.v0 (VLe.refl _)
    · simp at ha; subst ha
      simp only at hi2 ⊢
      have hlen : (old ++ new ++ zrow zero (c - (sl.len + 1))).length = c * t.n := by
        rw [List.length_append, List.length_append, zrowC_length, o1, n1, hz]
        have : c * t.n = (l.length + 1 + (c - (sl.len + 1))) * t.n := by
          congr 1
          simp only at hcc
          omega
        rw [this, Nat.add_mul, Nat.add_mul, Nat.one_mul]
      rw [Nat.zero_add]
      refine ⟨(old ++ new ++ zrow zero (c - (sl.len + 1)))[i]'(by omega), w_mk ?_ (hnew.col _)⟩
      rw [hnew.here, List.getElem?_eq_getElem (by simp only; omega)]; rfl
/-- the elements behind the first one -/
theorem slW_rule {α : Type} {t : Ty α} {q : Nat} {s : St} {l : List α} {sl : Sl} {size : Nat} {K : Sl → HP} {H : Heap} (h : BldW t q s l sl) (h1 : 1 ≤ l.length) (hn0 : 0 < t.n)
    (hK : ∀ sl', BldW t q s (l.drop 1) sl' → K sl' H) (hn : size = t.n := by rfl) : slL sl size 1 sl.len sl.cap K H := by
  subst hn
  have hlen := h.ls.len
  have hcap := h.ls.cap
  obtain ⟨b, o, ha⟩ := Ls.lt h.ls (j := 0) (by omega)
  obtain ⟨g1, g2⟩ := h.ls.at_ _ ha
  have hown := h.own _ ha
  simp only at g2 hown
  have e1 : ((sl.cap : Nat) : Int).toNat = sl.cap := Int.toNat_natCast _
  have e2 : ((sl.len : Nat) : Int).toNat = sl.len := Int.toNat_natCast _
  refine ⟨⟨by decide, by omega, by omega, Int.le_refl _⟩, hK _ ⟨⟨by simp; omega, by simp only [e1, e2]; omega, fun he => ?_, fun a ha' => ?_⟩, fun a ha' i hi1 hi2 => ?_⟩⟩
  · simp only [ha] at he
    split at he
    · simp at he
    · simp at he
  · simp only [ha, e1] at ha'
    by_cases hc1 : sl.cap = (1 : Int).toNat
    · rw [if_pos hc1] at ha'
      cases ha'
      refine ⟨rfl, fun j x hj => ?_⟩
      have hc1' : sl.cap = 1 := hc1
      rw [List.getElem?_eq_none (by simp; omega)] at hj
      cases hj
    · rw [if_neg hc1] at ha'
      simp only [Option.map_some, Option.some.injEq, add_at] at ha'
      subst ha'
      refine ⟨rfl, fun j x hj => ?_⟩
      rw [List.getElem?_drop] at hj
      have := g2 (1 + j) x hj
      simp only at this ⊢
      rwa [show o + (1 : Int).toNat * t.n + j * t.n = o + (1 + j) * t.n by rw [Nat.add_mul]; show o + 1 * t.n + _ = _; omega]
  · simp only [ha, e1] at ha' hi2
    have hmul : (sl.cap - (1 : Int).toNat) * t.n = sl.cap * t.n - t.n := by show (sl.cap - 1) * t.n = _; rw [Nat.sub_mul, Nat.one_mul]
    have hdl : (l.drop 1).length * t.n = l.length * t.n - t.n := by rw [List.length_drop, Nat.sub_mul, Nat.one_mul]
    have hge : t.n ≤ l.length * t.n := Nat.le_mul_of_pos_left _ (by omega)
    by_cases hc1 : sl.cap = (1 : Int).toNat
    · have hc1' : sl.cap = 1 := hc1
      rw [hmul, hc1'] at hi2
      omega
    · rw [if_neg hc1] at ha'
      simp only [Option.map_some, Option.some.injEq, add_at] at ha'
      subst ha'
      obtain ⟨v, hv⟩ := hown (t.n + i) (by omega) (by omega)
      refine ⟨v, ?_⟩
      simp only
      rwa [show o + (1 : Int).toNat * t.n + i = o + (t.n + i) by show o + 1 * t.n + i = _; omega]
end Go.Ph
end
section
set_option linter.all false
namespace Go.Ph
structure ContM where
  seq : Int
  size : Int
  broken : Int
  l : List FoundM
structure BoxM where
  user : Int
  bound : Int
  next : Int
  l : List ContM
def recNext (x : RecM) : Int := x.f.getD 3 0
def recBase (x : RecM) : Int := x.f.getD 4 0
def recUid (x : RecM) : Int := x.f.getD 5 0
/-- the next number with what a record tells -/
def after (n : Int) (x : RecM) : Int := max (max n (recNext x)) (recUid x + 1)
namespace P
def dat (d : RDisk) (e : EntM) : List UInt8 := match d.files[e.File.toNat]? with | some f => f.now.data.toList | none => []
def contOf (q : Int) (b : List UInt8) : ContM := ⟨q, b.length, broken b, founds b⟩
def conts (d : RDisk) (u : Nat) : List EntM → Option (List ContM)
  | [] => some []
  | e :: es => if seqOf u e.Name = 0 then none else if seqOf u e.Name < 0 then conts d u es else (conts d u es).map (contOf (seqOf u e.Name) (dat d e) :: ·)
def baseF (q : Int) (n : Int) (f : FoundM) : Int := if f.x.kind = 1 ∧ recBase f.x ≤ q then max n (recBase f.x) else n
def baseC (n : Int) (c : ContM) : Int := c.l.foldl (baseF c.seq) n
def base (l : List ContM) : Int := l.foldl baseC 0
def drops (u : Int) (from_ : Int) : RDisk → List ContM → RDisk × Int × List ContM
  | d, [] => (d, 0, [])
  | d, c :: cs => if c.seq < from_ then (if (R.drop d (cnameI u c.seq)).2 ≠ 0 then ((R.drop d (cnameI u c.seq)).1, (R.drop d (cnameI u c.seq)).2, []) else drops u from_ (R.drop d (cnameI u c.seq)).1 cs) else (d, 0, c :: cs)
def nextC (n : Int) (c : ContM) : Int := c.l.foldl (fun n f => after n f.x) n
def next (l : List ContM) : Int := l.foldl nextC 1
/-- the box that is opened, or why there is none -/
def openR (d : RDisk) (u bound : Int) : RDisk × Option BoxM × Int :=
  if d.down then (d, none, 11) else if ¬(1 ≤ u ∧ u ≤ 999) ∨ bound < 1 then (d, none, 1)
  else if (R.tidy d (ba (front u.toNat))).2 ≠ 0 then ((R.tidy d (ba (front u.toNat))).1, none, (R.tidy d (ba (front u.toNat))).2)
  else match conts (R.tidy d (ba (front u.toNat))).1 u.toNat (R.tidy d (ba (front u.toNat))).1.now with
    | none => ((R.tidy d (ba (front u.toNat))).1, none, 12)
    | some l => if (drops u (base l) (R.tidy d (ba (front u.toNat))).1 l).2.1 ≠ 0 then ((drops u (base l) (R.tidy d (ba (front u.toNat))).1 l).1, none, (drops u (base l) (R.tidy d (ba (front u.toNat))).1 l).2.1)
      else ((drops u (base l) (R.tidy d (ba (front u.toNat))).1 l).1, some ⟨u, bound, next (drops u (base l) (R.tidy d (ba (front u.toNat))).1 l).2.2, (drops u (base l) (R.tidy d (ba (front u.toNat))).1 l).2.2⟩, 0)
end P
theorem RInv.good {d : RDisk} (h : RInv d) : Good d.files.length d.now ∧ d.now.length ≤ 1024 := by
  obtain ⟨v, h⟩ := h
  have := h.ns
  rw [h.nodes.1] at this
  exact ⟨this.1.good, this.2⟩
theorem RInv.dat {d : RDisk} (h : RInv d) {e : EntM} (he : e ∈ d.now) : ∃ f, d.files[e.File.toNat]? = some f ∧ f.now.size ≤ 4194304 ∧ R.find d.now e.Name = e.File ∧ 0 ≤ e.File := by
  obtain ⟨v, h⟩ := h
  have hn := h.ns.1
  have hr := hn.good.rng e he
  have hm := (hn.mem e.Name e.File).2 he
  have hlt : e.File.toNat < v.nodes.length := by omega
  have hlt2 : e.File.toNat < d.files.length := by rw [← h.nodes.1]; exact hlt
  have := h.cont e.File.toNat _ _ (List.getElem?_eq_getElem hlt) (List.getElem?_eq_getElem hlt2) (.inl ⟨e.Name, by rw [Int.toNat_of_nonneg hr.1]; exact hm⟩)
  refine ⟨_, List.getElem?_eq_getElem hlt2, ?_, find_mem hn.good he, hr.1⟩
  rw [← this.1]
  exact (h.sizes _ (List.getElem_mem hlt)).seen
theorem dat_text {d : RDisk} (h : RInv d) {e : EntM} (he : e ∈ d.now) (hd : d.down = false) : (R.text d e.Name).2 = 0 ∧ (R.text d e.Name).1.data.toList = P.dat d e ∧ (P.dat d e).length ≤ 4194304 := by
  obtain ⟨f, h1, h2, h3, h4⟩ := h.dat he
  have hdat : P.dat d e = f.now.data.toList := by unfold P.dat; rw [h1]
  unfold R.text
  rw [hd, h3]
  simp only [Bool.false_eq_true, if_false]
  rw [if_neg (by omega)]
  refine ⟨rfl, ?_, by rw [hdat, ba_len]; exact h2⟩
  rw [hdat]; unfold R.data; rw [h3, h1]
/-! names and numbers -/
theorem pre_split {n : ByteArray} {u : Nat} (h : R.pre n (ba (front u)) = true) : n = ba (front u ++ n.data.toList.drop 5) := by
  rw [pre_list, ba_list, decide_eq_true_eq] at h
  obtain ⟨r, hr⟩ := h
  have : n.data.toList.drop 5 = r := by rw [← hr, List.drop_left' (front_len u)]
  rw [this, hr, list_ba]
theorem numberOf_pos {r : List UInt8} (h : numberOf r ≠ 0) : r.length = 8 ∧ (∀ c ∈ r, isDig c = true) ∧ numberOf r = num r ∧ 1 ≤ num r ∧ num r ≤ 99999999 ∧ low (num r) 8 = r := by
  unfold numberOf at h ⊢
  by_cases hc : r.length = 8 ∧ r.all isDig = true
  · rw [if_pos hc] at h ⊢
    have ha : ∀ c ∈ r, isDig c = true := List.all_eq_true.1 hc.2
    have h1 := num_lt r ha
    have h2 := low_num r ha
    rw [hc.1] at h1 h2
    exact ⟨hc.1, ha, rfl, by omega, by omega, h2⟩
  · rw [if_neg hc] at h; exact absurd rfl h
theorem seqOf_cases {u : Nat} {n : ByteArray} : (R.pre n (ba (front u)) = false ∧ seqOf u n = -1) ∨ (R.pre n (ba (front u)) = true ∧ seqOf u n = numberOf (n.data.toList.drop 5)) := by
  unfold seqOf
  cases hp : R.pre n (ba (front u))
  · exact .inl ⟨rfl, rfl⟩
  · refine .inr ⟨rfl, ?_⟩
    rw [if_pos rfl]
    split
    · rename_i h5
      have : n.data.toList.drop 5 = [] := List.drop_eq_nil_of_le (by rw [ba_len]; omega)
      rw [this]; rfl
    · rfl
theorem numberOf_nn (r : List UInt8) : 0 ≤ numberOf r := by unfold numberOf; split <;> omega
theorem seqOf_pos {u : Nat} {n : ByteArray} (hu : 1 ≤ u ∧ u ≤ 999) (h0 : seqOf u n ≠ 0) (h1 : ¬ seqOf u n < 0) : R.pre n (ba (front u)) = true ∧ numberOf (n.data.toList.drop 5) = seqOf u n ∧ cnameI u (seqOf u n) = n ∧ 1 ≤ seqOf u n ∧ seqOf u n ≤ 99999999 := by
  rcases seqOf_cases (u := u) (n := n) with ⟨a, b⟩ | ⟨a, b⟩
  · rw [b] at h1; exact absurd (by decide) h1
  · rw [b] at h0 ⊢
    obtain ⟨g1, g2, g3, g4, g5, g6⟩ := numberOf_pos h0
    refine ⟨a, rfl, ?_, by omega, by omega⟩
    rw [g3]
    unfold cnameI
    rw [if_pos ⟨by omega, by omega, by omega, by omega⟩]
    simp only [Int.toNat_natCast, cname, g6]
    exact (pre_split a).symm
theorem lex_num : ∀ (a b : List UInt8), a.length = b.length → (∀ c ∈ a, isDig c = true) → (∀ c ∈ b, isDig c = true) → a < b → num a < num b
  | [], [], _, _, _, h => by simp at h
  | [], d :: b, hl, _, _, _ => by simp at hl
  | c :: a, [], hl, _, _, _ => by simp at hl
  | c :: a, d :: b, hl, ha, hb, h => by
    have hla : a.length = b.length := by simpa using hl
    have ha' : ∀ c ∈ a, isDig c = true := fun x hx => ha x (by simp [hx])
    have hb' : ∀ c ∈ b, isDig c = true := fun x hx => hb x (by simp [hx])
    have hc := ha c (by simp)
    have hd := hb d (by simp)
    simp [isDig] at hc hd
    rw [num_cons, num_cons, hla]
    have h1 := num_lt a ha'
    have h2 := num_lt b hb'
    rw [hla] at h1
    rw [List.cons_lt_cons_iff] at h
    rcases h with h | ⟨rfl, h⟩
    · have hlt : c.toNat < d.toNat := UInt8.lt_iff_toNat_lt.1 h
      have : (c.toNat - 48 + 1) * 10 ^ b.length ≤ (d.toNat - 48) * 10 ^ b.length := Nat.mul_le_mul_right _ (by omega)
      rw [Nat.add_mul, Nat.one_mul] at this
      omega
    · have := lex_num a b hla ha' hb' h
      omega
theorem seq_lt {u : Nat} {m n : ByteArray} (hu : 1 ≤ u ∧ u ≤ 999) (h : slt m n = true) (hm0 : seqOf u m ≠ 0) (hm1 : ¬ seqOf u m < 0) (hn0 : seqOf u n ≠ 0) (hn1 : ¬ seqOf u n < 0) : seqOf u m < seqOf u n := by
  obtain ⟨m1, m2, m3, m4, m5⟩ := seqOf_pos hu hm0 hm1
  obtain ⟨n1, n2, n3, n4, n5⟩ := seqOf_pos hu hn0 hn1
  obtain ⟨a1, a2, a3, -, -, -⟩ := numberOf_pos (r := m.data.toList.drop 5) (by omega)
  obtain ⟨b1, b2, b3, -, -, -⟩ := numberOf_pos (r := n.data.toList.drop 5) (by omega)
  rw [← m2, ← n2, a3, b3]
  have e1 := pre_split m1
  have e2 := pre_split n1
  rw [slt_eq, decide_eq_true_eq] at h
  rw [e1, e2, ba_list, ba_list] at h
  have := lex_num _ _ (by rw [a1, b1]) a2 b2 (by
    have hf : ∀ (p x y : List UInt8), p ++ x < p ++ y → x < y := fun p => by
      induction p with
      | nil => intro x y h; exact h
      | cons c p ih =>
        intro x y h
        rw [List.cons_append, List.cons_append, List.cons_lt_cons_iff] at h
        rcases h with h | ⟨_, h⟩
        · exact absurd h (by rw [UInt8.lt_iff_toNat_lt]; omega)
        · exact ih x y h
    exact hf _ _ _ h)
  omega
/-- all numbers are small -/
def Small (f : List Int) : Prop := ∀ v ∈ f, 0 ≤ v ∧ v ≤ 9007199254740992
theorem Small.get {f : List Int} (h : Small f) (j : Nat) : 0 ≤ f.getD j 0 ∧ f.getD j 0 ≤ 9007199254740992 := by
  rw [List.getD_eq_getElem?_getD]
  cases e : f[j]? with
  | none => simp
  | some v => exact h v (List.mem_of_getElem? e)
theorem Small.set {f : List Int} (h : Small f) {j : Nat} {v : Int} (hv : 0 ≤ v ∧ v ≤ 9007199254740992) : Small (f.set j v) := by
  intro w hw
  rcases List.mem_or_eq_of_mem_set hw with h1 | rfl
  · exact h w h1
  · exact hv
theorem fill_small : ∀ (L : List PartM) (vs : List Int) (g : List Int), (∀ p ∈ L, PartOk p) → okV L vs = true → Small g → Small ((L.zip vs).foldl (fun g x => g.set x.1.j x.2) g)
  | [], vs, g, _, _, hg => by simpa using hg
  | p :: L, [], g, _, _, hg => by simpa using hg
  | p :: L, v :: vs, g, hL, ho, hg => by
    simp only [okV, List.zip_cons_cons, List.all_cons, Bool.and_eq_true, decide_eq_true_eq] at ho
    have hp := hL p (by simp)
    have h1 := hp.lo
    have h2 := hp.hi
    rw [List.zip_cons_cons, List.foldl_cons]
    exact fill_small L vs _ (fun q hq => hL q (by simp [hq])) ho.2 (hg.set ⟨by omega, by omega⟩)
structure RecOk (x : RecM) : Prop where
  len : x.f.length = 11
  small : Small x.f
  data : x.data.length ≤ 4194304
theorem readR_ok {k : Int} {l : List UInt8} {x : RecM} (h : readR k l = .ok x) (hl : l.length ≤ 4194304) : RecOk x := by
  unfold readR at h
  by_cases h1 : layout k = []
  · rw [if_pos h1] at h; cases h
  rw [if_neg h1] at h
  have hk : 1 ≤ k ∧ k ≤ 6 := by
    rcases Classical.em (1 ≤ k ∧ k ≤ 6) with h2 | h2
    · exact h2
    · exact absurd (layout_nil.2 h2) h1
  repeat (first | (split at h; first | cases h | skip) )
  all_goals first
    | cases h
    | skip
  all_goals (rename_i ho; refine ⟨fillF_len _ _ _, fill_small _ _ _ (layout_ok k) ho ?_, ?_⟩)
  all_goals first
    | (intro v hv; simp at hv; rcases hv with rfl | rfl <;> omega)
    | (simp only; split <;> simp <;> omega)
structure FOk (f : FoundM) : Prop where
  at_ : f.at_ ≤ 4194304
  len : f.len ≤ 4194304
  x : RecOk f.x
structure COk (c : ContM) : Prop where
  seq : 1 ≤ c.seq ∧ c.seq ≤ 99999999
  size : 0 ≤ c.size ∧ c.size ≤ 4194304
  broken : 0 ≤ c.broken ∧ c.broken ≤ 4194304
  len : c.l.length ≤ 4194304
  l : ∀ f ∈ c.l, FOk f
theorem founds_ok {b : List UInt8} (hb : b.length ≤ 4194304) : (founds b).length ≤ b.length ∧ (∀ f ∈ founds b, FOk f) ∧ 0 ≤ broken b ∧ broken b ≤ b.length := by
  have hf := frames_ok b
  have h1 := hf.len
  have h2 := hf.sum
  have h3 := sumF_le (frames b)
  refine ⟨?_, ?_, ?_, ?_⟩
  · have := List.length_filterMap_le found (frames b)
    unfold founds; omega
  · intro f hf'
    unfold founds at hf'
    rw [List.mem_filterMap] at hf'
    obtain ⟨g, hg, hgf⟩ := hf'
    have go := hf.all g hg
    have g1 := go.in_
    have g2 := go.pay
    unfold found at hgf
    split at hgf
    · rename_i x hx
      cases hgf
      exact ⟨by simp only; omega, by simp only; omega, readR_ok hx (by omega)⟩
    · cases hgf
  · unfold broken founds; omega
  · unfold broken; omega
theorem contOf_ok {q : Int} {b : List UInt8} (hb : b.length ≤ 4194304) (hq : 1 ≤ q ∧ q ≤ 99999999) : COk (P.contOf q b) := by
  obtain ⟨h1, h2, h3, h4⟩ := founds_ok hb
  refine ⟨hq, ?_, ?_, ?_, h2⟩
  · unfold P.contOf; simp only; omega
  · unfold P.contOf; simp only; omega
  · unfold P.contOf; simp only; omega
structure CsOk (l : List ContM) : Prop where
  all : ∀ c ∈ l, COk c
  sorted : l.Pairwise fun a b => a.seq < b.seq
theorem conts_ok {d : RDisk} {u : Nat} (hu : 1 ≤ u ∧ u ≤ 999) : ∀ (es : List EntM) (l : List ContM), (∀ e ∈ es, (P.dat d e).length ≤ 4194304) → (es.Pairwise fun a b => slt a.Name b.Name = true) → P.conts d u es = some l → CsOk l ∧ l.length ≤ es.length ∧ ∀ c ∈ l, ∃ e ∈ es, seqOf u e.Name = c.seq ∧ seqOf u e.Name ≠ 0 ∧ ¬ seqOf u e.Name < 0
  | [], l, _, _, h => by
    simp only [P.conts, Option.some.injEq] at h
    subst h
    exact ⟨⟨by simp, by simp⟩, by simp, by simp⟩
  | e :: es, l, hd, hs, h => by
    rw [List.pairwise_cons] at hs
    have hd' : ∀ e ∈ es, (P.dat d e).length ≤ 4194304 := fun x hx => hd x (by simp [hx])
    rw [P.conts] at h
    by_cases h0 : seqOf u e.Name = 0
    · rw [if_pos h0] at h; cases h
    rw [if_neg h0] at h
    by_cases h1 : seqOf u e.Name < 0
    · rw [if_pos h1] at h
      obtain ⟨g1, g2, g3⟩ := conts_ok hu es l hd' hs.2 h
      refine ⟨g1, by simp; omega, fun c hc => ?_⟩
      obtain ⟨e', m1, m2⟩ := g3 c hc
      exact ⟨e', by simp [m1], m2⟩
    · rw [if_neg h1, Option.map_eq_some_iff] at h
      obtain ⟨l', hl', rfl⟩ := h
      obtain ⟨g1, g2, g3⟩ := conts_ok hu es l' hd' hs.2 hl'
      obtain ⟨-, -, -, m4, m5⟩ := seqOf_pos hu h0 h1
      refine ⟨⟨?_, ?_⟩, by simp; omega, ?_⟩
      · intro c hc
        simp only [List.mem_cons] at hc
        rcases hc with rfl | hc
        · exact contOf_ok (hd e (by simp)) ⟨m4, m5⟩
        · exact g1.all c hc
      · rw [List.pairwise_cons]
        refine ⟨fun c hc => ?_, g1.sorted⟩
        obtain ⟨e', m1, m2, m3, m6⟩ := g3 c hc
        rw [← m2]
        exact seq_lt hu (hs.1 e' m1) h0 h1 m3 m6
      · intro c hc
        simp only [List.mem_cons] at hc
        rcases hc with rfl | hc
        · exact ⟨e, by simp, rfl, h0, h1⟩
        · obtain ⟨e', m1, m2⟩ := g3 c hc
          exact ⟨e', by simp [m1], m2⟩
/-! what is done to the disk -/
theorem begin_down {d : RDisk} (h : (R.begin d).2 = 0) : d.down = false ∧ (R.begin d).1.down = false := by
  unfold R.begin at h ⊢
  cases hd : d.down
  · rw [hd] at h
    simp only [Bool.false_eq_true, if_false] at h ⊢
    by_cases h1 : d.crash = 0
    · rw [if_pos h1] at h; simp at h
    · rw [if_neg h1] at h ⊢
      split at h <;> simp_all
  · rw [hd] at h; simp at h
theorem unlink_down {d : RDisk} {n : ByteArray} (h : (R.unlink d n).2 = 0) : d.down = false ∧ (R.unlink d n).1.down = false := by
  unfold R.unlink at h ⊢
  simp only at h ⊢
  by_cases h0 : (R.begin d).2 = 0
  · rw [if_neg (by simpa using h0)] at h ⊢
    have := begin_down h0
    split at h
    · cases h
    · rename_i hf
      rw [if_neg hf]
      exact this
  · rw [if_pos h0] at h; exact absurd h h0
theorem unlinkAll_down : ∀ (l : List ByteArray) (d : RDisk), d.down = false → (R.unlinkAll d l).2 = 0 → (R.unlinkAll d l).1.down = false
  | [], d, hd, h => hd
  | n :: l, d, hd, h => by
    rw [R.unlinkAll] at h ⊢
    by_cases h0 : (R.unlink d n).2 = 0
    · rw [if_neg (by simpa using h0)] at h ⊢
      exact unlinkAll_down l _ (unlink_down h0).2 h
    · rw [if_pos h0] at h; exact absurd h h0
theorem tidy_down {d : RDisk} {p : ByteArray} (hd : d.down = false) (h : (R.tidy d p).2 = 0) : (R.tidy d p).1.down = false := by
  unfold R.tidy at h ⊢
  rw [hd] at h ⊢
  exact unlinkAll_down _ _ hd h
theorem tidy_calls {d : RDisk} {p : ByteArray} (hn : d.now.length ≤ 1024) : (R.tidy d p).1.calls ≤ d.calls + 1024 := by
  unfold R.tidy
  split
  · simp only; omega
  · have h1 := R.unlinkAll_calls (R.tidies (d.now.map (·.Name)) p) d
    have h2 : (R.tidies (d.now.map (·.Name)) p).length ≤ 1024 := Nat.le_trans (List.length_filter_le _ _) (by simp; omega)
    omega
theorem drop_calls (d : RDisk) (n : ByteArray) : (R.drop d n).1.calls ≤ d.calls + 3 := by
  unfold R.drop
  split
  · simp only; omega
  · split
    · have := R.unlink_calls d n; omega
    · have h1 := R.unlink_calls d n
      have h2 := again_calls (c := 1) (fun d => R.syncDir_calls d) (R.unlink d n).1
      omega
/-- names are short -/
def Nm (d : RDisk) : Prop := ∀ e ∈ d.now, e.Name.size ≤ 32
theorem unlink_now (d : RDisk) (n : ByteArray) : ∀ e ∈ (R.unlink d n).1.now, e ∈ d.now := by
  intro e he
  unfold R.unlink at he
  simp only at he
  split at he
  · rwa [R.begin_now] at he
  · split at he
    · rwa [R.begin_now] at he
    · unfold R.turn at he
      simp only [R.begin_now] at he
      rw [do_unlink] at he
      split at he
      · exact he
      · exact (List.mem_filter.1 he).1
theorem syncDir_now (d : RDisk) : (R.syncDir d).1.now = d.now := by
  unfold R.syncDir
  simp only
  split
  · exact R.begin_now d
  · exact R.begin_now d
theorem again_now (d : RDisk) : (R.again R.syncDir d).1.now = d.now := by
  unfold R.again
  split
  · rw [syncDir_now, syncDir_now]
  · exact syncDir_now d
theorem Nm.unlink {d : RDisk} (h : Nm d) (n : ByteArray) : Nm (R.unlink d n).1 := fun e he => h e (unlink_now d n e he)
theorem Nm.unlinkAll : ∀ (l : List ByteArray) {d : RDisk}, Nm d → Nm (R.unlinkAll d l).1
  | [], d, h => h
  | n :: l, d, h => by
    rw [R.unlinkAll]
    split
    · exact h.unlink n
    · exact Nm.unlinkAll l (h.unlink n)
theorem Nm.tidy {d : RDisk} (h : Nm d) (p : ByteArray) : Nm (R.tidy d p).1 := by
  unfold R.tidy
  split
  · exact h
  · exact Nm.unlinkAll _ h
end Go.Ph
end
section
set_option linter.all false
namespace Go.Ph
open S
theorem Nodes.st2 {k : Nat} {s s' : St} {l : List VNode} {ps : List (Option Addr)} {S : List Nat} (h : Nodes k s l ps) (hs : Step S s s') (hl : l.length ≤ 1000000000000) (hS : ∀ x ∈ S, x ∉ dk k) : Nodes k s' l ps :=
  ⟨h.len, fun j x hx => by
    obtain ⟨p, h1, h2⟩ := h.at_ j x hx
    have hj := (List.getElem?_eq_some_iff.1 hx).1
    exact ⟨p, h1, h2.st hs (fun hm => hS _ hm (by rw [mem_dk]; omega)) (fun hm => hS _ hm (by rw [mem_dk]; omega))⟩⟩
theorem VDp.st2 {k : Nat} {s s' : St} {b : Nat} {v : VDisk} {ps : List (Option Addr)} {S : List Nat} (h : VDp k s b v ps) (hs : Step S s s') (hl : v.nodes.length ≤ 1000000000000) (hS : ∀ x ∈ S, x ∉ dk k) : VDp k s' b v ps := by
  obtain ⟨k0, ⟨n, m, ms, mu, h1, h2, h3, ⟨es, cl, h4⟩, h5⟩, h6⟩ := h
  have g : ∀ j, j < 100 → k + j ∉ S := fun j hj hm => hS _ hm (by rw [mem_dk]; omega)
  exact ⟨k0, ⟨n, m, ms, mu, h1.mono (hs.view (by simpa using g 0 (by decide))), h2.st hs (g 1 (by decide)), h3.st hs (g 2 (by decide)), ⟨es, cl, h4.st hs (g 3 (by decide))⟩, h5.st hs (g 4 (by decide))⟩, h6.st2 hs hl hS⟩
theorem DV.st2 {k : Nat} {s s' : St} {b : Nat} {d : RDisk} {S : List Nat} (h : DV k s b d) (hs : Step S s s') (hc : d.calls < 1000000000000 - 1024) (hS : ∀ x ∈ S, x ∉ dk k) : DV k s' b d := by
  obtain ⟨v, ps, h1, h2⟩ := h
  have := h2.nodes
  exact ⟨v, ps, h1.st2 hs (by omega) hS, h2⟩
theorem Ko.own {k j : Nat} {s : St} (h : Ko k s) (hj : j < 16) : own s + j ∉ dk k := by
  unfold Ko at h; rw [mem_dk]; omega
/-! rows of things that were found -/
theorem ldRecO {s : St} {q b o : Nat} {f : List Int} {sl : Sl} {K : G_api_Rec → HP} (h : At (s.w q) b o (rowF f sl)) (hf : f.length = 11) (hK : ∀ r, fieldsOf r = f → r.Data = sl → K r s.H) : ld_G_api_Rec ⟨b, o, none⟩ K s.H := by
  match f, hf, h, hK with
  | [a0, a1, a2, a3, a4, a5, a6, a7, a8, a9, a10], _, h, hK =>
    unfold ld_G_api_Rec
    repeat (first|refine nn_at ?_|refine ldI_at h rfl ?_|refine ldB_at h rfl ?_|refine ldS_at h rfl ?_|refine ldP_at h rfl ?_|refine ldM_at h rfl ?_|refine ldL_at h rfl ?_)
    exact hK ⟨a0, a1, a2, a3, a4, a5, a6, a7, a8, a9, a10, sl⟩ rfl rfl
def rowFd (f : FoundM) (sl : Sl) : List Value := .int .i64 f.at_ :: .int .i64 f.len :: rowF f.x.f sl
theorem At.tail2 {V : View} {b o : Nat} {x y : Value} {vs : List Value} (h : At V b o (x :: y :: vs)) : At V b (o + 2) vs := fun i v hi => by
  have := h (i + 2) v (by simpa using hi)
  rwa [show o + (i + 2) = o + 2 + i by omega] at this
theorem ldFound {s : St} {q b o : Nat} {f : FoundM} {sl : Sl} {K : G_api_Found → HP} (h : At (s.w q) b o (rowFd f sl)) (hf : f.x.f.length = 11) (hK : ∀ r : G_api_Found, [Value.int .i64 r.At, .int .i64 r.Len, .int .i64 r.Rec_Kind, .int .i64 r.Rec_User, .int .i64 r.Rec_Seq, .int .i64 r.Rec_Next, .int .i64 r.Rec_Base, .int .i64 r.Rec_Uid, .int .i64 r.Rec_Time, .int .i64 r.Rec_Flags, .int .i64 r.Rec_Body, .int .i64 r.Rec_Size, .int .i64 r.Rec_Origin, .slice r.Rec_Data.a r.Rec_Data.len r.Rec_Data.cap] = rowFd f sl → K r s.H) : ld_G_api_Found ⟨b, o, none⟩ K s.H := by
  obtain ⟨a, n, ⟨fl, dt⟩⟩ := f
  simp only at hf
  match fl, hf, h, hK with
  | [a0, a1, a2, a3, a4, a5, a6, a7, a8, a9, a10], _, h, hK =>
    unfold ld_G_api_Found
    repeat (first|refine nn_at ?_|refine ldI_at h rfl ?_|refine ldB_at h rfl ?_|refine ldS_at h rfl ?_|refine ldP_at h rfl ?_|refine ldM_at h rfl ?_|refine ldL_at h rfl ?_)
    exact hK ⟨a, n, a0, a1, a2, a3, a4, a5, a6, a7, a8, a9, a10, sl⟩ rfl
theorem ldF2 {s : St} {q b j : Nat} {f : FoundM} {sl : Sl} {K : Int → HP} (h : At (s.w q) b 0 (rowFd f sl)) (hj : j < f.x.f.length) (hK : K (f.x.f.getD j 0) s.H) : ldI .i64 (((at0 b).add 2).add j) K s.H := by
  rw [at0_add]
  have h2 := h.tail2
  rw [Nat.zero_add] at h2
  exact ldI_at h2 (rowF_get hj) hK
theorem ldF2o {s : St} {q b o j : Nat} {f : FoundM} {sl : Sl} {K : Int → HP} (h : At (s.w q) b o (rowFd f sl)) (hj : j < f.x.f.length) (hK : K (f.x.f.getD j 0) s.H) : ldI .i64 (((⟨b, o, none⟩ : Addr).add 2).add j) K s.H := by
  rw [add_at b o 2]
  exact ldI_at h.tail2 (rowF_get hj) hK
theorem ldFr {s : St} {q b o : Nat} {f : FoundM} {sl : Sl} {K : G_api_Rec → HP} (h : At (s.w q) b o (rowFd f sl)) (hf : f.x.f.length = 11) (hK : ∀ r, fieldsOf r = f.x.f → r.Data = sl → K r s.H) : ld_G_api_Rec ((⟨b, o, none⟩ : Addr).add 2) K s.H := by
  rw [add_at]
  exact ldRecO h.tail2 hf hK
/-! containers -/
def cvRow (x : G_dbox_container) : List Value := [.int .i64 x.seq, .int .i64 x.size, .int .i64 x.broken, .slice x.l.a x.l.len x.l.cap]
def tCV : Ty G_dbox_container := ⟨4, fun _ x vs => vs = cvRow x, by rintro _ _ _ rfl; rfl, fun _ h => h, by rintro _ _ _ rfl; simp [one, cvRow]⟩
def tCont : Ty ContM := ⟨4, fun V x vs => ∃ sl : Sl, vs = [.int .i64 x.seq, .int .i64 x.size, .int .i64 x.broken, .slice sl.a sl.len sl.cap] ∧ Ls tFound V x.l sl, by rintro _ _ _ ⟨_, rfl, _⟩; rfl, by rintro _ _ _ _ h ⟨sl, rfl, h1⟩; exact ⟨sl, rfl, h1.mono h h⟩, by rintro _ _ _ ⟨_, rfl, _⟩; simp [one]⟩
structure CvAt (V : View) (m : ContM) (c : G_dbox_container) : Prop where
  seq : c.seq = m.seq
  size : c.size = m.size
  broken : c.broken = m.broken
  l : Ls tFound V m.l c.l
theorem CvAt.mono {V V' : View} {m : ContM} {c : G_dbox_container} (h : CvAt V m c) (hv : VLe V V') : CvAt V' m c := ⟨h.1, h.2, h.3, h.4.mono hv hv⟩
structure All2 {α β : Type} (R : α → β → Prop) (l : List α) (m : List β) : Prop where
  len : l.length = m.length
  all : ∀ (i : Nat) (x : α) (y : β), l[i]? = some x → m[i]? = some y → R x y
theorem All2.nil {α β : Type} {R : α → β → Prop} : All2 R [] [] := ⟨rfl, fun i x y h => by simp at h⟩
theorem All2.snoc {α β : Type} {R : α → β → Prop} {l : List α} {m : List β} {x : α} {y : β} (h : All2 R l m) (hx : R x y) : All2 R (l ++ [x]) (m ++ [y]) := by
  refine ⟨by simp [h.len], fun i a b ha hb => ?_⟩
  by_cases e : i < l.length
  · rw [List.getElem?_append_left e] at ha
    rw [List.getElem?_append_left (by rw [← h.len]; exact e)] at hb
    exact h.all i a b ha hb
  · rw [List.getElem?_append_right (by omega)] at ha
    rw [List.getElem?_append_right (by rw [← h.len]; omega), ← h.len] at hb
    have := (List.getElem?_eq_some_iff.1 ha).1
    simp at this
    have e0 : i - l.length = 0 := by omega
    rw [e0] at ha hb
    simp at ha hb
    subst ha hb
    exact hx
theorem All2.drop {α β : Type} {R : α → β → Prop} {l : List α} {m : List β} (h : All2 R l m) (n : Nat) : All2 R (l.drop n) (m.drop n) :=
  ⟨by simp [h.len], fun i x y hx hy => by rw [List.getElem?_drop] at hx hy; exact h.all _ _ _ hx hy⟩
theorem All2.imp {α β : Type} {R R' : α → β → Prop} {l : List α} {m : List β} (h : All2 R l m) (hr : ∀ x y, R x y → R' x y) : All2 R' l m := ⟨h.len, fun i x y hx hy => hr _ _ (h.all i x y hx hy)⟩
/-- the program's box of colours k, k + 1, k + 2 stands in block b -/
structure BoxP (k : Nat) (s : St) (b : Nat) (x : BoxM) (dp : Option Addr) (sl : Sl) (cs : List G_dbox_container) : Prop where
  k0 : k ≠ 0
  row : At (s.w k) b 0 [.pointer dp, .int .i64 x.user, .int .i64 x.bound, .int .i64 x.next, .slice sl.a sl.len sl.cap]
  ls : BldW tCV (k + 1) s cs sl
  all : All2 (CvAt (s.w 0)) x.l cs
  last : ∀ m c, x.l.getLast? = some m → cs.getLast? = some c → Bld tFound (k + 2) s m.l c.l
def BoxV (k : Nat) (s : St) (b : Nat) (x : BoxM) (dp : Option Addr) : Prop := ∃ sl cs, BoxP k s b x dp sl cs
theorem BoxP.st {k : Nat} {s s' : St} {b : Nat} {x : BoxM} {dp : Option Addr} {sl : Sl} {cs : List G_dbox_container} {S : List Nat} (h : BoxP k s b x dp sl cs) (hs : Step S s s') (h0 : k ∉ S) (h1 : k + 1 ∉ S) (h2 : k + 2 ∉ S) : BoxP k s' b x dp sl cs :=
  ⟨h.k0, h.row.mono (hs.view h0), h.ls.st hs h1, h.all.imp fun _ _ g => g.mono hs.v0, fun m c hm hc => (h.last m c hm hc).st hs h2⟩
theorem BoxV.st {k : Nat} {s s' : St} {b : Nat} {x : BoxM} {dp : Option Addr} {S : List Nat} (h : BoxV k s b x dp) (hs : Step S s s') (h0 : k ∉ S) (h1 : k + 1 ∉ S) (h2 : k + 2 ∉ S) : BoxV k s' b x dp := by
  obtain ⟨sl, cs, h⟩ := h
  exact ⟨sl, cs, h.st hs h0 h1 h2⟩
theorem cont_ls {V W : View} {l : List ContM} {cs : List G_dbox_container} {sl : Sl} (h : LsW tCV V W cs sl) (hc : All2 (CvAt V) l cs) : LsW tCont V W l sl :=
  ⟨by rw [h.len, hc.len], h.cap, h.nil, fun a ha => ⟨(h.at_ a ha).1, fun j x hx => by
    have hj := (List.getElem?_eq_some_iff.1 hx).1
    obtain ⟨c, hcj⟩ : ∃ c, cs[j]? = some c := ⟨_, List.getElem?_eq_getElem (by rw [← hc.len]; exact hj)⟩
    obtain ⟨vs, rfl, h2⟩ := (h.at_ a ha).2 j c hcj
    have g := hc.all j x c hx hcj
    exact ⟨_, ⟨c.l, by show cvRow c = _; unfold cvRow; rw [g.seq, g.size, g.broken], g.l⟩, h2⟩⟩⟩
theorem BoxP.lw {k : Nat} {s : St} {b : Nat} {x : BoxM} {dp : Option Addr} {sl : Sl} {cs : List G_dbox_container} (h : BoxP k s b x dp sl cs) : LsW tCont (s.w 0) (s.w (k + 1)) x.l sl := cont_ls h.ls.ls h.all
theorem foldl_take {α β : Type} {f : β → α → β} {l : List α} {i : Nat} {x : α} {a : β} (h : l[i]? = some x) : (l.take (i + 1)).foldl f a = f ((l.take i).foldl f a) x := by
  rw [List.take_succ, h, List.foldl_append]; rfl
theorem dbase_ok {s : St} {q : Nat} {l : List ContM} {sl : Sl} {K : Int → HP} (h : LsW tCont (s.w 0) (s.w q) l sl) (hl : l.length ≤ 1000000000) (hc : ∀ c ∈ l, COk c) (hK : ∀ s', Step [] s s' → K (P.base l) s'.H) : dbox_base sl K s.H := by
  unfold dbox_base
  have hlen := h.len
  refine loop_rule (fun i : Nat => [.int .i64 (P.base (l.take i)), .int .i64 i]) (fun i s' => i ≤ l.length ∧ Step [] s s') (fun i _ => l.length - i) 0 rfl ⟨Nat.zero_le _, Step.refl⟩ ?_
  rintro i s1 ⟨hi, e1⟩ G hG
  simp only [List.getD_cons_zero, List.getD_cons_succ, asI_v, asL_v, asS_v, asB_v, asM_v, asP_v]
  refine bif_dec (fun hlt => ?_) (fun hlt => ?_)
  · refine ixL_rule (h.st e1 (by simp)) (by omega) (by omega) fun bx ox c hx hel => ?_
    rw [Int.toNat_natCast] at hx
    obtain ⟨vs, ⟨scl, rfl, hcl⟩, hat⟩ := hel
    have co := hc c (List.mem_of_getElem? hx)
    unfold ld_G_dbox_container
    repeat (first|refine nn_at ?_|refine ldI_at hat rfl ?_|refine ldB_at hat rfl ?_|refine ldS_at hat rfl ?_|refine ldP_at hat rfl ?_|refine ldM_at hat rfl ?_|refine ldL_at hat rfl ?_)
    refine newc_sts rfl (by simp [one]) fun s2 p5 e2 a5 => ?_
    repeat (first|refine nn_at ?_|refine ldI_at a5 rfl ?_|refine ldB_at a5 rfl ?_|refine ldS_at a5 rfl ?_|refine ldP_at a5 rfl ?_|refine ldM_at a5 rfl ?_|refine ldL_at a5 rfl ?_)
    have hcl2 := Ls.st hcl e2
    have hll := hcl2.len
    have hcl0 := co.len
    have hG' := hG (i + 1)
    have hbt : P.base (l.take (i + 1)) = P.baseC (P.base (l.take i)) c := foldl_take hx
    rw [hbt] at hG'
    refine loop_rule (fun j : Nat => [.int .i64 ((c.l.take j).foldl (P.baseF c.seq) (P.base (l.take i))), .int .i64 j]) (fun j s' => j ≤ c.l.length ∧ Step [] s2 s') (fun j _ => c.l.length - j) 0 rfl ⟨Nat.zero_le _, Step.refl⟩ ?_
    rintro j s3 ⟨hj, e3⟩ G2 hG2
    simp only [List.getD_cons_zero, List.getD_cons_succ, asI_v, asL_v, asS_v, asB_v, asM_v, asP_v]
    refine bif_dec (fun hlt2 => ?_) (fun hlt2 => ?_)
    · refine ixL_rule (Ls.st hcl2 e3) (by omega) (by omega) fun bx2 ox2 f hf hel2 => ?_
      rw [Int.toNat_natCast] at hf
      obtain ⟨vs, ⟨sd, rfl, hf11, hd⟩, hat2⟩ := hel2
      refine ldFound (f := f) hat2 hf11 fun r hr => ?_
      rw [hr]
      refine newc_sts (by rw [rowFd, List.length_cons, List.length_cons, rowF_len, hf11]; rfl) (fun v hv => tFound.one (V := s3.w 0) (x := f) ⟨sd, rfl, hf11, hd⟩ v hv) fun s4 p7 e4 a7 => ?_
      have hG2' := hG2 (j + 1) s4 ⟨by omega, e3.trans e4⟩ (by omega)
      rw [foldl_take hf] at hG2'
      refine ldF2 a7 (by omega) ?_
      have nx : ∀ {v : Int}, P.baseF c.seq ((c.l.take j).foldl (P.baseF c.seq) (P.base (l.take i))) f = v → G2 [.int .i64 v, .int .i64 (w64 ((j : Int) + 1))] s4.H := fun hv => by
        rw [w64_id (by omega) (by omega), ← hv]; exact hG2'
      have nb : ¬(f.x.kind = 1 ∧ recBase f.x ≤ c.seq) → dbox_base_j1 ((c.l.take j).foldl (P.baseF c.seq) (P.base (l.take i))) p5 p7 sl sl.len i scl scl.len j false K G G2 s4.H := fun hn => by
        unfold dbox_base_j1 dbox_base_j2
        refine bif_f (nx ?_)
        unfold P.baseF; rw [if_neg hn]
      refine bif_dec (fun h1 => ?_) (fun h1 => ?_)
      · refine ldF2 a7 (by omega) ?_
        refine ldI_at ((a5.mono e3.v0).mono e4.v0) rfl ?_
        by_cases h2 : f.x.f.getD 4 0 ≤ c.seq
        · rw [decide_eq_true h2]
          unfold dbox_base_j1 dbox_base_j2
          refine bif_t ?_
          refine ldF2 a7 (by omega) ?_
          refine nx ?_
          unfold P.baseF
          rw [if_pos ⟨h1, h2⟩]
          unfold recBase
          split <;> omega
        · rw [decide_eq_false h2]
          exact nb fun hh => h2 hh.2
      · exact nb fun hh => h1 hh.1
    · have : j = c.l.length := by omega
      subst this
      rw [List.take_of_length_le (Nat.le_refl _), w64_id (by omega) (by omega)]
      exact hG' s3 ⟨by omega, (e1.trans e2).trans e3⟩ (by omega)
  · have : i = l.length := by omega
    subst this
    rw [List.take_of_length_le (Nat.le_refl _)]
    exact hK s1 e1
end Go.Ph
end
section
set_option linter.all false
namespace Go.Ph
open S
theorem after_ok {s : St} {x : RecM} {r : G_api_Rec} {K : Int → HP} (h : RecAt (s.w 0) x r) (hx : RecOk x) (hK : ∀ s', Step [] s s' → K (max (max 1 (recNext x)) (recUid x + 1)) s'.H) : dbox_after r K s.H := by
  unfold dbox_after
  have hxl := h.len
  refine newc_0 fun s1 p1 n1 a1' => ?_
  have e1 := n1.step
  have a1 : At (s1.w 0) p1 0 (rowF x.f r.Data) := by rw [← h.f]; exact a1'
  refine ldI_at a1 (rowF_get (by omega)) ?_
  refine ldI_at a1 (rowF_get (by omega)) ?_
  have hu := hx.small.get 5
  rw [w64_id (by omega) (by omega)]
  have := hK s1 e1
  have e : (if x.f.getD 5 0 + 1 > (if x.f.getD 3 0 > 1 then x.f.getD 3 0 else 1) then x.f.getD 5 0 + 1 else (if x.f.getD 3 0 > 1 then x.f.getD 3 0 else 1)) = max (max 1 (recNext x)) (recUid x + 1) := by
    unfold recNext recUid
    split <;> split <;> omega
  rw [e]; exact this
theorem dread_ok {C : Cx} {kd q : Nat} {s : St} {b : Nat} {d : RDisk} {u seq : Int} {e : EntM} {K : G_dbox_container → Int → HP} (h : DV kd s b d) (he : e ∈ d.now) (hd : d.down = false) (hn : cnameI u seq = e.Name) (hq0 : q ≠ 0)
    (hq : q < 2305843009213693952 + 1152921504606846976 * s.H.size) (hqo : q ≠ own s ∧ q ≠ own s + 1)
    (hK : ∀ s' c, Step [q] s s' → CvAt (s'.w 0) (P.contOf seq (P.dat d e)) c → Bld tFound q s' (founds (P.dat d e)) c.l → K c 0 s'.H) : dbox_read C (some ⟨b, 0, none⟩) u seq K s.H := by
  unfold dbox_read
  refine newc_k (own s) (by unfold own; omega) fun s1 p6 n1 a1 => ?_
  have e1 := n1.step
  have hz1 := e1.sz
  refine CName_ok fun s2 e2 => ?_
  rw [hn]
  have e12 := e1.trans e2
  have hz2 := e12.sz
  refine vRead_ok (h.st e12 (by simp)) fun s3 r e3 l3 => ?_
  obtain ⟨t1, t2, t3⟩ := dat_text h.inv he hd
  rw [t1]
  rw [t2] at l3
  have e13 := e12.trans e3
  have hz3 := e13.sz
  refine bif_ndec (fun h => absurd rfl h) (fun _ => ?_)
  refine newc_k (own s + 1) (by unfold own; omega) fun s4 p10 n4 a4 => ?_
  have e4 := n4.step
  have hz4 := e4.sz
  have hlen := l3.len
  refine row_rule (own s + 1) a4 rfl (by simp [one]) (by unfold own; omega) (.inl rfl) fun s5 e5 z5 a5 _ => ?_
  have es5 : Step [own s, own s + 1, q] s s5 := (e13.trans e4).n.tr e5 (A := [])
  have hz5 := es5.sz
  refine recScan_ok (Ls.st (Ls.st l3 e4) e5) (by omega) hq0 (by omega) fun s6 o6 e6 b6 => ?_
  have es6 : Step [own s, own s + 1, q] s s6 := es5.tr e6
  have a56 := a5.mono (e6.view (k := own s + 1) (by simp; exact fun h => hqo.2 h.symm))
  refine fld_rule a56 (by simp) rfl (by unfold own; omega) (fun s7 e7 z7 a7 _ => ?_)
  refine fld_rule a7 (by simp) rfl (by unfold own; omega) (fun s8 e8 z8 a8 _ => ?_)
  have es7 : Step [own s, own s + 1, q] s s7 := es6.tr e7
  have es8 : Step [own s, own s + 1, q] s s8 := es7.tr e8
  unfold ld_G_dbox_container
  repeat (first|refine nn_at ?_|refine ldI_at a8 rfl ?_|refine ldB_at a8 rfl ?_|refine ldS_at a8 rfl ?_|refine ldP_at a8 rfl ?_|refine ldM_at a8 rfl ?_|refine ldL_at a8 rfl ?_)
  have a18 : At (s8.w (own s)) p6 0 [.int .i64 0, .int .i64 0, .int .i64 0, .slice none 0 0] := (((((a1.mono ((e2.trans e3).view (by simp))).mono (e4.view (by simp))).mono (e5.view (by simp))).mono (e6.view (by simp; exact fun h => hqo.1 h.symm))).mono (e7.view (by simp))).mono (e8.view (by simp))
  refine row_rule (own s) a18 rfl (by simp [one]) (by unfold own; omega) (.inl rfl) fun s9 e9 z9 a9 _ => ?_
  repeat (first|refine nn_at ?_|refine ldI_at a9 rfl ?_|refine ldB_at a9 rfl ?_|refine ldS_at a9 rfl ?_|refine ldP_at a9 rfl ?_|refine ldM_at a9 rfl ?_|refine ldL_at a9 rfl ?_)
  have es9 : Step [own s, own s + 1, q] s s9 := es8.tr e9
  have b9 := ((b6.st e7 (by simp; exact hqo.2)).st e8 (by simp; exact hqo.2)).st e9 (by simp; exact hqo.1)
  refine hK s9 _ ((es9.loc).loc (by omega)) ⟨rfl, ?_, rfl, b9.ls⟩ b9
  show ((r.len : Nat) : Int) = ((P.dat d e).length : Nat)
  rw [hlen]
theorem conts_drop {d : RDisk} {u i : Nat} {es : List EntM} {e : EntM} (h : es[i]? = some e) : P.conts d u (es.drop i) = if seqOf u e.Name = 0 then none else if seqOf u e.Name < 0 then P.conts d u (es.drop (i + 1)) else (P.conts d u (es.drop (i + 1))).map (P.contOf (seqOf u e.Name) (P.dat d e) :: ·) := by
  rw [take_two h]; rfl
theorem getLast_drop {α : Type} {l : List α} (h : l.drop 1 ≠ []) : (l.drop 1).getLast? = l.getLast? := by
  cases l with
  | nil => rfl
  | cons a l =>
    cases l with
    | nil => exact absurd rfl h
    | cons b l => simp
theorem nextC_ge {n : Int} (c : ContM) (h : 1 ≤ n) : 1 ≤ P.nextC n c := by
  unfold P.nextC
  generalize c.l = l
  induction l generalizing n with
  | nil => exact h
  | cons f l ih => exact ih (by show 1 ≤ after n f.x; unfold after; omega)
theorem next_ge (l : List ContM) : ∀ {n : Int}, 1 ≤ n → 1 ≤ l.foldl P.nextC n := by
  induction l with
  | nil => exact fun h => h
  | cons c l ih => exact fun h => ih (nextC_ge c h)
theorem foldF_ge (l : List FoundM) : ∀ {n : Int}, 1 ≤ n → 1 ≤ l.foldl (fun n f => after n f.x) n := by
  induction l with
  | nil => exact fun h => h
  | cons f l ih => exact fun {n} h => ih (n := after n f.x) (by unfold after; omega)
/-- the next number is counted -/
theorem dnext_ok {C : Cx} {kb : Nat} {s : St} {p : Nat} {x : BoxM} {dp : Option Addr} {t0 : Option Addr} {from_ : Int} {K : Option Addr → Int → HP} {G : List Value → HP} (h : BoxV kb s p x dp) (hx : x.next = 1) (hc : ∀ c ∈ x.l, COk c) (hl : x.l.length ≤ 1024)
    (hK : ∀ s', Step [kb] s s' → BoxV kb s' p { x with next := P.next x.l } dp → K (some (at0 p)) 0 s'.H) : dbox_Open_j3 C t0 x.user p from_ false K G s.H := by
  unfold dbox_Open_j3
  obtain ⟨sl, cs, hb⟩ := h
  have hrow := hb.row
  have hk0 := hb.k0
  refine bif_f ?_
  repeat (first|refine nn_at ?_|refine ldI_at hrow rfl ?_|refine ldB_at hrow rfl ?_|refine ldS_at hrow rfl ?_|refine ldP_at hrow rfl ?_|refine ldM_at hrow rfl ?_|refine ldL_at hrow rfl ?_)
  have hlw := hb.lw
  have hlen := hlw.len
  rw [hx] at hrow
  have hnxt : P.next (x.l.take 0) = 1 := rfl
  refine loop_rule (fun i : Nat => [.int .i64 i]) (fun i s' => i ≤ x.l.length ∧ Step [kb] s s' ∧ At (s'.w kb) p 0 [.pointer dp, .int .i64 x.user, .int .i64 x.bound, .int .i64 (P.next (x.l.take i)), .slice sl.a sl.len sl.cap]) (fun i _ => x.l.length - i) 0 rfl ⟨Nat.zero_le _, Step.refl, hrow⟩ ?_
  rintro i s1 ⟨hi, e1, a1⟩ G1 hG
  simp only [List.getD_cons_zero, List.getD_cons_succ, asI_v, asL_v, asS_v, asB_v, asM_v, asP_v]
  refine bif_dec (fun hlt => ?_) (fun hlt => ?_)
  · refine ixL_rule (hlw.st e1 (by simp)) (by omega) (by omega) fun bx ox c hcx hel => ?_
    rw [Int.toNat_natCast] at hcx
    obtain ⟨vs, ⟨scl, rfl, hcl⟩, hat⟩ := hel
    have co := hc c (List.mem_of_getElem? hcx)
    unfold ld_G_dbox_container
    repeat (first|refine nn_at ?_|refine ldI_at hat rfl ?_|refine ldB_at hat rfl ?_|refine ldS_at hat rfl ?_|refine ldP_at hat rfl ?_|refine ldM_at hat rfl ?_|refine ldL_at hat rfl ?_)
    refine newc_sts rfl (by simp [one]) fun s2 p5 e2 a5 => ?_
    repeat (first|refine nn_at ?_|refine ldI_at a5 rfl ?_|refine ldB_at a5 rfl ?_|refine ldS_at a5 rfl ?_|refine ldP_at a5 rfl ?_|refine ldM_at a5 rfl ?_|refine ldL_at a5 rfl ?_)
    have hcl2 := Ls.st hcl e2
    have hll := hcl2.len
    have hcl0 := co.len
    have hG' := hG (i + 1)
    have hbt : P.next (x.l.take (i + 1)) = P.nextC (P.next (x.l.take i)) c := foldl_take hcx
    have hge : 1 ≤ P.next (x.l.take i) := next_ge _ (Int.le_refl _)
    rw [hbt] at hG'
    have a12 := a1.mono (e2.view (k := kb) (by simp))
    refine loop_rule (fun j : Nat => [.int .i64 j]) (fun j s' => j ≤ c.l.length ∧ Step [kb] s2 s' ∧ At (s'.w kb) p 0 [.pointer dp, .int .i64 x.user, .int .i64 x.bound, .int .i64 ((c.l.take j).foldl (fun n f => after n f.x) (P.next (x.l.take i))), .slice sl.a sl.len sl.cap]) (fun j _ => c.l.length - j) 0 rfl ⟨Nat.zero_le _, Step.refl, a12⟩ ?_
    rintro j s3 ⟨hj, e3, a3⟩ G2 hG2
    simp only [List.getD_cons_zero, List.getD_cons_succ, asI_v, asL_v, asS_v, asB_v, asM_v, asP_v]
    refine bif_dec (fun hlt2 => ?_) (fun hlt2 => ?_)
    · refine ixL_rule (Ls.st hcl2 e3) (by omega) (by omega) fun bx2 ox2 f hf hel2 => ?_
      rw [Int.toNat_natCast] at hf
      obtain ⟨vs, ⟨sd, rfl, hf11, hd⟩, hat2⟩ := hel2
      have fo := co.l f (List.mem_of_getElem? hf)
      refine ldFound (f := f) hat2 hf11 fun r hr => ?_
      rw [hr]
      refine newc_sts (by rw [rowFd, List.length_cons, List.length_cons, rowF_len, hf11]; rfl) (fun v hv => tFound.one (V := s3.w 0) (x := f) ⟨sd, rfl, hf11, hd⟩ v hv) fun s4 p7 e4 a7 => ?_
      have a34 := a3.mono (e4.view (k := kb) (by simp))
      refine nn_at ?_
      refine ldI_at a34 rfl ?_
      refine ldFr a7 hf11 fun r2 f2 d2 => ?_
      refine after_ok (x := f.x) ⟨f2, by rw [d2]; exact Ls.st hd e4⟩ fo.x fun s5 e5 => ?_
      have a35 := a34.mono (e5.view (k := kb) (by simp))
      refine held_rule (ldI_at a35 rfl rfl) ?_
      refine nn_at ?_
      refine fld_rule a35 (by simp) rfl hk0 (fun s6 e6 z6 a6 _ => ?_)
      have hge2 : 1 ≤ (c.l.take j).foldl (fun n f => after n f.x) (P.next (x.l.take i)) := foldF_ge _ hge
      have hm : (if max (max 1 (recNext f.x)) (recUid f.x + 1) > (c.l.take j).foldl (fun n f => after n f.x) (P.next (x.l.take i)) then max (max 1 (recNext f.x)) (recUid f.x + 1) else (c.l.take j).foldl (fun n f => after n f.x) (P.next (x.l.take i))) = (c.l.take (j + 1)).foldl (fun n f => after n f.x) (P.next (x.l.take i)) := by
        rw [foldl_take hf]
        generalize (c.l.take j).foldl (fun n f => after n f.x) (P.next (x.l.take i)) = n at *
        unfold after
        split <;> omega
      rw [w64_id (by omega) (by omega)]
      rw [hm] at a6
      exact hG2 (j + 1) s6 ⟨by omega, e3.trans ((e4.trans e5).n.trans e6), a6⟩ (by omega)
    · have : j = c.l.length := by omega
      subst this
      rw [List.take_of_length_le (Nat.le_refl _)] at a3
      rw [w64_id (by omega) (by omega)]
      exact hG' s3 ⟨by omega, e1.trans (e2.n.trans e3), a3⟩ (by omega)
  · have : i = x.l.length := by omega
    subst this
    rw [List.take_of_length_le (Nat.le_refl _)] at a1
    exact hK s1 e1 ⟨sl, cs, hk0, a1, hb.ls.st e1 (by simp), hb.all.imp fun _ _ g => g.mono e1.v0, fun m c hm hc => (hb.last m c hm hc).st e1 (by simp)⟩
end Go.Ph
end
section
set_option linter.all false
namespace Go.Ph
open S
/-- a box's colours are none of those that are yet to come, and none of the disk's -/
structure Kb (kb kd : Nat) (s : St) : Prop where
  k0 : kb ≠ 0
  own : kb + 16 ≤ Go.Ph.own s ∨ (Go.Ph.own s + 16 ≤ kb ∧ kb + 16 ≤ Go.Ph.own s + 1152921504606846976)
  dis : kb + 16 ≤ kd ∨ kd + 1125899906842624 ≤ kb
theorem Kb.mono {kb kd : Nat} {S : List Nat} {s s' : St} (h : Kb kb kd s) (e : Step S s s') : Kb kb kd s' := by
  refine ⟨h.k0, ?_, h.dis⟩
  have h1 := h.own
  have := e.sz
  unfold Go.Ph.own at *
  rcases Nat.lt_or_ge s.H.size s'.H.size with h2 | h2
  · left; omega
  · have : s'.H.size = s.H.size := by omega
    rw [this]; exact h1
def bkc (kb : Nat) : List Nat := [kb, kb + 1, kb + 2]
def sbk (kd kb : Nat) : List Nat := dk kd ++ bkc kb
theorem Kb.clear {kb kd : Nat} {s : St} (h : Kb kb kd s) : ∀ x ∈ bkc kb, x ∉ dk kd := by
  intro x hx
  have := h.dis
  simp [bkc] at hx
  rw [mem_dk]; omega
theorem Kb.cl {kb kd : Nat} {s : St} (h : Kb kb kd s) : kb ∉ dk kd ∧ kb + 1 ∉ dk kd ∧ kb + 2 ∉ dk kd := ⟨h.clear _ (by simp [bkc]), h.clear _ (by simp [bkc]), h.clear _ (by simp [bkc])⟩
theorem sb1 {kd kb : Nat} : ∀ x, x ∈ bkc kb → x ∈ sbk kd kb := by intro x hx; simp [sbk, hx]
theorem sb2 {kd kb : Nat} : ∀ x, x ∈ dk kd → x ∈ sbk kd kb := by intro x hx; simp [sbk, hx]
theorem sb0 {kd kb : Nat} : ∀ x, x ∈ [kb] → x ∈ sbk kd kb := by intro x hx; simp at hx; subst hx; simp [sbk, bkc]
theorem bk0 {kb : Nat} : ∀ x, x ∈ [kb] → x ∈ bkc kb := by intro x hx; simp at hx; subst hx; simp [bkc]
theorem bk1 {kb : Nat} : ∀ x, x ∈ [kb + 1] → x ∈ bkc kb := by intro x hx; simp at hx; subst hx; simp [bkc]
theorem bk2 {kb : Nat} : ∀ x, x ∈ [kb + 2] → x ∈ bkc kb := by intro x hx; simp at hx; subst hx; simp [bkc]
/-- the elder containers are dropped, and the next number is counted -/
theorem ddrops_ok {C : Cx} {kd kb : Nat} {s : St} {b p : Nat} {d : RDisk} {x : BoxM} {from_ : Int} {K : Option Addr → Int → HP} (h : DV kd s b d) (hb : BoxV kb s p x (some ⟨b, 0, none⟩)) (hx : x.next = 1) (hl : x.l.length ≤ 1024) (hc : ∀ c ∈ x.l, COk c) (hcl : d.calls + 4096 < 1000000) (hko : Ko kd s) (hkb : Kb kb kd s)
    (h0 : ∀ s', (P.drops x.user from_ d x.l).2.1 ≠ 0 → Step (sbk kd kb) s s' → DV kd s' b (P.drops x.user from_ d x.l).1 → K none (P.drops x.user from_ d x.l).2.1 s'.H)
    (h1 : ∀ s', (P.drops x.user from_ d x.l).2.1 = 0 → Step (sbk kd kb) s s' → DV kd s' b (P.drops x.user from_ d x.l).1 → BoxV kb s' p { x with next := P.next (P.drops x.user from_ d x.l).2.2, l := (P.drops x.user from_ d x.l).2.2 } (some ⟨b, 0, none⟩) → K (some (at0 p)) 0 s'.H) :
    loop (σ := List Value) (fun R2 vs2 => nn (some (at0 p)) fun t86 => ldL (t86.add 4) fun t88 => bif (decide ((0 : Int) < (t88.len : Nat))) then (nn (some (at0 p)) fun t93 => ldL (t93.add 4) fun t95 => ixL t95 4 0 fun t96 => ldI .i64 (t96.add 0) fun t98 => dbox_Open_j3 C (some ⟨b, 0, none⟩) x.user p from_ (decide ((t98 : Int) < from_)) K R2) else dbox_Open_j3 C (some ⟨b, 0, none⟩) x.user p from_ false K R2) [] s.H := by
  have hclear := hkb.cl
  refine loop_rule (ι := RDisk × List ContM) (fun _ => []) (fun y s' => Step (sbk kd kb) s s' ∧ DV kd s' b y.1 ∧ BoxV kb s' p { x with l := y.2 } (some ⟨b, 0, none⟩) ∧ P.drops x.user from_ d x.l = P.drops x.user from_ y.1 y.2 ∧ (∀ c ∈ y.2, COk c) ∧ y.2.length ≤ 1024 ∧ y.1.calls + 4 * y.2.length ≤ d.calls + 4096) (fun y _ => y.2.length) (d, x.l) rfl
    ⟨Step.refl, h, hb, rfl, hc, hl, by simp only; omega⟩ ?_
  rintro ⟨d1, l1⟩ s1 ⟨e1, v1, b1, hd1, c1, ll1, cc1⟩ G hG
  simp only at v1 b1 hd1 c1 ll1 cc1
  have last : ∀ (s' : St), s' = s1 → (∀ c, l1.head? = some c → ¬ c.seq < from_) → dbox_Open_j3 C (some ⟨b, 0, none⟩) x.user p from_ false K G s'.H := fun s' hs hh => by
    subst hs
    have hdd : P.drops x.user from_ d1 l1 = (d1, 0, l1) := by
      cases l1 with
      | nil => rfl
      | cons c cs => rw [P.drops, if_neg (hh c rfl)]
    rw [hdd] at hd1
    rw [hd1] at h1
    refine dnext_ok (x := { x with l := l1 }) b1 hx c1 ll1 fun s2 e2 b2 => ?_
    exact h1 s2 rfl (e1.trans (e2.mono sb0)) (v1.st2 e2 (by omega) (fun y hy => by simp at hy; subst hy; exact hclear.1)) b2
  obtain ⟨sl, cs, bb⟩ := b1
  have hrow := bb.row
  have hlw := bb.lw
  have hlen := hlw.len
  simp only at hrow hlw hlen
  repeat (first|refine nn_at ?_|refine ldI_at hrow rfl ?_|refine ldB_at hrow rfl ?_|refine ldS_at hrow rfl ?_|refine ldP_at hrow rfl ?_|refine ldM_at hrow rfl ?_|refine ldL_at hrow rfl ?_)
  refine bif_dec (fun hpos => ?_) (fun hpos => ?_)
  · repeat (first|refine nn_at ?_|refine ldI_at hrow rfl ?_|refine ldB_at hrow rfl ?_|refine ldS_at hrow rfl ?_|refine ldP_at hrow rfl ?_|refine ldM_at hrow rfl ?_|refine ldL_at hrow rfl ?_)
    obtain ⟨c, cs1, rfl⟩ : ∃ c cs1, l1 = c :: cs1 := by
      cases l1 with
      | nil => simp at hlen; omega
      | cons c cs1 => exact ⟨c, cs1, rfl⟩
    refine ixL_rule hlw (Int.le_refl _) (by simp <;> omega) fun bx ox c' hc' hel => ?_
    have : c' = c := by simpa using hc'.symm
    subst this
    obtain ⟨vs, ⟨scl, rfl, hcl'⟩, hat⟩ := hel
    refine ldI_at hat rfl ?_
    by_cases hlt : c'.seq < from_
    · rw [decide_eq_true hlt]
      unfold dbox_Open_j3
      refine bif_t ?_
      repeat (first|refine nn_at ?_|refine ldI_at hrow rfl ?_|refine ldB_at hrow rfl ?_|refine ldS_at hrow rfl ?_|refine ldP_at hrow rfl ?_|refine ldM_at hrow rfl ?_|refine ldL_at hrow rfl ?_)
      refine ixL_rule hlw (Int.le_refl _) (by simp <;> omega) fun bx2 ox2 c2 hc2 hel2 => ?_
      have : c2 = c' := by simpa using hc2.symm
      subst this
      obtain ⟨vs, ⟨scl2, rfl, hcl2⟩, hat2⟩ := hel2
      refine ldI_at hat2 rfl ?_
      refine CName_ok fun s2 e2 => ?_
      have hko1 := hko.mono e1
      refine Drop_ok (v1.st e2 (by simp)) (by omega) (hko1.mono e2) fun s3 e3 v3 => ?_
      have hdc := drop_calls d1 (cnameI x.user c2.seq)
      have e13 : Step (dk kd) s1 s3 := e2.n.trans e3
      have e03 : Step (sbk kd kb) s s3 := e1.trans (e13.mono sb2)
      rw [P.drops, if_pos hlt] at hd1
      refine bif_ndec (fun hne => ?_) (fun heq => ?_)
      · rw [if_pos hne] at hd1
        rw [hd1] at h0
        exact h0 s3 hne e03 v3
      · rw [if_neg (by simpa using heq)] at hd1
        have bb3 := bb.st e13 hclear.1 hclear.2.1 hclear.2.2
        have hrow3 := bb3.row
        simp only at hrow3
        repeat (first|refine nn_at ?_|refine ldI_at hrow3 rfl ?_|refine ldB_at hrow3 rfl ?_|refine ldS_at hrow3 rfl ?_|refine ldP_at hrow3 rfl ?_|refine ldM_at hrow3 rfl ?_|refine ldL_at hrow3 rfl ?_)
        have hcsl : cs.length = cs1.length + 1 := by have := bb3.all.len; simpa using this.symm
        refine slW_rule bb3.ls (by omega) (by decide) fun sl' hw' => ?_
        refine nn_at ?_
        refine fld_rule hrow3 (by simp) rfl bb3.k0 (fun s4 e4 z4 a4 _ => ?_)
        have e34 : Step (sbk kd kb) s3 s4 := e4.mono sb0
        refine hG ((R.drop d1 (cnameI x.user c2.seq)).1, cs1) s4 ⟨e03.trans e34, v3.st2 e4 (by omega) (fun y hy => by simp at hy; subst hy; exact hclear.1), ⟨sl', cs.drop 1, bb3.k0, a4, hw'.st e4 (by simp), ?_, ?_⟩, hd1, fun y hy => c1 y (by simp [hy]), by simp only [List.length_cons] at ll1; simp only; omega, by simp only [List.length_cons] at cc1; simp only; omega⟩ (by simp)
        · have := (bb3.all.drop 1).imp fun _ _ g => CvAt.mono g e4.v0
          simpa using this
        · intro m c hm hc'
          have hne : cs.drop 1 ≠ [] := by intro h; rw [h] at hc'; simp at hc'
          rw [getLast_drop hne] at hc'
          have hm' : (c2 :: cs1).getLast? = some m := by
            cases cs1 with
            | nil => simp at hm
            | cons a t => simpa using hm
          exact (bb3.last m c hm' hc').st e4 (by simp)
    · rw [decide_eq_false hlt]
      exact last s1 rfl fun c hc => by simp at hc; subst hc; exact hlt
  · refine last s1 rfl fun c hc => ?_
    cases l1 with
    | nil => cases hc
    | cons a t => simp at hlen; omega
theorem dOpen_ok {C : Cx} {kd kb : Nat} {s : St} {b : Nat} {d : RDisk} {u bound : Int} {K : Option Addr → Int → HP} (h : DV kd s b d) (hcl : d.calls < 100000) (hnm : Nm d) (hko : Ko kd s) (hkb : Kb kb kd s)
    (h0 : ∀ s', (P.openR d u bound).2.1 = none → Step (sbk kd kb) s s' → DV kd s' b (P.openR d u bound).1 → K none (P.openR d u bound).2.2 s'.H)
    (h1 : ∀ s' p x, (P.openR d u bound).2 = (some x, 0) → Step (sbk kd kb) s s' → DV kd s' b (P.openR d u bound).1 → BoxV kb s' p x (some ⟨b, 0, none⟩) → K (some (at0 p)) 0 s'.H) : dbox_Open C (some ⟨b, 0, none⟩) u bound K s.H := by
  unfold dbox_Open dbox_isUser
  have hclear := hkb.cl
  refine vDownD_ok h ?_
  refine bif_rule (fun hd => ?_) (fun hd => ?_)
  · have hop : P.openR d u bound = (d, none, 11) := by unfold P.openR; rw [if_pos hd]
    rw [hop] at h0
    exact h0 s rfl Step.refl h
  have bad : (¬(1 ≤ u ∧ u ≤ 999) ∨ bound < 1) → dbox_Open_j1 C (some ⟨b, 0, none⟩) u bound true K s.H := fun hb => by
    unfold dbox_Open_j1
    refine bif_t ?_
    have hop : P.openR d u bound = (d, none, 1) := by unfold P.openR; rw [if_neg (by rw [hd]; simp), if_pos hb]
    rw [hop] at h0
    exact h0 s rfl Step.refl h
  refine bif_dec (fun u1 => ?_) (fun u1 => bif_t (bad (.inl (fun h => u1 h.1))))
  by_cases u2 : u ≤ 999
  case neg => rw [decide_eq_false u2]; exact bif_t (bad (.inl (fun h => u2 h.2)))
  rw [decide_eq_true u2]
  refine bif_f ?_
  by_cases hb1 : bound < 1
  · rw [decide_eq_true hb1]; exact bad (.inr hb1)
  rw [decide_eq_false hb1]
  unfold dbox_Open_j1
  refine bif_f ?_
  have hop0 : P.openR d u bound = P.openR d u bound := rfl
  conv at hop0 => rhs; unfold P.openR
  rw [if_neg (by rw [hd]; simp), if_neg (by omega)] at hop0
  obtain ⟨u, rfl⟩ := Int.eq_ofNat_of_zero_le (show 0 ≤ u by omega)
  have hu : 1 ≤ u ∧ u ≤ 999 := by omega
  rw [Int.toNat_natCast] at hop0
  have hn1024 := h.inv.good.2
  refine front_ok (by omega) fun s1 e1 => ?_
  refine vTidy_ok (h.st e1 (by simp)) (by omega) hnm (hko.mono e1) fun s2 e2 v2 => ?_
  have e12 : Step (dk kd) s s2 := e1.n.trans e2
  have tc := tidy_calls (p := ba (front u)) hn1024
  have tn := hnm.tidy (ba (front u))
  have td := tidy_down (p := ba (front u)) hd
  generalize R.tidy d (ba (front u)) = r at *
  obtain ⟨d1, er⟩ := r
  simp only at hop0 v2 tc tn td
  have es2 : Step (sbk kd kb) s s2 := e12.mono sb2
  refine bif_ndec (fun hne => ?_) (fun heq => ?_)
  · rw [if_pos hne] at hop0
    rw [hop0] at h0
    exact h0 s2 rfl es2 v2
  rw [if_neg (by simpa using heq)] at hop0
  have hdn := td heq
  have hkb2 := hkb.mono e12
  have hko2 := hko.mono e12
  have hgood := v2.inv.good
  have hk0 := hkb.k0
  have hown2 := hkb2.own
  refine newc_k kb (by unfold own at hown2; omega) fun s3 p n3 a3 => ?_
  have e3 := n3.step
  refine vNamesD_ok (v2.st e3 (by simp)) (fun e he => by have := tn e he; omega) fun s4 r e4 l4 => ?_
  rw [hdn] at l4
  simp only [Bool.false_eq_true, if_false] at l4
  have e24 := e3.trans e4
  have v4 := v2.st e24 (by simp)
  have a4 := a3.mono (e4.view (k := kb) (by simp))
  have hko4 := hko2.mono e24
  have hkb4 := hkb2.mono e24
  have es4 : Step (sbk kd kb) s s4 := es2.trans e24.n
  have hlen := l4.len
  rw [List.length_map] at hlen
  refine loop_rule (ι := Nat × List ContM) (fun x => [.int .i64 x.1]) (fun x s' => x.1 ≤ d1.now.length ∧ Step (bkc kb) s4 s' ∧ BoxV kb s' p ⟨u, bound, 1, x.2⟩ (some ⟨b, 0, none⟩) ∧ x.2.length ≤ x.1 ∧ P.conts d1 u d1.now = (P.conts d1 u (d1.now.drop x.1)).map (x.2 ++ ·)) (fun x _ => d1.now.length - x.1) (0, []) rfl
    ⟨Nat.zero_le _, Step.refl, ⟨⟨none, 0, 0⟩, [], hk0, a4, BldW.nil, All2.nil, fun m c hm => by simp at hm⟩, Nat.le_refl _, by simp⟩ ?_
  rintro ⟨i, acc⟩ s5 ⟨hi, e5, b5, hal, hcn⟩ G hG
  simp only at hi b5 hal hcn
  have es5 : Step (sbk kd kb) s s5 := es4.trans (e5.mono sb1)
  have v5 : DV kd s5 b d1 := v4.st2 e5 (by omega) hkb.clear
  have hko5 := hko4.mono e5
  have hkb5 := hkb4.mono e5
  simp only [List.getD_cons_zero, List.getD_cons_succ, asI_v, asL_v, asS_v, asB_v, asM_v, asP_v]
  refine bif_dec (fun hlt => ?_) (fun hlt => ?_)
  · have hi' : i < d1.now.length := by omega
    obtain ⟨e, he⟩ : ∃ e, d1.now[i]? = some e := ⟨_, List.getElem?_eq_getElem hi'⟩
    have hem := List.mem_of_getElem? he
    refine ixL_rule (Ls.st l4 e5) (by omega) (by simp; omega) fun bx ox n hn hel => ?_
    have hne : n = e.Name := by
      rw [Int.toNat_natCast, List.getElem?_map, he] at hn
      exact (Option.some.inj hn).symm
    subst hne
    obtain ⟨vs, rfl, hat⟩ := hel
    refine ldS_at0 hat rfl ?_
    refine front_ok (by omega) fun s6 e6 => ?_
    refine pre_ok ?_
    have hcd := conts_drop (d := d1) (u := u) he
    have skip : ∀ s' acc', Step (bkc kb) s5 s' → BoxV kb s' p ⟨u, bound, 1, acc'⟩ (some ⟨b, 0, none⟩) → acc'.length ≤ i + 1 → P.conts d1 u d1.now = (P.conts d1 u (d1.now.drop (i + 1))).map (acc' ++ ·) → dbox_Open_j2 C (some ⟨b, 0, none⟩) u p r r.len i K G s'.H := fun s' acc' es hb' hl' hc' => by
      unfold dbox_Open_j2
      rw [w64_id (by omega) (by omega)]
      exact hG (i + 1, acc') s' ⟨hi', e5.trans es, hb', hl', hc'⟩ (by simp only; omega)
    rcases seqOf_cases (u := u) (n := e.Name) with ⟨q1, q2⟩ | ⟨q1, q2⟩
    · rw [q1]
      refine bif_t ?_
      rw [hcd, if_neg (by omega), if_pos (by omega)] at hcn
      exact skip s6 acc e6.n (b5.st e6 (by simp) (by simp) (by simp)) (by omega) hcn
    · rw [q1]
      refine bif_f ?_
      have hsp := pre_split q1
      have hnm1 := tn e hem
      have hnum : ∀ {K' : Int → HP}, (∀ s', Step [] s6 s' → K' (seqOf u e.Name) s'.H) → dbox_number u e.Name K' s6.H := fun {K'} hk => by
        rw [q2] at hk
        have := number_ok (s := s6) (r := e.Name.data.toList.drop 5) (K := K') hu (by rw [List.length_drop, ba_len]; omega) hk
        rwa [← hsp] at this
      refine hnum fun s7 e7 => ?_
      have e67 := e6.trans e7
      have b7 := b5.st e67 (by simp) (by simp) (by simp)
      have v7 := v5.st e67 (by simp)
      have es7 : Step (sbk kd kb) s s7 := es5.trans e67.n
      refine bif_dec (fun h0' => ?_) (fun h0' => ?_)
      · rw [hcd, if_pos h0'] at hcn
        simp only [Option.map_none] at hcn
        rw [hcn] at hop0
        simp only at hop0
        rw [hop0] at h0
        exact h0 s7 rfl es7 v7
      · have hnn : ¬ seqOf u e.Name < 0 := by rw [q2]; have := numberOf_nn (e.Name.data.toList.drop 5); omega
        rw [hcd, if_neg h0', if_neg hnn] at hcn
        obtain ⟨-, -, p3, p4, p5⟩ := seqOf_pos hu h0' hnn
        have hkb7 := hkb5.mono e67
        have ho7 := hkb7.own
        refine dread_ok (q := kb + 2) v7 hem hdn p3 (by omega) (by unfold own at ho7; omega) (by omega) fun s8 c e8 cv8 bc8 => ?_
        have e58 : Step (bkc kb) s5 s8 := e67.n.trans (e8.mono bk2)
        refine newc_sts rfl (by simp [one]) fun s9 p13 e9 a9 => ?_
        refine bif_ndec (fun h => absurd rfl h) (fun _ => ?_)
        obtain ⟨sl, cs, bb⟩ := b7
        have hrow8 := (bb.row.mono (e8.view (k := kb) (by simp))).mono (e9.view (by simp))
        simp only at hrow8
        refine nn_at ?_
        refine ldL_at hrow8 rfl ?_
        unfold ld_G_dbox_container
        repeat (first|refine nn_at ?_|refine ldI_at a9 rfl ?_|refine ldB_at a9 rfl ?_|refine ldS_at a9 rfl ?_|refine ldP_at a9 rfl ?_|refine ldM_at a9 rfl ?_|refine ldL_at a9 rfl ?_)
        have hz9 := (((e67.n.trans e8 : Step [kb + 2] s5 s8).trans e9.n) : Step [kb + 2] s5 s9).sz
        refine newc_k 1 (by omega) fun s10 p75 n10 a10 => ?_
        have e10 := n10.step
        have hrow10 := hrow8.mono (e10.view (by simp))
        refine held_rule (ldL_at hrow10 rfl rfl) ?_
        have hls10 : BldW tCV (kb + 1) s10 cs sl := ((bb.ls.st e8 (by simp)).st e9 (by simp)).st e10 (by simp)
        have hcsl : cs.length = acc.length := bb.all.len.symm
        have hz10 := e10.sz
        have ho5 := hkb5.own
        refine appW2_rule (kx := 1) (x := c) hls10 (Ls.single (show tCV.R _ c (cvRow c) from rfl) a10) (fun s11 sl11 e11 w11 => ?_) rfl rfl (by omega) (by omega) (by unfold own at ho5; omega) (by omega)
        have hrow11 := hrow10.mono (e11.view (k := kb) (by simp))
        refine nn_at ?_
        refine fld_rule hrow11 (by simp) rfl hk0 (fun s12 e12' z12 a12 _ => ?_)
        have e811 : Step (bkc kb) s8 s11 := (e9.n.trans e10.n).trans (e11.mono bk1)
        have e1112 : Step (bkc kb) s11 s12 := e12'.mono bk0
        have e512 : Step (bkc kb) s5 s12 := (e58.trans e811).trans e1112
        refine skip s12 (acc ++ [P.contOf (seqOf u e.Name) (P.dat d1 e)]) e512 ⟨sl11, cs ++ [c], hk0, a12, w11.st e12' (by simp), ?_, ?_⟩ (by simp; omega) ?_
        · refine All2.snoc ?_ (cv8.mono (e811.trans e1112).v0)
          exact bb.all.imp fun _ _ g => g.mono (((e8.mono bk2).trans e811).trans e1112).v0
        · intro m c' hm hc'
          rw [List.getLast?_append, List.getLast?_singleton] at hm hc'
          simp at hm hc'
          subst hm hc'
          exact (((bc8.st e9 (by simp)).st e10 (by simp)).st e11 (by simp)).st e12' (by simp)
        · rw [hcn, Option.map_map]
          congr 1
          funext l
          simp
  · have : i = d1.now.length := by omega
    subst this
    rw [List.drop_length] at hcn
    simp only [P.conts, Option.map_some, List.append_nil] at hcn
    rw [hcn] at hop0
    simp only at hop0
    obtain ⟨ck, clen, -⟩ := conts_ok hu d1.now acc (fun e he => (dat_text v2.inv he hdn).2.2) hgood.1.sorted hcn
    have hbv := b5
    obtain ⟨sl, cs, bb⟩ := b5
    have hrow := bb.row
    simp only at hrow
    repeat (first|refine nn_at ?_|refine ldI_at hrow rfl ?_|refine ldB_at hrow rfl ?_|refine ldS_at hrow rfl ?_|refine ldP_at hrow rfl ?_|refine ldM_at hrow rfl ?_|refine ldL_at hrow rfl ?_)
    have hlw := bb.lw
    refine dbase_ok (l := acc) hlw (by omega) ck.all fun s6 e6 => ?_
    have es6 : Step (sbk kd kb) s s6 := es5.trans e6.n
    refine ddrops_ok (x := ⟨u, bound, 1, acc⟩) (v5.st e6 (by simp)) (hbv.st e6 (by simp) (by simp) (by simp)) rfl (by simp only; omega) ck.all (by omega) (hko5.mono e6) (hkb5.mono e6) ?_ ?_
    · intro s7 hne e7 v7
      simp only at hne v7
      rw [if_pos hne] at hop0
      rw [hop0] at h0
      exact h0 s7 rfl (es6.trans e7) v7
    · intro s7 heq7 e7 v7 b7
      simp only at heq7 v7 b7
      rw [if_neg (by simpa using heq7)] at hop0
      rw [hop0] at h1
      exact h1 s7 p _ rfl (es6.trans e7) v7 b7
end Go.Ph
end
section
set_option linter.all false
namespace Go.Ph
open S
theorem again_inv {d : RDisk} (h : RInv d) (hc : d.calls + 2 < 1000000000000 - 1024) : RInv (R.again R.syncDir d).1 := by
  unfold R.again
  have := R.syncDir_calls d
  split
  · exact syncDir_inv (syncDir_inv h (by omega)) (by omega)
  · exact syncDir_inv h (by omega)
theorem drop_inv {d : RDisk} (n : ByteArray) (h : RInv d) (hc : d.calls + 3 < 1000000000000 - 1024) : RInv (R.drop d n).1 := by
  have := R.unlink_calls d n
  unfold R.drop
  split
  · exact h
  · split
    · exact unlink_inv n h (by omega)
    · exact again_inv (unlink_inv n h (by omega)) (by omega)
theorem unlinkAll_inv : ∀ (l : List ByteArray) {d : RDisk}, RInv d → d.calls + l.length < 1000000000000 - 1024 → RInv (R.unlinkAll d l).1
  | [], d, h, _ => h
  | n :: l, d, h, hc => by
    have := R.unlink_calls d n
    rw [R.unlinkAll]
    simp only [List.length_cons] at hc
    split
    · exact unlink_inv n h (by omega)
    · exact unlinkAll_inv l (unlink_inv n h (by omega)) (by omega)
theorem tidy_inv {d : RDisk} (p : ByteArray) (h : RInv d) (hc : d.calls + 1024 < 1000000000000 - 1024) : RInv (R.tidy d p).1 := by
  unfold R.tidy
  split
  · exact h
  · refine unlinkAll_inv _ h ?_
    have h1 := h.good.2
    have h2 : (R.tidies (d.now.map (·.Name)) p).length ≤ 1024 := Nat.le_trans (List.length_filter_le _ _) (by simp; omega)
    omega
theorem more_ok {a b : Int} {K : Int → HP} {H : Heap} (hK : K (max a b) H) : rf18_more a b K H := by
  unfold rf18_more
  refine bif_dec (fun h => ?_) (fun h => ?_)
  · rwa [show max a b = a by omega] at hK
  · rwa [show max a b = b by omega] at hK
theorem count_ok {s : St} {x : RecM} {r : G_api_Rec} {n : Int} {K : Int → HP} (h : RecAt (s.w 0) x r) (hx : RecOk x) (hK : ∀ s', Step [] s s' → K (after n x) s'.H) : rf18_count n r K s.H := by
  unfold rf18_count
  have hxl := h.len
  refine newc_0 fun s1 p1 n1 a1' => ?_
  have e1 := n1.step
  have a1 : At (s1.w 0) p1 0 (rowF x.f r.Data) := by rw [← h.f]; exact a1'
  refine ldI_at a1 (rowF_get (by omega)) ?_
  refine ldI_at a1 (rowF_get (by omega)) ?_
  refine more_ok ?_
  refine held_rule (ldI_at a1 (rowF_get (by omega)) rfl) ?_
  have hu := hx.small.get 5
  rw [w64_id (by omega) (by omega)]
  exact more_ok (hK s1 e1)
/-- the document's box of colour k stands in block b -/
def BoxR (k : Nat) (s : St) (b : Nat) (x : BoxM) (dp : Option Addr) : Prop := ∃ sl : Sl, At (s.w k) b 0 [.pointer dp, .int .i64 x.user, .int .i64 x.bound, .int .i64 x.next, .slice sl.a sl.len sl.cap] ∧ Ls tCont (s.w 0) x.l sl
theorem BoxR.st {k : Nat} {s s' : St} {b : Nat} {x : BoxM} {dp : Option Addr} {S : List Nat} (h : BoxR k s b x dp) (hs : Step S s s') (h0 : k ∉ S) : BoxR k s' b x dp := by
  obtain ⟨sl, h1, h2⟩ := h
  exact ⟨sl, h1.mono (hs.view h0), Ls.st h2 hs⟩
/-- the document's keeping of the containers -/
theorem rkeep_ok {k kr : Nat} {s : St} {b p : Nat} {d : RDisk} {l : List ContM} {u from_ : Int} {sl : Sl} {bound : Int} {K : Option Addr → Int → HP} (h : RD k s b d) (hd : RInv d) (hcl : d.calls + 4096 < 1000000) (hk : k ≠ kr ∧ k ≠ kr + 1 ∧ k ≠ kr + 2) (hkr : kr ≠ 0)
    (hkro : kr + 16 ≤ own s ∨ (own s + 16 ≤ kr ∧ kr + 16 ≤ own s + 1152921504606846976))
    (hrow : At (s.w kr) p 0 [.pointer (some ⟨b, 0, none⟩), .int .i64 u, .int .i64 bound, .int .i64 1, .slice sl.a sl.len sl.cap]) (hls : Ls tCont (s.w 0) l sl) (hc : CsOk l) (hl : l.length ≤ 1024)
    (h0 : ∀ s', (P.drops u from_ d l).2.1 ≠ 0 → Step [k, kr, kr + 1, kr + 2] s s' → RD k s' b (P.drops u from_ d l).1 → K none (P.drops u from_ d l).2.1 s'.H)
    (h1 : ∀ s', (P.drops u from_ d l).2.1 = 0 → Step [k, kr, kr + 1, kr + 2] s s' → RD k s' b (P.drops u from_ d l).1 → BoxR kr s' p ⟨u, bound, P.next (P.drops u from_ d l).2.2, (P.drops u from_ d l).2.2⟩ (some ⟨b, 0, none⟩) → K (some (at0 p)) 0 s'.H) :
    loop (σ := List Value) (fun R3 vs3 =>
 asL (vs3.getD 0 undef) fun t16 =>
 asI .i64 (vs3.getD 1 undef) fun t17 =>
 nn (some (at0 p)) fun t143 =>
 ldL (t143.add 4) fun t145 =>
 bif (decide ((t17 : Int) < (t145.len : Nat))) then (
 nn (some (at0 p)) fun t151 =>
 ldL (t151.add 4) fun t153 =>
 ixL t153 4 t17 fun t155 =>
 ldI .i64 (t155.add 0) fun t157 =>
 bif (decide ((t157 : Int) < from_)) then (
 nn (some (at0 p)) fun t163 =>
 ldL (t163.add 4) fun t165 =>
 ixL t165 4 t17 fun t167 =>
 ldI .i64 (t167.add 0) fun t169 =>
 rf18_Name u t169 fun t170 =>
 rf16_Drop (some ⟨b, 0, none⟩) t170 fun t171 =>
 bif (!decide ((t171 : Int) = 0)) then (
 K none t171) else
 rf18_Open_j5 (some ⟨b, 0, none⟩) u p from_ t16 t17 K R3) else
 nn (some (at0 p)) fun t177 =>
 ldL (t177.add 4) fun t179 =>
 ixL t179 4 t17 fun t181 =>
 ld_G_rf18_Container t181 fun t182 =>
 newc #[.int .i64 t182.Seq, .int .i64 t182.Size, .int .i64 t182.Broken, .slice t182.L.a t182.L.len t182.L.cap] fun t183 =>
 app 4 48 #[.int .i64 0, .int .i64 0, .int .i64 0, .slice none 0 0] t16 (⟨some (at0 t183), 1, 1⟩ : Sl) fun t184 =>
 loop (σ := List Value) (fun R4 vs4 =>
 asI .i64 (vs4.getD 0 undef) fun t19 =>
 nn (some (at0 p)) fun t187 =>
 ldL (t187.add 4) fun t189 =>
 ixL t189 4 t17 fun t191 =>
 ldL (t191.add 3) fun t193 =>
 bif (decide ((t19 : Int) < (t193.len : Nat))) then (
 nn (some (at0 p)) fun t200 =>
 ldI .i64 (t200.add 3) fun t202 =>
 nn (some (at0 p)) fun t204 =>
 ldL (t204.add 4) fun t206 =>
 ixL t206 4 t17 fun t208 =>
 ldL (t208.add 3) fun t210 =>
 ixL t210 14 t19 fun t212 =>
 ld_G_api_Rec (t212.add 2) fun t214 =>
 rf18_count t202 t214 fun t215 =>
 nn (some (at0 p)) fun t216 =>
 sts (t216.add 3) 0 [.int .i64 t215] (
 R4 [.int .i64 (w64 (t19 + 1))])) else
 rf18_Open_j5 (some ⟨b, 0, none⟩) u p from_ t184 t17 K R3) [.int .i64 0]) else
 nn (some (at0 p)) fun t220 =>
 sts (t220.add 4) 0 [.slice t16.a t16.len t16.cap] (
 K (some (at0 p)) 0)) [.slice none 0 0, .int .i64 0] s.H := by
  have hlen := hls.len
  refine loop_rule (ι := Nat × Sl × List ContM × RDisk) (fun x => [.slice x.2.1.a x.2.1.len x.2.1.cap, .int .i64 x.1])
    (fun x s' => x.1 ≤ l.length ∧ Step [k, kr, kr + 1, kr + 2] s s' ∧ RD k s' b x.2.2.2 ∧ RInv x.2.2.2 ∧ x.2.2.2.calls ≤ d.calls + 3 * x.1 ∧ Bld tCont (kr + 2) s' x.2.2.1 x.2.1 ∧ x.2.2.1.length ≤ x.1 ∧
      At (s'.w kr) p 0 [.pointer (some ⟨b, 0, none⟩), .int .i64 u, .int .i64 bound, .int .i64 (P.next x.2.2.1), .slice sl.a sl.len sl.cap] ∧
      ((x.2.2.1 = [] ∧ P.drops u from_ d l = P.drops u from_ x.2.2.2 (l.drop x.1)) ∨ (P.drops u from_ d l = (x.2.2.2, 0, x.2.2.1 ++ l.drop x.1) ∧ ∀ c ∈ l.drop x.1, ¬ c.seq < from_)))
    (fun x _ => l.length - x.1) (0, ⟨none, 0, 0⟩, [], d) rfl ⟨Nat.zero_le _, Step.refl, h, hd, by simp only; omega, Bld.nil, Nat.le_refl _, hrow, .inl ⟨rfl, by simp⟩⟩ ?_
  rintro ⟨i, o, kept, d1⟩ s1 ⟨hi, e1, r1, i1, c1, b1, kl1, a1, ph⟩ G hG
  simp only at hi r1 i1 c1 b1 kl1 a1 ph
  have hz1 := e1.sz
  have hls1 := Ls.st hls e1
  have E : ∀ {s' : St} {K' : Addr → HP}, Ls tCont (s'.w 0) l sl → i < l.length → (∀ bx ox c scl, l[i]? = some c → Ls tFound (s'.w 0) c.l scl → At (s'.w 0) bx ox [.int .i64 c.seq, .int .i64 c.size, .int .i64 c.broken, .slice scl.a scl.len scl.cap] → K' ⟨bx, ox, none⟩ s'.H) → ixL sl 4 (i : Int) K' s'.H := fun {s' K'} hl' hi' hk' => by
    refine ixL_rule hl' (by omega) (by omega) fun bx ox c hcx hel => ?_
    obtain ⟨vs, ⟨scl, rfl, hcl'⟩, hat⟩ := hel
    exact hk' bx ox c scl (by simpa using hcx) hcl' hat
  simp only [List.getD_cons_zero, List.getD_cons_succ, asI_v, asL_v, asS_v, asB_v, asM_v, asP_v]
  repeat (first|refine nn_at ?_|refine ldI_at a1 rfl ?_|refine ldB_at a1 rfl ?_|refine ldS_at a1 rfl ?_|refine ldP_at a1 rfl ?_|refine ldM_at a1 rfl ?_|refine ldL_at a1 rfl ?_)
  refine bif_dec (fun hlt => ?_) (fun hlt => ?_)
  · have hi' : i < l.length := by omega
    obtain ⟨c, hc0⟩ : ∃ c, l[i]? = some c := ⟨_, List.getElem?_eq_getElem hi'⟩
    have hcm := List.mem_of_getElem? hc0
    have co := hc.all c hcm
    have htwo := take_two hc0
    have same : ∀ {c' : ContM}, l[i]? = some c' → c' = c := fun h => by rw [hc0] at h; exact (Option.some.inj h).symm
    repeat (first|refine nn_at ?_|refine ldI_at a1 rfl ?_|refine ldB_at a1 rfl ?_|refine ldS_at a1 rfl ?_|refine ldP_at a1 rfl ?_|refine ldM_at a1 rfl ?_|refine ldL_at a1 rfl ?_)
    refine E hls1 hi' fun bx ox c' scl hc' hcl' hat => ?_
    have := same hc'; subst this
    refine ldI_at hat rfl ?_
    have nxt : ∀ s' (o' : Sl) (kept' : List ContM) (d' : RDisk), Step [k, kr, kr + 1, kr + 2] s1 s' → RD k s' b d' → RInv d' → d'.calls ≤ d.calls + 3 * (i + 1) → Bld tCont (kr + 2) s' kept' o' → kept'.length ≤ i + 1 → At (s'.w kr) p 0 [.pointer (some ⟨b, 0, none⟩), .int .i64 u, .int .i64 bound, .int .i64 (P.next kept'), .slice sl.a sl.len sl.cap] → ((kept' = [] ∧ P.drops u from_ d l = P.drops u from_ d' (l.drop (i + 1))) ∨ (P.drops u from_ d l = (d', 0, kept' ++ l.drop (i + 1)) ∧ ∀ c ∈ l.drop (i + 1), ¬ c.seq < from_)) → rf18_Open_j5 (some ⟨b, 0, none⟩) u p from_ o' i K G s'.H := fun s' o' kept' d' es hr hinv hcc hb hkl ha hph => by
      unfold rf18_Open_j5
      rw [w64_id (by omega) (by omega)]
      exact hG (i + 1, o', kept', d') s' ⟨hi', e1.trans es, hr, hinv, hcc, hb, hkl, ha, hph⟩ (by simp only; omega)
    refine bif_dec (fun hs => ?_) (fun hs => ?_)
    · rcases ph with ⟨ph1, ph2⟩ | ⟨ph1, ph2⟩
      case inr => exact absurd hs (ph2 c' (by rw [htwo]; simp))
      subst ph1
      repeat (first|refine nn_at ?_|refine ldI_at a1 rfl ?_|refine ldB_at a1 rfl ?_|refine ldS_at a1 rfl ?_|refine ldP_at a1 rfl ?_|refine ldM_at a1 rfl ?_|refine ldL_at a1 rfl ?_)
      refine E hls1 hi' fun bx2 ox2 c2 scl2 hc2 hcl2 hat2 => ?_
      have := same hc2; subst this
      refine ldI_at hat2 rfl ?_
      refine rCName_ok fun s2 e2 => ?_
      refine rDrop_ok (r1.st e2 (by simp)) i1 (by omega) fun s3 e3 r3 => ?_
      have hdc := drop_calls d1 (cnameI u c2.seq)
      have hdi := drop_inv (cnameI u c2.seq) i1 (by omega)
      rw [htwo, P.drops, if_pos hs] at ph2
      have e13 : Step [k, kr, kr + 1, kr + 2] s1 s3 := e2.n.tr e3 (A := [])
      refine bif_ndec (fun hne => ?_) (fun heq => ?_)
      · rw [if_pos hne] at ph2
        rw [ph2] at h0
        exact h0 s3 hne (e1.trans e13) r3
      · rw [if_neg (by simpa using heq)] at ph2
        exact nxt s3 o [] _ e13 r3 hdi (by omega) (Bld.st (b1.st e2 (by simp)) e3 (by simp; omega)) (by simp) ((a1.mono (e2.view (by simp))).mono (e3.view (by simp; omega))) (.inl ⟨rfl, ph2⟩)
    · have ph' : P.drops u from_ d l = (d1, 0, (kept ++ [c']) ++ l.drop (i + 1)) ∧ ∀ c ∈ l.drop (i + 1), ¬ c.seq < from_ := by
        rcases ph with ⟨ph1, ph2⟩ | ⟨ph1, ph2⟩
        · subst ph1
          rw [htwo, P.drops, if_neg hs] at ph2
          refine ⟨by rw [ph2]; simp, fun c hc' => ?_⟩
          have hso : (l.drop i).Pairwise fun a b => a.seq < b.seq := hc.sorted.sublist (List.drop_sublist _ _)
          rw [htwo, List.pairwise_cons] at hso
          have := hso.1 c hc'
          omega
        · rw [htwo] at ph1 ph2
          exact ⟨by rw [ph1]; simp, fun c hc' => ph2 c (by simp [hc'])⟩
      repeat (first|refine nn_at ?_|refine ldI_at a1 rfl ?_|refine ldB_at a1 rfl ?_|refine ldS_at a1 rfl ?_|refine ldP_at a1 rfl ?_|refine ldM_at a1 rfl ?_|refine ldL_at a1 rfl ?_)
      refine E hls1 hi' fun bx2 ox2 c2 scl2 hc2 hcl2 hat2 => ?_
      have := same hc2; subst this
      unfold ld_G_rf18_Container
      repeat (first|refine nn_at ?_|refine ldI_at hat2 rfl ?_|refine ldB_at hat2 rfl ?_|refine ldS_at hat2 rfl ?_|refine ldP_at hat2 rfl ?_|refine ldM_at hat2 rfl ?_|refine ldL_at hat2 rfl ?_)
      refine app1_rule c2 b1 ⟨scl2, rfl, hcl2⟩ (fun s2 o2 e2 b2 => ?_) rfl rfl (by omega) (by omega) (by unfold own at hkro; omega) (by omega)
      have a2 := a1.mono (e2.view (k := kr) (by simp))
      have hn0 : P.next kept = (c2.l.take 0).foldl (fun n f => after n f.x) (P.next kept) := rfl
      rw [hn0] at a2
      refine loop_rule (ι := Nat) (fun j => [.int .i64 j]) (fun j s' => j ≤ c2.l.length ∧ Step [kr] s2 s' ∧ At (s'.w kr) p 0 [.pointer (some ⟨b, 0, none⟩), .int .i64 u, .int .i64 bound, .int .i64 ((c2.l.take j).foldl (fun n f => after n f.x) (P.next kept)), .slice sl.a sl.len sl.cap]) (fun j _ => c2.l.length - j) 0 rfl ⟨Nat.zero_le _, Step.refl, a2⟩ ?_
      rintro j s3 ⟨hj, e3, a3⟩ G2 hG2
      have hls3 := (Ls.st hls1 e2).st e3
      simp only [List.getD_cons_zero, List.getD_cons_succ, asI_v, asL_v, asS_v, asB_v, asM_v, asP_v]
      repeat (first|refine nn_at ?_|refine ldI_at a3 rfl ?_|refine ldB_at a3 rfl ?_|refine ldS_at a3 rfl ?_|refine ldP_at a3 rfl ?_|refine ldM_at a3 rfl ?_|refine ldL_at a3 rfl ?_)
      refine E hls3 hi' fun bx3 ox3 c3 scl3 hc3 hcl3 hat3 => ?_
      have := same hc3; subst this
      refine ldL_at hat3 rfl ?_
      have hl3 := hcl3.len
      have hco := co.len
      refine bif_dec (fun hlt2 => ?_) (fun hlt2 => ?_)
      · repeat (first|refine nn_at ?_|refine ldI_at a3 rfl ?_|refine ldB_at a3 rfl ?_|refine ldS_at a3 rfl ?_|refine ldP_at a3 rfl ?_|refine ldM_at a3 rfl ?_|refine ldL_at a3 rfl ?_)
        refine E hls3 hi' fun bx4 ox4 c4 scl4 hc4 hcl4 hat4 => ?_
        have := same hc4; subst this
        refine ldL_at hat4 rfl ?_
        refine ixL_rule hcl4 (by omega) (by omega) fun bx5 ox5 f hf hel5 => ?_
        rw [Int.toNat_natCast] at hf
        obtain ⟨vs, ⟨sd, rfl, hf11, hfd⟩, hat5⟩ := hel5
        have fo := co.l f (List.mem_of_getElem? hf)
        refine ldFr (f := f) hat5 hf11 fun r2 f2 d2 => ?_
        refine count_ok (x := f.x) ⟨f2, by rw [d2]; exact hfd⟩ fo.x fun s4 e4 => ?_
        have a4 := a3.mono (e4.view (k := kr) (by simp))
        refine nn_at ?_
        refine fld_rule a4 (by simp) rfl hkr (fun s5 e5 z5 a5 _ => ?_)
        rw [w64_id (by omega) (by omega)]
        have ht := foldl_take (f := fun n (f : FoundM) => after n f.x) (a := P.next kept) hf
        refine hG2 (j + 1) s5 ⟨by omega, e3.trans (e4.n.trans e5), ?_⟩ (by omega)
        rw [ht]; exact a5
      · have : j = c3.l.length := by omega
        subst this
        rw [List.take_of_length_le (Nat.le_refl _)] at a3
        have e12 : Step [k, kr, kr + 1, kr + 2] s1 s2 := e2.mono (by simp)
        have e13 : Step [k, kr, kr + 1, kr + 2] s1 s3 := e12.tr e3
        refine nxt s3 o2 (kept ++ [c3]) d1 e13 (RD.st (r1.st e2 (by simp; omega)) e3 (by simp; omega)) i1 (by omega) (b2.st e3 (by simp)) (by simp; omega) ?_ (.inr ph')
        have : P.next (kept ++ [c3]) = c3.l.foldl (fun n f => after n f.x) (P.next kept) := by unfold P.next; rw [List.foldl_append]; rfl
        rw [this]; exact a3
  · have : i = l.length := by omega
    subst this
    have hfin : P.drops u from_ d l = (d1, 0, kept) := by
      rcases ph with ⟨ph1, ph2⟩ | ⟨ph1, ph2⟩
      · rw [ph2, List.drop_length, ph1]; rfl
      · rw [ph1, List.drop_length, List.append_nil]
    refine nn_at ?_
    refine fld_rule a1 (by simp) rfl hkr (fun s2 e2 z2 a2 _ => ?_)
    rw [hfin] at h1
    exact h1 s2 rfl (e1.tr e2) (r1.st e2 (by simp; omega)) ⟨o, a2, (b1.st e2 (by simp)).ls⟩
end Go.Ph
end
section
set_option linter.all false
namespace Go.Ph
open S
theorem RD.rows {k : Nat} {s : St} {b : Nat} {d : RDisk} (h : RD k s b d) : ∃ (vs : List Value) (f n : Sl), At (s.w k) b 0 vs ∧ vs[0]? = some (.slice f.a f.len f.cap) ∧ vs[1]? = some (.slice n.a n.len n.cap) ∧ vs[5]? = some (.bool d.down) ∧ Ls tRFile (s.w 0) d.files f ∧ Ls tEnt (s.w 0) d.now n := by
  obtain ⟨f, n, u, w, h1, h2, h3, h4, h5⟩ := h.at_
  exact ⟨_, f, n, h1, rfl, rfl, rfl, h2, h3⟩
theorem rOpen_ok {k kr : Nat} {s : St} {b : Nat} {d : RDisk} {u bound : Int} {K : Option Addr → Int → HP} (h : RD k s b d) (hinv : RInv d) (hcl : d.calls < 100000) (hnm : Nm d) (hk : k ≠ kr ∧ k ≠ kr + 1 ∧ k ≠ kr + 2) (hkr : kr ≠ 0) (hko : k + 16 ≤ own s ∨ (own s + 16 ≤ k ∧ k + 16 ≤ own s + 1152921504606846976))
    (hkro : kr + 16 ≤ own s ∨ (own s + 16 ≤ kr ∧ kr + 16 ≤ own s + 1152921504606846976))
    (h0 : ∀ s', (P.openR d u bound).2.1 = none → Step [k, kr, kr + 1, kr + 2] s s' → RD k s' b (P.openR d u bound).1 → K none (P.openR d u bound).2.2 s'.H)
    (h1 : ∀ s' p x, (P.openR d u bound).2 = (some x, 0) → Step [k, kr, kr + 1, kr + 2] s s' → RD k s' b (P.openR d u bound).1 → BoxR kr s' p x (some ⟨b, 0, none⟩) → K (some (at0 p)) 0 s'.H) : rf18_Open (some ⟨b, 0, none⟩) u bound K s.H := by
  unfold rf18_Open
  obtain ⟨vs, f0, n0, a0, -, -, hv5, -, -⟩ := h.rows
  refine nn_at ?_
  refine ldB_at a0 hv5 ?_
  refine bif_rule (fun hd => ?_) (fun hd => ?_)
  · have hop : P.openR d u bound = (d, none, 11) := by unfold P.openR; rw [if_pos hd]
    rw [hop] at h0
    exact h0 s rfl Step.refl h
  have bad : (¬(1 ≤ u ∧ u ≤ 999) ∨ bound < 1) → rf18_Open_j1 (some ⟨b, 0, none⟩) u bound true K s.H := fun hb => by
    unfold rf18_Open_j1
    refine bif_t ?_
    have hop : P.openR d u bound = (d, none, 1) := by unfold P.openR; rw [if_neg (by rw [hd]; simp), if_pos hb]
    rw [hop] at h0
    exact h0 s rfl Step.refl h
  refine bif_dec (fun u1 => ?_) (fun u1 => ?_)
  · exact bad (.inl (by omega))
  refine bif_dec (fun u2 => ?_) (fun u2 => ?_)
  · exact bad (.inl (by omega))
  by_cases hb1 : bound < 1
  · rw [decide_eq_true hb1]; exact bad (.inr hb1)
  rw [decide_eq_false hb1]
  unfold rf18_Open_j1
  refine bif_f ?_
  have hop0 : P.openR d u bound = P.openR d u bound := rfl
  conv at hop0 => rhs; unfold P.openR
  rw [if_neg (by rw [hd]; simp), if_neg (by omega)] at hop0
  obtain ⟨u, rfl⟩ := Int.eq_ofNat_of_zero_le (show 0 ≤ u by omega)
  have hu : 1 ≤ u ∧ u ≤ 999 := by omega
  rw [Int.toNat_natCast] at hop0
  have hn1024 := hinv.good.2
  refine rDigits_ok (w := 3) (by omega) (by omega) fun s1 e1 => ?_
  refine cat_rule (by rw [ba_size, low_len]; show 1 + 3 ≤ _; omega) ?_
  have g1 : (⟨#[99]⟩ : ByteArray) ++ ba (low u 3) = ba (99 :: low u 3) := ba_app [99] _
  rw [g1]
  refine cat_rule (by rw [ba_size, List.length_cons, low_len]; show 4 + 1 ≤ _; omega) ?_
  have g2 : ba (99 :: low u 3) ++ (⟨#[45]⟩ : ByteArray) = ba (front u) := ba_app _ [45]
  rw [g2]
  have hz1 := e1.sz
  refine rTidy_ok (h.st e1 (by simp)) hinv (by omega) hnm (by unfold own at *; omega) fun s2 e2 r2 => ?_
  have e12 : Step [k] s s2 := e1.n.trans e2
  have tc := tidy_calls (p := ba (front u)) hn1024
  have tn := hnm.tidy (ba (front u))
  have ti := tidy_inv (ba (front u)) hinv (by omega)
  have td := tidy_down (p := ba (front u)) hd
  generalize R.tidy d (ba (front u)) = r at *
  obtain ⟨d1, er⟩ := r
  simp only at hop0 r2 tc tn td ti
  have es2 : Step [k, kr, kr + 1, kr + 2] s s2 := e12.mono (by simp)
  have hz2 := es2.sz
  refine bif_ndec (fun hne => ?_) (fun heq => ?_)
  · rw [if_pos hne] at hop0
    rw [hop0] at h0
    exact h0 s2 rfl es2 r2
  rw [if_neg (by simpa using heq)] at hop0
  have hdn := td heq
  have hgood := ti.good
  refine newc_k kr (by unfold own at hkro; omega) fun s3 p n3 a3 => ?_
  have e3 := n3.step
  have r3 := r2.st e3 (by simp)
  have es3 : Step [k, kr, kr + 1, kr + 2] s s3 := es2.trans e3.n
  refine loop_rule (ι := Nat × List ContM) (fun x => [.int .i64 (P.base x.2), .int .i64 x.1])
    (fun x s' => x.1 ≤ d1.now.length ∧ Step [kr, kr + 1] s3 s' ∧ (∃ sl : Sl, At (s'.w kr) p 0 [.pointer (some ⟨b, 0, none⟩), .int .i64 u, .int .i64 bound, .int .i64 1, .slice sl.a sl.len sl.cap] ∧ Bld tCont (kr + 1) s' x.2 sl) ∧ x.2.length ≤ x.1 ∧ P.conts d1 u d1.now = (P.conts d1 u (d1.now.drop x.1)).map (x.2 ++ ·)) (fun x _ => d1.now.length - x.1) (0, []) rfl
    ⟨Nat.zero_le _, Step.refl, ⟨⟨none, 0, 0⟩, a3, Bld.nil⟩, Nat.le_refl _, by simp⟩ ?_
  rintro ⟨i, acc⟩ s5 ⟨hi, e5, ⟨sl, a5, b5⟩, hal, hcn⟩ G hG
  simp only at hi a5 b5 hal hcn
  have es5 : Step [k, kr, kr + 1, kr + 2] s s5 := es3.tr e5
  have hz5 := es5.sz
  have r5 := r3.st e5 (by simp; omega)
  obtain ⟨vs5, f5, nm5, av5, hv50, hv51, -, lf5, ln5⟩ := r5.rows
  have hnl := ln5.len
  have hfl := lf5.len
  simp only [List.getD_cons_zero, List.getD_cons_succ, asI_v, asL_v, asS_v, asB_v, asM_v, asP_v]
  refine nn_at ?_
  refine ldL_at av5 hv51 ?_
  refine bif_dec (fun hlt => ?_) (fun hlt => ?_)
  · have hi' : i < d1.now.length := by omega
    obtain ⟨e, he⟩ : ∃ e, d1.now[i]? = some e := ⟨_, List.getElem?_eq_getElem hi'⟩
    have hem := List.mem_of_getElem? he
    obtain ⟨fi, hfi, hfsz, -, hf0⟩ := ti.dat hem
    refine nn_at ?_
    refine ldL_at av5 hv51 ?_
    refine ixL_rule ln5 (by omega) (by omega) fun bx ox e' he' hel => ?_
    have : e' = e := by rw [Int.toNat_natCast, he] at he'; exact (Option.some.inj he').symm
    subst this
    obtain ⟨ws, rfl, hat⟩ := hel
    refine ldS_at hat rfl ?_
    have hnm1 := tn e' hem
    refine seqOf_ok hu (by omega) fun s6 e6 => ?_
    have hcd := conts_drop (d := d1) (u := u) he
    have skip : ∀ s' acc' v, Step [kr, kr + 1] s5 s' → (∃ sl : Sl, At (s'.w kr) p 0 [.pointer (some ⟨b, 0, none⟩), .int .i64 u, .int .i64 bound, .int .i64 1, .slice sl.a sl.len sl.cap] ∧ Bld tCont (kr + 1) s' acc' sl) → acc'.length ≤ i + 1 → P.conts d1 u d1.now = (P.conts d1 u (d1.now.drop (i + 1))).map (acc' ++ ·) → P.base acc' = v → rf18_Open_j4 (some ⟨b, 0, none⟩) u p v i K G s'.H := fun s' acc' v es hb' hl' hc' hv => by
      unfold rf18_Open_j4
      rw [w64_id (by omega) (by omega), ← hv]
      exact hG (i + 1, acc') s' ⟨hi', e5.trans es, hb', hl', hc'⟩ (by simp only; omega)
    refine bif_dec (fun h0' => ?_) (fun h0' => ?_)
    · rw [hcd, if_pos h0'] at hcn
      simp only [Option.map_none] at hcn
      rw [hcn] at hop0
      simp only at hop0
      rw [hop0] at h0
      exact h0 s6 rfl (es5.trans e6.n) (r5.st e6 (by simp))
    rw [hcd, if_neg h0'] at hcn
    refine bif_dec (fun hneg => ?_) (fun hneg => ?_)
    · rw [if_pos hneg] at hcn
      exact skip s6 acc _ e6.n ⟨sl, a5.mono (e6.view (by simp)), b5.st e6 (by simp)⟩ (by omega) hcn rfl
    rw [if_neg hneg] at hcn
    obtain ⟨-, -, p3, p4, p5⟩ := seqOf_pos hu h0' hneg
    have av6 := av5.mono (e6.view (k := k) (by simp))
    have lf6 := Ls.st lf5 e6
    have ln6 := Ls.st ln5 e6
    refine nn_at ?_
    refine ldL_at av6 hv50 ?_
    refine nn_at ?_
    refine ldL_at av6 hv51 ?_
    refine ixL_rule ln6 (by omega) (by omega) fun bx2 ox2 e2' he2' hel2 => ?_
    have : e2' = e' := by rw [Int.toNat_natCast, he] at he2'; exact (Option.some.inj he2').symm
    subst this
    obtain ⟨ws, rfl, hat2⟩ := hel2
    refine ldI_at hat2 rfl ?_
    have hfil := (List.getElem?_eq_some_iff.1 hfi).1
    refine ixL_rule lf6 hf0 (by omega) fun bx3 ox3 fi' hfi' hel3 => ?_
    have : fi' = fi := by rw [hfi] at hfi'; exact (Option.some.inj hfi').symm
    subst this
    obtain ⟨ws, ⟨wsl, rfl, hwl⟩, hat3⟩ := hel3
    refine ldS_at hat3 rfl ?_
    have hdat : P.dat d1 e2' = fi'.now.data.toList := by unfold P.dat; rw [hfi]
    have hdl : (P.dat d1 e2').length = fi'.now.size := by rw [hdat, ba_len]
    refine s2b_rule 0 (by omega) fun s7 o7 e7 z7 b7 => ?_
    rw [← hdat] at b7
    refine rScan14_ok b7.ls (by omega) fun s8 o8 e8 l8 => ?_
    refine newc_sts rfl (by simp [one]) fun s9 p14 e9 a9 => ?_
    have e59 : Step [] s5 s9 := ((e6.trans e7).trans e8).trans e9
    have a59 := a5.mono (e59.view (by simp))
    refine nn_at ?_
    refine ldL_at a59 rfl ?_
    repeat (first|refine nn_at ?_|refine ldI_at a9 rfl ?_|refine ldB_at a9 rfl ?_|refine ldS_at a9 rfl ?_|refine ldP_at a9 rfl ?_|refine ldM_at a9 rfl ?_|refine ldL_at a9 rfl ?_)
    refine newc_k 1 (by omega) fun s10 p102 n10 a10 => ?_
    have e10 := n10.step
    have a510 := a59.mono (e10.view (by simp))
    refine held_rule (ldL_at a510 rfl rfl) ?_
    obtain ⟨fd1, fd2, fd3, fd4⟩ := founds_ok (b := P.dat d1 e2') (by omega)
    have l10 := (Ls.st l8 e9).st e10
    have e510 : Step [] s5 s10 := e59.trans e10
    have hz10 := e510.sz
    refine app_rule (kx := 1) (b5.st e510 (by simp)) (Ls.single (x := P.contOf (seqOf u e2'.Name) (P.dat d1 e2')) (show tCont.R _ _ _ from ⟨o8, by unfold P.contOf; simp only; rw [hdl], l10⟩) a10) (fun s11 o11 e11 b11 => ?_) rfl rfl (by simp; omega) (by simp; omega) (by unfold own at hkro; omega) (by omega)
    have a511 := a510.mono (e11.view (k := kr) (by simp))
    refine nn_at ?_
    refine fld_rule a511 (by simp) rfl hkr (fun s12 e12' z12 a12 _ => ?_)
    have e1112 : Step [kr, kr + 1] s10 s12 := Step.tr e11 e12'
    have e512 : Step [kr, kr + 1] s5 s12 := e510.n.trans e1112
    have a912 := (a9.mono e10.v0).mono e1112.v0
    have l12 := Ls.st l10 e1112
    have hl12 := l12.len
    have hbase : P.base (acc ++ [P.contOf (seqOf u e2'.Name) (P.dat d1 e2')]) = (founds (P.dat d1 e2')).foldl (P.baseF (seqOf u e2'.Name)) (P.base acc) := by unfold P.base; rw [List.foldl_append]; rfl
    refine loop_rule (ι := Nat) (fun j => [.int .i64 (((founds (P.dat d1 e2')).take j).foldl (P.baseF (seqOf u e2'.Name)) (P.base acc)), .int .i64 j]) (fun j s' => j ≤ (founds (P.dat d1 e2')).length ∧ s' = s12) (fun j _ => (founds (P.dat d1 e2')).length - j) 0 rfl ⟨Nat.zero_le _, rfl⟩ ?_
    rintro j s13 ⟨hj, rfl⟩ G2 hG2
    simp only [List.getD_cons_zero, List.getD_cons_succ, asI_v, asL_v, asS_v, asB_v, asM_v, asP_v]
    refine ldL_at (n := o8) a912 rfl ?_
    refine bif_dec (fun hlt2 => ?_) (fun hlt2 => ?_)
    · have F : ∀ {K' : Addr → HP}, (∀ bx ox f sd, (founds (P.dat d1 e2'))[j]? = some f → f.x.f.length = 11 → At (s13.w 0) bx ox (rowFd f sd) → K' ⟨bx, ox, none⟩ s13.H) → ixL o8 14 (j : Int) K' s13.H := fun {K'} hk => by
        refine ixL_rule l12 (by omega) (by omega) fun bx ox f hf hel => ?_
        obtain ⟨ws, ⟨sd, rfl, hf11, hfd⟩, hat⟩ := hel
        exact hk bx ox f sd (by simpa using hf) hf11 hat
      obtain ⟨f, hf⟩ : ∃ f, (founds (P.dat d1 e2'))[j]? = some f := ⟨_, List.getElem?_eq_getElem (by omega)⟩
      have same : ∀ {f' : FoundM}, (founds (P.dat d1 e2'))[j]? = some f' → f' = f := fun h => by rw [hf] at h; exact (Option.some.inj h).symm
      have hft := foldl_take (f := P.baseF (seqOf u e2'.Name)) (a := P.base acc) hf
      have nx : ∀ {v : Int}, P.baseF (seqOf u e2'.Name) (((founds (P.dat d1 e2')).take j).foldl (P.baseF (seqOf u e2'.Name)) (P.base acc)) f = v → rf18_Open_j3 (some ⟨b, 0, none⟩) u p v i (seqOf u e2'.Name) p14 j K G G2 s13.H := fun hv => by
        unfold rf18_Open_j3
        rw [w64_id (by omega) (by omega), ← hv, ← hft]
        exact hG2 (j + 1) s13 ⟨by omega, rfl⟩ (by omega)
      have nb : ¬(f.x.kind = 1 ∧ recBase f.x ≤ seqOf u e2'.Name) → rf18_Open_j2 (some ⟨b, 0, none⟩) u p (((founds (P.dat d1 e2')).take j).foldl (P.baseF (seqOf u e2'.Name)) (P.base acc)) i (seqOf u e2'.Name) p14 j false K G G2 s13.H := fun hn => by
        unfold rf18_Open_j2
        refine bif_f (nx ?_)
        unfold P.baseF; rw [if_neg hn]
      refine ldL_at (n := o8) a912 rfl ?_
      refine F fun bx4 ox4 f4 sd4 hf4 h11 hat4 => ?_
      have := same hf4; subst this
      refine ldF2o hat4 (by omega) ?_
      refine bif_dec (fun hk1 => ?_) (fun hk1 => ?_)
      · refine ldL_at (n := o8) a912 rfl ?_
        refine F fun bx5 ox5 f5 sd5 hf5 h115 hat5 => ?_
        have := same hf5; subst this
        refine ldF2o hat5 (by omega) ?_
        by_cases hle : f5.x.f.getD 4 0 ≤ seqOf u e2'.Name
        · rw [decide_eq_true hle]
          unfold rf18_Open_j2
          refine bif_t ?_
          refine ldL_at (n := o8) a912 rfl ?_
          refine F fun bx6 ox6 f6 sd6 hf6 h116 hat6 => ?_
          have := same hf6; subst this
          refine ldF2o hat6 (by omega) ?_
          refine more_ok (nx ?_)
          unfold P.baseF
          rw [if_pos ⟨hk1, hle⟩]; rfl
        · rw [decide_eq_false hle]
          exact nb fun hh => hle hh.2
      · exact nb fun hh => hk1 hh.1
    · have : j = (founds (P.dat d1 e2')).length := by omega
      subst this
      rw [List.take_of_length_le (Nat.le_refl _)]
      refine skip s13 _ _ e512 ⟨o11, a12, b11.st e12' (by simp)⟩ (by simp; omega) ?_ hbase
      rw [hcn, Option.map_map]
      congr 1
      funext l
      simp
  · have : i = d1.now.length := by omega
    subst this
    rw [List.drop_length] at hcn
    simp only [P.conts, Option.map_some, List.append_nil] at hcn
    rw [hcn] at hop0
    simp only at hop0
    obtain ⟨ck, clen, -⟩ := conts_ok hu d1.now acc (fun e he => (dat_text ti he hdn).2.2) hgood.1.sorted hcn
    refine rkeep_ok (l := acc) r5 ti (by omega) hk hkr (by unfold own at *; omega) a5 b5.ls ck (by omega) ?_ ?_
    · intro s7 hne e7 v7
      rw [if_pos hne] at hop0
      rw [hop0] at h0
      exact h0 s7 rfl (es5.trans e7) v7
    · intro s7 heq7 e7 v7 b7
      rw [if_neg (by simpa using heq7)] at hop0
      rw [hop0] at h1
      exact h1 s7 p _ rfl (es5.trans e7) v7 b7
end Go.Ph
end

/- Parts of the proof that pigeonholelaw18.DboxSure returns true at every input and leaves the input as it was: what the words of the functions tell, part 1. -/
import Derived.Test.YtjojclbfnnkajaaGreatPhC0
section
set_option linter.all false
namespace Go.Ph
open S
theorem wr_u8 {n : Int} (h : 0 ≤ n) (h2 : n < 256) : wr .u8 n = n := by
  unfold wr IntKind.wrap
  simp [IntKind.bits, IntKind.signed]
  omega
def digit (n : Nat) : UInt8 := UInt8.ofNat (48 + n % 10)
theorem digit_nat (n : Nat) : (digit n).toNat = 48 + n % 10 := by unfold digit; rw [UInt8.toNat_ofNat']; omega
/-- the last digits of a number -/
def low (n : Nat) : Nat → List UInt8
  | 0 => []
  | i + 1 => digit (n / 10 ^ i) :: low n i
theorem low_len (n : Nat) : ∀ i, (low n i).length = i
  | 0 => rfl
  | i + 1 => by simp [low, low_len n i]
def ba (l : List UInt8) : ByteArray := ⟨l.toArray⟩
theorem ba_size (l : List UInt8) : (ba l).size = l.length := by simp [ba, ByteArray.size]
theorem ba_app (a b : List UInt8) : ba a ++ ba b = ba (a ++ b) := by apply ba_ext; simp [ba]
/-- a row is copied into another one -/
theorem cpy_rule {α : Type} {t : Ty α} {s : St} {q kx : Nat} {l m : List α} {d x : Sl} {size : Nat} {K : Int → HP} (hd : LsW t (s.w 0) (s.w q) l d) (hx : LsW t (s.w 0) (s.w kx) m x) (hq0 : q ≠ 0)
    (hK : ∀ s', Step [q] s s' → s'.H.size = s.H.size → LsW t (s'.w 0) (s'.w q) (m.take (min m.length l.length) ++ l.drop (min m.length l.length)) d → (∀ a, d.a = some a → ∀ x i, ¬(x = a.block ∧ a.off ≤ i ∧ i < a.off + min m.length l.length * t.n) → s'.c x i = s.c x i ∧ pk s'.H x i = pk s.H x i) → K (min m.length l.length : Nat) s'.H) (hn : size = t.n := by rfl) : cpy size d x K s.H := by
  subst hn
  have hdl := hd.len
  have hxl := hx.len
  obtain ⟨new, n1, n2, n3, n4⟩ := (hx.take (min m.length l.length) (Nat.min_le_left _ _)).row
  simp only [List.length_take] at n1
  have hc : min x.len d.len = min m.length l.length := by rw [hdl, hxl]
  refine ⟨new, by rw [hc]; exact n2, ?_⟩
  unfold cpyC
  rw [hc]
  generalize hcc : min m.length l.length = c at *
  cases e : d.a with
  | none =>
    have h0 := hd.nil e
    have hcap := hd.cap
    have hl0 : l = [] := List.eq_nil_of_length_eq_zero (by omega)
    subst hl0
    have : c = 0 := by simp at hcc; omega
    subst this
    exact hK s Step.refl rfl (by simpa using hd) (fun _ _ _ _ _ => ⟨rfl, rfl⟩)
  | some a =>
    obtain ⟨g1, g2⟩ := hd.at_ a e
    by_cases hl0 : l = []
    · subst hl0
      have : c = 0 := by simp at hcc; omega
      subst this
      have hnew : new = [] := List.eq_nil_of_length_eq_zero (by rw [n1]; simp)
      subst hnew
      exact hK s Step.refl rfl (by simpa using hd) (fun _ _ _ _ _ => ⟨rfl, rfl⟩)
    obtain ⟨b, o, sp⟩ := a
    have g1 := g1 (by have := hd.cap; have := List.length_pos_iff.2 hl0; omega)
    simp at g1; subst g1
    simp only at g2 ⊢
    have hnl : new.length = c * t.n := by rw [n1]; congr 1; omega
    have hcells : ∀ j, j < new.length → ∃ v0, s.w q b (o + 0 + j) = some (.v v0) := fun j hj => by
      have hpos : 0 < t.n := by
        rcases Nat.eq_zero_or_pos t.n with h | h
        · rw [h] at hnl; omega
        · exact h
      have hjl : j / t.n < l.length := by
        have : j / t.n < c := Nat.div_lt_of_lt_mul (by rw [Nat.mul_comm]; omega)
        omega
      obtain ⟨ws, w1, w2⟩ := g2 (j / t.n) _ (List.getElem?_eq_getElem hjl)
      have hwl := t.len w1
      have hm := Nat.mod_lt j hpos
      have := w2 (j % t.n) _ (List.getElem?_eq_getElem (by omega))
      have hdm := Nat.div_add_mod j t.n
      rw [Nat.mul_comm] at hdm
      rw [show o + j / t.n * t.n + j % t.n = o + 0 + j by omega] at this
      exact ⟨_, this⟩
    have hqlt : new.length ≠ 0 → q < 1152921504606846976 + 1152921504606846976 * s.H.size := fun h => by
      obtain ⟨v0, hv0⟩ := hcells 0 (by omega)
      rw [← (w_some hv0).2]; exact s.wf _ _ (w_lt hv0)
    by_cases hz : new.length = 0
    · have : new = [] := List.eq_nil_of_length_eq_zero hz
      subst this
      simp only [sts]
      refine hK s Step.refl rfl ⟨by simp; omega, hd.cap, hd.nil, fun a ha => ?_⟩ (fun _ _ _ _ _ => ⟨rfl, rfl⟩)
      rw [e] at ha; simp at ha; subst ha
      refine ⟨fun _ => rfl, fun j y hj => ?_⟩
      by_cases ej : j < c
      · rw [List.getElem?_append_left (by simp; omega)] at hj
        exact n4 _ _ _ (fun i v hi => by simp at hi) j y hj
      · rw [List.getElem?_append_right (by simp; omega), List.getElem?_drop] at hj
        have : c + (j - (List.take c m).length) = j := by simp; omega
        rw [this] at hj
        exact g2 j y hj
    · refine sts_rule (k := q) (k' := q) new hcells n3 (hqlt hz) hq0 fun s' h' => ?_
      have hst : Step [q] s s' := h'.step (q := q) (by simp) hq0 fun j hj => by
        obtain ⟨v, hv⟩ := hcells j hj
        exact (w_some hv).2
      refine hK s' hst h'.sz ⟨by simp; omega, hd.cap, hd.nil, fun a ha => ?_⟩ (fun a ha x i hn => by
        rw [e] at ha; simp at ha; subst ha
        refine h'.old x i fun ⟨q1, q2, q3⟩ => hn ⟨q1, q2, ?_⟩
        rw [hnl] at q3; exact q3)
      rw [e] at ha; simp at ha; subst ha
      refine ⟨fun _ => rfl, fun j y hj => ?_⟩
      simp only
      by_cases ej : j < c
      · rw [List.getElem?_append_left (by simp; omega)] at hj
        have := n4 (s'.w q) b o (by have := h'.here; rwa [Nat.add_zero] at this) j y hj
        exact this.mono hst.v0 (VLe.refl _)
      · rw [List.getElem?_append_right (by simp; omega), List.getElem?_drop] at hj
        have : c + (j - (List.take c m).length) = j := by simp; omega
        rw [this] at hj
        obtain ⟨ws, w1, w2⟩ := g2 j y hj
        refine ⟨ws, t.mono hst.v0 w1, fun a v hav => ?_⟩
        have hu := w2 a v hav
        have hcj : c * t.n ≤ j * t.n := Nat.mul_le_mul_right _ (by omega)
        have := h'.old b (o + j * t.n + a) (fun ⟨_, h1, h2⟩ => by omega)
        exact w_mk (this.2.trans (w_some hu).1) (this.1.trans (w_some hu).2)
/-- values as they are -/
def tV : Ty Value := ⟨1, fun _ v vs => vs = [v] ∧ one v = true, by rintro _ _ _ ⟨rfl, _⟩; rfl, fun _ h => h, by rintro _ _ _ ⟨rfl, h⟩; simpa using h⟩
/-- what is a function's own changes no more -/
theorem freeze (s : St) (q : Nat) : ∃ s' : St, s'.H = s.H ∧ Step [q] s s' ∧ VLe (s.w q) (s'.w 0) := by
  refine ⟨⟨s.H, fun b i => if s.c b i = q then 0 else s.c b i, fun b i hb => ?_, fun b i hb => ?_⟩, rfl, ⟨Nat.le_refl _, fun b i hb hn => ?_, fun _ _ => rfl⟩, fun b i x hx => ?_⟩
  · split
    · omega
    · exact s.wf b i hb
  · split at hb
    · exact absurd rfl hb
    · exact s.fz b i hb
  · refine ⟨?_, rfl⟩
    show (if s.c b i = q then 0 else s.c b i) = s.c b i
    split
    · rename_i h
      rcases hn with h0 | h0
      · exact h0.symm
      · exact absurd (by rw [h]; simp) h0
    · rfl
  · obtain ⟨h1, h2⟩ := w_some hx
    exact w_mk h1 (by show (if s.c b i = q then 0 else s.c b i) = 0; rw [if_pos h2])
theorem make_rule {s : St} {n : Int} {K : Sl → HP} (q : Nat) (hq : q < 2305843009213693952 + 1152921504606846976 * s.H.size) (h0 : 0 ≤ n ∧ n ≤ 281474976710656)
    (hK : ∀ s' sl l, Step [] s s' → s'.H.size = s.H.size + 1 → LsW tV (s'.w 0) (s'.w q) l sl → l.length = n.toNat → K sl s'.H) : internal_bytealg_MakeNoZero n K s.H := by
  refine ⟨h0, fun cap ty cs hc hl => ?_⟩
  refine newc_f (K := fun b => K ⟨some (at0 b), n.toNat, cap⟩) (lo := 0) (hi := 0) (fun _ => q) (fun _ => hq) (fun i _ => by simp) fun s' b hn => ?_
  refine hK s' _ ((cs.map (Value.int .u8)).take n.toNat) hn.step hn.sz ⟨by simp; omega, hc, fun h => (by cases h), fun a ha => ?_⟩ (by simp; omega)
  simp at ha; subst ha
  refine ⟨fun _ => rfl, fun j x hj => ⟨[x], ⟨rfl, ?_⟩, fun i v hi => ?_⟩⟩
  · rw [List.getElem?_take] at hj
    split at hj
    · rw [List.getElem?_map, Option.map_eq_some_iff] at hj
      obtain ⟨y, _, rfl⟩ := hj
      rfl
    · cases hj
  · have e : i = 0 := by cases i with
      | zero => rfl
      | succ i => simp at hi
    subst e
    simp at hi; subst hi
    refine w_mk ?_ (hn.col _)
    simp only [tV, Nat.zero_add, Nat.mul_one, Nat.add_zero]
    rw [hn.here]
    rw [List.getElem?_take] at hj
    split at hj
    · rw [hj]; rfl
    · cases hj
theorem LsW.bytes {V W : View} {l : List UInt8} {sl : Sl} (h : LsW tV V W (l.map fun c => Value.int .u8 c.toNat) sl) : LsW tBy V W l sl :=
  ⟨by have := h.len; simpa using this, h.cap, h.nil, fun a ha => ⟨(h.at_ a ha).1, fun j x hj => by
    obtain ⟨ws, ⟨rfl, _⟩, w2⟩ := (h.at_ a ha).2 j (.int .u8 x.toNat) (by rw [List.getElem?_map, hj]; rfl)
    exact ⟨_, rfl, w2⟩⟩⟩
theorem LsW.vals {V W : View} {l : List UInt8} {sl : Sl} (h : LsW tBy V W l sl) : LsW tV V W (l.map fun c => Value.int .u8 c.toNat) sl :=
  ⟨by have := h.len; simpa using this, h.cap, h.nil, fun a ha => ⟨(h.at_ a ha).1, fun j x hj => by
    rw [List.getElem?_map, Option.map_eq_some_iff] at hj
    obtain ⟨y, hy, rfl⟩ := hj
    obtain ⟨ws, w1, w2⟩ := (h.at_ a ha).2 j y hy
    exact ⟨ws, ⟨w1, rfl⟩, w2⟩⟩⟩
theorem mul_ok {n : Int} {K : Int → Int → HP} {H : Heap} (hn : n = 3 ∨ n = 8) (hK : K 0 n H) : math_bits_Mul (wr .u64 ((1 : Nat) : Int)) (wr .u64 n) K H := by
  unfold math_bits_Mul math_bits_Mul64
  refine ⟨by decide, ⟨by decide, ⟨by decide, ⟨by decide, ⟨by decide, ?_⟩⟩⟩⟩⟩
  rcases hn with rfl | rfl
  · exact hK
  · exact hK
/-- a part of a row was written: the row -/
theorem part_rule {α : Type} {t : Ty α} {s s' : St} {q i c : Nat} {l r : List α} {sl sub : Sl} {b o : Nat} (h : LsW t (s.w 0) (s.w q) l sl) (ha : sl.a = some ⟨b, o, none⟩) (hst : Step [q] s s')
    (hs : LsW t (s'.w 0) (s'.w q) r sub) (hsa : sub.a = some ⟨b, o + i * t.n, none⟩) (hr : i + r.length = l.length) (hc : c ≤ r.length)
    (hold : ∀ x j, ¬(x = b ∧ o + i * t.n ≤ j ∧ j < o + i * t.n + c * t.n) → s'.c x j = s.c x j ∧ pk s'.H x j = pk s.H x j) : LsW t (s'.w 0) (s'.w q) (l.take i ++ r) sl := by
  refine ⟨by rw [h.len]; simp; omega, h.cap, h.nil, fun a ha' => ?_⟩
  rw [ha] at ha'; simp at ha'; subst ha'
  refine ⟨fun _ => rfl, fun j y hj => ?_⟩
  simp only
  have hil : (l.take i).length = i := by simp; omega
  by_cases ej : j < i
  · rw [List.getElem?_append_left (by omega), List.getElem?_take_of_lt ej] at hj
    obtain ⟨ws, w1, w2⟩ := (h.at_ _ ha).2 j y hj
    have hwl := t.len w1
    refine ⟨ws, t.mono hst.v0 w1, fun a v hav => ?_⟩
    have hlt := (List.getElem?_eq_some_iff.1 hav).1
    have hu := w2 a v hav
    have hcj : (j + 1) * t.n ≤ i * t.n := Nat.mul_le_mul_right _ (by omega)
    rw [Nat.add_mul] at hcj
    have := hold b (o + j * t.n + a) (fun ⟨_, h1, h2⟩ => by omega)
    exact w_mk (this.2.trans (w_some hu).1) (this.1.trans (w_some hu).2)
  · rw [List.getElem?_append_right (by omega), hil] at hj
    have := (hs.at_ _ hsa).2 (j - i) y hj
    simp only at this
    have e2 : o + i * t.n + (j - i) * t.n = o + j * t.n := by
      rw [Nat.sub_mul]
      have : i * t.n ≤ j * t.n := Nat.mul_le_mul_right _ (by omega)
      omega
    rwa [e2] at this
theorem slLw_rule {α : Type} {t : Ty α} {V W : View} {l : List α} {sl : Sl} {size : Nat} {lo hi mx : Int} {b o : Nat} {K : Sl → HP} {H : Heap} (h : LsW t V W l sl) (ha : sl.a = some ⟨b, o, none⟩) (h0 : 0 ≤ lo) (h1 : lo ≤ hi) (h2 : hi ≤ l.length) (h3 : hi ≤ mx) (h4 : mx ≤ sl.cap) (h5 : lo < mx)
    (hK : ∀ sl', LsW t V W ((l.take hi.toNat).drop lo.toNat) sl' → sl'.cap = mx.toNat - lo.toNat → sl'.a = some ⟨b, o + lo.toNat * t.n, none⟩ → K sl' H) (hn : size = t.n := by rfl) : slL sl size lo hi mx K H := by
  subst hn
  refine slL_rule (K := fun sl' H => sl'.a = some ⟨b, o + lo.toNat * t.n, none⟩ → K sl' H) h h0 h1 h2 h3 h4 (fun sl' g1 g2 g3 => hK sl' g1 g2 g3) |> fun hh => ⟨hh.1, hh.2 ?_⟩
  simp only
  rw [if_neg (by omega), ha]
  simp [add_at]
theorem Repeat_ok {s : St} {c : UInt8} {sl : Sl} {n : Int} {kx q : Nat} {K : Sl → HP} (h : LsW tBy (s.w 0) (s.w kx) [c] sl) (hq : q < 2305843009213693952 + 1152921504606846976 * s.H.size) (hq0 : q ≠ 0) (hkx : kx ≠ q) (hn : n = 3 ∨ n = 8)
    (hK : ∀ s' r, Step [q] s s' → LsW tBy (s'.w 0) (s'.w q) (List.replicate n.toNat c) r → K r s'.H) : bytes_Repeat sl n K s.H := by
  have hl1 : sl.len = 1 := h.len
  unfold bytes_Repeat
  refine bif_dec (fun h => by omega) (fun _ => ?_)
  refine bif_dec (fun h => by omega) (fun _ => ?_)
  rw [hl1]
  refine mul_ok hn ?_
  rw [decide_eq_false (show ¬(0 : Int) < 0 by omega)]
  refine bif_f ?_
  rw [decide_eq_false (show ¬(9223372036854775807 : Int) < n by omega)]
  unfold bytes_Repeat_j1
  refine bif_f ?_
  refine bif_dec (fun h => by omega) (fun _ => ?_)
  rw [w64_id (by omega) (by omega)]
  refine bif_dec (fun h => by omega) (fun _ => ?_)
  unfold bytes_Repeat_j2
  refine make_rule q hq (by omega) fun s1 t54 l e1 z1 b1 hl => ?_
  obtain ⟨b, o, ha⟩ := Ls.lt b1 (j := 0) (by omega)
  have hcap := b1.cap
  have hlen := b1.len
  refine slLw_rule b1 ha (by omega) (by omega) (by omega) (by omega) (by omega) (by omega) fun t57 b2 c2 a2 => ?_
  have e0 : o + (0 : Int).toNat * tV.n = o := by simp
  rw [e0] at a2
  have hN : ∃ N : Nat, n = N ∧ (N = 3 ∨ N = 8) := ⟨n.toNat, by omega, by omega⟩
  obtain ⟨N, rfl, hN⟩ := hN
  simp only [Int.toNat_natCast, Int.toNat_zero, List.drop_zero] at b2 c2 hl hK
  rw [List.take_of_length_le (by omega)] at b2
  have hv : LsW tV (s1.w 0) (s1.w kx) [Value.int .u8 c.toNat] sl := LsW.vals (h.mono e1.v0 (e1.view (by simp)))
  refine cpy_rule b2 hv hq0 fun s2 e2 z2 b3 _ => ?_
  have hm : min [Value.int .u8 c.toNat].length l.length = 1 := by simp; omega
  rw [hm] at b3 ⊢
  refine loop_rule (ι := Nat × List Value) (fun x => [.int .i64 x.1]) (fun x s' => 1 ≤ x.1 ∧ x.1 ≤ N ∧ Step [q] s s' ∧ LsW tV (s'.w 0) (s'.w q) x.2 t57 ∧ x.2.length = N ∧ x.2.take x.1 = List.replicate x.1 (Value.int .u8 c.toNat)) (fun x _ => N - x.1) (1, _) rfl
    ⟨Nat.le_refl _, by omega, e1.n.trans e2, b3, by simp; omega, by simp⟩ ?_
  rintro ⟨i, r⟩ s3 ⟨hi1, hi, e3, b4, hrl, hrt⟩ G hG
  simp only [List.getD_cons_zero, List.getD_cons_succ, asI_v, asL_v, asS_v, asB_v, asM_v, asP_v]
  simp only at hi1 hi b4 hrl hrt
  have h57 := b4.len
  refine bif_dec (fun hlt => ?_) (fun hlt => ?_)
  · refine slLw_rule b4 a2 (by omega) (by omega) (by omega) (by omega) (by omega) (by omega) fun t70 b70 c70 a70 => ?_
    refine slLw_rule b4 a2 (by omega) (by split <;> omega) (by split <;> omega) (by split <;> omega) (by omega) (by omega) fun t73 b73 c73 a73 => ?_
    have hmin : (if (N : Int) < (i : Int) then (N : Int) else i) = (i : Int) := by rw [if_neg (by omega)]
    rw [hmin] at b73
    simp only [Int.toNat_natCast, Int.toNat_zero, List.drop_zero] at b70 b73 a70
    rw [List.take_of_length_le (by omega)] at b70
    rw [hrt] at b73
    refine cpy_rule b70 b73 hq0 fun s4 e4 z4 b5 f5 => ?_
    have hml : min (List.replicate i (Value.int .u8 c.toNat)).length (r.drop i).length = min i (N - i) := by simp [hrl]
    rw [hml] at b5 f5 ⊢
    have hp := part_rule b4 a2 e4 b5 a70 (by simp <;> omega) (c := min i (N - i)) (by simp <;> omega) (fun x j hx => f5 _ a70 x j (by simpa using hx))
    rw [w64_id (by omega) (by omega)]
    have := hG (i + min i (N - i), r.take i ++ ((List.replicate i (Value.int .u8 c.toNat)).take (min i (N - i)) ++ (r.drop i).drop (min i (N - i)))) s4 ⟨by simp only; omega, by simp only; omega, e3.trans e4, hp, by simp; omega, ?_⟩ (by simp only; omega)
    · exact this
    · simp only
      rw [hrt, List.take_replicate, ← List.append_assoc, List.replicate_append_replicate]
      rw [List.take_append_of_le_length (by simp <;> omega), List.take_replicate]
      congr 1; omega
  · have : i = N := by omega
    subst this
    rw [List.take_of_length_le (by omega)] at hrt
    subst hrt
    refine hK s3 t57 e3 (LsW.bytes ?_)
    simpa using b4
theorem low_zero {n : Nat} : ∀ (j d : Nat), n / 10 ^ j = 0 → low n (j + d) = List.replicate d 48 ++ low n j
  | j, 0, h => by simp
  | j, d + 1, h => by
    have e : n / 10 ^ (j + d) = 0 := by rw [Nat.pow_add, ← Nat.div_div_eq_div_mul, h, Nat.zero_div]
    rw [show j + (d + 1) = j + d + 1 by omega, low, e, low_zero j d h, List.replicate_succ]
    rfl
theorem digits_ok {s : St} {n : Nat} {w : Nat} {K : ByteArray → HP} (hn : n < 9223372036854775808) (hw : w = 3 ∨ w = 8) (hK : ∀ s', Step [] s s' → K (ba (low n w)) s'.H) : dbox_digits n w K s.H := by
  have hq0 : own s ≠ 0 := by unfold own; omega
  unfold dbox_digits
  refine newc_0 fun s1 b1 n1 a1 => ?_
  have e1 := n1.step
  have hz := n1.sz
  have h1 : LsW tBy (s1.w 0) (s1.w 0) [(48 : UInt8)] ⟨some (at0 b1), 1, 1⟩ := Ls.single rfl a1
  refine Repeat_ok (q := own s) h1 (by unfold own; omega) hq0 (by omega) (by omega) fun s2 r e2 b2 => ?_
  rw [Int.toNat_natCast] at b2
  have hrl := b2.len
  rw [List.length_replicate] at hrl
  refine loop_rule (ι := Nat) (fun j => [.int .i64 ((n / 10 ^ j : Nat) : Int), .int .i64 ((w : Int) - 1 - j)]) (fun j s' => j ≤ w ∧ Step [own s] s s' ∧ LsW tBy (s'.w 0) (s'.w (own s)) (List.replicate (w - j) 48 ++ low n j) r) (fun j _ => w - j) 0
    (by rw [w64_id (by omega) (by omega)]; simp) ⟨Nat.zero_le _, e1.n.trans e2, by simpa [low] using b2⟩ ?_
  rintro j s3 ⟨hj, e3, b3⟩ G hG
  simp only [List.getD_cons_zero, List.getD_cons_succ, asI_v, asL_v, asS_v, asB_v, asM_v, asP_v]
  have fin : low n w = List.replicate (w - j) 48 ++ low n j → dbox_digits_j1 (n / 10 ^ j : Nat) r ((w : Int) - 1 - j) false K G s3.H := fun he => by
    unfold dbox_digits_j1
    refine bif_f ?_
    refine ldBy_rule b3 ?_
    rw [← he]
    exact hK s3 e3.loc
  have hp : n / 10 ^ (j + 1) = n / 10 ^ j / 10 := by rw [Nat.pow_succ, ← Nat.div_div_eq_div_mul]
  have hqn : n / 10 ^ j ≤ n := Nat.div_le_self _ _
  refine bif_dec (fun hpos => ?_) (fun hpos => ?_)
  · by_cases h0 : (0 : Int) ≤ (w : Int) - 1 - j
    · rw [decide_eq_true h0]
      have hG' := hG (j + 1)
      simp only [low] at hG'
      rw [hp] at hG'
      clear fin
      generalize n / 10 ^ j = q at *
      unfold dbox_digits_j1
      refine bif_t ?_
      refine ⟨by decide, ?_⟩
      have hm : Int.tmod (q : Int) 10 = ((q % 10 : Nat) : Int) := by
        rw [Int.tmod_eq_emod_of_nonneg (by omega)]; omega
      have hd : Int.tdiv (q : Int) 10 = ((q / 10 : Nat) : Int) := by
        rw [Int.tdiv_eq_ediv_of_nonneg (by omega)]; omega
      rw [hm, hd, w64_id (n := 48 + ((q % 10 : Nat) : Int)) (by omega) (by omega), wr_u8 (by omega) (by omega)]
      have hll : (List.replicate (w - j) (48 : UInt8) ++ low n j).length = w := by simp [low_len]; omega
      refine ixLw_rule b3 h0 (by rw [hll]; omega) fun b o x ha hx _ => ?_
      refine setL_rule (x := digit q) b3 ha (by rw [hll]; omega) (by show [_] = [_]; rw [digit_nat]; rfl) hq0 (by decide) fun s4 e4 z4 b4 => ?_
      refine ⟨by decide, ?_⟩
      rw [w64_id (by omega) (by omega), w64_id (by omega) (by omega)]
      have := hG' s4 ⟨by omega, e3.trans e4, ?_⟩ (by omega)
      · rw [show (w : Int) - 1 - j - 1 = (w : Int) - 1 - (j + 1 : Nat) by omega]
        exact this
      · have e1 : (List.replicate (w - j) (48 : UInt8) ++ low n j).set ((w : Int) - 1 - j).toNat (digit q) = List.replicate (w - (j + 1)) 48 ++ digit q :: low n j := by
          rw [show ((w : Int) - 1 - j).toNat = w - j - 1 by omega]
          rw [show w - j = (w - (j + 1)) + 1 by omega, List.replicate_succ', List.append_assoc]
          rw [List.set_append_right _ _ (by simp)]
          simp
        rw [e1] at b4
        exact b4
    · rw [decide_eq_false h0]
      exact fin (by rw [show w - j = 0 by omega, show w = j by omega]; rfl)
  · have h0 : n / 10 ^ j = 0 := by
      clear fin hG hp hqn
      generalize n / 10 ^ j = q at hpos ⊢
      omega
    refine fin ?_
    have := low_zero j (w - j) h0
    rwa [show j + (w - j) = w by omega] at this
end Go.Ph
end
section
set_option linter.all false
namespace Go.Ph
open S
def front (u : Nat) : List UInt8 := 99 :: (low u 3 ++ [45])
def cname (u q : Nat) : List UInt8 := front u ++ low q 8
/-- a container's name; none: it is empty -/
def cnameI (u q : Int) : ByteArray := if 1 ≤ u ∧ u ≤ 999 ∧ 1 ≤ q ∧ q ≤ 99999999 then ba (cname u.toNat q.toNat) else ⟨#[]⟩
theorem front_len (u : Nat) : (front u).length = 5 := by simp [front, low_len]
theorem cname_len (u q : Nat) : (cname u q).length = 13 := by simp [cname, front_len, low_len]
theorem front_ok {s : St} {u : Nat} {K : ByteArray → HP} (hu : u < 9223372036854775808) (hK : ∀ s', Step [] s s' → K (ba (front u)) s'.H) : dbox_front u K s.H := by
  unfold dbox_front
  refine digits_ok hu (.inl rfl) fun s1 e1 => ?_
  refine cat_rule (by rw [ba_size, low_len]; show 1 + 3 ≤ _; omega) ?_
  have h1 : (⟨#[99]⟩ : ByteArray) ++ ba (low u 3) = ba (99 :: low u 3) := ba_app [99] _
  rw [h1]
  refine cat_rule (by rw [ba_size, List.length_cons, low_len]; show 4 + 1 ≤ _; omega) ?_
  have h2 : ba (99 :: low u 3) ++ (⟨#[45]⟩ : ByteArray) = ba (front u) := ba_app _ [45]
  rw [h2]
  exact hK s1 e1
theorem CName_ok {s : St} {u q : Int} {K : ByteArray → HP} (hK : ∀ s', Step [] s s' → K (cnameI u q) s'.H) : dbox_Name u q K s.H := by
  unfold dbox_Name dbox_isUser dbox_isSeq
  have bad : ¬(1 ≤ u ∧ u ≤ 999 ∧ 1 ≤ q ∧ q ≤ 99999999) → dbox_Name_j1 u q true K s.H := fun h => by
    unfold dbox_Name_j1
    refine bif_t ?_
    have := hK s Step.refl
    rwa [cnameI, if_neg h] at this
  have seq : 1 ≤ u → u ≤ 999 → (bif decide ((1 : Int) ≤ q) then (fun t10 => dbox_Name_j1 u q (!t10) K) (decide (q ≤ 99999999)) else (fun t10 => dbox_Name_j1 u q (!t10) K) false) s.H := fun h1 h2 => by
    refine bif_dec (fun h3 => ?_) (fun h3 => ?_)
    · by_cases h4 : q ≤ 99999999
      · simp only [decide_eq_true h4, Bool.not_true]
        unfold dbox_Name_j1
        refine bif_f ?_
        obtain ⟨u, rfl⟩ := Int.eq_ofNat_of_zero_le (show 0 ≤ u by omega)
        obtain ⟨q, rfl⟩ := Int.eq_ofNat_of_zero_le (show 0 ≤ q by omega)
        refine front_ok (by omega) fun s1 e1 => ?_
        refine digits_ok (by omega) (.inr rfl) fun s2 e2 => ?_
        refine cat_rule (by rw [ba_size, ba_size, front_len, low_len]; decide) ?_
        rw [ba_app]
        have := hK s2 (e1.trans e2)
        rwa [cnameI, if_pos ⟨h1, h2, h3, h4⟩] at this
      · simp only [decide_eq_false h4, Bool.not_false]
        exact bad fun h => h4 h.2.2.2
    · simp only [Bool.not_false]
      exact bad fun h => h3 h.2.2.1
  refine bif_dec (fun h1 => ?_) (fun h1 => ?_)
  · by_cases h2 : u ≤ 999
    · simp only [decide_eq_true h2, Bool.not_true]
      exact bif_f (seq h1 h2)
    · simp only [decide_eq_false h2, Bool.not_false]
      exact bif_t (bad fun h => h2 h.2.1)
  · simp only [Bool.not_false]
    exact bif_t (bad fun h => h1 h.1)
end Go.Ph
end
section
set_option linter.all false
namespace Go.Ph
open S
def isDig (c : UInt8) : Bool := decide (48 ≤ c.toNat) && decide (c.toNat ≤ 57)
/-- the number that digits tell -/
def num : List UInt8 → Nat := fun l => l.foldl (fun n c => 10 * n + (c.toNat - 48)) 0
theorem num_app (l : List UInt8) (c : UInt8) : num (l ++ [c]) = 10 * num l + (c.toNat - 48) := by simp [num]
theorem snoc_ind {α : Type} {P : List α → Prop} (h0 : P []) (h1 : ∀ l c, P l → P (l ++ [c])) (l : List α) : P l := by
  have : ∀ r : List α, P r.reverse := fun r => by
    induction r with
    | nil => exact h0
    | cons c r ih => rw [List.reverse_cons]; exact h1 _ _ ih
  have := this l.reverse
  rwa [List.reverse_reverse] at this
theorem num_lt (l : List UInt8) : (∀ c ∈ l, isDig c = true) → num l < 10 ^ l.length := by
  refine snoc_ind (P := fun l => (∀ c ∈ l, isDig c = true) → num l < 10 ^ l.length) (fun _ => by decide) (fun l c ih h => ?_) l
  have h1 := ih fun c hc => h c (by simp [hc])
  have h2 := h c (by simp)
  rw [num_app, List.length_append, List.length_singleton, Nat.pow_succ]
  simp [isDig] at h2
  omega
theorem foldl_num (l : List UInt8) : ∀ a : Nat, l.foldl (fun n c => 10 * n + (c.toNat - 48)) a = a * 10 ^ l.length + num l := by
  refine snoc_ind (P := fun l => ∀ a : Nat, l.foldl (fun n c => 10 * n + (c.toNat - 48)) a = a * 10 ^ l.length + num l) (fun a => by simp [num]) (fun l c ih a => ?_) l
  rw [List.foldl_append, List.foldl_cons, List.foldl_nil, ih a, num_app, List.length_append, List.length_singleton, Nat.pow_succ, Nat.mul_add, ← Nat.mul_assoc a, Nat.mul_comm (a * 10 ^ l.length) 10]
  omega
theorem num_cons (c : UInt8) (r : List UInt8) : num (c :: r) = (c.toNat - 48) * 10 ^ r.length + num r := by
  have := foldl_num r (10 * 0 + (c.toNat - 48))
  simpa [num] using this
theorem low_mod (n : Nat) : ∀ i m, n % 10 ^ i = m % 10 ^ i → low n i = low m i
  | 0, m, h => rfl
  | i + 1, m, h => by
    have h1 : n % 10 ^ i = m % 10 ^ i := by
      have := congrArg (· % 10 ^ i) h
      simp only [Nat.pow_succ] at this
      rwa [Nat.mod_mul_right_mod, Nat.mod_mul_right_mod] at this
    have h2 : n / 10 ^ i % 10 = m / 10 ^ i % 10 := by
      have := congrArg (· / 10 ^ i) h
      simp only [Nat.pow_succ] at this
      rwa [Nat.mod_mul_right_div_self, Nat.mod_mul_right_div_self] at this
    simp only [low]
    rw [low_mod n i m h1]
    congr 1
    unfold digit
    rw [h2]
theorem low_num : ∀ (l : List UInt8), (∀ c ∈ l, isDig c = true) → low (num l) l.length = l
  | [], h => rfl
  | c :: r, h => by
    have hr : ∀ c ∈ r, isDig c = true := fun c hc => h c (by simp [hc])
    have hc := h c (by simp)
    have h1 := num_lt r hr
    have h2 := low_num r hr
    simp only [List.length_cons, low]
    rw [num_cons]
    have e1 : ((c.toNat - 48) * 10 ^ r.length + num r) / 10 ^ r.length = c.toNat - 48 := by
      rw [Nat.mul_comm, Nat.mul_add_div (Nat.pow_pos (by decide)), Nat.div_eq_of_lt h1]; omega
    have e2 : low ((c.toNat - 48) * 10 ^ r.length + num r) r.length = low (num r) r.length := low_mod _ _ _ (by rw [Nat.mul_comm, Nat.mul_add_mod])
    rw [e1, e2, h2]
    congr 1
    unfold digit
    simp [isDig] at hc
    rw [show 48 + (c.toNat - 48) % 10 = c.toNat by omega]
    simp
theorem ext_list (a : ByteArray) (i j : Nat) : (a.extract i j).data.toList = (a.data.toList.drop i).take (j - i) := by simp
theorem pre_list (s p : ByteArray) : R.pre s p = decide (p.data.toList <+: s.data.toList) := by
  unfold R.pre
  rw [Bool.eq_iff_iff]
  simp only [Bool.and_eq_true, decide_eq_true_eq]
  constructor
  · rintro ⟨h1, h2⟩
    have : (s.extract 0 p.size).data.toList = p.data.toList := by rw [h2]
    rw [ext_list, Nat.sub_zero, List.drop_zero] at this
    rw [← this]
    exact List.take_prefix _ _
  · rintro ⟨r, hr⟩
    have hl := congrArg List.length hr
    rw [List.length_append, ba_len, ba_len] at hl
    refine ⟨by omega, ba_ext ?_⟩
    rw [ext_list, Nat.sub_zero, List.drop_zero, ← hr]
    rw [List.take_append_of_le_length (by rw [ba_len]; exact Nat.le_refl _), List.take_of_length_le (by rw [ba_len]; exact Nat.le_refl _)]
def numberOf (r : List UInt8) : Int := if r.length = 8 ∧ r.all isDig = true then num r else 0
theorem ba_list (l : List UInt8) : (ba l).data.toList = l := by simp [ba]
theorem list_ba (b : ByteArray) : ba b.data.toList = b := by apply ba_ext; simp [ba]
theorem num_take {r : List UInt8} {i : Nat} {c : UInt8} (h : r[i]? = some c) : num (r.take (i + 1)) = 10 * num (r.take i) + (c.toNat - 48) := by
  rw [List.take_succ, h]; simp [num_app]
theorem dig_take {r : List UInt8} {i : Nat} {c : UInt8} (h : r[i]? = some c) (ha : ∀ x ∈ r.take i, isDig x = true) (hc : isDig c = true) : ∀ x ∈ r.take (i + 1), isDig x = true := by
  rw [List.take_succ, h]; intro x hx; simp at hx
  rcases hx with hx | hx
  · exact ha x hx
  · rw [hx]; exact hc
theorem number_end {u : Nat} {r : List UInt8} (hu : 1 ≤ u ∧ u ≤ 999) (ha : ∀ x ∈ r, isDig x = true) : (if cnameI u (num r) = ba (front u ++ r) then (num r : Int) else 0) = numberOf r := by
  have hal : r.all isDig = true := List.all_eq_true.2 ha
  have hlt := num_lt r ha
  unfold numberOf cnameI
  by_cases h8 : r.length = 8
  · rw [if_pos (And.intro h8 hal)]
    rw [h8] at hlt
    by_cases h0 : num r = 0
    · rw [h0]; simp
    · rw [if_pos (c := _ ∧ _) ⟨by omega, by omega, by omega, by omega⟩]
      have := low_num r ha
      rw [h8] at this
      rw [if_pos]
      simp only [cname, Int.toNat_natCast, this]
  · rw [if_neg (c := r.length = 8 ∧ _) (fun h => h8 h.1)]
    rw [if_neg]
    intro h
    have hz := congrArg ByteArray.size h
    rw [ba_size, List.length_append, front_len] at hz
    split at hz
    · rw [ba_size, cname_len] at hz; omega
    · have : (⟨#[]⟩ : ByteArray).size = 0 := rfl
      omega
theorem number_ok {s : St} {u : Nat} {r : List UInt8} {K : Int → HP} (hu : 1 ≤ u ∧ u ≤ 999) (hr : r.length ≤ 1000000000000)
    (hK : ∀ s', Step [] s s' → K (numberOf r) s'.H) : dbox_number u (ba (front u ++ r)) K s.H := by
  unfold dbox_number
  refine front_ok (by omega) fun s1 e1 => ?_
  have hp : R.pre (ba (front u ++ r)) (ba (front u)) = true := by rw [pre_list, ba_list, ba_list]; exact decide_eq_true (List.prefix_append _ _)
  unfold strings_TrimPrefix internal_stringslite_TrimPrefix
  refine pre_ok (H := s1.H) (K := fun t7 => bif t7 then _ else _) ?_
  rw [hp]
  refine bif_t (slS_rule (by rw [ba_size, ba_size, front_len, List.length_append, front_len]; omega) ?_)
  have hx : (ba (front u ++ r)).extract (((ba (front u)).size : Int)).toNat (((ba (front u ++ r)).size : Int)).toNat = ba r := by
    apply ba_ext
    rw [ext_list, ba_list, ba_list, ba_size, ba_size, Int.toNat_natCast, Int.toNat_natCast, List.drop_left, List.length_append]
    exact List.take_of_length_le (by omega)
  rw [hx]
  refine s2b_rule 0 (by omega) fun s2 sl e2 z2 hb => ?_
  rw [ba_list] at hb
  have hls : Ls tBy (s2.w 0) r sl := hb.1
  have hlen := hls.len
  refine loop_rule (fun i : Nat => [.int .i64 (num (r.take i) : Nat), .int .i64 i]) (fun i s' => i ≤ r.length ∧ Step [] s s' ∧ Ls tBy (s'.w 0) r sl ∧ (∀ x ∈ r.take i, isDig x = true) ∧ num (r.take i) ≤ 1000000009) (fun i _ => r.length - i) 0 (by simp [num]) ⟨Nat.zero_le _, e1.trans e2, hls, by simp, by simp [num]⟩ ?_
  rintro i s3 ⟨hi, e3, l3, ha, hn⟩ G hG
  simp only [List.getD_cons_zero, List.getD_cons_succ, asI_v, asL_v, asS_v, asB_v, asM_v, asP_v]
  have bad : numberOf r = 0 → dbox_number_j1 u (ba (front u ++ r)) (num (r.take i)) 0 sl 0 i true K G s3.H := fun h => by
    unfold dbox_number_j1
    have := hK s3 e3
    rw [h] at this
    exact bif_t this
  refine bif_dec (fun hlt => ?_) (fun hlt => ?_)
  · have hlt' : i < r.length := by omega
    obtain ⟨c, hc⟩ : ∃ c, r[i]? = some c := ⟨_, List.getElem?_eq_getElem hlt'⟩
    have hcm : c ∈ r := List.mem_of_getElem? hc
    refine ixL_rule l3 (by omega) (by omega) fun b o x hx hel => ?_
    have hxc : x = c := by rw [Int.toNat_natCast, hc] at hx; exact (Option.some.inj hx).symm
    subst hxc
    obtain ⟨vs, rfl, hat⟩ := hel
    refine ldI_at0 hat rfl ?_
    have nod : isDig x = false → numberOf r = 0 := fun h => by
      unfold numberOf
      rw [if_neg]
      rintro ⟨-, h2⟩
      rw [List.all_eq_true] at h2
      rw [h2 x hcm] at h
      cases h
    refine bif_dec (fun h1 => ?_) (fun h1 => ?_)
    · exact bad (nod (by simp [isDig]; omega))
    · refine bif_dec (fun h2 => ?_) (fun h2 => ?_)
      · exact bad (nod (by simp [isDig]; omega))
      · by_cases h3 : (99999999 : Int) < num (r.take i)
        · rw [decide_eq_true h3]
          refine bad ?_
          have := num_lt (r.take i) ha
          unfold numberOf
          rw [if_neg]
          rintro ⟨h4, -⟩
          have hl : (r.take i).length ≤ 7 := by rw [List.length_take]; omega
          have : 10 ^ (r.take i).length ≤ 10 ^ 7 := Nat.pow_le_pow_right (by decide) hl
          omega
        · rw [decide_eq_false h3]
          unfold dbox_number_j1
          refine bif_f ?_
          have h48 : wr .u8 ((x.toNat : Int) - 48) = ((x.toNat - 48 : Nat) : Int) := by rw [wr_u8 (by omega) (by omega)]; omega
          rw [h48, w64_id (n := ((x.toNat - 48 : Nat) : Int)) (by omega) (by omega), w64_id (n := 10 * _) (by omega) (by omega), w64_id (by omega) (by omega), w64_id (by omega) (by omega)]
          have hG' := hG (i + 1) s3 ⟨by omega, e3, l3, dig_take hc ha (by simp [isDig]; omega), by rw [num_take hc]; omega⟩ (by omega)
          rw [num_take hc] at hG'
          exact hG'
  · have : i = r.length := by omega
    subst this
    rw [List.take_of_length_le (Nat.le_refl _)] at *
    refine CName_ok fun s4 e4 => ?_
    have := hK s4 (e3.trans e4)
    rw [← number_end hu ha] at this
    refine bif_ndec (fun h => ?_) (fun h => ?_)
    · rwa [if_neg h] at this
    · rwa [if_pos h] at this
/-- a container's number by its name in the document; -1: another beginning -/
def seqOf (u : Nat) (n : ByteArray) : Int := if R.pre n (ba (front u)) then (if n.size = 5 then 0 else numberOf (n.data.toList.drop 5)) else -1
end Go.Ph
end
section
set_option linter.all false
namespace Go.Ph
open S
/-- the number that bytes tell -/
def be (l : List UInt8) : Nat := l.foldl (fun n c => 256 * n + c.toNat) 0
theorem be_app (l : List UInt8) (c : UInt8) : be (l ++ [c]) = 256 * be l + c.toNat := by simp [be]
theorem be_take {r : List UInt8} {i : Nat} {c : UInt8} (h : r[i]? = some c) : be (r.take (i + 1)) = 256 * be (r.take i) + c.toNat := by
  rw [List.take_succ, h]; simp [be_app]
theorem be_lt (l : List UInt8) : be l < 256 ^ l.length := by
  refine snoc_ind (P := fun l => be l < 256 ^ l.length) (by decide) (fun l c ih => ?_) l
  rw [be_app, List.length_append, List.length_singleton, Nat.pow_succ]
  have := c.toNat_lt
  omega
theorem pow_le (i : Nat) (h : i ≤ 7) : 256 ^ i ≤ 72057594037927936 := Nat.pow_le_pow_right (n := 256) (by decide) h
theorem wr_u64 {n : Int} (h : 0 ≤ n) (h2 : n < 18446744073709551616) : wr .u64 n = n := by
  unfold wr IntKind.wrap
  simp [IntKind.bits, IntKind.signed]
  omega
theorem wr_u32 {n : Int} (h : 0 ≤ n) (h2 : n < 4294967296) : wr .u32 n = n := by
  unfold wr IntKind.wrap
  simp [IntKind.bits, IntKind.signed]
  omega
theorem or_byte {n c : Nat} (hn : n < 72057594037927936) (hc : c < 256) : ior .u64 (ishl .u64 n 8) c = ((256 * n + c : Nat) : Int) := by
  unfold ior ishl
  have h1 : IntKind.wrap .u64 ((n : Int) * 2 ^ (min (8 : Int).toNat (IntKind.bits .u64))) = ((n * 256 : Nat) : Int) := by
    show IntKind.wrap .u64 ((n : Int) * 2 ^ 8) = _
    have : (n : Int) * 2 ^ 8 = ((n * 256 : Nat) : Int) := by omega
    rw [this]; exact wr_u64 (by omega) (by omega)
  rw [h1]
  have h2 : (BitVec.ofInt (IntKind.bits .u64) ((n * 256 : Nat) : Int) ||| BitVec.ofInt (IntKind.bits .u64) (c : Int)).toNat = 256 * n + c := by
    rw [BitVec.toNat_or, BitVec.ofInt_natCast, BitVec.ofInt_natCast, BitVec.toNat_ofNat, BitVec.toNat_ofNat]
    show (n * 256) % 2 ^ 64 ||| c % 2 ^ 64 = _
    rw [Nat.mod_eq_of_lt (by omega), Nat.mod_eq_of_lt (by omega)]
    have := Nat.shiftLeft_add_eq_or_of_lt (a := n) (b := c) (i := 8) (by omega)
    rw [Nat.shiftLeft_eq, show (2:Nat) ^ 8 = 256 from rfl] at this
    omega
  rw [h2]
  exact wr_u64 (by omega) (by omega)
/-- the number at a place -/
def getI (l : List UInt8) (at_ k : Int) : Int := if 1 ≤ k ∧ k ≤ 8 ∧ 0 ≤ at_ ∧ at_ + k ≤ l.length then be ((l.drop at_.toNat).take k.toNat) else 0
def getB (l : List UInt8) (at_ k : Int) : Bool := decide (1 ≤ k ∧ k ≤ 8 ∧ 0 ≤ at_ ∧ at_ + k ≤ l.length)
theorem getI_bd (l : List UInt8) (a k : Int) : 0 ≤ getI l a k ∧ getI l a k < 18446744073709551616 := by
  unfold getI
  split
  · have := be_lt ((l.drop a.toNat).take k.toNat)
    have h2 : ((l.drop a.toNat).take k.toNat).length ≤ 8 := by rw [List.length_take]; omega
    have : 256 ^ ((l.drop a.toNat).take k.toNat).length ≤ 256 ^ 8 := Nat.pow_le_pow_right (by decide) h2
    omega
  · omega
theorem Get_ok {s : St} {k0 : Nat} {l : List UInt8} {sl : Sl} {a k : Int} {K : Int → Bool → HP} (h : LsW tBy (s.w 0) (s.w k0) l sl) (hl : l.length ≤ 9000000000000000000) (hk : -100 ≤ a ∧ a < 9223372036854775808)
    (hK : K (getI l a k) (getB l a k) s.H) : octet_Get sl a k K s.H := by
  unfold octet_Get octet_good
  have hlen := h.len
  have hcap := h.cap
  unfold getI getB at hK
  have bad : ¬(1 ≤ k ∧ k ≤ 8 ∧ 0 ≤ a ∧ a + k ≤ l.length) → octet_Get_j1 sl a k true K s.H := fun hn => by
    unfold octet_Get_j1
    rw [if_neg hn, decide_eq_false hn] at hK
    exact bif_t hK
  refine bif_dec (fun h1 => ?_) (fun h1 => bif_t (bad (by omega)))
  refine bif_ndec (fun h2 => ?_) (fun h2 => ?_)
  · exact bad (by omega)
  refine bif_dec (fun h3 => ?_) (fun h3 => ?_)
  · exact bad (by omega)
  refine bif_dec (fun h4 => ?_) (fun h4 => ?_)
  · exact bad (by omega)
  rw [w64_id (n := (sl.len : Nat) - a) (by omega) (by omega)]
  by_cases h5 : ((sl.len : Nat) : Int) - a < k
  · rw [decide_eq_true h5]
    exact bad (by omega)
  rw [decide_eq_false h5]
  rw [if_pos (by omega), decide_eq_true (by omega)] at hK
  unfold octet_Get_j1
  refine bif_f ?_
  rw [w64_id (n := a + k) (by omega) (by omega)]
  refine slL_rule h (by omega) (by omega) (by omega) (by omega) (by omega) fun sl' hs hc => ?_
  have hrr : (l.take (a + k).toNat).drop a.toNat = (l.drop a.toNat).take k.toNat := by rw [List.drop_take]; congr 1; omega
  rw [hrr] at hs
  generalize hr : (l.drop a.toNat).take k.toNat = r at *
  have hrl : r.length = k.toNat := by rw [← hr, List.length_take, List.length_drop]; omega
  have hsl := hs.len
  refine loop_rule (fun i : Nat => [.int .u64 (be (r.take i) : Nat), .int .i64 i]) (fun i s' => i ≤ r.length ∧ s' = s) (fun i _ => r.length - i) 0 (by simp [be]) ⟨Nat.zero_le _, rfl⟩ ?_
  rintro i s3 ⟨hi, rfl⟩ G hG
  simp only [List.getD_cons_zero, List.getD_cons_succ, asI_v, asL_v, asS_v, asB_v, asM_v, asP_v]
  refine bif_dec (fun hlt => ?_) (fun hlt => ?_)
  · refine ixL_rule hs (by omega) (by omega) fun b o x hx hel => ?_
    obtain ⟨vs, rfl, hat⟩ := hel
    refine ldI_at0 hat rfl ?_
    have hrx : r[i]? = some x := by rw [← hx]; congr 1
    have hb := be_lt (r.take i)
    have hp := pow_le (r.take i).length (by rw [List.length_take]; omega)
    have hxl := x.toNat_lt
    refine ⟨by decide, ?_⟩
    rw [wr_u64 (n := (x.toNat : Int)) (by omega) (by omega), or_byte (by omega) (by omega), w64_id (by omega) (by omega)]
    have hG' := hG (i + 1) s3 ⟨by omega, rfl⟩ (by omega)
    rw [be_take hrx] at hG'
    exact hG'
  · have : i = r.length := by omega
    subst this
    rw [List.take_of_length_le (Nat.le_refl _)]
    exact hK
/-! check sums -/
/-- one step -/
def st1 (c : BitVec 32) : BitVec 32 := (c >>> 1) ^^^ (if c.getLsbD 0 then 3988292384#32 else 0#32)
def st4 (c : BitVec 32) : BitVec 32 := st1 (st1 (st1 (st1 c)))
def st8 (c : BitVec 32) : BitVec 32 := st4 (st4 c)
theorem st1_xor (a b : BitVec 32) : st1 (a ^^^ b) = st1 a ^^^ st1 b := by
  unfold st1
  rw [BitVec.ushiftRight_xor_distrib, BitVec.getLsbD_xor]
  cases a.getLsbD 0 <;> cases b.getLsbD 0 <;> simp [BitVec.xor_assoc]
  · rw [BitVec.xor_comm]
  · generalize a >>> 1 = x; generalize b >>> 1 = y
    rw [BitVec.xor_comm y, ← BitVec.xor_assoc (3988292384#32)]; simp
theorem st4_xor (a b : BitVec 32) : st4 (a ^^^ b) = st4 a ^^^ st4 b := by simp only [st4, st1_xor]
theorem st1_shl (c : BitVec 32) (i : Nat) (hi : i < 4) : st1 ((c >>> 4) <<< (i + 1)) = (c >>> 4) <<< i := by
  unfold st1
  have h0 : ((c >>> 4) <<< (i + 1)).getLsbD 0 = false := by simp
  rw [h0]
  simp only [Bool.false_eq_true, if_false, BitVec.xor_zero]
  apply BitVec.eq_of_getLsbD_eq
  intro j hj
  simp only [BitVec.getLsbD_ushiftRight, BitVec.getLsbD_shiftLeft]
  by_cases h1 : j < i
  · simp [h1, show 1 + j < i + 1 by omega]
  · by_cases h2 : 1 + j < 32
    · simp [h1, h2, hj, show ¬(1 + j < i + 1) by omega, show 4 + (1 + j - (i + 1)) = 4 + (j - i) by omega]
    · have : j = 31 := by omega
      subst this
      simp [h1]
      have : c.getLsbD (4 + (31 - i)) = false := BitVec.getLsbD_of_ge _ _ (by omega)
      simpa using this
theorem st4_shl (c : BitVec 32) : st4 ((c >>> 4) <<< 4) = c >>> 4 := by
  unfold st4
  rw [st1_shl c 3 (by decide), st1_shl c 2 (by decide), st1_shl c 1 (by decide), st1_shl c 0 (by decide)]
  simp
theorem split4 (c : BitVec 32) : c = ((c >>> 4) <<< 4) ^^^ (c &&& 15#32) := by
  apply BitVec.eq_of_getLsbD_eq
  intro j hj
  simp only [BitVec.getLsbD_xor, BitVec.getLsbD_shiftLeft, BitVec.getLsbD_ushiftRight, BitVec.getLsbD_and]
  by_cases h : j < 4
  · have : (15#32).getLsbD j = true := by
      match j, h with
      | 0, _ => rfl
      | 1, _ => rfl
      | 2, _ => rfl
      | 3, _ => rfl
    simp [h, this]
  · have : (15#32).getLsbD j = false := by
      obtain ⟨k, rfl⟩ := Nat.exists_eq_add_of_le (show 4 ≤ j by omega)
      unfold BitVec.getLsbD
      show Nat.testBit 15 (4 + k) = false
      apply Nat.testBit_lt_two_pow
      have : 2 ^ 4 ≤ 2 ^ (4 + k) := Nat.pow_le_pow_right (by decide) (by omega)
      omega
    rw [this]
    simp [h, hj, -BitVec.getLsbD_eq_getElem, show 4 + (j - 4) = j by omega]
theorem st4_eq (c : BitVec 32) : st4 c = st4 (c &&& 15#32) ^^^ (c >>> 4) := by
  conv => lhs; rw [split4 c, st4_xor, st4_shl]
  exact BitVec.xor_comm _ _
end Go.Ph
end
section
set_option linter.all false
namespace Go.Ph
open S
theorem ofInt_nat (a : BitVec 32) : BitVec.ofInt (IntKind.bits .u32) (a.toNat : Int) = a := by
  show BitVec.ofInt 32 _ = a
  rw [BitVec.ofInt_natCast]; exact BitVec.ofNat_toNat .. |>.trans (by simp)
/-- a whole row is written -/
theorem row_rule {s : St} {k b : Nat} {vs ws : List Value} {K : HP} (k' : Nat) (h : At (s.w k) b 0 vs) (hl : ws.length = vs.length) (hv : ∀ v ∈ ws, one v = true) (hk : k ≠ 0) (hk' : k' = k ∨ k' = 0)
    (hK : ∀ s' : St, Step [k] s s' → s'.H.size = s.H.size → At (s'.w k') b 0 ws → Oth b s s' → K s'.H) : sts (at0 b) 0 ws K s.H := by
  cases hw : ws with
  | nil =>
    rw [hw] at hK
    exact hK s Step.refl rfl At.nil (fun _ _ _ => ⟨rfl, rfl⟩)
  | cons w0 wr0 =>
    rw [← hw]
    have hpos : 0 < vs.length := by rw [← hl, hw]; simp
    have h0 := h 0 _ (List.getElem?_eq_getElem hpos)
    have hc0 := s.wf b (0 + 0) (w_lt h0)
    rw [(w_some h0).2] at hc0
    refine sts_rule (k := k) (k' := k') ws (fun j hj => ⟨_, by have := h j _ (List.getElem?_eq_getElem (by omega)); simpa using this⟩) hv (by rcases hk' with h | h <;> omega) hk fun s2 h2 => ?_
    refine hK s2 (h2.step (q := k) (by simp) hk fun i hi => by
      have := h i _ (List.getElem?_eq_getElem (by omega))
      have := (w_some this).2
      simpa using this) h2.sz (by have := h2.here; simpa using this) (fun x i hx => h2.old x i (fun ⟨q, _⟩ => hx q))
theorem wr_bv (a : BitVec 32) : IntKind.wrap .u32 (a.toNat : Int) = (a.toNat : Int) := wr_u32 (by omega) (by have := a.isLt; omega)
theorem x32 (a b : BitVec 32) : ixor .u32 (a.toNat : Int) (b.toNat : Int) = ((a ^^^ b).toNat : Int) := by
  unfold ixor; rw [ofInt_nat, ofInt_nat]; exact wr_bv (a ^^^ b)
theorem n32 (a : BitVec 32) : iand .u32 (a.toNat : Int) 15 = ((a &&& 15#32).toNat : Int) := by
  unfold iand; rw [ofInt_nat]; exact wr_bv (a &&& 15#32)
theorem one32 (a : BitVec 32) : iand .u32 (a.toNat : Int) 1 = ((a &&& 1#32).toNat : Int) := by
  unfold iand; rw [ofInt_nat]; exact wr_bv (a &&& 1#32)
theorem p32 (a : BitVec 32) : ixor .u32 (a.toNat : Int) 3988292384 = ((a ^^^ 3988292384#32).toNat : Int) := by
  unfold ixor; rw [ofInt_nat]; exact wr_bv (a ^^^ 3988292384#32)
theorem s4_32 (a : BitVec 32) : ishr .u32 (a.toNat : Int) 4 = ((a >>> 4).toNat : Int) := by
  unfold ishr
  show Int.fdiv _ (2 ^ 4) = _
  rw [BitVec.toNat_ushiftRight, Nat.shiftRight_eq_div_pow, Int.fdiv_eq_ediv_of_nonneg _ (by decide)]; omega
theorem s1_32 (a : BitVec 32) : ishr .u32 (a.toNat : Int) 1 = ((a >>> 1).toNat : Int) := by
  unfold ishr
  show Int.fdiv _ (2 ^ 1) = _
  rw [BitVec.toNat_ushiftRight, Nat.shiftRight_eq_div_pow, Int.fdiv_eq_ediv_of_nonneg _ (by decide)]; omega
theorem not32 (a : BitVec 32) : ixor .u32 (if IntKind.signed .u32 then -1 else IntKind.max .u32) (a.toNat : Int) = ((~~~a).toNat : Int) := by
  have : (if IntKind.signed .u32 then -1 else IntKind.max .u32) = (((4294967295#32 : BitVec 32).toNat : Nat) : Int) := by decide
  rw [this, x32]
  congr 2
def bx (x : UInt8) : BitVec 32 := BitVec.ofNat 32 x.toNat
theorem b32 (x : UInt8) : wr .u32 (x.toNat : Int) = ((bx x).toNat : Int) := by
  have := x.toNat_lt
  rw [wr_u32 (by omega) (by omega)]; unfold bx; rw [BitVec.toNat_ofNat, Nat.mod_eq_of_lt (by omega)]
theorem st1_nat (c : BitVec 32) : (st1 c) = if c.toNat % 2 = 1 then (c >>> 1) ^^^ 3988292384#32 else c >>> 1 := by
  unfold st1
  have : c.getLsbD 0 = decide (c.toNat % 2 = 1) := by
    unfold BitVec.getLsbD; rw [Nat.testBit_zero]
  rw [this]
  by_cases h : c.toNat % 2 = 1 <;> simp [h]
/-- the sum of bytes that had a sum, and some more -/
def crcF (c : BitVec 32) (l : List UInt8) : BitVec 32 := l.foldl (fun c x => st8 (c ^^^ bx x)) c
def crc (c : BitVec 32) (l : List UInt8) : BitVec 32 := ~~~ (crcF (~~~ c) l)
theorem crcF_take {r : List UInt8} {i : Nat} {x : UInt8} (h : r[i]? = some x) (c : BitVec 32) : crcF c (r.take (i + 1)) = st8 (crcF c (r.take i) ^^^ bx x) := by
  rw [List.take_succ, h]; simp [crcF, List.foldl_append]
theorem crc_app (c : BitVec 32) (a b : List UInt8) : crc (crc c a) b = crc c (a ++ b) := by
  unfold crc crcF
  rw [BitVec.not_not, List.foldl_append]
def stn (c : BitVec 32) : Nat → BitVec 32
  | 0 => c
  | n + 1 => st1 (stn c n)
def T16 : List Value := (List.range 16).map fun i => .int .u32 ((st4 (BitVec.ofNat 32 i)).toNat : Nat)
theorem row_ok {s : St} {K : G_A16_uint32 → HP}
    (hK : ∀ s' (t : G_A16_uint32), Step [] s s' → T16 = [.int .u32 t.c0, .int .u32 t.c1, .int .u32 t.c2, .int .u32 t.c3, .int .u32 t.c4, .int .u32 t.c5, .int .u32 t.c6, .int .u32 t.c7, .int .u32 t.c8, .int .u32 t.c9, .int .u32 t.c10, .int .u32 t.c11, .int .u32 t.c12, .int .u32 t.c13, .int .u32 t.c14, .int .u32 t.c15] → K t s'.H) : crc_row K s.H := by
  unfold crc_row
  have hq0 : own s ≠ 0 := by unfold own; omega
  refine newc_k (own s) (by unfold own; omega) fun s1 b n1 a1 => ?_
  refine loop_rule (fun i : Nat => [.int .i64 i]) (fun i s' => i ≤ 16 ∧ Step [own s] s s' ∧ s'.H.size = s1.H.size ∧ At (s'.w (own s)) b 0 (T16.take i ++ List.replicate (16 - i) (.int .u32 0))) (fun i _ => 16 - i) 0 rfl ⟨by decide, n1.step.n, rfl, a1⟩ ?_
  rintro i s2 ⟨hi, e2, z2, a2⟩ G hG
  simp only [List.getD_cons_zero, List.getD_cons_succ, asI_v, asL_v, asS_v, asB_v, asM_v, asP_v]
  refine bif_dec (fun hlt => ?_) (fun hlt => ?_)
  · have hi' : wr .u32 (i : Int) = ((BitVec.ofNat 32 i).toNat : Int) := by rw [wr_u32 (by omega) (by omega), BitVec.toNat_ofNat, Nat.mod_eq_of_lt (by omega)]
    rw [hi']
    refine loop_rule (fun j : Nat => [.int .u32 ((stn (BitVec.ofNat 32 i) j).toNat : Nat), .int .i64 j]) (fun j s' => j ≤ 4 ∧ s' = s2) (fun j _ => 4 - j) 0 rfl ⟨by decide, rfl⟩ ?_
    rintro j s4 ⟨hj, rfl⟩ G2 hG2
    simp only [List.getD_cons_zero, List.getD_cons_succ, asI_v, asL_v, asS_v, asB_v, asM_v, asP_v]
    refine bif_dec (fun hlt2 => ?_) (fun hlt2 => ?_)
    · rw [one32, s1_32, p32]
      unfold crc_row_j1
      rw [w64_id (by omega) (by omega)]
      have hG2' := hG2 (j + 1) s4 ⟨by omega, rfl⟩ (by omega)
      simp only [stn] at hG2'
      rw [st1_nat] at hG2'
      have ha : (stn (BitVec.ofNat 32 i) j &&& 1#32).toNat = (stn (BitVec.ofNat 32 i) j).toNat % 2 := by
        rw [BitVec.toNat_and]; exact Nat.and_one_is_mod _
      rw [ha]
      refine bif_dec (fun h => ?_) (fun h => ?_)
      · refine ⟨by decide, ?_⟩
        rwa [if_pos (by omega)] at hG2'
      · refine ⟨by decide, ?_⟩
        rwa [if_neg (by omega)] at hG2'
    · have : j = 4 := by omega
      subst this
      refine ⟨by omega, by omega, ?_⟩
      rw [Int.toNat_natCast, Nat.mul_one]
      have hlen : (T16.take i ++ List.replicate (16 - i) (Value.int .u32 0)).length = 16 := by simp [T16]; omega
      have hT : T16[i]? = some (.int .u32 ((stn (BitVec.ofNat 32 i) 4).toNat : Nat)) := by
        unfold T16; rw [List.getElem?_map, List.getElem?_range (by omega)]; rfl
      refine fld_rule a2 (by rw [hlen]; omega) rfl hq0 (fun s5 e5 z5 a5 _ => ?_)
      rw [w64_id (by omega) (by omega)]
      refine hG (i + 1) s5 ⟨by omega, e2.tr e5, by omega, ?_⟩ (by omega)
      have hs : (T16.take i ++ List.replicate (16 - i) (Value.int .u32 0)).set i (.int .u32 ((stn (BitVec.ofNat 32 i) 4).toNat : Nat)) = T16.take (i + 1) ++ List.replicate (16 - (i + 1)) (.int .u32 0) := by
        have ht : (T16.take i).length = i := by rw [List.length_take]; simp [T16]; omega
        rw [List.set_append_right _ _ (by omega), ht, Nat.sub_self, List.take_succ, hT]
        rw [show 16 - i = (16 - (i + 1)) + 1 by omega, List.replicate_succ]
        simp
      rwa [hs] at a5
  · have : i = 16 := by omega
    subst this
    have a3 : At (s2.w (own s)) b 0 T16 := by
      have : T16.take 16 = T16 := List.take_of_length_le (by simp [T16])
      rw [this] at a2
      simpa using a2
    unfold ld_G_A16_uint32
    repeat (first|refine nn_at ?_|refine ldI_at a3 rfl ?_|refine ldB_at a3 rfl ?_|refine ldS_at a3 rfl ?_|refine ldP_at a3 rfl ?_|refine ldM_at a3 rfl ?_|refine ldL_at a3 rfl ?_)
    refine row_rule (own s) a3 rfl (by simp [one]) hq0 (.inl rfl) fun s3 e3 z3 a4 _ => ?_
    repeat (first|refine nn_at ?_|refine ldI_at a4 rfl ?_|refine ldB_at a4 rfl ?_|refine ldS_at a4 rfl ?_|refine ldP_at a4 rfl ?_|refine ldM_at a4 rfl ?_|refine ldL_at a4 rfl ?_)
    exact hK s3 _ ((e2.tr e3 (S := [own s])).loc) rfl
theorem More_ok {s : St} {k0 : Nat} {l : List UInt8} {sl : Sl} {c : BitVec 32} {K : Int → HP} (h : LsW tBy (s.w 0) (s.w k0) l sl) (hl : l.length ≤ 9000000000000000000)
    (hK : ∀ s', Step [] s s' → K ((crc c l).toNat : Int) s'.H) : crc_More (c.toNat : Int) sl K s.H := by
  unfold crc_More
  refine row_ok fun s1 t e1 hT => ?_
  refine newc_sts rfl (by simp [one]) fun s2 b e2 a2 => ?_
  rw [← hT] at a2
  rw [not32]
  have hlen := h.len
  have hls : LsW tBy (s2.w 0) (s2.w k0) l sl := h.mono (e1.trans e2).v0 ((e1.trans e2).view (by simp))
  refine loop_rule (fun i : Nat => [.int .u32 ((crcF (~~~ c) (l.take i)).toNat : Nat), .int .i64 i]) (fun i s' => i ≤ l.length ∧ s' = s2) (fun i _ => l.length - i) 0 (by simp [crcF]) ⟨Nat.zero_le _, rfl⟩ ?_
  rintro i s3 ⟨hi, rfl⟩ G hG
  simp only [List.getD_cons_zero, List.getD_cons_succ, asI_v, asL_v, asS_v, asB_v, asM_v, asP_v]
  refine bif_dec (fun hlt => ?_) (fun hlt => ?_)
  · refine ixL_rule hls (by omega) (by omega) fun b o x hx hel => ?_
    obtain ⟨vs, rfl, hat⟩ := hel
    refine ldI_at0 hat rfl ?_
    have hG' := hG (i + 1) s3 ⟨by omega, rfl⟩ (by omega)
    rw [crcF_take (by simpa using hx)] at hG'
    rw [b32, x32]
    generalize crcF (~~~ c) (l.take i) ^^^ bx x = e at *
    have hT2 : ∀ e : BitVec 32, T16[(e &&& 15#32).toNat]? = some (.int .u32 ((st4 (e &&& 15#32)).toNat : Nat)) ∧ (e &&& 15#32).toNat < 16 := fun e => by
      have : (e &&& 15#32).toNat < 16 := by
        rw [BitVec.toNat_and]
        exact Nat.lt_of_le_of_lt Nat.and_le_right (by decide)
      refine ⟨?_, this⟩
      unfold T16; rw [List.getElem?_map, List.getElem?_range this]
      simp
    rw [n32]
    refine ⟨by omega, by have := (hT2 e).2; omega, ?_⟩
    rw [Int.toNat_natCast, Nat.mul_one]
    refine ldI_at a2 (hT2 e).1 ?_
    refine ⟨by decide, ?_⟩
    rw [s4_32, x32, ← st4_eq, n32]
    refine ⟨by omega, by have := (hT2 (st4 e)).2; omega, ?_⟩
    rw [Int.toNat_natCast, Nat.mul_one]
    refine ldI_at a2 (hT2 (st4 e)).1 ?_
    refine ⟨by decide, ?_⟩
    rw [s4_32, x32, ← st4_eq, w64_id (by omega) (by omega)]
    exact hG'
  · have : i = l.length := by omega
    subst this
    rw [List.take_of_length_le (Nat.le_refl _), not32]
    exact hK s3 (e1.trans e2)
theorem Of_ok {s : St} {k0 : Nat} {l : List UInt8} {sl : Sl} {K : Int → HP} (h : LsW tBy (s.w 0) (s.w k0) l sl) (hl : l.length ≤ 9000000000000000000)
    (hK : ∀ s', Step [] s s' → K ((crc 0#32 l).toNat : Int) s'.H) : crc_Of sl K s.H := More_ok (c := 0#32) h hl hK
theorem sum_ok {s : St} {k0 k1 : Nat} {l m : List UInt8} {sl sm : Sl} {K : Int → HP} (h : LsW tBy (s.w 0) (s.w k0) l sl) (h1 : LsW tBy (s.w 0) (s.w k1) m sm) (hl : l.length ≤ 9000000000000000000) (hm : m.length ≤ 9000000000000000000)
    (hK : ∀ s', Step [] s s' → K ((crc 0#32 (l ++ m)).toNat : Int) s'.H) : frame_sum sl sm K s.H := by
  unfold frame_sum
  refine Of_ok h hl fun s1 e1 => ?_
  refine More_ok (h1.st e1 (by simp)) hm fun s2 e2 => ?_
  rw [crc_app]
  exact hK s2 (e1.trans e2)
end Go.Ph
end
section
set_option linter.all false
namespace Go.Ph
/-- a number's bytes -/
def putB (n : Nat) : Nat → List UInt8
  | 0 => []
  | k + 1 => putB (n / 256) k ++ [UInt8.ofNat (n % 256)]
theorem putB_len (n k : Nat) : (putB n k).length = k := by
  induction k generalizing n with
  | zero => rfl
  | succ k ih => simp [putB, ih]
theorem be_putB (n k : Nat) (h : n < 256 ^ k) : be (putB n k) = n := by
  induction k generalizing n with
  | zero => simp at h; subst h; rfl
  | succ k ih =>
    rw [Nat.pow_succ] at h
    rw [putB, be_app, ih _ (by omega), UInt8.toNat_ofNat']
    omega
theorem putB_be (l : List UInt8) : putB (be l) l.length = l := by
  refine snoc_ind (P := fun l => putB (be l) l.length = l) rfl (fun l c ih => ?_) l
  have hc := c.toNat_lt
  rw [List.length_append, List.length_singleton, putB, be_app]
  rw [show (256 * be l + c.toNat) / 256 = be l by omega, show (256 * be l + c.toNat) % 256 = c.toNat by omega, ih]
  simp
/-- bytes without the mark -/
def veil1 (c : UInt8) : List UInt8 := if c = 80 then [81, 0] else if c = 81 then [81, 1] else [c]
def veil (l : List UInt8) : List UInt8 := l.flatMap veil1
theorem veil_app (a b : List UInt8) : veil (a ++ b) = veil a ++ veil b := by simp [veil]
theorem veil_nil : veil [] = [] := rfl
theorem veil_cons (c : UInt8) (l : List UInt8) : veil (c :: l) = veil1 c ++ veil l := by simp [veil]
theorem veil1_inj (c d : UInt8) (a b : List UInt8) (h : veil1 c ++ a = veil1 d ++ b) : c = d ∧ a = b := by
  unfold veil1 at h
  by_cases h1 : c = 80 <;> by_cases h2 : d = 80 <;> by_cases h3 : c = 81 <;> by_cases h4 : d = 81 <;> simp_all
  all_goals first | exact absurd h.1.symm ‹_› | exact absurd h.1 ‹_›
theorem veil1_ne (c : UInt8) : veil1 c ≠ [] := by unfold veil1; repeat (first | split | simp)
/-- a veiled byte is read: what is wrong, or the byte and where the next one begins -/
def rd (b : List UInt8) (i : Nat) : Except Int (UInt8 × Nat) :=
  match b[i]? with
  | none => .error 2
  | some c => if c = 80 then .error 3 else if c = 81 then (match b[i + 1]? with
    | none => .error 2
    | some d => if d = 0 then .ok (80, i + 2) else if d = 1 then .ok (81, i + 2) else .error 3) else .ok (c, i + 1)
theorem rd_err {b : List UInt8} {i : Nat} {e : Int} (h : rd b i = .error e) : e ≠ 0 := by
  unfold rd at h
  split at h
  · cases h; decide
  · split at h
    · cases h; decide
    · split at h
      · split at h
        · cases h; decide
        · split at h
          · cases h
          · split at h
            · cases h
            · cases h; decide
      · cases h
theorem take_two {α : Type} {l : List α} {i : Nat} {x : α} (h : l[i]? = some x) : l.drop i = x :: l.drop (i + 1) := by
  have hi : i < l.length := by
    rcases Nat.lt_or_ge i l.length with h1 | h1
    · exact h1
    · rw [List.getElem?_eq_none h1] at h; cases h
  rw [List.drop_eq_getElem_cons hi]
  rw [List.getElem?_eq_getElem hi] at h
  rw [Option.some.inj h]
theorem rd_ok {b : List UInt8} {i k : Nat} {c : UInt8} (h : rd b i = .ok (c, k)) : i < k ∧ k ≤ b.length ∧ k ≤ i + 2 ∧ (b.drop i).take (k - i) = veil1 c := by
  have lt : ∀ {j : Nat} {x : UInt8}, b[j]? = some x → j < b.length := fun {j x} h1 => by
    rcases Nat.lt_or_ge j b.length with h2 | h2
    · exact h2
    · rw [List.getElem?_eq_none h2] at h1; cases h1
  unfold rd at h
  split at h
  · cases h
  · rename_i x hx
    split at h
    · cases h
    · split at h
      · rename_i h80 h81
        split at h
        · cases h
        · rename_i y hy
          have h2 := lt hy
          have hd : b.drop i = x :: y :: b.drop (i + 2) := by rw [take_two hx, take_two hy]
          split at h
          · cases h
            refine ⟨by omega, by omega, by omega, ?_⟩
            rw [hd, show i + 2 - i = 2 by omega]
            subst_vars; rfl
          · split at h
            · cases h
              refine ⟨by omega, by omega, by omega, ?_⟩
              rw [hd, show i + 2 - i = 2 by omega]
              subst_vars; rfl
            · cases h
      · rename_i h80 h81
        cases h
        have h2 := lt hx
        refine ⟨by omega, by omega, by omega, ?_⟩
        rw [take_two hx, show i + 1 - i = 1 by omega]
        simp [veil1, h80, h81]
/-- so many bytes more are read -/
def rdN (b : List UInt8) : Nat → Nat → List UInt8 → Except Int (List UInt8 × Nat)
  | 0, i, out => .ok (out, i)
  | n + 1, i, out => match rd b i with
    | .error e => .error e
    | .ok x => rdN b n x.2 (out ++ [x.1])
theorem rdN_err {b : List UInt8} {e : Int} : ∀ (n i : Nat) (out : List UInt8), rdN b n i out = .error e → e ≠ 0
  | 0, i, out, h => by cases h
  | n + 1, i, out, h => by
    unfold rdN at h
    split at h
    · cases h; exact rd_err ‹_›
    · exact rdN_err n _ _ h
theorem rdN_ok {b : List UInt8} : ∀ (n i k : Nat) (out all : List UInt8), i ≤ b.length → rdN b n i out = .ok (all, k) → ∃ more, all = out ++ more ∧ more.length = n ∧ i ≤ k ∧ k ≤ b.length ∧ (b.drop i).take (k - i) = veil more
  | 0, i, k, out, all, hi, h => by
    cases h
    exact ⟨[], by simp, rfl, Nat.le_refl _, hi, by simp [veil]⟩
  | n + 1, i, k, out, all, hi, h => by
    unfold rdN at h
    split at h
    · cases h
    · rename_i x hx
      obtain ⟨c, j⟩ := x
      obtain ⟨r1, r2, r4, r3⟩ := rd_ok hx
      obtain ⟨more, m1, m2, m3, m4, m5⟩ := rdN_ok n _ _ _ _ r2 h
      refine ⟨c :: more, by rw [m1]; simp, by simp [m2], by omega, m4, ?_⟩
      rw [veil_cons, ← r3, ← m5]
      have hs : k - i = (j - i) + (k - j) := by omega
      rw [hs, List.take_add, List.drop_drop, show i + (j - i) = j by omega]
/-- a frame -/
structure FrM where
  at_ : Nat
  len : Nat
  kind : Nat
  pay : List UInt8
def frame2 (b : List UInt8) (i : Nat) (all : List UInt8) (k : Nat) : Except Int FrM :=
  if ((crc 0#32 (all.take 5 ++ all.drop 9)).toNat : Int) = getI all 5 4 then .ok ⟨i, k - i, (all.getD 0 0).toNat, all.drop 9⟩ else .error 5
def frame1 (b : List UInt8) (i : Nat) (out : List UInt8) (k : Nat) : Except Int FrM :=
  if 65536 < getI out 1 4 then .error 4 else match rdN b (4 + (getI out 1 4).toNat) k out with
    | .error e => .error e
    | .ok x => frame2 b i x.1 x.2
/-- the frame at a place -/
def frameAt (b : List UInt8) (i : Nat) : Except Int FrM :=
  match b[i]? with
  | none => .error 2
  | some c => if c = 80 then (match rdN b 5 (i + 1) [] with
    | .error e => .error e
    | .ok x => frame1 b i x.1 x.2) else .error 3
theorem frameAt_err {b : List UInt8} {i : Nat} {e : Int} (h : frameAt b i = .error e) : e ≠ 0 := by
  unfold frameAt at h
  split at h
  · cases h; decide
  · split at h
    · split at h
      · cases h; exact rdN_err _ _ _ ‹_›
      · unfold frame1 at h
        split at h
        · cases h; decide
        · split at h
          · cases h; exact rdN_err _ _ _ ‹_›
          · unfold frame2 at h
            split at h
            · cases h
            · cases h; decide
    · cases h; decide
/-- what is read is as it is told -/
structure Got (b : List UInt8) (i k : Nat) (all : List UInt8) : Prop where
  le : i + 1 ≤ k
  len : k ≤ b.length
  cut : (b.drop (i + 1)).take (k - (i + 1)) = veil all
theorem Got.app {b : List UInt8} {i k k2 n : Nat} {all all2 : List UInt8} (h : Got b i k all) (h2 : rdN b n k all = .ok (all2, k2)) : Got b i k2 all2 ∧ all2.length = all.length + n ∧ all2.take all.length = all := by
  obtain ⟨more, m1, m2, m3, m4, m5⟩ := rdN_ok n _ _ _ _ h.len h2
  have hle := h.le
  refine ⟨⟨by omega, m4, ?_⟩, by rw [m1, List.length_append, m2], by rw [m1, List.take_left]⟩
  rw [m1, veil_app, ← m5, ← h.cut]
  have hs : k2 - (i + 1) = (k - (i + 1)) + (k2 - k) := by omega
  rw [hs, List.take_add, List.drop_drop, show i + 1 + (k - (i + 1)) = k by omega]
def wrap (kind : UInt8) (pay : List UInt8) : List UInt8 :=
  80 :: veil (kind :: (putB pay.length 4 ++ (putB (crc 0#32 (kind :: (putB pay.length 4 ++ pay))).toNat 4 ++ pay)))
theorem getI_take {l : List UInt8} {a k : Nat} (hk : 1 ≤ k ∧ k ≤ 8) (h : a + k ≤ l.length) : getI l a k = be ((l.drop a).take k) := by
  unfold getI
  rw [if_pos ⟨by omega, by omega, by omega, by omega⟩, Int.toNat_natCast, Int.toNat_natCast]
end Go.Ph
end
section
set_option linter.all false
namespace Go.Ph
open S
theorem u8_is {c : UInt8} {n : Nat} (h : (c.toNat : Int) = (n : Int)) (hn : n < 256 := by decide) : c = UInt8.ofNat n := by
  apply UInt8.toNat_inj.1
  rw [UInt8.toNat_ofNat']; omega
theorem readEnd_ok {s : St} {q q2 b0 i : Nat} {sl o : Sl} {out : List UInt8} {c : UInt8} {n : Int} {K : Int → HP} {G : List Value → HP} (hq : q ≠ 0 ∧ q2 ≠ 0 ∧ q ≠ q2) (hq2 : q2 < 2305843009213693952 + 1152921504606846976 * s.H.size)
    (ha : At (s.w q) b0 0 [.slice sl.a sl.len sl.cap, .int .i64 i, .slice o.a o.len o.cap]) (hB : Bld tBy q2 s out o) (hl : out.length ≤ 1000000000000)
    (hG : ∀ s' o', Step [q, q2] s s' → At (s'.w q) b0 0 [.slice sl.a sl.len sl.cap, .int .i64 i, .slice o'.a o'.len o'.cap] → Bld tBy q2 s' (out ++ [c]) o' → G [] s'.H) :
    frame_reader_read_j1 (some ⟨b0, 0, none⟩) n (c.toNat : Int) K G s.H := by
  unfold frame_reader_read_j1
  repeat (first|refine nn_at ?_|refine ldI_at ha rfl ?_|refine ldB_at ha rfl ?_|refine ldS_at ha rfl ?_|refine ldP_at ha rfl ?_|refine ldM_at ha rfl ?_|refine ldL_at ha rfl ?_)
  refine app1_rule c hB rfl (fun s1 o1 e1 b1 => ?_) rfl rfl (by omega) (by omega) hq2 hq.2.1
  have a1 := ha.mono (e1.view (by simpa using hq.2.2))
  refine nn_at ?_
  refine fld_rule a1 (by simp) rfl hq.1 (fun s2 e2 z2 a2 _ => ?_)
  exact hG s2 o1 (e1.tr e2) a2 (b1.st e2 (by simpa using fun h => hq.2.2 h.symm))
theorem read_ok {s : St} {q q2 b0 : Nat} {b out : List UInt8} {sl o : Sl} {i m n : Nat} {K : Int → HP} (hq : q ≠ 0 ∧ q2 ≠ 0 ∧ q ≠ q2) (hq2 : q2 < 2305843009213693952 + 1152921504606846976 * s.H.size)
    (ha : At (s.w q) b0 0 [.slice sl.a sl.len sl.cap, .int .i64 i, .slice o.a o.len o.cap]) (hb : Ls tBy (s.w 0) b sl) (hB : Bld tBy q2 s out o) (hn : n = out.length + m) (hbl : b.length ≤ 1000000000000) (hnl : n ≤ 1000000000000) (hi : i ≤ b.length)
    (hE : ∀ e s', rdN b m i out = .error e → Step [q, q2] s s' → K e s'.H)
    (hO : ∀ all k s' o', rdN b m i out = .ok (all, k) → Step [q, q2] s s' → At (s'.w q) b0 0 [.slice sl.a sl.len sl.cap, .int .i64 k, .slice o'.a o'.len o'.cap] → Bld tBy q2 s' all o' → K 0 s'.H) :
    frame_reader_read (some ⟨b0, 0, none⟩) n K s.H := by
  unfold frame_reader_read
  have hlen := hb.len
  refine loop_rule (ι := Nat × Nat × List UInt8) (fun _ => []) (fun x s' => Step [q, q2] s s' ∧ rdN b m i out = rdN b x.1 x.2.1 x.2.2 ∧ n = x.2.2.length + x.1 ∧ x.2.1 ≤ b.length ∧ ∃ o', At (s'.w q) b0 0 [.slice sl.a sl.len sl.cap, .int .i64 x.2.1, .slice o'.a o'.len o'.cap] ∧ Bld tBy q2 s' x.2.2 o') (fun x _ => x.1) (m, i, out) rfl ⟨Step.refl, rfl, hn, hi, o, ha, hB⟩ ?_
  rintro ⟨m, i, out⟩ s1 ⟨e1, hr, hn, hi, o1, a1, b1⟩ G hG
  simp only at hr hn hi a1 b1
  have hol := b1.ls.len
  have hb1 := Ls.st hb e1
  repeat (first|refine nn_at ?_|refine ldI_at a1 rfl ?_|refine ldB_at a1 rfl ?_|refine ldS_at a1 rfl ?_|refine ldP_at a1 rfl ?_|refine ldM_at a1 rfl ?_|refine ldL_at a1 rfl ?_)
  refine bif_dec (fun hlt => ?_) (fun hlt => ?_)
  · obtain ⟨m, rfl⟩ : ∃ m', m = m' + 1 := ⟨m - 1, by omega⟩
    simp only [rdN] at hr
    have hz1 := e1.sz
    have err : ∀ e, rd b i = .error e → K e s1.H := fun e he => by
      rw [he] at hr
      exact hE e s1 hr e1
    have go : ∀ (c : UInt8) k, rd b i = .ok (c, k) → At (s1.w q) b0 0 [.slice sl.a sl.len sl.cap, .int .i64 i, .slice o1.a o1.len o1.cap] → sts (Addr.add ⟨b0, 0, none⟩ 1) 0 [.int .i64 k] (frame_reader_read_j1 (some ⟨b0, 0, none⟩) n (c.toNat : Int) K G) s1.H := fun c k hc a1 => by
      rw [hc] at hr
      refine fld_rule a1 (by simp) rfl hq.1 (fun s2 e2 z2 a2 _ => ?_)
      refine readEnd_ok hq (by omega) a2 (b1.st e2 (by simpa using fun h => hq.2.2 h.symm)) (by omega) fun s3 o3 e3 a3 b3 => ?_
      have hk := rd_ok hc
      exact hG (m, k, out ++ [c]) s3 ⟨(e1.tr e2 (S := [q, q2])).tr e3, hr, by simp; omega, hk.2.1, o3, a3, b3⟩ (by simp)
    have hnn : ∀ {K' : Addr → HP}, K' ⟨b0, 0, none⟩ s1.H → nn (some ⟨b0, 0, none⟩) K' s1.H := fun h => nn_at h
    repeat (first|refine nn_at ?_|refine ldI_at a1 rfl ?_|refine ldB_at a1 rfl ?_|refine ldS_at a1 rfl ?_|refine ldP_at a1 rfl ?_|refine ldM_at a1 rfl ?_|refine ldL_at a1 rfl ?_)
    refine bif_dec (fun h1 => ?_) (fun h1 => ?_)
    · refine err 2 ?_
      unfold rd; rw [List.getElem?_eq_none (by omega)]
    · repeat (first|refine nn_at ?_|refine ldI_at a1 rfl ?_|refine ldB_at a1 rfl ?_|refine ldS_at a1 rfl ?_|refine ldP_at a1 rfl ?_|refine ldM_at a1 rfl ?_|refine ldL_at a1 rfl ?_)
      refine ixL_rule hb1 (by omega) (by omega) fun bx ox x hx hel => ?_
      obtain ⟨vs, rfl, hat⟩ := hel
      rw [Int.toNat_natCast] at hx
      refine ldI_at0 hat rfl ?_
      refine bif_dec (fun h2 => ?_) (fun h2 => ?_)
      · refine err 3 ?_
        have : x = 80 := u8_is (n := 80) h2
        unfold rd; rw [hx]; simp [this]
      · have n80 : x ≠ 80 := fun h => h2 (by rw [h]; rfl)
        refine bif_ndec (fun h3 => ?_) (fun h3 => ?_)
        · have n81 : x ≠ 81 := fun h => h3 (by rw [h]; rfl)
          repeat (first|refine nn_at ?_|refine ldI_at a1 rfl ?_|refine ldB_at a1 rfl ?_|refine ldS_at a1 rfl ?_|refine ldP_at a1 rfl ?_|refine ldM_at a1 rfl ?_|refine ldL_at a1 rfl ?_)
          rw [w64_id (by omega) (by omega)]
          exact go x (i + 1) (by unfold rd; rw [hx]; simp [n80, n81]) a1
        · have h81 : x = 81 := u8_is (n := 81) h3
          repeat (first|refine nn_at ?_|refine ldI_at a1 rfl ?_|refine ldB_at a1 rfl ?_|refine ldS_at a1 rfl ?_|refine ldP_at a1 rfl ?_|refine ldM_at a1 rfl ?_|refine ldL_at a1 rfl ?_)
          rw [w64_id (by omega) (by omega)]
          refine bif_dec (fun h4 => ?_) (fun h4 => ?_)
          · refine err 2 ?_
            unfold rd; rw [hx]; simp only [n80, h81, if_true, if_false]
            rw [List.getElem?_eq_none (by omega)]; rfl
          · repeat (first|refine nn_at ?_|refine ldI_at a1 rfl ?_|refine ldB_at a1 rfl ?_|refine ldS_at a1 rfl ?_|refine ldP_at a1 rfl ?_|refine ldM_at a1 rfl ?_|refine ldL_at a1 rfl ?_)
            rw [w64_id (n := (i : Int) + 1) (by omega) (by omega)]
            refine ixL_rule hb1 (by omega) (by omega) fun bx2 ox2 y hy hel2 => ?_
            obtain ⟨vs, rfl, hat2⟩ := hel2
            have hy' : b[i + 1]? = some y := by rw [← hy]; congr 1
            refine ldI_at0 hat2 rfl ?_
            have hrd : rd b i = if y = 0 then .ok (80, i + 2) else if y = 1 then .ok (81, i + 2) else .error 3 := by
              unfold rd; rw [hx]; simp only [n80, h81, if_true, if_false, hy']; rfl
            refine bif_dec (fun h5 => ?_) (fun h5 => ?_)
            · refine err 3 ?_
              rw [hrd, if_neg (fun h => by rw [h] at h5; exact absurd h5 (by decide)), if_neg (fun h => by rw [h] at h5; exact absurd h5 (by decide))]
            · repeat (first|refine nn_at ?_|refine ldI_at a1 rfl ?_|refine ldB_at a1 rfl ?_|refine ldS_at a1 rfl ?_|refine ldP_at a1 rfl ?_|refine ldM_at a1 rfl ?_|refine ldL_at a1 rfl ?_)
              rw [w64_id (n := (i : Int) + 1) (by omega) (by omega)]
              refine ixL_rule hb1 (by omega) (by omega) fun bx3 ox3 z hz hel3 => ?_
              obtain ⟨vs, rfl, hat3⟩ := hel3
              have hzy : z = y := by rw [hy] at hz; exact (Option.some.inj hz).symm
              subst hzy
              refine ldI_at0 hat3 rfl ?_
              repeat (first|refine nn_at ?_|refine ldI_at a1 rfl ?_|refine ldB_at a1 rfl ?_|refine ldS_at a1 rfl ?_|refine ldP_at a1 rfl ?_|refine ldM_at a1 rfl ?_|refine ldL_at a1 rfl ?_)
              rw [w64_id (n := (i : Int) + 2) (by omega) (by omega)]
              by_cases h6 : z = 0
              · subst h6
                exact go 80 (i + 2) (by rw [hrd]; rfl) a1
              · have h7 : z = 1 := u8_is (n := 1) (by
                  have : z.toNat ≠ 0 := fun h => h6 (u8_is (n := 0) (by omega))
                  omega)
                subst h7
                exact go 81 (i + 2) (by rw [hrd]; rfl) a1
  · have : m = 0 := by omega
    subst this
    exact hO out i s1 o1 hr e1 a1 b1
/-- a frame in memory -/
structure FrAt (V : View) (f : FrM) (r : G_api_Frame) : Prop where
  at_ : r.At = f.at_
  len : r.Len = f.len
  kind : r.Kind = f.kind
  pay : Ls tBy V f.pay r.Payload
theorem FrAt.st {s s' : St} {f : FrM} {r : G_api_Frame} {S : List Nat} (h : FrAt (s.w 0) f r) (hs : Step S s s') : FrAt (s'.w 0) f r := ⟨h.1, h.2, h.3, Ls.st h.4 hs⟩
theorem frEnd {s : St} {q b : Nat} {vs : List Value} {x0 x1 x2 : Int} {x3 : Sl} {K : G_api_Frame → HP} (h : At (s.w q) b 0 vs) (hl : vs.length = 4) (hq : q ≠ 0)
    (hK : ∀ s', Step [q] s s' → K ⟨x0, x1, x2, x3⟩ s'.H) : sts (at0 b) 0 [.int .i64 x0, .int .i64 x1, .int .i64 x2, .slice x3.a x3.len x3.cap] (ld_G_api_Frame (at0 b) fun r => K r) s.H := by
  refine row_rule q h (by rw [hl]; rfl) (by simp [one]) hq (.inl rfl) fun s1 e1 z1 a1 _ => ?_
  unfold ld_G_api_Frame
  repeat (first|refine nn_at ?_|refine ldI_at a1 rfl ?_|refine ldB_at a1 rfl ?_|refine ldS_at a1 rfl ?_|refine ldP_at a1 rfl ?_|refine ldM_at a1 rfl ?_|refine ldL_at a1 rfl ?_)
  exact hK s1 e1
theorem frEnd2 {s : St} {q b : Nat} {x0 x1 x2 : Int} {x3 : Sl} {K : G_api_Frame → HP} (h : At (s.w q) b 0 [.int .i64 x0, .int .i64 x1, .int .i64 x2, .slice x3.a x3.len x3.cap]) (hq : q ≠ 0)
    (hK : ∀ s', Step [q] s s' → K ⟨x0, x1, x2, x3⟩ s'.H) : ld_G_api_Frame (at0 b) (fun t => sts (at0 b) 0 [.int .i64 t.At, .int .i64 t.Len, .int .i64 t.Kind, .slice t.Payload.a t.Payload.len t.Payload.cap] (ld_G_api_Frame (at0 b) fun r => K r)) s.H := by
  unfold ld_G_api_Frame
  repeat (first|refine nn_at ?_|refine ldI_at h rfl ?_|refine ldB_at h rfl ?_|refine ldS_at h rfl ?_|refine ldP_at h rfl ?_|refine ldM_at h rfl ?_|refine ldL_at h rfl ?_)
  exact frEnd h rfl hq hK
theorem loc3 {a b : St} {S : List Nat} (h : Step (own a :: (own a + 1) :: (own a + 2) :: S) a b) : Step S a b := ((h.loc).loc (by omega)).loc (by omega)
theorem At_ok {s : St} {b : List UInt8} {sl : Sl} {i : Nat} {K : G_api_Frame → Int → HP} (hb : Ls tBy (s.w 0) b sl) (hbl : b.length ≤ 1000000000) (hi : i < b.length)
    (hE : ∀ e fr s', frameAt b i = .error e → e ≠ 0 → Step [] s s' → K fr e s'.H)
    (hO : ∀ f fr s', frameAt b i = .ok f → Step [] s s' → FrAt (s'.w 0) f fr → K fr 0 s'.H) : frame_At sl i K s.H := by
  unfold frame_At
  have hlen := hb.len
  have hq0 : own s ≠ 0 := by unfold own; omega
  refine newc_k (own s) (by unfold own; omega) fun s1 p n1 a1 => ?_
  have e1 := n1.step
  refine bif_dec (fun h1 => ?_) (fun h1 => ?_)
  · omega
  rw [decide_eq_false (by omega)]
  unfold frame_At_j1
  refine bif_f ?_
  have hb1 := Ls.st hb e1
  have err : ∀ {e : Int} {s' : St}, frameAt b i = .error e → Step [own s, own s + 1, own s + 2] s s' → At (s'.w (own s)) p 0 [.int .i64 0, .int .i64 0, .int .i64 0, .slice none 0 0] → 
      ld_G_api_Frame (at0 p) (fun t => sts (at0 p) 0 [.int .i64 t.At, .int .i64 t.Len, .int .i64 t.Kind, .slice t.Payload.a t.Payload.len t.Payload.cap] (ld_G_api_Frame (at0 p) fun r => K r e)) s'.H := fun {e s'} he es ha =>
    frEnd2 (x3 := ⟨none, 0, 0⟩) ha hq0 fun s'' e'' => hE e _ s'' he (frameAt_err he) (loc3 (es.tr e''))
  refine bif_dec (fun h2 => ?_) (fun h2 => ?_)
  · omega
  refine ixL_rule hb1 (by omega) (by omega) fun bx ox x hx hel => ?_
  obtain ⟨vs, rfl, hat⟩ := hel
  rw [Int.toNat_natCast] at hx
  refine ldI_at0 hat rfl ?_
  refine bif_ndec (fun h3 => ?_) (fun h3 => ?_)
  · refine err ?_ e1.n a1
    unfold frameAt; rw [hx]
    simp only
    rw [if_neg (fun h => h3 (by rw [h]; rfl))]
  have h80 : x = 80 := u8_is (n := 80) h3
  subst h80
  have hfa : frameAt b i = match rdN b 5 (i + 1) [] with | .error e => .error e | .ok x => frame1 b i x.1 x.2 := by
    unfold frameAt; rw [hx]; rfl
  rw [w64_id (by omega) (by omega)]
  have hz1 := e1.sz
  refine newc_k (own s + 1) (by unfold own; omega) fun s2 r n2 a2 => ?_
  have e2 := n2.step
  have hb2 := Ls.st hb1 e2
  have a21 := a1.mono (e2.view (by simp))
  have hz2 := e2.sz
  have e12 : Step [own s, own s + 1, own s + 2] s s2 := (e1.trans e2).n
  refine read_ok (q := own s + 1) (q2 := own s + 2) (i := i + 1) (m := 5) (n := 5) (o := ⟨none, 0, 0⟩) (out := []) ⟨by omega, by omega, by omega⟩ (by unfold own; omega) a2 hb2 Bld.nil rfl (by omega) (by omega) (by omega) ?_ ?_
  · intro e s3 hr e3
    rw [hr] at hfa
    have he := frameAt_err hfa
    refine bif_ndec (fun h4 => ?_) (fun h4 => absurd h4 he)
    exact err hfa (e12.tr e3) (a21.mono (e3.view (by simp <;> omega)))
  · intro out k s3 o3 hr e3 a3 b3
    rw [hr] at hfa
    simp only [frame1] at hfa
    refine bif_ndec (fun h4 => absurd rfl h4) (fun _ => ?_)
    have hg5 : Got b i k out ∧ out.length = 0 + 5 ∧ _ := Got.app (b := b) (i := i) (k := i + 1) (all := []) ⟨Nat.le_refl _, by omega, by simp [veil]⟩ hr
    obtain ⟨g5, l5, -⟩ := hg5
    have es3 : Step [own s, own s + 1, own s + 2] s s3 := e12.tr e3
    have hz3 := es3.sz
    have a31 := a21.mono (e3.view (by simp <;> omega))
    repeat (first|refine nn_at ?_|refine ldI_at a3 rfl ?_|refine ldB_at a3 rfl ?_|refine ldS_at a3 rfl ?_|refine ldP_at a3 rfl ?_|refine ldM_at a3 rfl ?_|refine ldL_at a3 rfl ?_)
    refine Get_ok b3.ls (by omega) (by omega) ?_
    have hbd := getI_bd out 1 4
    refine bif_dec (fun h5 => ?_) (fun h5 => ?_)
    · rw [if_pos h5] at hfa
      exact err hfa es3 a31
    rw [if_neg h5] at hfa
    rw [w64_id (n := getI out 1 4) (by omega) (by omega), w64_id (n := 9 + getI out 1 4) (by omega) (by omega)]
    have hn : 9 + getI out 1 4 = ((9 + (getI out 1 4).toNat : Nat) : Int) := by omega
    rw [hn]
    refine read_ok (q := own s + 1) (q2 := own s + 2) (i := k) (m := 4 + (getI out 1 4).toNat) (out := out) ⟨by omega, by omega, by omega⟩ (by unfold own; omega) a3 (Ls.st hb2 e3) b3 (by omega) (by omega) (by omega) g5.len ?_ ?_
    · intro e s4 hr2 e4
      rw [hr2] at hfa
      have he := frameAt_err hfa
      refine bif_ndec (fun h4 => ?_) (fun h4 => absurd h4 he)
      exact err hfa (es3.tr e4) (a31.mono (e4.view (by simp <;> omega)))
    · intro all k2 s4 o4 hr2 e4 a4 b4
      rw [hr2] at hfa
      refine bif_ndec (fun h4 => absurd rfl h4) (fun _ => ?_)
      obtain ⟨g9, l9, -⟩ := g5.app hr2
      have es4 : Step [own s, own s + 1, own s + 2] s s4 := es3.tr e4
      have a41 := a31.mono (e4.view (by simp <;> omega))
      have ho4 := b4.ls.len
      have hc4 := b4.ls.cap
      have hk2 := g9.len
      have hk3 := g9.le
      repeat (first|refine nn_at ?_|refine ldI_at a4 rfl ?_|refine ldB_at a4 rfl ?_|refine ldS_at a4 rfl ?_|refine ldP_at a4 rfl ?_|refine ldM_at a4 rfl ?_|refine ldL_at a4 rfl ?_)
      refine Get_ok b4.ls (by omega) (by omega) ?_
      repeat (first|refine nn_at ?_|refine ldI_at a4 rfl ?_|refine ldB_at a4 rfl ?_|refine ldS_at a4 rfl ?_|refine ldP_at a4 rfl ?_|refine ldM_at a4 rfl ?_|refine ldL_at a4 rfl ?_)
      refine slL_rule b4.ls (by omega) (by omega) (by omega) (by omega) (by omega) fun sA hA cA => ?_
      repeat (first|refine nn_at ?_|refine ldI_at a4 rfl ?_|refine ldB_at a4 rfl ?_|refine ldS_at a4 rfl ?_|refine ldP_at a4 rfl ?_|refine ldM_at a4 rfl ?_|refine ldL_at a4 rfl ?_)
      refine slL_rule b4.ls (by omega) (by omega) (by omega) (by omega) (by omega) fun sB hB cB => ?_
      have eA : (all.take (5 : Int).toNat).drop (0 : Int).toNat = all.take 5 := by simp
      have eB : (all.take ((o4.len : Nat) : Int).toNat).drop (9 : Int).toNat = all.drop 9 := by rw [Int.toNat_natCast, ho4, List.take_of_length_le (Nat.le_refl _)]; rfl
      rw [eA] at hA
      rw [eB] at hB
      refine sum_ok hA hB (by rw [List.length_take]; omega) (by rw [List.length_drop]; omega) fun s5 e5 => ?_
      have es5 : Step [own s, own s + 1, own s + 2] s s5 := es4.trans e5.n
      have a51 := a41.mono (e5.view (by simp))
      have a52 := a4.mono (e5.view (by simp))
      have b5 := b4.st e5 (by simp)
      have hcl := (crc 0#32 (all.take 5 ++ all.drop 9)).isLt
      rw [wr_u64 (by omega) (by omega)]
      unfold frame2 at hfa
      simp only at hfa
      refine bif_ndec (fun h6 => ?_) (fun h6 => ?_)
      · rw [if_neg h6] at hfa
        exact err hfa es5 a51
      rw [if_pos h6] at hfa
      repeat (first|refine nn_at ?_|refine ldI_at a52 rfl ?_|refine ldB_at a52 rfl ?_|refine ldS_at a52 rfl ?_|refine ldP_at a52 rfl ?_|refine ldM_at a52 rfl ?_|refine ldL_at a52 rfl ?_)
      refine ixL_rule b5.ls (by omega) (by omega) fun bx0 ox0 x0 hx0 hel0 => ?_
      obtain ⟨vs, rfl, hat0⟩ := hel0
      refine ldI_at0 hat0 rfl ?_
      repeat (first|refine nn_at ?_|refine ldI_at a52 rfl ?_|refine ldB_at a52 rfl ?_|refine ldS_at a52 rfl ?_|refine ldP_at a52 rfl ?_|refine ldM_at a52 rfl ?_|refine ldL_at a52 rfl ?_)
      refine slL_rule b5.ls (by omega) (by omega) (by omega) (by omega) (by omega) fun sC hC cC => ?_
      rw [eB] at hC
      have hx0l := x0.toNat_lt
      rw [w64_id (n := (k2 : Int) - i) (by omega) (by omega), w64_id (n := (x0.toNat : Int)) (by omega) (by omega)]
      refine frEnd a51 rfl hq0 fun s6 e6 => ?_
      refine hO _ _ s6 hfa (loc3 (es5.tr e6)) ⟨rfl, by simp only; omega, ?_, Ls.st hC e6⟩
      have : all.getD 0 0 = x0 := by rw [List.getD_eq_getElem?_getD]; rw [show all[0]? = some x0 from hx0]; rfl
      simp only [this]
end Go.Ph
end
section
set_option linter.all false
namespace Go.Ph
open S
theorem putB_front (n : Nat) : ∀ i, putB n (i + 1) = UInt8.ofNat (n / 256 ^ i % 256) :: putB n i := by
  intro i
  induction i generalizing n with
  | zero => simp [putB]
  | succ i ih =>
    rw [putB, ih (n / 256), putB, List.cons_append, Nat.div_div_eq_div_mul, Nat.pow_succ, Nat.mul_comm]
theorem veil_take {l : List UInt8} {i : Nat} {c : UInt8} (h : l[i]? = some c) : veil (l.take (i + 1)) = veil (l.take i) ++ veil1 c := by
  rw [List.take_succ, h, veil_app]; simp [veil]
theorem veil_len (l : List UInt8) : (veil l).length ≤ 2 * l.length := by
  induction l with
  | nil => simp [veil]
  | cons c l ih => rw [veil_cons, List.length_append, List.length_cons]; have : (veil1 c).length ≤ 2 := by { unfold veil1; repeat (first | split | simp) }; omega
theorem two_ls {V : View} {c d : UInt8} {b : Nat} (h : At V b 0 [.int .u8 c.toNat, .int .u8 d.toNat]) : Ls tBy V [c, d] ⟨some (at0 b), 2, 2⟩ :=
  ⟨rfl, Nat.le_refl _, fun h => (by cases h), fun a e => by
    simp at e; subst e
    refine ⟨fun _ => rfl, fun j y hj => ?_⟩
    match j, hj with
    | 0, hj => simp at hj; subst hj; exact ⟨_, rfl, fun i v hi => by
        cases i with
        | zero => have := h 0 _ rfl; simp at hi; subst hi; simpa using this
        | succ i => simp at hi⟩
    | 1, hj => simp at hj; subst hj; exact ⟨_, rfl, fun i v hi => by
        cases i with
        | zero => have := h 1 _ rfl; simp at hi; subst hi; simpa [tBy] using this
        | succ i => simp at hi⟩
    | j + 2, hj => simp at hj⟩
end Go.Ph
end
section
set_option linter.all false
namespace Go.Ph
open S
theorem ba_inj {a b : List UInt8} : ba a = ba b ↔ a = b := by
  constructor
  · intro h; rw [← ba_list a, ← ba_list b, h]
  · rintro rfl; rfl
theorem Got.snoc {b : List UInt8} {i k k2 : Nat} {all : List UInt8} {c : UInt8} (h : Got b i k all) (h2 : rd b k = .ok (c, k2)) : Got b i k2 (all ++ [c]) := by
  have : rdN b 1 k all = .ok (all ++ [c], k2) := by simp only [rdN, h2]
  exact (h.app this).1
end Go.Ph
end
section
set_option linter.all false
namespace Go.Ph
open S
def tFr : Ty FrM := ⟨4, fun V x vs => ∃ sl : Sl, vs = [.int .i64 x.at_, .int .i64 x.len, .int .i64 x.kind, .slice sl.a sl.len sl.cap] ∧ Ls tBy V x.pay sl, by rintro _ _ _ ⟨_, rfl, _⟩; rfl, by rintro _ _ _ _ h ⟨sl, rfl, h1⟩; exact ⟨sl, rfl, h1.mono h h⟩, by rintro _ _ _ ⟨_, rfl, _⟩; simp [one]⟩
def tGap : Ty (Int × Int) := ⟨2, fun _ x vs => vs = [.int .i64 x.1, .int .i64 x.2], by rintro _ _ _ rfl; rfl, fun _ h => h, by rintro _ _ _ rfl; simp [one]⟩
theorem FrAt.row {V : View} {f : FrM} {r : G_api_Frame} (h : FrAt V f r) : tFr.R V f [.int .i64 r.At, .int .i64 r.Len, .int .i64 r.Kind, .slice r.Payload.a r.Payload.len r.Payload.cap] :=
  ⟨r.Payload, by rw [h.at_, h.len, h.kind], h.pay⟩
structure FraOk (b : List UInt8) (i : Nat) (f : FrM) : Prop where
  at_ : f.at_ = i
  pos : 1 ≤ f.len
  in_ : i + f.len ≤ b.length
  kind : f.kind < 256
  pay : f.pay.length ≤ 65536
  le : f.pay.length ≤ f.len
theorem rdN_lt {b : List UInt8} : ∀ (n i k : Nat) (out all : List UInt8), rdN b n i out = .ok (all, k) → i + n ≤ k
  | 0, i, k, out, all, h => by cases h; omega
  | n + 1, i, k, out, all, h => by
    unfold rdN at h
    split at h
    · cases h
    · rename_i x hx
      have := (rd_ok (c := x.1) (k := x.2) hx).1
      have := rdN_lt n _ _ _ _ h
      omega
theorem frameAt_ok {b : List UInt8} {i : Nat} {f : FrM} (h : frameAt b i = .ok f) : FraOk b i f := by
  unfold frameAt at h
  split at h
  · cases h
  · rename_i c hc
    have hi : i < b.length := by
      rcases Nat.lt_or_ge i b.length with h1 | h1
      · exact h1
      · rw [List.getElem?_eq_none h1] at hc; cases hc
    split at h
    · split at h
      · cases h
      · rename_i x hx
        obtain ⟨out, k⟩ := x
        obtain ⟨g5, l5, -⟩ := Got.app (b := b) (i := i) (k := i + 1) (all := []) ⟨Nat.le_refl _, by omega, by simp [veil]⟩ hx
        unfold frame1 at h
        split at h
        · cases h
        · split at h
          · cases h
          · rename_i y hy
            obtain ⟨all, k2⟩ := y
            obtain ⟨g9, l9, -⟩ := g5.app hy
            have h1 := rdN_lt _ _ _ _ _ hx
            have h2 := rdN_lt _ _ _ _ _ hy
            have h3 := g9.len
            unfold frame2 at h
            split at h
            · cases h
              refine ⟨rfl, by simp only; omega, by simp only; omega, UInt8.toNat_lt _, ?_, ?_⟩
              · simp only [List.length_drop]; simp at l5 hy; omega
              · simp only [List.length_drop]; simp at l5 hy; omega
            · cases h
    · cases h
/-- the frames from a place on -/
def scanN (b : List UInt8) : Nat → Nat → List FrM
  | 0, _ => []
  | n + 1, i => if i < b.length then (match frameAt b i with | .error _ => scanN b n (i + 1) | .ok f => f :: scanN b n (i + f.len)) else []
theorem scanN_done {b : List UInt8} : ∀ (n i : Nat), b.length ≤ i → scanN b n i = []
  | 0, _, _ => rfl
  | n + 1, i, h => by rw [scanN, if_neg (by omega)]
def frames (b : List UInt8) : List FrM := scanN b b.length 0
theorem loc4 {a b : St} {S : List Nat} (h : Step (own a :: (own a + 1) :: (own a + 2) :: (own a + 3) :: S) a b) : Step S a b := (((h.loc).loc (by omega)).loc (by omega)).loc (by omega)
theorem Scan_ok {C : Cx} {s : St} {b : List UInt8} {sl : Sl} {K : Sl → Sl → HP} (hb : Ls tBy (s.w 0) b sl) (hbl : b.length ≤ 1000000000)
    (hK : ∀ s' o g, Step [] s s' → Ls tFr (s'.w 0) (frames b) o → K o g s'.H) : frame_Scan C sl K s.H := by
  unfold frame_Scan
  have hlen := hb.len
  have hown : own s = 1152921504606846976 + 1152921504606846976 * s.H.size := rfl
  have hq0 : own s ≠ 0 := by unfold own; omega
  refine newc_k (own s) (by unfold own; omega) fun s1 p3 n1 a1 => ?_
  have e1 := n1.step
  have hz1 := e1.sz
  refine newc_k (own s + 1) (by unfold own; omega) fun s2 p4 n2 a2 => ?_
  have e2 := n2.step
  have a12 := a1.mono (e2.view (by simp))
  have hz2 := e2.sz
  refine row_rule (own s + 1) a2 rfl (by simp [one]) (by omega) (.inl rfl) fun s3 e3 z3 a3 _ => ?_
  have a13 := a12.mono (e3.view (by simp))
  have es3 : Step [own s, own s + 1, own s + 2, own s + 3] s s3 := (e1.trans e2).n.tr e3 (A := []) 
  intro f hf
  have shut : ∀ (s' : St) (fr to : Int) (g : Sl) (gs : List (Int × Int)) (K' : Value → HP), s.H.size ≤ s'.H.size → At (s'.w (own s)) p3 0 [.slice g.a g.len g.cap] → At (s'.w (own s + 1)) p4 0 [.int .i64 fr] → Bld tGap (own s + 2) s' gs g → gs.length ≤ 1000000000 →
      (∀ s'' g' gs', Step [own s, own s + 2] s' s'' → At (s''.w (own s)) p3 0 [.slice g'.a g'.len g'.cap] → Bld tGap (own s + 2) s'' gs' g' → gs'.length ≤ gs.length + 1 → K' (.tuple #[]) s''.H) → C.ap f [.int .i64 to] K' s'.H := fun s' fr to g gs K' hz ha ha4 hg hgl hk => by
    refine hf _ _ _ ?_
    show frame_Scan_1 to (at0 p4) (at0 p3) (K' (.tuple #[])) s'.H
    unfold frame_Scan_1
    refine ldI_at0 ha4 rfl ?_
    refine bif_rule (fun _ => ?_) (fun _ => ?_)
    · refine ldL_at0 ha rfl ?_
      refine ldI_at0 ha4 rfl ?_
      refine app1_rule (fr, to) hg rfl (fun s5 o5 e5 b5 => ?_) rfl rfl (by omega) (by omega) (by omega) (by omega)
      refine row_rule (own s) (ha.mono (e5.view (by simp))) rfl (by simp [one]) hq0 (.inl rfl) fun s6 e6 z6 a6 _ => ?_
      exact hk s6 o5 _ (e5.tr e6) a6 (b5.st e6 (by simp)) (by simp)
    · exact hk s' g gs Step.refl ha hg (by omega)
  refine loop_rule (ι := Nat × List FrM × Sl) (fun x => [.slice x.2.2.a x.2.2.len x.2.2.cap, .int .i64 x.1])
    (fun x s' => Step [own s, own s + 1, own s + 2, own s + 3] s s' ∧ x.1 ≤ b.length ∧ x.2.1.length ≤ x.1 ∧ Bld tFr (own s + 3) s' x.2.1 x.2.2 ∧ (∃ n, b.length - x.1 ≤ n ∧ x.2.1 ++ scanN b n x.1 = frames b) ∧ ∃ (fr : Int) (g : Sl) (gs : List (Int × Int)), At (s'.w (own s)) p3 0 [.slice g.a g.len g.cap] ∧ At (s'.w (own s + 1)) p4 0 [.int .i64 fr] ∧ Bld tGap (own s + 2) s' gs g ∧ gs.length ≤ x.1)
    (fun x _ => b.length - x.1) (0, [], ⟨none, 0, 0⟩) rfl ⟨es3, Nat.zero_le _, Nat.le_refl _, Bld.nil, ⟨b.length, by simp only; omega, rfl⟩, 0, ⟨none, 0, 0⟩, [], a13, a3, Bld.nil, Nat.le_refl _⟩ ?_
  rintro ⟨i, acc, o⟩ s4 ⟨e4, hi, hal, b4, ⟨n, hn, hsc⟩, fr, g, gs, ap3, ap4, bg, hgl⟩ G hG
  simp only at hi hal b4 hn hsc hgl
  have hz4 := e4.sz
  simp only [List.getD_cons_zero, List.getD_cons_succ, asI_v, asL_v, asS_v, asB_v, asM_v, asP_v]
  refine bif_dec (fun hlt => ?_) (fun hlt => ?_)
  · have hi' : i < b.length := by omega
    obtain ⟨m, rfl⟩ : ∃ m, n = m + 1 := ⟨n - 1, by omega⟩
    rw [scanN, if_pos hi'] at hsc
    refine At_ok (Ls.st hb e4) hbl hi' ?_ ?_
    · intro e fr' s5 he hne e5
      rw [he] at hsc
      refine newc_sts rfl (by simp [one]) fun s6 p6 e6 a6 => ?_
      refine bif_ndec (fun _ => ?_) (fun h => absurd h hne)
      rw [w64_id (by omega) (by omega)]
      have e56 := e5.trans e6
      exact hG (i + 1, acc, o) s6 ⟨e4.trans e56.n, hi', by simp only; omega, b4.st e56 (by simp), ⟨m, by simp only; omega, hsc⟩, fr, g, gs, ap3.mono (e56.view (by simp)), ap4.mono (e56.view (by simp)), bg.st e56 (by simp), by simp only; omega⟩ (by simp only; omega)
    · intro f1 fr' s5 he e5 hfr
      have fo := frameAt_ok he
      have fo1 := fo.pos
      have fo2 := fo.in_
      rw [he] at hsc
      refine newc_sts rfl (by simp [one]) fun s6 p6 e6 a6 => ?_
      refine bif_ndec (fun h => absurd rfl h) (fun _ => ?_)
      have e56 := e5.trans e6
      have hz6 := e56.sz
      refine shut s6 fr i g gs _ (by omega) (ap3.mono (e56.view (by simp))) (ap4.mono (e56.view (by simp))) (bg.st e56 (by simp)) (by omega) fun s7 g7 gs7 e7 a7 b7 l7 => ?_
      have a67 := a6.mono e7.v0
      have hz7 := e7.sz
      have b47 := (b4.st e56 (by simp)).st e7 (by simp)
      unfold ld_G_api_Frame
      repeat (first|refine nn_at ?_|refine ldI_at a67 rfl ?_|refine ldB_at a67 rfl ?_|refine ldS_at a67 rfl ?_|refine ldP_at a67 rfl ?_|refine ldM_at a67 rfl ?_|refine ldL_at a67 rfl ?_)
      have hrow : tFr.R (s7.w 0) f1 [.int .i64 fr'.At, .int .i64 fr'.Len, .int .i64 fr'.Kind, .slice fr'.Payload.a fr'.Payload.len fr'.Payload.cap] := ((hfr.st e6).st e7).row
      refine app1_rule f1 b47 hrow (fun s8 o8 e8 b8 => ?_) rfl rfl (by omega) (by omega) (by omega) (by omega)
      have a68 := a67.mono e8.v0
      repeat (first|refine nn_at ?_|refine ldI_at a68 rfl ?_|refine ldB_at a68 rfl ?_|refine ldS_at a68 rfl ?_|refine ldP_at a68 rfl ?_|refine ldM_at a68 rfl ?_|refine ldL_at a68 rfl ?_)
      rw [hfr.len, w64_id (by omega) (by omega)]
      have ap47 := ((ap4.mono (e56.view (by simp))).mono (e7.view (by simp))).mono (e8.view (by simp))
      refine row_rule (own s + 1) ap47 rfl (by simp [one]) (by omega) (.inl rfl) fun s9 e9 z9 a9 _ => ?_
      have hG' := hG (i + f1.len, acc ++ [f1], o8) s9
      rw [show ((i : Int) + (f1.len : Nat)) = ((i + f1.len : Nat) : Int) by omega]
      refine hG' ⟨?_, fo2, by simp; omega, b8.st e9 (by simp), ⟨m, by simp only; omega, by simpa using hsc⟩, _, g7, gs7, (a7.mono (e8.view (by simp))).mono (e9.view (by simp)), a9, (b7.st e8 (by simp)).st e9 (by simp), by simp only; omega⟩ (by simp only; omega)
      have q1 : Step [own s, own s + 1, own s + 2, own s + 3] s s6 := e4.trans e56.n
      have q2 : Step [own s, own s + 1, own s + 2, own s + 3] s s7 := q1.tr e7
      have q3 : Step [own s, own s + 1, own s + 2, own s + 3] s s8 := q2.tr e8
      exact q3.tr e9
  · have : i = b.length := by omega
    subst this
    rw [scanN_done n _ (Nat.le_refl _), List.append_nil] at hsc
    subst hsc
    refine shut s4 fr _ g gs _ (by omega) ap3 ap4 bg (by omega) fun s7 g7 gs7 e7 a7 b7 l7 => ?_
    have q2 : Step [own s, own s + 1, own s + 2, own s + 3] s s7 := e4.tr e7
    refine ldL_at0 a7 rfl ?_
    refine row_rule (own s) a7 rfl (by simp [one]) hq0 (.inl rfl) fun s9 e9 z9 a9 _ => ?_
    refine ldL_at0 a9 rfl ?_
    have q3 : Step [own s, own s + 1, own s + 2, own s + 3] s s9 := q2.tr e9
    exact hK s9 _ g7 (loc4 q3) (((b4.st e7 (by simp)).st e9 (by simp)).ls)
end Go.Ph
end
section
set_option linter.all false
namespace Go.Ph
open S
theorem Bld.none_ {α : Type} {t : Ty α} {q : Nat} {s : St} {b : Nat} : Bld t q s [] ⟨some (at0 b), 0, 0⟩ :=
  ⟨⟨rfl, Nat.le_refl _, fun h => (by cases h), fun a e => by simp at e; subst e; exact ⟨fun _ => rfl, fun j y hj => by simp at hj⟩⟩, fun a ha i h1 h2 => by simp at h2⟩
end Go.Ph
end
section
set_option linter.all false
namespace Go.Ph
open S
/-- a record: its kind and ten numbers, and its data -/
structure RecM where
  f : List Int
  data : List UInt8
def RecM.kind (x : RecM) : Int := x.f.getD 0 0
def fieldsOf (r : G_api_Rec) : List Int := [r.Kind, r.User, r.Seq, r.Next, r.Base, r.Uid, r.Time, r.Flags, r.Body, r.Size, r.Origin]
structure RecAt (V : View) (x : RecM) (r : G_api_Rec) : Prop where
  f : fieldsOf r = x.f
  data : Ls tBy V x.data r.Data
theorem RecAt.st {s s' : St} {x : RecM} {r : G_api_Rec} {S : List Nat} (h : RecAt (s.w 0) x r) (hs : Step S s s') : RecAt (s'.w 0) x r := ⟨h.1, Ls.st h.2 hs⟩
theorem RecAt.len {V : View} {x : RecM} {r : G_api_Rec} (h : RecAt V x r) : x.f.length = 11 := by rw [← h.f]; rfl
def rowF (f : List Int) (sl : Sl) : List Value := f.map (Value.int .i64) ++ [.slice sl.a sl.len sl.cap]
theorem rowF_len (f : List Int) (sl : Sl) : (rowF f sl).length = f.length + 1 := by simp [rowF]
theorem rowF_get {f : List Int} {sl : Sl} {j : Nat} (h : j < f.length) : (rowF f sl)[j]? = some (.int .i64 (f.getD j 0)) := by
  unfold rowF
  rw [List.getElem?_append_left (by simpa using h), List.getElem?_map, List.getElem?_eq_getElem h]
  simp [List.getD_eq_getElem?_getD, h]
theorem rowF_data {f : List Int} {sl : Sl} (h : f.length = 11) : (rowF f sl)[11]? = some (.slice sl.a sl.len sl.cap) := by
  unfold rowF
  rw [List.getElem?_append_right (by simp [h])]
  simp [h]
theorem rowF_set {f : List Int} {sl : Sl} {j : Nat} {v : Int} (h : j < f.length) : (rowF f sl).set j (.int .i64 v) = rowF (f.set j v) sl := by
  unfold rowF
  rw [List.set_append_left _ _ (by simpa using h), List.map_set]
theorem rowF_setD {f : List Int} {sl sl' : Sl} (h : f.length = 11) : (rowF f sl).set 11 (.slice sl'.a sl'.len sl'.cap) = rowF f sl' := by
  unfold rowF
  rw [List.set_append_right _ _ (by simp [h])]
  simp [h]
theorem rowF_one (f : List Int) (sl : Sl) : ∀ v ∈ rowF f sl, one v = true := by
  intro v hv
  simp [rowF] at hv
  rcases hv with ⟨a, _, rfl⟩ | rfl <;> rfl
theorem ldRec {s : St} {q b : Nat} {f : List Int} {sl : Sl} {K : G_api_Rec → HP} (h : At (s.w q) b 0 (rowF f sl)) (hf : f.length = 11) (hK : ∀ r, fieldsOf r = f → r.Data = sl → K r s.H) : ld_G_api_Rec ⟨b, 0, none⟩ K s.H := by
  match f, hf, h, hK with
  | [a0, a1, a2, a3, a4, a5, a6, a7, a8, a9, a10], _, h, hK =>
    unfold ld_G_api_Rec
    repeat (first|refine nn_at ?_|refine ldI_at h rfl ?_|refine ldB_at h rfl ?_|refine ldS_at h rfl ?_|refine ldP_at h rfl ?_|refine ldM_at h rfl ?_|refine ldL_at h rfl ?_)
    exact hK ⟨a0, a1, a2, a3, a4, a5, a6, a7, a8, a9, a10, sl⟩ rfl rfl
theorem rec_eq {r : G_api_Rec} {f : List Int} {sl : Sl} (h : fieldsOf r = f) (hd : r.Data = sl) : [Value.int .i64 r.Kind, .int .i64 r.User, .int .i64 r.Seq, .int .i64 r.Next, .int .i64 r.Base, .int .i64 r.Uid, .int .i64 r.Time, .int .i64 r.Flags, .int .i64 r.Body, .int .i64 r.Size, .int .i64 r.Origin, .slice r.Data.a r.Data.len r.Data.cap] = rowF f sl := by
  rw [← h, ← hd]; rfl
/-- a field of a record: how many bytes it has, its bounds, and which it is -/
structure PartM where
  w : Nat
  lo : Int
  hi : Int
  j : Nat
def tPart (b : Nat) : Ty PartM := ⟨4, fun _ x vs => vs = [.int .i64 x.w, .int .i64 x.lo, .int .i64 x.hi, .pointer (some ⟨b, x.j, none⟩)], by rintro _ _ _ rfl; rfl, fun _ h => h, by rintro _ _ _ rfl; simp [one]⟩
def pUid : PartM := ⟨4, 1, 2147483648, 5⟩
def pFlags : PartM := ⟨1, 0, 31, 7⟩
def pBody : PartM := ⟨4, 1, 2147483648, 8⟩
def pNext : PartM := ⟨4, 1, 2147483649, 3⟩
def layout (k : Int) : List PartM :=
  if k = 1 then [⟨2, 1, 999, 1⟩, ⟨4, 1, 2147483648, 2⟩, pNext, ⟨4, 0, 2147483648, 4⟩]
  else if k = 2 then [pUid, ⟨8, 0, 4503599627370496, 6⟩, pFlags, pBody, ⟨4, 0, 32768, 9⟩, ⟨8, 0, 9007199254740992, 10⟩]
  else if k = 3 then [pUid] else if k = 4 then [pUid, pFlags] else if k = 5 then [pNext] else if k = 6 then [pBody] else []
theorem layout_cases (k : Int) {P : List PartM → Prop} (h1 : k = 1 → P [⟨2, 1, 999, 1⟩, ⟨4, 1, 2147483648, 2⟩, pNext, ⟨4, 0, 2147483648, 4⟩])
    (h2 : k = 2 → P [pUid, ⟨8, 0, 4503599627370496, 6⟩, pFlags, pBody, ⟨4, 0, 32768, 9⟩, ⟨8, 0, 9007199254740992, 10⟩]) (h3 : k = 3 → P [pUid]) (h4 : k = 4 → P [pUid, pFlags]) (h5 : k = 5 → P [pNext]) (h6 : k = 6 → P [pBody])
    (h0 : k ≠ 1 → k ≠ 2 → k ≠ 3 → k ≠ 4 → k ≠ 5 → k ≠ 6 → P []) : P (layout k) := by
  unfold layout
  by_cases e1 : k = 1
  · rw [if_pos e1]; exact h1 e1
  rw [if_neg e1]
  by_cases e2 : k = 2
  · rw [if_pos e2]; exact h2 e2
  rw [if_neg e2]
  by_cases e3 : k = 3
  · rw [if_pos e3]; exact h3 e3
  rw [if_neg e3]
  by_cases e4 : k = 4
  · rw [if_pos e4]; exact h4 e4
  rw [if_neg e4]
  by_cases e5 : k = 5
  · rw [if_pos e5]; exact h5 e5
  rw [if_neg e5]
  by_cases e6 : k = 6
  · rw [if_pos e6]; exact h6 e6
  rw [if_neg e6]
  exact h0 e1 e2 e3 e4 e5 e6
structure PartOk (p : PartM) : Prop where
  w : p.w = 1 ∨ p.w = 2 ∨ p.w = 4 ∨ p.w = 8
  j : 1 ≤ p.j ∧ p.j ≤ 10
  lo : 0 ≤ p.lo
  hi : 0 ≤ p.hi ∧ p.hi ≤ 9007199254740992
theorem layout_ok (k : Int) : ∀ p ∈ layout k, PartOk p := by
  refine layout_cases k (P := fun l => ∀ p ∈ l, PartOk p) ?_ ?_ ?_ ?_ ?_ ?_ ?_ <;> intros <;> (rename_i p hp; simp [pUid, pFlags, pBody, pNext] at hp <;> first | (rcases hp with rfl | rfl | rfl | rfl | rfl | rfl <;> exact ⟨by decide, by decide, by decide, by decide⟩) | (rcases hp with rfl | rfl | rfl | rfl <;> exact ⟨by decide, by decide, by decide, by decide⟩) | (rcases hp with rfl | rfl <;> exact ⟨by decide, by decide, by decide, by decide⟩) | (subst hp; exact ⟨by decide, by decide, by decide, by decide⟩))
theorem layout_len (k : Int) : (layout k).length ≤ 6 := by
  refine layout_cases k (P := fun l => l.length ≤ 6) ?_ ?_ ?_ ?_ ?_ ?_ ?_ <;> intros <;> simp
theorem Ls.of {α : Type} {t : Ty α} {V : View} (g : α → List Value) (hg : ∀ x, t.R V x (g x)) : ∀ (l : List α) (b o : Nat), At V b o (l.flatMap g) → ∀ j x, l[j]? = some x → El t V V x b (o + j * t.n)
  | [], b, o, h, j, x, hj => by simp at hj
  | y :: l, b, o, h, 0, x, hj => by
    simp at hj; subst hj
    refine ⟨g y, hg y, fun i v hi => ?_⟩
    have := h i v (by rw [List.flatMap_cons, List.getElem?_append_left]; exact hi; exact (List.getElem?_eq_some_iff.1 hi).1)
    simpa using this
  | y :: l, b, o, h, j + 1, x, hj => by
    have hl := t.len (hg y)
    have := Ls.of g hg l b (o + t.n) (fun i v hi => by
      have := h (t.n + i) v (by rw [List.flatMap_cons, List.getElem?_append_right (by omega), hl]; simpa using hi)
      rwa [← Nat.add_assoc] at this) j x (by simpa using hj)
    rwa [show o + (j + 1) * t.n = o + t.n + j * t.n by rw [Nat.add_mul]; omega]
theorem Ls.row_ {α : Type} {t : Ty α} {V : View} (g : α → List Value) (hg : ∀ x, t.R V x (g x)) {l : List α} {b n : Nat} (hn : n = l.length) (h : At V b 0 (l.flatMap g)) : Ls t V l ⟨some (at0 b), n, n⟩ :=
  ⟨hn, Nat.le_refl _, fun h => (by cases h), fun a e => by
    simp at e; subst e
    exact ⟨fun _ => rfl, Ls.of g hg l b 0 h⟩⟩
def partRow (b : Nat) (x : PartM) : List Value := [.int .i64 x.w, .int .i64 x.lo, .int .i64 x.hi, .pointer (some ⟨b, x.j, none⟩)]
theorem parts_ok {s : St} {q b : Nat} {f : List Int} {sl : Sl} {K : Sl → HP} (h : At (s.w q) b 0 (rowF f sl)) (hf : f.length = 11)
    (hK : ∀ s' o, Step [] s s' → Ls (tPart b) (s'.w 0) (layout (f.getD 0 0)) o → (o.a.isNone = true ↔ layout (f.getD 0 0) = []) → K o s'.H) : record_parts (some ⟨b, 0, none⟩) K s.H := by
  unfold record_parts
  refine nn_at ?_
  refine newc_sts rfl (by simp [one]) fun s1 p3 e1 a3 => ?_
  refine nn_at ?_
  refine newc_sts rfl (by simp [one]) fun s2 p4 e2 a4 => ?_
  refine nn_at ?_
  refine newc_sts rfl (by simp [one]) fun s3 p5 e3 a5 => ?_
  refine nn_at ?_
  refine newc_sts rfl (by simp [one]) fun s4 p6 e4 a6 => ?_
  have h4 : At (s4.w q) b 0 (rowF f sl) := h.mono ((((e1.trans e2).trans e3).trans e4).view (by simp))
  have e14 := (((e1.trans e2).trans e3).trans e4)
  have b3 := a3.mono ((e2.trans e3).trans e4).v0
  have b4 := a4.mono (e3.trans e4).v0
  have b5 := a5.mono e4.v0
  refine nn_at ?_
  refine ldI_at h4 (rowF_get (by omega)) ?_
  have fin : ∀ (l : List PartM) (n : Nat) (cs : Array Value), layout (f.getD 0 0) = l → n = l.length → l ≠ [] → cs.toList = l.flatMap (partRow b) → newc cs (fun t => K ⟨some (at0 t), n, n⟩) s4.H := fun l n cs hl hn hne hcs => by
    refine newc_0 fun s5 p e5 a5 => ?_
    rw [hcs] at a5
    refine hK s5 _ (e14.trans e5.step) ?_ ?_
    · rw [hl]
      exact Ls.row_ (partRow b) (fun x => rfl) hn a5
    · rw [hl]; simp [hne]
  unfold ld_G_record_part
  refine bif_dec (fun k1 => ?_) (fun k1 => ?_)
  · refine nn_at ?_
    refine nn_at ?_
    repeat (first|refine nn_at ?_|refine ldI_at a6 rfl ?_|refine ldB_at a6 rfl ?_|refine ldS_at a6 rfl ?_|refine ldP_at a6 rfl ?_|refine ldM_at a6 rfl ?_|refine ldL_at a6 rfl ?_)
    exact fin [⟨2, 1, 999, 1⟩, ⟨4, 1, 2147483648, 2⟩, pNext, ⟨4, 0, 2147483648, 4⟩] 4 _ (by unfold layout; rw [if_pos k1]) rfl (by simp) (by rfl)
  refine bif_dec (fun k2 => ?_) (fun k2 => ?_)
  · repeat (first|refine nn_at ?_|refine ldI_at b3 rfl ?_|refine ldB_at b3 rfl ?_|refine ldS_at b3 rfl ?_|refine ldP_at b3 rfl ?_|refine ldM_at b3 rfl ?_|refine ldL_at b3 rfl ?_)
    repeat (first|refine nn_at ?_|refine ldI_at b4 rfl ?_|refine ldB_at b4 rfl ?_|refine ldS_at b4 rfl ?_|refine ldP_at b4 rfl ?_|refine ldM_at b4 rfl ?_|refine ldL_at b4 rfl ?_)
    repeat (first|refine nn_at ?_|refine ldI_at b5 rfl ?_|refine ldB_at b5 rfl ?_|refine ldS_at b5 rfl ?_|refine ldP_at b5 rfl ?_|refine ldM_at b5 rfl ?_|refine ldL_at b5 rfl ?_)
    exact fin [pUid, ⟨8, 0, 4503599627370496, 6⟩, pFlags, pBody, ⟨4, 0, 32768, 9⟩, ⟨8, 0, 9007199254740992, 10⟩] 6 _ (by unfold layout; rw [if_neg k1, if_pos k2]) rfl (by simp) (by rfl)
  refine bif_dec (fun k3 => ?_) (fun k3 => ?_)
  · repeat (first|refine nn_at ?_|refine ldI_at b3 rfl ?_|refine ldB_at b3 rfl ?_|refine ldS_at b3 rfl ?_|refine ldP_at b3 rfl ?_|refine ldM_at b3 rfl ?_|refine ldL_at b3 rfl ?_)
    exact fin [pUid] 1 _ (by unfold layout; rw [if_neg k1, if_neg k2, if_pos k3]) rfl (by simp) (by rfl)
  refine bif_dec (fun k4 => ?_) (fun k4 => ?_)
  · repeat (first|refine nn_at ?_|refine ldI_at b3 rfl ?_|refine ldB_at b3 rfl ?_|refine ldS_at b3 rfl ?_|refine ldP_at b3 rfl ?_|refine ldM_at b3 rfl ?_|refine ldL_at b3 rfl ?_)
    repeat (first|refine nn_at ?_|refine ldI_at b4 rfl ?_|refine ldB_at b4 rfl ?_|refine ldS_at b4 rfl ?_|refine ldP_at b4 rfl ?_|refine ldM_at b4 rfl ?_|refine ldL_at b4 rfl ?_)
    exact fin [pUid, pFlags] 2 _ (by unfold layout; rw [if_neg k1, if_neg k2, if_neg k3, if_pos k4]) rfl (by simp) (by rfl)
  refine bif_dec (fun k5 => ?_) (fun k5 => ?_)
  · repeat (first|refine nn_at ?_|refine ldI_at a6 rfl ?_|refine ldB_at a6 rfl ?_|refine ldS_at a6 rfl ?_|refine ldP_at a6 rfl ?_|refine ldM_at a6 rfl ?_|refine ldL_at a6 rfl ?_)
    exact fin [pNext] 1 _ (by unfold layout; rw [if_neg k1, if_neg k2, if_neg k3, if_neg k4, if_pos k5]) rfl (by simp) (by rfl)
  refine bif_dec (fun k6 => ?_) (fun k6 => ?_)
  · repeat (first|refine nn_at ?_|refine ldI_at b5 rfl ?_|refine ldB_at b5 rfl ?_|refine ldS_at b5 rfl ?_|refine ldP_at b5 rfl ?_|refine ldM_at b5 rfl ?_|refine ldL_at b5 rfl ?_)
    exact fin [pBody] 1 _ (by unfold layout; rw [if_neg k1, if_neg k2, if_neg k3, if_neg k4, if_neg k5, if_pos k6]) rfl (by simp) (by rfl)
  · have hl : layout (f.getD 0 0) = [] := by unfold layout; rw [if_neg k1, if_neg k2, if_neg k3, if_neg k4, if_neg k5, if_neg k6]
    exact hK s4 _ e14 (by rw [hl]; exact Ls.nil_) (by rw [hl]; simp)
/-- two records are one -/
theorem Same_ok {s : St} {x y : RecM} {r r2 : G_api_Rec} {K : Bool → HP} (h : RecAt (s.w 0) x r) (h2 : RecAt (s.w 0) y r2) (hK : ∀ s', Step [] s s' → K (decide (x.f = y.f ∧ x.data = y.data)) s'.H) : record_Same r r2 K s.H := by
  unfold record_Same
  refine newc_0 fun s1 p1 n1 a1 => ?_
  refine newc_0 fun s2 p2 n2 a2 => ?_
  have e1 := n1.step
  have e2 := n2.step
  have a12 := a1.mono e2.v0
  have all : ∀ {s' : St} {r : G_api_Rec} {K' : G_A11_int → HP}, (∀ s'' (t : G_A11_int), Step [] s' s'' → [t.c0, t.c1, t.c2, t.c3, t.c4, t.c5, t.c6, t.c7, t.c8, t.c9, t.c10] = fieldsOf r → K' t s''.H) → record_all r K' s'.H := fun {s' r K'} hk => by
    unfold record_all
    refine newc_0 fun s3 p3 n3 a3 => ?_
    have e3 := n3.step
    refine newc_k (own s') (by have := e3.sz; unfold own; omega) fun s4 p4 n4 a4 => ?_
    have e4 := n4.step
    have a34 := a3.mono e4.v0
    repeat (first|refine nn_at ?_|refine ldI_at a34 rfl ?_|refine ldB_at a34 rfl ?_|refine ldS_at a34 rfl ?_|refine ldP_at a34 rfl ?_|refine ldM_at a34 rfl ?_|refine ldL_at a34 rfl ?_)
    refine row_rule (own s') a4 rfl (by simp [one]) (by unfold own; omega) (.inl rfl) fun s5 e5 z5 a5 _ => ?_
    unfold ld_G_A11_int
    repeat (first|refine nn_at ?_|refine ldI_at a5 rfl ?_|refine ldB_at a5 rfl ?_|refine ldS_at a5 rfl ?_|refine ldP_at a5 rfl ?_|refine ldM_at a5 rfl ?_|refine ldL_at a5 rfl ?_)
    exact hk s5 _ (((e3.trans e4).n.trans e5).loc) rfl
  unfold ld_G_api_Rec
  repeat (first|refine nn_at ?_|refine ldI_at a12 rfl ?_|refine ldB_at a12 rfl ?_|refine ldS_at a12 rfl ?_|refine ldP_at a12 rfl ?_|refine ldM_at a12 rfl ?_|refine ldL_at a12 rfl ?_)
  repeat (first|refine nn_at ?_|refine ldI_at a2 rfl ?_|refine ldB_at a2 rfl ?_|refine ldS_at a2 rfl ?_|refine ldP_at a2 rfl ?_|refine ldM_at a2 rfl ?_|refine ldL_at a2 rfl ?_)
  refine all fun s3 t e3 ht => ?_
  have a23 := a2.mono e3.v0
  refine held_rule ?_ ?_
  · repeat (first|refine nn_at ?_|refine ldI_at a23 rfl ?_|refine ldB_at a23 rfl ?_|refine ldS_at a23 rfl ?_|refine ldP_at a23 rfl ?_|refine ldM_at a23 rfl ?_|refine ldL_at a23 rfl ?_)
    rfl
  refine all fun s4 t2 e4 ht2 => ?_
  have e04 := (((e1.trans e2).trans e3).trans e4)
  have a14 := (a12.mono e3.v0).mono e4.v0
  have a24 := a23.mono e4.v0
  have hc : (decide ((t.c0 : Int) = t2.c0) && (decide ((t.c1 : Int) = t2.c1) && (decide ((t.c2 : Int) = t2.c2) && (decide ((t.c3 : Int) = t2.c3) && (decide ((t.c4 : Int) = t2.c4) && (decide ((t.c5 : Int) = t2.c5) && (decide ((t.c6 : Int) = t2.c6) && (decide ((t.c7 : Int) = t2.c7) && (decide ((t.c8 : Int) = t2.c8) && (decide ((t.c9 : Int) = t2.c9) && (decide ((t.c10 : Int) = t2.c10) && true))))))))))) = decide (x.f = y.f) := by
    have e : (x.f = y.f) = ([t.c0, t.c1, t.c2, t.c3, t.c4, t.c5, t.c6, t.c7, t.c8, t.c9, t.c10] = [t2.c0, t2.c1, t2.c2, t2.c3, t2.c4, t2.c5, t2.c6, t2.c7, t2.c8, t2.c9, t2.c10]) := by
      rw [ht, ht2, ← h.f, ← h2.f]
    simp only [e]
    simp
  rw [hc]
  have hK' := hK s4 e04
  refine bif_dec (fun hx => ?_) (fun hx => ?_)
  · repeat (first|refine nn_at ?_|refine ldI_at a14 rfl ?_|refine ldB_at a14 rfl ?_|refine ldS_at a14 rfl ?_|refine ldP_at a14 rfl ?_|refine ldM_at a14 rfl ?_|refine ldL_at a14 rfl ?_)
    repeat (first|refine nn_at ?_|refine ldI_at a24 rfl ?_|refine ldB_at a24 rfl ?_|refine ldS_at a24 rfl ?_|refine ldP_at a24 rfl ?_|refine ldM_at a24 rfl ?_|refine ldL_at a24 rfl ?_)
    unfold bytes_Equal
    refine ldBy_rule (h.st e04).data ?_
    refine ldBy_rule (h2.st e04).data ?_
    have hba : ((⟨x.data.toArray⟩ : ByteArray) = ⟨y.data.toArray⟩) ↔ x.data = y.data := ba_inj
    have : decide ((⟨x.data.toArray⟩ : ByteArray) = ⟨y.data.toArray⟩) = decide (x.f = y.f ∧ x.data = y.data) := by
      rw [decide_eq_decide, hba]; simp [hx]
    rw [this]
    exact hK'
  · rwa [decide_eq_false (fun h => hx h.1)] at hK'
end Go.Ph
end
section
set_option linter.all false
namespace Go.Ph
open S
theorem ldI_j {s : St} {q b j : Nat} {vs : List Value} {k : IntKind} {K : Int → HP} {n : Int} (h : At (s.w q) b 0 vs) (hi : vs[j]? = some (.int k n)) (hK : K n s.H) : ldI k ⟨b, j, none⟩ K s.H := by
  rw [← at0_add]; exact ldI_at h hi hK
theorem fld_j {s : St} {k b j : Nat} {vs : List Value} {v : Value} {K : HP} (h : At (s.w k) b 0 vs) (hi : j < vs.length) (hv : one v = true) (hk : k ≠ 0)
    (hK : ∀ s' : St, Step [k] s s' → s'.H.size = s.H.size → At (s'.w k) b 0 (vs.set j v) → Oth b s s' → K s'.H) : sts ⟨b, j, none⟩ 0 [v] K s.H := by
  rw [← at0_add]; exact fld_rule h hi hv hk hK
def bareN (k : Int) (f : List Int) (l : List PartM) : List Int := l.foldl (fun g p => g.set p.j (f.getD p.j 0)) (k :: List.replicate 10 0)
theorem bareN_len (k : Int) (f : List Int) (l : List PartM) : (bareN k f l).length = 11 := by
  refine snoc_ind (P := fun l => (bareN k f l).length = 11) rfl (fun l p ih => ?_) l
  simp only [bareN, List.foldl_append, List.foldl_cons, List.foldl_nil, List.length_set] at ih ⊢
  exact ih
theorem bareN_snoc (k : Int) (f : List Int) (l : List PartM) (p : PartM) : bareN k f (l ++ [p]) = (bareN k f l).set p.j (f.getD p.j 0) := by simp [bareN]
/-- the numbers of a record that its kind tells -/
def bareF (f : List Int) : List Int := bareN (f.getD 0 0) f (layout (f.getD 0 0))
def bareR (x : RecM) : Bool := decide (x.f = bareF x.f ∧ x.data = if x.kind = 6 then x.data else [])
theorem bare_ok {s : St} {x : RecM} {r : G_api_Rec} {K : Bool → HP} (h : RecAt (s.w 0) x r) (hK : ∀ s', Step [] s s' → K (bareR x) s'.H) : record_bare r K s.H := by
  unfold record_bare
  have hxl := h.len
  have hq0 : own s ≠ 0 := by unfold own; omega
  refine newc_0 fun s1 p1 n1 a1 => ?_
  have e1 := n1.step
  have a1' : At (s1.w 0) p1 0 (rowF x.f r.Data) := by rw [← h.f]; exact a1
  refine ldI_at a1' (rowF_get (by omega)) ?_
  refine newc_k (own s) (by have := e1.sz; unfold own; omega) fun s2 p3 n2 a2 => ?_
  have e2 := n2.step
  refine row_rule (own s) a2 rfl (by simp [one]) hq0 (.inl rfl) fun s3 e3 z3 a3 _ => ?_
  have a13 : At (s3.w 0) p1 0 (rowF x.f r.Data) := (a1'.mono e2.v0).mono e3.v0
  have es3 : Step [own s] s s3 := (e1.trans e2).n.tr e3 (A := [])
  have a3' : At (s3.w (own s)) p3 0 (rowF (bareN x.kind x.f []) ⟨none, 0, 0⟩) := a3
  have hr := h.st es3
  refine parts_ok a13 hxl fun s4 o1 e4 l1 _ => ?_
  have a34 := a3'.mono (e4.view (by simp))
  have a14 := a13.mono e4.v0
  refine parts_ok a34 (bareN_len _ _ _) fun s5 o3 e5 l3 _ => ?_
  have a35 := a34.mono (e5.view (by simp))
  have a15 := a14.mono e5.v0
  have l15 := Ls.st l1 e5
  have hk : (bareN x.kind x.f []).getD 0 0 = x.kind := rfl
  rw [hk] at l3
  have es5 : Step [own s] s s5 := es3.trans (e4.trans e5).n
  have hLl := l3.len
  have hLL := layout_len x.kind
  change Ls (tPart p1) (s5.w 0) (layout x.kind) o1 at l15
  have hL := layout_ok x.kind
  have hbf : bareF x.f = bareN x.kind x.f (layout x.kind) := rfl
  rw [show bareR x = decide (x.f = bareN x.kind x.f (layout x.kind) ∧ x.data = if x.kind = 6 then x.data else []) from rfl] at hK
  generalize layout x.kind = L at *
  refine loop_rule (fun i : Nat => [.int .i64 i]) (fun i s' => i ≤ L.length ∧ Step [own s] s s' ∧ Step [own s] s5 s' ∧ At (s'.w (own s)) p3 0 (rowF (bareN x.kind x.f (L.take i)) ⟨none, 0, 0⟩)) (fun i _ => L.length - i) 0 rfl ⟨Nat.zero_le _, es5, Step.refl, a35⟩ ?_
  rintro i s6 ⟨hi, es6, e56, a36⟩ G hG
  simp only [List.getD_cons_zero, List.getD_cons_succ, asI_v, asL_v, asS_v, asB_v, asM_v, asP_v]
  have a16 := a15.mono e56.v0
  have fin : ∀ s7 (sl : Sl), Step [own s] s6 s7 → At (s7.w (own s)) p3 0 (rowF (bareN x.kind x.f L) sl) → Ls tBy (s7.w 0) (if x.kind = 6 then x.data else []) sl → record_bare_j1 p1 p3 K s7.H := fun s7 sl e7 a37 hsl => by
    unfold record_bare_j1
    have es7 := es6.trans e7
    refine ldRec (sl := r.Data) (a16.mono e7.v0) hxl fun r1 f1 d1 => ?_
    refine ldRec a37 (bareN_len _ _ _) fun r2 f2 d2 => ?_
    refine Same_ok (x := x) (y := ⟨bareN x.kind x.f L, if x.kind = 6 then x.data else []⟩) ⟨f1, by rw [d1]; exact (h.st es7).data⟩ ⟨f2, by rw [d2]; exact hsl⟩ fun s8 e8 => ?_
    exact hK s8 ((es7.trans e8.n).loc)
  refine bif_dec (fun hlt => ?_) (fun hlt => ?_)
  · have hz6 := es6.sz
    refine ixL_rule (Ls.st l3 e56) (by omega) (by omega) fun b3 q3 p hp hel => ?_
    rw [Int.toNat_natCast] at hp
    obtain ⟨vs, rfl, hat⟩ := hel
    unfold ld_G_record_part
    repeat (first|refine nn_at ?_|refine ldI_at hat rfl ?_|refine ldB_at hat rfl ?_|refine ldS_at hat rfl ?_|refine ldP_at hat rfl ?_|refine ldM_at hat rfl ?_|refine ldL_at hat rfl ?_)
    refine newc_sts rfl (by simp [one]) fun s7 p6 e7 a7 => ?_
    repeat (first|refine nn_at ?_|refine ldI_at a7 rfl ?_|refine ldB_at a7 rfl ?_|refine ldS_at a7 rfl ?_|refine ldP_at a7 rfl ?_|refine ldM_at a7 rfl ?_|refine ldL_at a7 rfl ?_)
    refine ixL_rule (Ls.st l15 (e56.trans e7.n)) (by omega) (by have := l15.len; omega) fun b4 q4 p' hp' hel' => ?_
    rw [Int.toNat_natCast, hp] at hp'
    have := Option.some.inj hp'
    subst this
    obtain ⟨vs, rfl, hat'⟩ := hel'
    refine ldP_at hat' rfl ?_
    have hpo := hL p (List.mem_of_getElem? hp)
    have hpj := hpo.j
    refine nn_at ?_
    refine ldI_j (a16.mono e7.v0) (rowF_get (by omega)) ?_
    refine nn_at ?_
    have a37 := a36.mono (e7.view (by simp))
    refine fld_j a37 (by rw [rowF_len, bareN_len]; omega) rfl hq0 (fun s8 e8 z8 a8 _ => ?_)
    rw [rowF_set (by rw [bareN_len]; omega)] at a8
    rw [w64_id (by omega) (by omega)]
    have ht : L.take (i + 1) = L.take i ++ [p] := by rw [List.take_succ, hp]; rfl
    refine hG (i + 1) s8 ⟨by omega, es6.trans (e7.n.trans e8), e56.trans (e7.n.trans e8), ?_⟩ (by omega)
    rw [ht, bareN_snoc]
    exact a8
  · have : i = L.length := by omega
    subst this
    rw [List.take_of_length_le (Nat.le_refl _)] at a36
    refine ldI_at a16 (rowF_get (by omega)) ?_
    refine bif_dec (fun h6 => ?_) (fun h6 => ?_)
    · refine ldL_at a16 (rowF_data hxl) ?_
      refine fld_rule a36 (by rw [rowF_len, bareN_len]; omega) rfl hq0 (fun s8 e8 z8 a8 _ => ?_)
      rw [rowF_setD (bareN_len _ _ _)] at a8
      refine fin s8 r.Data e8 a8 ?_
      rw [if_pos (show x.kind = 6 from h6)]
      exact ((h.st es6).st e8).data
    · refine fin s6 ⟨none, 0, 0⟩ Step.refl a36 ?_
      rw [if_neg (show ¬x.kind = 6 from h6)]
      exact Ls.nil_
def inBd (f : List Int) (p : PartM) : Bool := decide (p.lo ≤ f.getD p.j 0) && decide (f.getD p.j 0 ≤ p.hi)
/-- what is wrong with a record -/
def checkR (x : RecM) : Int :=
  if layout x.kind = [] then 16 else if (layout x.kind).all (inBd x.f) = false then 1 else if x.kind = 6 ∧ 32768 < x.data.length then 4 else if bareR x = true then 0 else 3
theorem Check_ok {s : St} {x : RecM} {r : G_api_Rec} {K : Int → HP} (h : RecAt (s.w 0) x r) (hK : ∀ s', Step [] s s' → K (checkR x) s'.H) : record_Check r K s.H := by
  unfold record_Check
  have hxl := h.len
  have hq0 : own s ≠ 0 := by unfold own; omega
  refine newc_0 fun s1 p1 n1 a1 => ?_
  have e1 := n1.step
  have a1' : At (s1.w 0) p1 0 (rowF x.f r.Data) := by rw [← h.f]; exact a1
  refine parts_ok a1' hxl fun s2 o e2 l2 hno => ?_
  have a2 := a1'.mono e2.v0
  have e12 := e1.trans e2
  change Ls (tPart p1) (s2.w 0) (layout x.kind) o at l2
  change _ ↔ layout x.kind = [] at hno
  have hL := layout_ok x.kind
  have hLL := layout_len x.kind
  unfold checkR at hK
  generalize layout x.kind = L at *
  refine bif_rule (fun h1 => ?_) (fun h1 => ?_)
  · rw [if_pos (hno.1 h1)] at hK
    exact hK s2 e12
  rw [if_neg (fun h => by rw [hno.2 h] at h1; cases h1)] at hK
  have hlen := l2.len
  refine loop_rule (fun i : Nat => [.int .i64 i]) (fun i s' => i ≤ L.length ∧ Step [] s2 s' ∧ (L.take i).all (inBd x.f) = true) (fun i _ => L.length - i) 0 rfl ⟨Nat.zero_le _, Step.refl, by simp⟩ ?_
  rintro i s3 ⟨hi, e3, hall⟩ G hG
  simp only [List.getD_cons_zero, List.getD_cons_succ, asI_v, asL_v, asS_v, asB_v, asM_v, asP_v]
  have e03 := e12.trans e3
  have a3 := a2.mono e3.v0
  refine bif_dec (fun hlt => ?_) (fun hlt => ?_)
  · refine ixL_rule (Ls.st l2 e3) (by omega) (by omega) fun b3 q3 p hp hel => ?_
    rw [Int.toNat_natCast] at hp
    obtain ⟨vs, rfl, hat⟩ := hel
    unfold ld_G_record_part
    repeat (first|refine nn_at ?_|refine ldI_at hat rfl ?_|refine ldB_at hat rfl ?_|refine ldS_at hat rfl ?_|refine ldP_at hat rfl ?_|refine ldM_at hat rfl ?_|refine ldL_at hat rfl ?_)
    refine newc_sts rfl (by simp [one]) fun s4 p5 e4 a4 => ?_
    have hpm := List.mem_of_getElem? hp
    have hpj := (hL p hpm).j
    have a34 := a3.mono e4.v0
    have hg : ∀ {K' : Int → HP}, K' (x.f.getD p.j 0) s4.H → ldI .i64 ⟨p1, p.j, none⟩ K' s4.H := fun hk => ldI_j a34 (rowF_get (by omega)) hk
    refine ldP_at a4 rfl ?_
    refine nn_at ?_
    refine hg ?_
    refine ldI_at a4 rfl ?_
    have bad : inBd x.f p = false → record_Check_j1 p1 o o.len i true K G s4.H := fun hb => by
      unfold record_Check_j1
      refine bif_t ?_
      have : L.all (inBd x.f) = false := by
        rw [Bool.eq_false_iff]
        intro hh
        rw [List.all_eq_true] at hh
        rw [hh p hpm] at hb
        cases hb
      rw [if_pos this] at hK
      exact hK s4 (e03.trans e4)
    refine bif_dec (fun h2 => ?_) (fun h2 => ?_) <;> change _ at h2 <;> simp only at h2
    · exact bad (by unfold inBd; rw [decide_eq_false (by omega)]; rfl)
    · refine ldP_at a4 rfl ?_
      refine nn_at ?_
      refine hg ?_
      refine ldI_at a4 rfl ?_
      by_cases h3 : p.hi < x.f.getD p.j 0
      · rw [decide_eq_true h3]
        exact bad (by unfold inBd; rw [decide_eq_false (show ¬ x.f.getD p.j 0 ≤ p.hi by omega), Bool.and_false])
      · rw [decide_eq_false h3]
        unfold record_Check_j1
        refine bif_f ?_
        rw [w64_id (by omega) (by omega)]
        refine hG (i + 1) s4 ⟨by omega, e3.trans e4, ?_⟩ (by omega)
        have ht : L.take (i + 1) = L.take i ++ [p] := by rw [List.take_succ, hp]; rfl
        rw [ht, List.all_append, hall]
        have : inBd x.f p = true := by
          unfold inBd; rw [decide_eq_true (show p.lo ≤ _ by omega), decide_eq_true (show _ ≤ p.hi by omega)]; rfl
        simp [this]
  · have : i = L.length := by omega
    subst this
    rw [List.take_of_length_le (Nat.le_refl _)] at hall
    rw [if_neg (by rw [hall]; simp)] at hK
    refine ldI_at a3 (rowF_get (by omega)) ?_
    have hd3 := (h.st e03).data
    have hdl := hd3.len
    have j2 : ¬(x.kind = 6 ∧ 32768 < x.data.length) → record_Check_j2 p1 false K s3.H := fun hn => by
      unfold record_Check_j2
      refine bif_f ?_
      rw [if_neg hn] at hK
      refine ldRec a3 hxl fun r1 f1 d1 => ?_
      refine bare_ok (x := x) ⟨f1, by rw [d1]; exact hd3⟩ fun s4 e4 => ?_
      have := hK s4 (e03.trans e4)
      refine bif_rule (fun hb => ?_) (fun hb => ?_)
      · rwa [if_neg (by simpa using hb)] at this
      · rwa [if_pos (by simpa using hb)] at this
    refine bif_dec (fun h6 => ?_) (fun h6 => ?_)
    · refine ldL_at a3 (rowF_data hxl) ?_
      by_cases h7 : (32768 : Int) < (r.Data.len : Nat)
      · rw [decide_eq_true h7]
        unfold record_Check_j2
        refine bif_t ?_
        rw [if_pos ⟨h6, by omega⟩] at hK
        exact hK s3 e03
      · rw [decide_eq_false h7]
        exact j2 (by omega)
    · exact j2 (fun h => h6 h.1)
end Go.Ph
end
section
set_option linter.all false
namespace Go.Ph
open S
theorem bClone_ok {s : St} {l : List UInt8} {sl : Sl} {K : Sl → HP} (h : Ls tBy (s.w 0) l sl) (hl : l.length ≤ 1000000000000) (hK : ∀ s' o, Step [] s s' → Ls tBy (s'.w 0) l o → K o s'.H) : bytes_Clone sl K s.H := by
  unfold bytes_Clone
  refine bif_rule (fun h1 => ?_) (fun h1 => ?_)
  · have : l = [] := by
      have hn : sl.a = none := by simpa using h1
      have h2 := h.nil hn
      have h3 := h.len
      have h4 := h.cap
      exact List.eq_nil_of_length_eq_zero (by omega)
    subst this
    exact hK s _ Step.refl Ls.nil_
  · refine newc_0 fun s1 p n1 a1 => ?_
    have e1 := n1.step
    have hz := e1.sz
    refine app_rule (q := own s) Bld.none_ (Ls.st h e1) (fun s2 o2 e2 b2 => ?_) rfl rfl (by simp; omega) (by simp; omega) (by unfold own; omega) (by unfold own; omega)
    exact hK s2 o2 ((e1.n.trans e2).loc) (by simpa using b2.ls)
/-- bytes that are taken -/
structure Src (q : Nat) (s : St) (b : Nat) (sl : Sl) (l : List UInt8) (at_ : Nat) (e : Int) : Prop where
  row : At (s.w q) b 0 [.slice sl.a sl.len sl.cap, .int .i64 at_, .int .i64 e]
  ls : Ls tBy (s.w 0) l sl
  le : at_ ≤ l.length
theorem Src.st {q : Nat} {s s' : St} {b : Nat} {sl : Sl} {l : List UInt8} {at_ : Nat} {e : Int} {S : List Nat} (h : Src q s b sl l at_ e) (hs : Step S s s') (hq : q ∉ S) : Src q s' b sl l at_ e :=
  ⟨h.row.mono (hs.view hq), Ls.st h.ls hs, h.le⟩
theorem failF_ok {q : Nat} {s : St} {b : Nat} {sl : Sl} {l : List UInt8} {at_ : Nat} {e c : Int} {K : Bool → HP} (h : Src q s b sl l at_ e) (hK : K (!decide (e = 0)) s.H) : octet_Source_fail (some ⟨b, 0, none⟩) false c K s.H := by
  unfold octet_Source_fail octet_Source_fail_j1 octet_Source_fail_j2
  refine bif_f (bif_f ?_)
  have a := h.row
  repeat (first|refine nn_at ?_|refine ldI_at a rfl ?_|refine ldB_at a rfl ?_|refine ldS_at a rfl ?_|refine ldP_at a rfl ?_|refine ldM_at a rfl ?_|refine ldL_at a rfl ?_)
  exact hK
theorem failT_ok {q : Nat} {s : St} {b : Nat} {sl : Sl} {l : List UInt8} {at_ : Nat} {c : Int} {K : Bool → HP} (h : Src q s b sl l at_ 0) (hq : q ≠ 0) (hc : c ≠ 0) (hK : ∀ s', Step [q] s s' → Src q s' b sl l at_ c → K true s'.H) : octet_Source_fail (some ⟨b, 0, none⟩) true c K s.H := by
  unfold octet_Source_fail octet_Source_fail_j1 octet_Source_fail_j2
  refine bif_t ?_
  have a := h.row
  refine nn_at ?_
  refine ldI_at a rfl ?_
  refine bif_dec (fun _ => ?_) (fun h => absurd rfl h)
  refine nn_at ?_
  refine fld_rule a (by simp) rfl hq (fun s1 e1 z1 a1 _ => ?_)
  repeat (first|refine nn_at ?_|refine ldI_at a1 rfl ?_|refine ldB_at a1 rfl ?_|refine ldS_at a1 rfl ?_|refine ldP_at a1 rfl ?_|refine ldM_at a1 rfl ?_|refine ldL_at a1 rfl ?_)
  rw [decide_eq_false hc]
  exact hK s1 e1 ⟨a1, Ls.st h.ls e1, h.le⟩
theorem Left_ok {q : Nat} {s : St} {b : Nat} {sl : Sl} {l : List UInt8} {at_ : Nat} {e : Int} {K : Int → HP} (h : Src q s b sl l at_ e) (hl : l.length ≤ 1000000000000) (hK : K ((l.length - at_ : Nat) : Int) s.H) : octet_Source_Left (some ⟨b, 0, none⟩) K s.H := by
  unfold octet_Source_Left
  have a := h.row
  have hlen := h.ls.len
  have hle := h.le
  repeat (first|refine nn_at ?_|refine ldI_at a rfl ?_|refine ldB_at a rfl ?_|refine ldS_at a rfl ?_|refine ldP_at a rfl ?_|refine ldM_at a rfl ?_|refine ldL_at a rfl ?_)
  rw [w64_id (by omega) (by omega), show ((sl.len : Nat) : Int) - (at_ : Int) = ((l.length - at_ : Nat) : Int) by omega]
  exact hK
def srcU (l : List UInt8) (at_ : Nat) (e : Int) (k : Nat) : Nat × Int × Int := if e ≠ 0 then (at_, e, 0) else if l.length < at_ + k then (at_, 2, 0) else (at_ + k, 0, getI l at_ k)
theorem U_ok {q : Nat} {s : St} {b : Nat} {sl : Sl} {l : List UInt8} {at_ k : Nat} {e : Int} {K : Int → HP} (h : Src q s b sl l at_ e) (hq : q ≠ 0) (hl : l.length ≤ 1000000000000) (hk : 1 ≤ k ∧ k ≤ 8)
    (hK : ∀ s', Step [q] s s' → Src q s' b sl l (srcU l at_ e k).1 (srcU l at_ e k).2.1 → K (srcU l at_ e k).2.2 s'.H) : octet_Source_U (some ⟨b, 0, none⟩) k K s.H := by
  unfold octet_Source_U octet_good
  refine bif_dec (fun _ => ?_) (fun h => absurd (by omega) h)
  rw [decide_eq_true (show (k : Int) ≤ 8 by omega)]
  refine failF_ok h ?_
  unfold srcU at hK
  by_cases he : e = 0
  · subst he
    rw [if_neg (by simp)] at hK
    refine bif_ndec (fun h => absurd rfl h) (fun _ => ?_)
    refine Left_ok h hl ?_
    have hle := h.le
    by_cases hs : l.length < at_ + k
    · rw [if_pos hs] at hK
      rw [decide_eq_true (by omega)]
      refine failT_ok h hq (by decide) fun s1 e1 h1 => ?_
      unfold octet_Source_U_j1
      exact bif_t (hK s1 e1 h1)
    · rw [if_neg hs] at hK
      rw [decide_eq_false (by omega)]
      refine failF_ok h ?_
      unfold octet_Source_U_j1
      refine bif_ndec (fun h => absurd rfl h) (fun _ => ?_)
      have a := h.row
      repeat (first|refine nn_at ?_|refine ldI_at a rfl ?_|refine ldB_at a rfl ?_|refine ldS_at a rfl ?_|refine ldP_at a rfl ?_|refine ldM_at a rfl ?_|refine ldL_at a rfl ?_)
      refine Get_ok h.ls (by omega) (by omega) ?_
      repeat (first|refine nn_at ?_|refine ldI_at a rfl ?_|refine ldB_at a rfl ?_|refine ldS_at a rfl ?_|refine ldP_at a rfl ?_|refine ldM_at a rfl ?_|refine ldL_at a rfl ?_)
      rw [w64_id (by omega) (by omega)]
      refine fld_rule a (by simp) rfl hq (fun s1 e1 z1 a1 _ => ?_)
      exact hK s1 e1 ⟨by simpa using a1, Ls.st h.ls e1, by simp only; omega⟩
  · rw [if_pos he] at hK
    refine bif_ndec (fun _ => ?_) (fun h => absurd h he)
    unfold octet_Source_U_j1
    exact bif_t (hK s Step.refl h)
/-- all that is left is taken -/
theorem Raw_ok {q : Nat} {s : St} {b : Nat} {sl : Sl} {l : List UInt8} {at_ : Nat} {e : Int} {K : Sl → HP} (h : Src q s b sl l at_ e) (hq : q ≠ 0) (hl : l.length ≤ 1000000000000)
    (hE : e ≠ 0 → K ⟨none, 0, 0⟩ s.H) (hO : e = 0 → ∀ s' o, Step [q] s s' → Src q s' b sl l l.length 0 → Ls tBy (s'.w 0) (l.drop at_) o → K o s'.H) : octet_Source_Raw (some ⟨b, 0, none⟩) ((l.length - at_ : Nat) : Int) K s.H := by
  unfold octet_Source_Raw
  rw [decide_eq_false (by omega)]
  refine failF_ok h ?_
  by_cases he : e = 0
  · subst he
    refine bif_ndec (fun h => absurd rfl h) (fun _ => ?_)
    refine Left_ok h hl ?_
    rw [decide_eq_false (by omega)]
    refine failF_ok h ?_
    unfold octet_Source_Raw_j1
    refine bif_ndec (fun h => absurd rfl h) (fun _ => ?_)
    have a := h.row
    have hle := h.le
    have hlen := h.ls.len
    have hcap := h.ls.cap
    repeat (first|refine nn_at ?_|refine ldI_at a rfl ?_|refine ldB_at a rfl ?_|refine ldS_at a rfl ?_|refine ldP_at a rfl ?_|refine ldM_at a rfl ?_|refine ldL_at a rfl ?_)
    rw [w64_id (n := (at_ : Int) + ((l.length - at_ : Nat) : Int)) (by omega) (by omega), show (at_ : Int) + ((l.length - at_ : Nat) : Int) = (l.length : Int) by omega]
    refine fld_rule a (by simp) rfl hq (fun s1 e1 z1 a1 _ => ?_)
    repeat (first|refine nn_at ?_|refine ldI_at a1 rfl ?_|refine ldB_at a1 rfl ?_|refine ldS_at a1 rfl ?_|refine ldP_at a1 rfl ?_|refine ldM_at a1 rfl ?_|refine ldL_at a1 rfl ?_)
    rw [w64_id (n := (l.length : Int) - ((l.length - at_ : Nat) : Int)) (by omega) (by omega), show (l.length : Int) - ((l.length - at_ : Nat) : Int) = (at_ : Int) by omega]
    have h1 := Ls.st h.ls e1
    refine slL_rule h1 (by omega) (by omega) (by omega) (by omega) (by omega) fun sA hA cA => ?_
    rw [Int.toNat_natCast, Int.toNat_natCast, List.take_of_length_le (Nat.le_refl _)] at hA
    refine bClone_ok hA (by rw [List.length_drop]; omega) fun s2 o e2 l2 => ?_
    exact hO rfl s2 o (e1.trans e2.n) ⟨by simpa using a1.mono (e2.view (by simp)), Ls.st h1 e2, Nat.le_refl _⟩ l2
  · refine bif_ndec (fun _ => ?_) (fun h => absurd h he)
    unfold octet_Source_Raw_j1
    exact bif_t (hE he)
theorem Done_ok {q : Nat} {s : St} {b : Nat} {sl : Sl} {l : List UInt8} {at_ : Nat} {e : Int} {K : Int → HP} (h : Src q s b sl l at_ e) (hl : l.length ≤ 1000000000000)
    (hK : K (if e = 0 ∧ at_ < l.length then 3 else e) s.H) : octet_Source_Done (some ⟨b, 0, none⟩) K s.H := by
  unfold octet_Source_Done
  have a := h.row
  have hle := h.le
  repeat (first|refine nn_at ?_|refine ldI_at a rfl ?_|refine ldB_at a rfl ?_|refine ldS_at a rfl ?_|refine ldP_at a rfl ?_|refine ldM_at a rfl ?_|refine ldL_at a rfl ?_)
  refine bif_dec (fun he => ?_) (fun he => ?_)
  · refine Left_ok h hl ?_
    unfold octet_Source_Done_j1
    refine bif_dec (fun h => ?_) (fun h => ?_)
    · rwa [if_pos ⟨he, by omega⟩] at hK
    · rwa [if_neg (by omega)] at hK
  · unfold octet_Source_Done_j1
    refine bif_f ?_
    rwa [if_neg (fun h => he h.1)] at hK
end Go.Ph
end
section
set_option linter.all false
namespace Go.Ph
open S
def total (L : List PartM) : Nat := (L.map (·.w)).sum
theorem total_snoc (L : List PartM) (p : PartM) : total (L ++ [p]) = total L + p.w := by simp [total]
def takeV (l : List UInt8) : List PartM → Nat → List Int
  | [], _ => []
  | p :: L, o => getI l o p.w :: takeV l L (o + p.w)
theorem takeV_snoc (l : List UInt8) (p : PartM) : ∀ (L : List PartM) (o : Nat), takeV l (L ++ [p]) o = takeV l L o ++ [getI l (o + total L : Nat) p.w]
  | [], o => by simp [takeV, total]
  | q :: L, o => by
    simp only [List.cons_append, takeV, takeV_snoc l p L]
    rw [show o + q.w + total L = o + total (q :: L) by simp [total]; omega]
def fillF (k : Int) (L : List PartM) (vs : List Int) : List Int := (L.zip vs).foldl (fun g x => g.set x.1.j x.2) (k :: List.replicate 10 0)
theorem foldl_set_len : ∀ (xs : List (PartM × Int)) (g : List Int), (xs.foldl (fun g x => g.set x.1.j x.2) g).length = g.length
  | [], g => rfl
  | x :: xs, g => by rw [List.foldl_cons, foldl_set_len xs, List.length_set]
theorem fillF_len (k : Int) (L : List PartM) (vs : List Int) : (fillF k L vs).length = 11 := by unfold fillF; rw [foldl_set_len]; rfl
theorem zip_take {α β : Type} {l : List α} {m : List β} {i : Nat} {x : α} {y : β} (hx : l[i]? = some x) (hy : m[i]? = some y) : (l.take (i + 1)).zip (m.take (i + 1)) = (l.take i).zip (m.take i) ++ [(x, y)] := by
  have hi : i < l.length := (List.getElem?_eq_some_iff.1 hx).1
  have hj : i < m.length := (List.getElem?_eq_some_iff.1 hy).1
  rw [List.take_succ, List.take_succ, hx, hy]
  rw [List.zip_append (by rw [List.length_take, List.length_take]; omega)]
  rfl
def okV (L : List PartM) (vs : List Int) : Bool := (L.zip vs).all fun x => decide (x.1.lo ≤ x.2) && decide (x.2 ≤ x.1.hi)
def hiV (L : List PartM) (vs : List Int) : Bool := (L.zip vs).all fun x => decide (x.2 ≤ x.1.hi)
/-- the record of a payload -/
def readR (k : Int) (l : List UInt8) : Except Int RecM :=
  if layout k = [] then .error 16 else if l.length < total (layout k) then .error 2 else if k ≠ 6 ∧ total (layout k) < l.length then .error 3
  else if k = 6 ∧ 32768 < l.length - total (layout k) then .error 4
  else if okV (layout k) (takeV l (layout k) 0) = true then .ok ⟨fillF k (layout k) (takeV l (layout k) 0), if k = 6 then l.drop (total (layout k)) else []⟩ else .error 1
theorem check_fill {k : Int} {vs : List Int} {data : List UInt8} (hne : layout k ≠ []) (hl : vs.length = (layout k).length) (hh : hiV (layout k) vs = true) (hd : data.length ≤ 32768) (hd6 : k ≠ 6 → data = []) :
    checkR ⟨fillF k (layout k) vs, data⟩ = if okV (layout k) vs = true then 0 else 1 := by
  revert hne hl hh
  refine layout_cases k (P := fun L => L ≠ [] → vs.length = L.length → hiV L vs = true → checkR ⟨fillF k L vs, data⟩ = if okV L vs = true then 0 else 1) ?_ ?_ ?_ ?_ ?_ ?_ ?_
  · rintro rfl _ hl hh
    match vs, hl with
    | [a, b, c, d], _ =>
      have hd0 := hd6 (by decide)
      subst hd0
      simp [hiV, pNext] at hh
      simp [checkR, RecM.kind, fillF, layout, bareR, bareF, bareN, inBd, okV, pNext, hh]
      try split <;> simp_all
  · rintro rfl _ hl hh
    match vs, hl with
    | [a, b, c, d, e, f], _ =>
      have hd0 := hd6 (by decide)
      subst hd0
      simp [hiV, pUid, pFlags, pBody] at hh
      simp [checkR, RecM.kind, fillF, layout, bareR, bareF, bareN, inBd, okV, pUid, pFlags, pBody, hh]
      try split <;> simp_all
  · rintro rfl _ hl hh
    match vs, hl with
    | [a], _ =>
      have hd0 := hd6 (by decide)
      subst hd0
      simp [hiV, pUid] at hh
      simp [checkR, RecM.kind, fillF, layout, bareR, bareF, bareN, inBd, okV, pUid, hh]
      try split <;> simp_all
  · rintro rfl _ hl hh
    match vs, hl with
    | [a, b], _ =>
      have hd0 := hd6 (by decide)
      subst hd0
      simp [hiV, pUid, pFlags] at hh
      simp [checkR, RecM.kind, fillF, layout, bareR, bareF, bareN, inBd, okV, pUid, pFlags, hh]
      try split <;> simp_all
  · rintro rfl _ hl hh
    match vs, hl with
    | [a], _ =>
      have hd0 := hd6 (by decide)
      subst hd0
      simp [hiV, pNext] at hh
      simp [checkR, RecM.kind, fillF, layout, bareR, bareF, bareN, inBd, okV, pNext, hh]
      try split <;> simp_all
  · rintro rfl _ hl hh
    match vs, hl with
    | [a], _ =>
      simp [hiV, pBody] at hh
      have hd' : ¬ 32768 < data.length := by omega
      simp [checkR, RecM.kind, fillF, layout, bareR, bareF, bareN, inBd, okV, pBody, hh, hd']
      try split <;> simp_all
  · intro _ _ _ _ _ _ h
    exact absurd rfl h
theorem recEnd {s : St} {q b : Nat} {vs : List Value} {r : G_api_Rec} {K : G_api_Rec → HP} (h : At (s.w q) b 0 vs) (hl : vs.length = 12) (hq : q ≠ 0)
    (hK : ∀ s', Step [q] s s' → K r s'.H) : sts (at0 b) 0 [.int .i64 r.Kind, .int .i64 r.User, .int .i64 r.Seq, .int .i64 r.Next, .int .i64 r.Base, .int .i64 r.Uid, .int .i64 r.Time, .int .i64 r.Flags, .int .i64 r.Body, .int .i64 r.Size, .int .i64 r.Origin, .slice r.Data.a r.Data.len r.Data.cap] (ld_G_api_Rec (at0 b) fun r => K r) s.H := by
  refine row_rule q h (by rw [hl]; rfl) (by simp [one]) hq (.inl rfl) fun s1 e1 z1 a1 _ => ?_
  unfold ld_G_api_Rec
  repeat (first|refine nn_at ?_|refine ldI_at a1 rfl ?_|refine ldB_at a1 rfl ?_|refine ldS_at a1 rfl ?_|refine ldP_at a1 rfl ?_|refine ldM_at a1 rfl ?_|refine ldL_at a1 rfl ?_)
  exact hK s1 e1
theorem readEnd_ {s : St} {q4 q6 p4 p6 : Nat} {x : RecM} {sl : Sl} {vs4 : List Value} {e : Int} {K : G_api_Rec → Int → HP} (h4 : At (s.w q4) p4 0 vs4) (hl4 : vs4.length = 12) (h6 : At (s.w q6) p6 0 (rowF x.f sl)) (hx : x.f.length = 11) (hd : Ls tBy (s.w 0) x.data sl) (hq : q4 ≠ 0)
    (hE : e ≠ 0 → ∀ r s', Step [q4] s s' → K r e s'.H) (hO : e = 0 → ∀ r s', Step [q4] s s' → RecAt (s'.w 0) x r → K r 0 s'.H) : record_Read_j6 p4 p6 e K s.H := by
  unfold record_Read_j6
  refine bif_ndec (fun he => ?_) (fun he => ?_)
  · exact recEnd (r := ⟨0, 0, 0, 0, 0, 0, 0, 0, 0, 0, 0, ⟨none, 0, 0⟩⟩) h4 hl4 hq fun s' e' => hE he _ s' e'
  · refine ldRec h6 hx fun r f d => ?_
    refine recEnd h4 hl4 hq fun s' e' => ?_
    exact hO he r s' e' ⟨f, by rw [d]; exact Ls.st hd e'⟩
/-- the fields are set, and what was read is looked at -/
theorem readJ3_ok {s : St} {q4 q6 p4 p6 : Nat} {k : Int} {L : List PartM} {vs : List Int} {data : List UInt8} {sl t8 t9 : Sl} {vs4 : List Value} {e : Int} {K : G_api_Rec → Int → HP} (h4 : At (s.w q4) p4 0 vs4) (hl4 : vs4.length = 12) (h6 : At (s.w q6) p6 0 (rowF (k :: List.replicate 10 0) sl))
    (hd : Ls tBy (s.w 0) data sl) (hq : q4 ≠ 0 ∧ q6 ≠ 0 ∧ q4 ≠ q6) (hL : L = layout k) (h8 : Ls (tPart p6) (s.w 0) L t8) (h9 : Ls (tI .u64) (s.w 0) vs t9) (hvl : vs.length = L.length) (hpos : ∀ v ∈ vs, 0 ≤ v)
    (hE : ∀ e' r s', (if e ≠ 0 then e else if hiV L vs = true then checkR ⟨fillF k L vs, data⟩ else 1) = e' → e' ≠ 0 → Step [q4, q6] s s' → K r e' s'.H)
    (hO : ∀ r s', e = 0 → hiV L vs = true → checkR ⟨fillF k L vs, data⟩ = 0 → Step [q4, q6] s s' → RecAt (s'.w 0) ⟨fillF k L vs, data⟩ r → K r 0 s'.H) : record_Read_j3 p4 p6 t8 t9 e K s.H := by
  unfold record_Read_j3
  have hlen8 := h8.len
  have hlen9 := h9.len
  have hLo : ∀ p ∈ L, PartOk p := by rw [hL]; exact layout_ok k
  have hLL : L.length ≤ 6 := by rw [hL]; exact layout_len k
  refine loop_rule (ι := Nat × Int) (fun x => [.int .i64 x.2, .int .i64 x.1]) (fun x s' => x.1 ≤ L.length ∧ Step [q6] s s' ∧ (∃ f, f.length = 11 ∧ At (s'.w q6) p6 0 (rowF f sl) ∧ (x.2 = 0 → e = 0 ∧ f = fillF k (L.take x.1) (vs.take x.1) ∧ hiV (L.take x.1) (vs.take x.1) = true)) ∧ (x.2 ≠ 0 → x.2 = e ∨ (e = 0 ∧ x.2 = 1 ∧ hiV L vs = false))) (fun x _ => L.length - x.1) (0, e) rfl
    ⟨Nat.zero_le _, Step.refl, ⟨_, rfl, h6, fun h => ⟨h, rfl, rfl⟩⟩, fun _ => .inl rfl⟩ ?_
  rintro ⟨i, ei⟩ s1 ⟨hi, e1, ⟨f, hf, a6, hz⟩, hnz⟩ G hG
  simp only at hi hz hnz
  simp only [List.getD_cons_zero, List.getD_cons_succ, asI_v, asL_v, asS_v, asB_v, asM_v, asP_v]
  have h41 := h4.mono (e1.view (k := q4) (by simp; exact hq.2.2))
  refine bif_dec (fun hlt => ?_) (fun hlt => ?_)
  · refine ixL_rule (Ls.st h8 e1) (by omega) (by omega) fun b3 q3 p hp hel => ?_
    rw [Int.toNat_natCast] at hp
    obtain ⟨ws, rfl, hat⟩ := hel
    unfold ld_G_record_part
    repeat (first|refine nn_at ?_|refine ldI_at hat rfl ?_|refine ldB_at hat rfl ?_|refine ldS_at hat rfl ?_|refine ldP_at hat rfl ?_|refine ldM_at hat rfl ?_|refine ldL_at hat rfl ?_)
    refine newc_sts rfl (by simp [one]) fun s2 p14 e2 a14 => ?_
    have hpm := List.mem_of_getElem? hp
    have hpo := hLo p hpm
    have hhi := hpo.hi
    have hwh : wr .u64 p.hi = p.hi := wr_u64 (by omega) (by omega)
    obtain ⟨v, hv⟩ : ∃ v, vs[i]? = some v := ⟨_, List.getElem?_eq_getElem (by omega)⟩
    have hvp := hpos v (List.mem_of_getElem? hv)
    have ldv : ∀ {s3 : St} {K' : Int → HP}, Step [] s2 s3 → K' v s3.H → ixL t9 1 (i : Int) (fun t => ldI .u64 t K') s3.H := fun {s3 K'} e3 hk => by
      refine ixL_rule ((Ls.st h9 e1).st (e2.trans e3)) (by omega) (by omega) fun bx ox x hx hel => ?_
      obtain ⟨ws, rfl, hat⟩ := hel
      rw [Int.toNat_natCast, hv] at hx
      have := Option.some.inj hx
      subst this
      exact ldI_at0 hat rfl hk
    have a62 := a6.mono (e2.view (k := q6) (by simp))
    have zt := zip_take hp hv
    have hit : hiV (L.take (i + 1)) (vs.take (i + 1)) = (hiV (L.take i) (vs.take i) && decide (v ≤ p.hi)) := by
      unfold hiV; rw [zt, List.all_append]; simp
    have set : ∀ (ej : Int), (ej = 0 → ei = 0 ∧ v ≤ p.hi) → (ej ≠ 0 → ej = e ∨ (e = 0 ∧ ej = 1 ∧ hiV L vs = false)) → record_Read_j5 p4 p6 t9 ej i p14 t8 t8.len i K G s2.H := fun ej h1 h2 => by
      unfold record_Read_j5
      refine ldP_at a14 rfl ?_
      refine ldv Step.refl ?_
      refine ldI_at a14 rfl ?_
      refine nn_at ?_
      have hm : w64 (if (wr .u64 p.hi : Int) < v then (wr .u64 p.hi) else v) = if p.hi < v then p.hi else v := by
        rw [hwh]; split <;> exact w64_id (by omega) (by omega)
      rw [hm, w64_id (by omega) (by omega)]
      refine fld_j a62 (by rw [rowF_len, hf]; have := hpo.j; omega) rfl hq.2.1 (fun s3 e3 z3 a3 _ => ?_)
      rw [rowF_set (by rw [hf]; have := hpo.j; omega)] at a3
      refine hG (i + 1, ej) s3 ⟨by simp only; omega, e1.trans (e2.n.trans e3), ⟨_, by rw [List.length_set]; exact hf, a3, fun h => ?_⟩, h2⟩ (by simp only; omega)
      obtain ⟨g1, g2⟩ := h1 h
      obtain ⟨g3, g4, g5⟩ := hz g1
      refine ⟨g3, ?_, ?_⟩
      · rw [if_neg (by omega), g4]
        unfold fillF
        simp only [zt, List.foldl_append, List.foldl_cons, List.foldl_nil]
      · simp only [hit, g5, decide_eq_true g2]; rfl
    refine bif_dec (fun he => ?_) (fun he => ?_)
    · refine ldv Step.refl ?_
      refine ldI_at a14 rfl ?_
      rw [hwh]
      by_cases hov : p.hi < v
      · rw [decide_eq_true hov]
        unfold record_Read_j4
        refine bif_t (set 1 (fun h => absurd h (by decide)) fun _ => .inr ⟨(hz he).1, rfl, ?_⟩)
        rw [Bool.eq_false_iff]
        intro hh
        unfold hiV at hh
        rw [List.all_eq_true] at hh
        have := hh (p, v) (List.mem_of_getElem? (i := i) (by rw [List.getElem?_zip_eq_some]; exact ⟨hp, hv⟩))
        simp at this
        omega
      · rw [decide_eq_false hov]
        unfold record_Read_j4
        exact bif_f (set ei (fun h => ⟨h, by omega⟩) hnz)
    · unfold record_Read_j4
      exact bif_f (set ei (fun h => ⟨h, absurd h he⟩) hnz)
  · have : i = L.length := by omega
    subst this
    rw [List.take_of_length_le (Nat.le_refl _), List.take_of_length_le (by omega)] at hz
    refine bif_dec (fun he => ?_) (fun he => ?_)
    · obtain ⟨g3, g4, g5⟩ := hz he
      rw [g4] at a6
      refine ldRec a6 (fillF_len _ _ _) fun r f1 d1 => ?_
      refine Check_ok (x := ⟨fillF k L vs, data⟩) ⟨f1, by rw [d1]; exact Ls.st hd e1⟩ fun s2 e2 => ?_
      refine readEnd_ (x := ⟨fillF k L vs, data⟩) (h41.mono (e2.view (by simp))) hl4 (a6.mono (e2.view (by simp))) (fillF_len _ _ _) (Ls.st hd (e1.trans e2.n)) hq.1 ?_ ?_
      · intro hne r' s3 e3
        have e13 : Step [q4, q6] s s3 := Step.tr (Step.trans e1 e2.n) e3
        exact hE _ r' s3 (by rw [if_neg (by simpa using g3), if_pos g5]) hne e13
      · intro h0 r' s3 e3 hr
        have e13 : Step [q4, q6] s s3 := Step.tr (Step.trans e1 e2.n) e3
        exact hO r' s3 g3 g5 h0 e13 hr
    · refine readEnd_ (x := ⟨f, data⟩) h41 hl4 a6 hf (Ls.st hd e1) hq.1 ?_ ?_
      · intro hne r' s3 e3
        have e13 : Step [q4, q6] s s3 := Step.tr e1 e3
        rcases hnz he with h | ⟨h1, h2, h3⟩
        · exact hE _ r' s3 (by rw [if_pos (by rw [← h]; exact he)]; exact h.symm) hne e13
        · exact hE _ r' s3 (by rw [if_neg (by simpa using h1), if_neg (by rw [h3]; simp)]; exact h2.symm) hne e13
      · intro h; exact absurd h he
end Go.Ph
end
section
set_option linter.all false
namespace Go.Ph
open S
theorem Read_ok {s : St} {k : Int} {l : List UInt8} {sl : Sl} {K : G_api_Rec → Int → HP} (h : Ls tBy (s.w 0) l sl) (hl : l.length ≤ 1000000000)
    (hE : ∀ e r s', readR k l = .error e → e ≠ 0 → Step [] s s' → K r e s'.H)
    (hO : ∀ x r s', readR k l = .ok x → Step [] s s' → RecAt (s'.w 0) x r → K r 0 s'.H) : record_Read k sl K s.H := by
  unfold record_Read
  have hown : own s = 1152921504606846976 + 1152921504606846976 * s.H.size := rfl
  refine newc_k (own s) (by unfold own; omega) fun s1 p4 n1 a4 => ?_
  have e1 := n1.step
  have hz1 := e1.sz
  refine newc_k (own s + 1) (by unfold own; omega) fun s2 p6 n2 a2 => ?_
  have e2 := n2.step
  have hz2 := e2.sz
  refine row_rule (own s + 1) a2 rfl (by simp [one]) (by omega) (.inl rfl) fun s3 e3 z3 a63 _ => ?_
  have a63' : At (s3.w (own s + 1)) p6 0 (rowF (k :: List.replicate 10 0) ⟨none, 0, 0⟩) := a63
  have a43 := (a4.mono (e2.view (by simp))).mono (e3.view (by simp))
  have es3 : Step [own s, own s + 1, own s + 2, own s + 3] s s3 := (e1.trans e2).n.tr e3 (A := [])
  have hz3 := es3.sz
  unfold octet_NewSource
  refine bClone_ok (Ls.st h es3) (by omega) fun s4 o4 e4 l4 => ?_
  have hz4 := e4.sz
  refine newc_k (own s + 2) (by omega) fun s5 pS n5 aS => ?_
  have e5 := n5.step
  have e45 := e4.trans e5
  have hz5 := e5.sz
  have src : Src (own s + 2) s5 pS o4 l 0 0 := ⟨aS, Ls.st l4 e5, Nat.zero_le _⟩
  have a45 := a43.mono (e45.view (by simp))
  have a65 := a63'.mono (e45.view (by simp))
  refine parts_ok a65 rfl fun s6 o8 e6 l8 hno => ?_
  have a46 := a45.mono (e6.view (by simp))
  have a66 := a65.mono (e6.view (by simp))
  have src6 := src.st e6 (by simp)
  have es6 : Step [own s, own s + 1, own s + 2, own s + 3] s s6 := es3.trans (e45.trans e6).n
  have hz6 := es6.sz
  change Ls (tPart p6) (s6.w 0) (layout k) o8 at l8
  change _ ↔ layout k = [] at hno
  have hLo := layout_ok k
  have hLL := layout_len k
  have hrd : readR k l = readR k l := rfl
  conv at hrd => rhs; unfold readR
  refine bif_rule (fun h1 => ?_) (fun h1 => ?_)
  · rw [if_pos (hno.1 h1)] at hrd
    refine recEnd (r := ⟨0, 0, 0, 0, 0, 0, 0, 0, 0, 0, 0, ⟨none, 0, 0⟩⟩) a46 rfl (by omega) fun s7 e7 => ?_
    have q : Step [own s, own s + 1, own s + 2, own s + 3] s s7 := es6.tr e7
    exact hE 16 _ s7 hrd (by decide) (loc4 q)
  have hne : layout k ≠ [] := fun h => by rw [hno.2 h] at h1; cases h1
  rw [if_neg hne] at hrd
  have hlen8 := l8.len
  refine loop_rule (ι := Nat × Sl × List Int × Nat × Int) (fun x => [.slice x.2.1.a x.2.1.len x.2.1.cap, .int .i64 x.1])
    (fun x s' => x.1 ≤ (layout k).length ∧ Step [own s + 2, own s + 3] s6 s' ∧ Bld (tI .u64) (own s + 3) s' x.2.2.1 x.2.1 ∧ x.2.2.1.length = x.1 ∧ (∀ v ∈ x.2.2.1, 0 ≤ v) ∧ Src (own s + 2) s' pS o4 l x.2.2.2.1 x.2.2.2.2 ∧
      ((total ((layout k).take x.1) ≤ l.length ∧ x.2.2.2.1 = total ((layout k).take x.1) ∧ x.2.2.2.2 = 0 ∧ x.2.2.1 = takeV l ((layout k).take x.1) 0) ∨ (l.length < total ((layout k).take x.1) ∧ x.2.2.2.2 = 2)))
    (fun x _ => (layout k).length - x.1) (0, ⟨none, 0, 0⟩, [], 0, 0) rfl ⟨Nat.zero_le _, Step.refl, Bld.nil, rfl, by simp, src6, .inl ⟨by simp [total], by simp [total], rfl, rfl⟩⟩ ?_
  rintro ⟨i, o9, vs, at_, e⟩ s7 ⟨hi, e7, b9, hvl, hvp, sr, hcs⟩ G hG
  simp only at hi b9 hvl hvp sr hcs
  have hz7 := e7.sz
  have es7 : Step [own s, own s + 1, own s + 2, own s + 3] s s7 := es6.tr e7
  have a47 := a46.mono (e7.view (by simp <;> omega))
  have a67 := a66.mono (e7.view (by simp <;> omega))
  simp only [List.getD_cons_zero, List.getD_cons_succ, asI_v, asL_v, asS_v, asB_v, asM_v, asP_v]
  refine bif_dec (fun hlt => ?_) (fun hlt => ?_)
  · refine ixL_rule (Ls.st l8 e7) (by omega) (by omega) fun b3 q3 p hp hel => ?_
    rw [Int.toNat_natCast] at hp
    obtain ⟨ws, rfl, hat⟩ := hel
    unfold ld_G_record_part
    repeat (first|refine nn_at ?_|refine ldI_at hat rfl ?_|refine ldB_at hat rfl ?_|refine ldS_at hat rfl ?_|refine ldP_at hat rfl ?_|refine ldM_at hat rfl ?_|refine ldL_at hat rfl ?_)
    refine newc_sts rfl (by simp [one]) fun s8 p11 e8 a11 => ?_
    refine ldI_at a11 rfl ?_
    have hpo := hLo p (List.mem_of_getElem? hp)
    have hpw := hpo.w
    refine U_ok (sr.st e8 (by simp)) (by omega) (by omega) (by omega) fun s9 e9 sr9 => ?_
    have hz9 := (e8.n.trans e9 : Step [own s + 2] s7 s9).sz
    have hv0 : 0 ≤ (srcU l at_ e p.w).2.2 := by
      unfold srcU; split
      · exact Int.le_refl _
      · split
        · exact Int.le_refl _
        · exact (getI_bd _ _ _).1
    refine app1_rule (srcU l at_ e p.w).2.2 ((b9.st e8 (by simp)).st e9 (by simp)) rfl (fun s10 o10 e10 b10 => ?_) rfl rfl (by omega) (by omega) (by omega) (by omega)
    rw [w64_id (by omega) (by omega)]
    have ht : (layout k).take (i + 1) = (layout k).take i ++ [p] := by rw [List.take_succ, hp]; rfl
    have e78 : Step [own s + 2, own s + 3] s6 s8 := e7.trans e8.n
    have e79 : Step [own s + 2, own s + 3] s6 s9 := e78.tr e9
    have e710 : Step [own s + 2, own s + 3] s6 s10 := e79.tr e10
    refine hG (i + 1, o10, vs ++ [(srcU l at_ e p.w).2.2], (srcU l at_ e p.w).1, (srcU l at_ e p.w).2.1) s10 ⟨by simp only; omega, e710, b10, by simp [hvl], ?_, sr9.st e10 (by simp), ?_⟩ (by simp only; omega)
    · intro v hv
      simp only [List.mem_append, List.mem_singleton] at hv
      rcases hv with hv | rfl
      · exact hvp v hv
      · exact hv0
    · simp only [ht, total_snoc, takeV_snoc]
      unfold srcU
      rcases hcs with ⟨c1, c2, c3, c4⟩ | ⟨c1, c2⟩
      · rw [if_neg (by simpa using c3)]
        by_cases hs : l.length < at_ + p.w
        · rw [if_pos hs]
          exact .inr ⟨by omega, rfl⟩
        · rw [if_neg hs]
          refine .inl ⟨by omega, by simp only; omega, rfl, ?_⟩
          rw [c4, c2]; simp
      · rw [if_pos (by rw [c2]; decide)]
        exact .inr ⟨by omega, c2⟩
  · have : i = (layout k).length := by omega
    subst this
    rw [List.take_of_length_le (Nat.le_refl _)] at hcs
    have j1 : ∀ (s8 : St) (sd : Sl) (at2 : Nat) (data : List UInt8), Step [own s + 1, own s + 2] s7 s8 → At (s8.w (own s + 1)) p6 0 (rowF (k :: List.replicate 10 0) sd) → Ls tBy (s8.w 0) data sd → Src (own s + 2) s8 pS o4 l at2 e → (k ≠ 6 → data = [] ∧ at2 = at_) → (k = 6 → e = 0 → at2 = l.length ∧ data = l.drop at_) → (e ≠ 0 → data = []) → record_Read_j1 p4 p6 (some ⟨pS, 0, none⟩) o8 o9 K s8.H := fun s8 sd at2 data e8 a68 hds sr8 hn6 h6 hde => by
      have es8 : Step [own s, own s + 1, own s + 2, own s + 3] s s8 := es7.tr e8
      have a48 := a47.mono (e8.view (by simp <;> omega))
      have b98 := b9.st e8 (by simp <;> omega)
      have l88 := (Ls.st l8 e7).st e8
      have hdl := hds.len
      unfold record_Read_j1
      refine Done_ok sr8 (by omega) ?_
      have j3 : ∀ e' : Int, (e' ≠ 0 → readR k l = .error e') → (e' = 0 → e = 0 ∧ data.length ≤ 32768 ∧ (k ≠ 6 → data = []) ∧ readR k l = (if okV (layout k) vs = true then .ok ⟨fillF k (layout k) vs, data⟩ else .error 1)) → record_Read_j3 p4 p6 o8 o9 e' K s8.H := fun e' h1 h0 => by
        refine readJ3_ok (q4 := own s) (q6 := own s + 1) (L := layout k) (vs := vs) (data := data) a48 rfl a68 hds ⟨by omega, by omega, by omega⟩ rfl l88 b98.ls hvl hvp ?_ ?_
        · intro e2 r s9 he2 hne2 e9
          have q : Step [own s, own s + 1, own s + 2, own s + 3] s s9 := es8.tr e9
          refine hE e2 r s9 ?_ hne2 (loc4 q)
          by_cases hz : e' = 0
          · obtain ⟨g1, g2, g3, g4⟩ := h0 hz
            rw [if_neg (by simpa using hz)] at he2
            by_cases hh : hiV (layout k) vs = true
            · rw [if_pos hh, check_fill hne hvl hh g2 g3] at he2
              by_cases hk : okV (layout k) vs = true
              · rw [if_pos hk] at he2; exact absurd he2.symm hne2
              · rw [if_neg hk] at he2
                rw [g4, if_neg hk, he2]
            · rw [if_neg hh] at he2
              have hk : ¬ okV (layout k) vs = true := fun hk => hh (by
                unfold okV at hk
                unfold hiV
                rw [List.all_eq_true] at hk ⊢
                intro x hx
                have := hk x hx
                simp at this ⊢
                exact this.2)
              rw [g4, if_neg hk, he2]
          · rw [if_pos hz] at he2
            rw [h1 hz, he2]
        · intro r s9 hz hh hc e9 hr
          have q : Step [own s, own s + 1, own s + 2, own s + 3] s s9 := es8.tr e9
          obtain ⟨g1, g2, g3, g4⟩ := h0 hz
          rw [check_fill hne hvl hh g2 g3] at hc
          by_cases hk : okV (layout k) vs = true
          · rw [if_pos hk] at g4
            exact hO _ r s9 g4 (loc4 q) hr
          · rw [if_neg hk] at hc; cases hc
      have j2 : ∀ e' : Int, (e' ≠ 0 → readR k l = .error e') → (e' = 0 → e = 0 ∧ data.length ≤ 32768 ∧ (k ≠ 6 → data = []) ∧ readR k l = (if okV (layout k) vs = true then .ok ⟨fillF k (layout k) vs, data⟩ else .error 1)) → record_Read_j2 p4 p6 o8 o9 e' false K s8.H := fun e' h1 h0 => by
        unfold record_Read_j2
        exact bif_f (j3 e' h1 h0)
      rcases hcs with ⟨c1, c2, c3, c4⟩ | ⟨c1, c2⟩
      · subst c3
        rw [if_neg (by omega)] at hrd
        by_cases hd : at2 < l.length
        · rw [if_pos ⟨rfl, hd⟩]
          have hk6 : k ≠ 6 := fun h => by have := (h6 h rfl).1; omega
          rw [if_pos ⟨hk6, by have := (hn6 hk6).2; omega⟩] at hrd
          refine bif_dec (fun h => absurd h (by decide)) (fun _ => ?_)
          exact j2 3 (fun _ => hrd) (fun h => absurd h (by decide))
        · rw [if_neg (fun h => hd h.2)]
          have hn3 : ¬(k ≠ 6 ∧ total (layout k) < l.length) := fun h => by have := (hn6 h.1).2; omega
          rw [if_neg hn3] at hrd
          refine bif_dec (fun _ => ?_) (fun h => absurd rfl h)
          refine ldL_at a68 (rowF_data rfl) ?_
          have hdd : k = 6 → data.length = l.length - total (layout k) := fun h => by rw [(h6 h rfl).2, List.length_drop, c2]
          by_cases hlg : (32768 : Int) < (sd.len : Nat)
          · rw [decide_eq_true hlg]
            have hk6 : k = 6 := by
              rcases Int.decEq k 6 with hk | hk
              · have := (hn6 hk).1; rw [this] at hdl; simp at hdl; omega
              · exact hk
            rw [if_pos ⟨hk6, by have := hdd hk6; omega⟩] at hrd
            unfold record_Read_j2
            exact bif_t (j3 4 (fun _ => hrd) (fun h => absurd h (by decide)))
          · rw [decide_eq_false hlg]
            rw [if_neg (fun h => by have := hdd h.1; omega)] at hrd
            refine j2 0 (fun h => absurd rfl h) (fun _ => ⟨rfl, by omega, fun h => (hn6 h).1, ?_⟩)
            rw [hrd, c4]
            have : data = if k = 6 then l.drop (total (layout k)) else [] := by
              split
              · rename_i h; rw [(h6 h rfl).2, c2]
              · rename_i h; exact (hn6 h).1
            rw [this]
      · subst c2
        rw [if_pos c1] at hrd
        rw [if_neg (fun h => absurd h.1 (by decide))]
        refine bif_dec (fun h => absurd h (by decide)) (fun _ => ?_)
        exact j2 2 (fun _ => hrd) (fun h => absurd h (by decide))
    refine bif_dec (fun hk6 => ?_) (fun hk6 => ?_)
    · refine Left_ok sr (by omega) ?_
      refine Raw_ok sr (by omega) (by omega) ?_ ?_
      · intro he
        refine fld_rule a67 (by simp [rowF]) rfl (by omega) (fun s8 e8 z8 a8 _ => ?_)
        exact j1 s8 ⟨none, 0, 0⟩ at_ [] (Step.tr (A := [own s + 1]) (B := []) e8 Step.refl) (by simpa [rowF] using a8) Ls.nil_ (sr.st e8 (by simp)) (fun h => absurd hk6 h) (fun _ h => absurd h he) (fun _ => rfl)
      · intro he s8 o e8 sr8 l8' 
        refine fld_rule (a67.mono (e8.view (by simp))) (by simp [rowF]) rfl (by omega) (fun s9 e9 z9 a9 _ => ?_)
        have q : Step [own s + 1, own s + 2] s7 s9 := Step.tr e8 e9
        refine j1 s9 o l.length (l.drop at_) q (by simpa [rowF] using a9) (Ls.st l8' e9) ?_ (fun h => absurd hk6 h) (fun _ _ => ⟨rfl, rfl⟩) (fun h => absurd he h)
        rw [he]
        exact sr8.st e9 (by simp)
    · exact j1 s7 ⟨none, 0, 0⟩ at_ [] Step.refl a67 Ls.nil_ sr (fun _ => ⟨rfl, rfl⟩) (fun h => absurd h hk6) (fun _ => rfl)
end Go.Ph
end
section
set_option linter.all false
namespace Go.Ph
open S
/-- a number that is too great for an int is the greatest -/
def cl (v : Int) : Int := if 9223372036854775807 < v then 9223372036854775807 else v
theorem layout_nil {k : Int} : layout k = [] ↔ ¬(1 ≤ k ∧ k ≤ 6) := by
  refine layout_cases k (P := fun L => L = [] ↔ ¬(1 ≤ k ∧ k ≤ 6)) ?_ ?_ ?_ ?_ ?_ ?_ ?_ <;> intros <;> simp <;> omega
end Go.Ph
end
section
set_option linter.all false
namespace Go.Ph
open S
/-- a record that was found -/
structure FoundM where
  at_ : Nat
  len : Nat
  x : RecM
def tFound : Ty FoundM := ⟨14, fun V x vs => ∃ sl : Sl, vs = .int .i64 x.at_ :: .int .i64 x.len :: rowF x.x.f sl ∧ x.x.f.length = 11 ∧ Ls tBy V x.x.data sl, by rintro _ _ _ ⟨_, rfl, h, _⟩; simp [rowF, h], by rintro _ _ _ _ h ⟨sl, rfl, h0, h1⟩; exact ⟨sl, rfl, h0, h1.mono h h⟩, by
  rintro _ _ _ ⟨sl, rfl, _, _⟩ v hv
  simp only [List.mem_cons] at hv
  rcases hv with rfl | rfl | hv
  · rfl
  · rfl
  · exact rowF_one _ _ v hv⟩
def found (f : FrM) : Option FoundM := match readR f.kind f.pay with | .ok x => some ⟨f.at_, f.len, x⟩ | .error _ => none
/-- the records that are found, and how many bytes stand in none -/
def founds (b : List UInt8) : List FoundM := (frames b).filterMap found
def sumLen (l : List FoundM) : Nat := (l.map (·.len)).sum
def broken (b : List UInt8) : Int := b.length - sumLen (founds b)
theorem sumLen_snoc (l : List FoundM) (x : FoundM) : sumLen (l ++ [x]) = sumLen l + x.len := by simp [sumLen]
structure FrsOk (b : List UInt8) (i : Nat) (l : List FrM) : Prop where
  len : l.length ≤ b.length - i
  sum : (l.map (·.len)).sum ≤ b.length - i
  all : ∀ f ∈ l, FraOk b f.at_ f
theorem scanN_ok (b : List UInt8) : ∀ (n i : Nat), i ≤ b.length → FrsOk b i (scanN b n i)
  | 0, i, h => ⟨by simp [scanN], by simp [scanN], by simp [scanN]⟩
  | n + 1, i, h => by
    rw [scanN]
    split
    · rename_i hi
      cases hf : frameAt b i with
      | error e =>
        have ih := scanN_ok b n (i + 1) (by omega)
        show FrsOk b i (scanN b n (i + 1))
        exact ⟨by have := ih.len; omega, by have := ih.sum; omega, ih.all⟩
      | ok f =>
        have fo := frameAt_ok hf
        have h1 := fo.pos
        have h2 := fo.in_
        have ih := scanN_ok b n (i + f.len) h2
        have h3 := ih.len
        have h4 := ih.sum
        refine ⟨by simp only [List.length_cons]; omega, by simp only [List.map_cons, List.sum_cons]; omega, ?_⟩
        intro g hg
        simp only [List.mem_cons] at hg
        rcases hg with rfl | hg
        · have := fo.at_; rw [this]; exact fo
        · exact ih.all g hg
    · exact ⟨by simp, by simp, by simp⟩
theorem frames_ok (b : List UInt8) : FrsOk b 0 (frames b) := scanN_ok b b.length 0 (Nat.zero_le _)
theorem filterMap_take {α β : Type} {g : α → Option β} {l : List α} {i : Nat} {x : α} (h : l[i]? = some x) : (l.take (i + 1)).filterMap g = (l.take i).filterMap g ++ (match g x with | some y => [y] | none => []) := by
  rw [List.take_succ, h, List.filterMap_append]
  cases hg : g x <;> simp [hg]
theorem sumF_le (l : List FrM) : sumLen (l.filterMap found) ≤ (l.map (·.len)).sum := by
  induction l with
  | nil => simp [sumLen]
  | cons f l ih =>
    rw [List.filterMap_cons]
    split
    · simp only [List.map_cons, List.sum_cons]; omega
    · rename_i y hy
      have : y.len = f.len := by
        unfold found at hy
        split at hy
        · cases hy; rfl
        · cases hy
      simp only [sumLen, List.map_cons, List.sum_cons] at ih ⊢
      omega
theorem sum_take_le (l : List FrM) (i : Nat) : ((l.take i).map (·.len)).sum ≤ (l.map (·.len)).sum := by
  conv => rhs; rw [← List.take_append_drop i l]
  rw [List.map_append, List.sum_append]; omega
theorem found_row {V : View} {x : RecM} {r : G_api_Rec} {a n : Nat} (h : RecAt V x r) : tFound.R V ⟨a, n, x⟩ [.int .i64 a, .int .i64 n, .int .i64 r.Kind, .int .i64 r.User, .int .i64 r.Seq, .int .i64 r.Next, .int .i64 r.Base, .int .i64 r.Uid, .int .i64 r.Time, .int .i64 r.Flags, .int .i64 r.Body, .int .i64 r.Size, .int .i64 r.Origin, .slice r.Data.a r.Data.len r.Data.cap] :=
  ⟨r.Data, by show _ = _ :: _ :: rowF x.f r.Data; rw [← h.f]; rfl, h.len, h.data⟩
theorem recScan_ok {C : Cx} {s : St} {q : Nat} {b : List UInt8} {sl : Sl} {K : Sl → Int → HP} (hb : Ls tBy (s.w 0) b sl) (hbl : b.length ≤ 1000000000) (hq0 : q ≠ 0) (hq : q < 2305843009213693952 + 1152921504606846976 * s.H.size)
    (hK : ∀ s' o, Step [q] s s' → Bld tFound q s' (founds b) o → K o (broken b) s'.H) : record_Scan C sl K s.H := by
  unfold record_Scan
  have hlen := hb.len
  have hown : own s = 1152921504606846976 + 1152921504606846976 * s.H.size := rfl
  refine Scan_ok hb hbl fun s1 o1 g1 e1 l1 => ?_
  have hz1 := e1.sz
  have hfo := frames_ok b
  have hfl := hfo.len
  have hfs := hfo.sum
  have hfa := hfo.all
  unfold broken founds at hK
  generalize frames b = F at *
  have hlF := l1.len
  refine loop_rule (ι := Nat × Sl) (fun x => [.slice x.2.a x.2.len x.2.cap, .int .i64 ((b.length : Int) - sumLen ((F.take x.1).filterMap found)), .int .i64 x.1]) (fun x s' => x.1 ≤ F.length ∧ Step [q] s s' ∧ Step [q] s1 s' ∧ Bld tFound q s' ((F.take x.1).filterMap found) x.2) (fun x _ => F.length - x.1) (0, ⟨none, 0, 0⟩) (by simp [sumLen, hlen]) ⟨Nat.zero_le _, e1.n, Step.refl, Bld.nil⟩ ?_
  rintro ⟨i, o⟩ s2 ⟨hi, e2, e12, b2⟩ G hG
  simp only at hi b2
  have hz2 := e2.sz
  simp only [List.getD_cons_zero, List.getD_cons_succ, asI_v, asL_v, asS_v, asB_v, asM_v, asP_v]
  refine bif_dec (fun hlt => ?_) (fun hlt => ?_)
  · refine ixL_rule (Ls.st l1 e12) (by omega) (by omega) fun bx ox f hf hel => ?_
    obtain ⟨ws, ⟨pl, rfl, hpl⟩, hat⟩ := hel
    rw [Int.toNat_natCast] at hf
    have hfm := List.mem_of_getElem? hf
    have fo := hfa f hfm
    have fo1 := fo.pay
    unfold ld_G_api_Frame
    repeat (first|refine nn_at ?_|refine ldI_at hat rfl ?_|refine ldB_at hat rfl ?_|refine ldS_at hat rfl ?_|refine ldP_at hat rfl ?_|refine ldM_at hat rfl ?_|refine ldL_at hat rfl ?_)
    refine newc_sts rfl (by simp [one]) fun s3 p7 e3 a7 => ?_
    repeat (first|refine nn_at ?_|refine ldI_at a7 rfl ?_|refine ldB_at a7 rfl ?_|refine ldS_at a7 rfl ?_|refine ldP_at a7 rfl ?_|refine ldM_at a7 rfl ?_|refine ldL_at a7 rfl ?_)
    have ft := filterMap_take (g := found) hf
    have hsum := sumF_le (F.take (i + 1))
    have hsum0 := sumF_le (F.take i)
    have hst := sum_take_le F (i + 1)
    have hst0 := sum_take_le F i
    have hcl : ((F.take i).filterMap found).length ≤ i := by
      have := List.length_filterMap_le found (F.take i)
      rw [List.length_take] at this; omega
    have hG' := hG
    refine Read_ok (Ls.st hpl e3) (by omega) ?_ ?_
    · intro e r s4 he hne e4
      refine newc_sts rfl (by simp [one]) fun s5 p8 e5 a8 => ?_
      refine bif_ndec (fun _ => ?_) (fun h => absurd h hne)
      unfold record_Scan_j1
      rw [w64_id (by omega) (by omega)]
      have hff : found f = none := by unfold found; rw [he]
      rw [hff, List.append_nil] at ft
      have e25 : Step [] s2 s5 := (e3.trans e4).trans e5
      have := hG' (i + 1, o) s5
      simp only [ft] at this
      exact this ⟨by omega, e2.trans e25.n, e12.trans e25.n, b2.st e25 (by simp)⟩ (by omega)
    · intro x r s4 he e4 hr
      refine newc_sts rfl (by simp [one]) fun s5 p8 e5 a8 => ?_
      refine bif_ndec (fun h => absurd rfl h) (fun _ => ?_)
      have hff : found f = some ⟨f.at_, f.len, x⟩ := by unfold found; rw [he]
      rw [hff] at ft
      have a75 := (a7.mono e4.v0).mono e5.v0
      repeat (first|refine nn_at ?_|refine ldI_at a75 rfl ?_|refine ldB_at a75 rfl ?_|refine ldS_at a75 rfl ?_|refine ldP_at a75 rfl ?_|refine ldM_at a75 rfl ?_|refine ldL_at a75 rfl ?_)
      unfold ld_G_api_Rec
      repeat (first|refine nn_at ?_|refine ldI_at a8 rfl ?_|refine ldB_at a8 rfl ?_|refine ldS_at a8 rfl ?_|refine ldP_at a8 rfl ?_|refine ldM_at a8 rfl ?_|refine ldL_at a8 rfl ?_)
      have e25 : Step [] s2 s5 := (e3.trans e4).trans e5
      have hz5 := e25.sz
      refine app1_rule (⟨f.at_, f.len, x⟩ : FoundM) (b2.st e25 (by simp)) (found_row (hr.st e5)) (fun s6 o6 e6 b6 => ?_) rfl rfl (by omega) (by omega) (by omega) (by omega)
      have a76 := a75.mono e6.v0
      repeat (first|refine nn_at ?_|refine ldI_at a76 rfl ?_|refine ldB_at a76 rfl ?_|refine ldS_at a76 rfl ?_|refine ldP_at a76 rfl ?_|refine ldM_at a76 rfl ?_|refine ldL_at a76 rfl ?_)
      unfold record_Scan_j1
      have hs : sumLen ((F.take i).filterMap found ++ [⟨f.at_, f.len, x⟩]) = sumLen ((F.take i).filterMap found) + f.len := sumLen_snoc _ _
      have hle : sumLen ((F.take (i + 1)).filterMap found) = sumLen ((F.take i).filterMap found) + f.len := by rw [ft]; exact hs
      have := hG' (i + 1, o6) s6
      simp only [ft, hs] at this
      rw [w64_id (n := _ - ((f.len : Nat) : Int)) (by omega) (by omega), w64_id (by omega) (by omega)]
      rw [show (b.length : Int) - (sumLen ((F.take i).filterMap found) : Int) - (f.len : Int) = (b.length : Int) - ((sumLen ((F.take i).filterMap found) + f.len : Nat) : Int) by omega]
      exact this ⟨by omega, e2.trans (e25.n.trans e6), e12.trans (e25.n.trans e6), b6⟩ (by omega)
  · have : i = F.length := by omega
    subst this
    rw [List.take_of_length_le (Nat.le_refl _)] at b2 ⊢
    exact hK s2 o e2 b2
end Go.Ph
end
section
set_option linter.all false
namespace Go.Ph
open S
/-- a list that is built and changed: its cells, and the spare ones, have colour q -/
structure BldW {α : Type} (t : Ty α) (q : Nat) (s : St) (l : List α) (sl : Sl) : Prop where
  ls : LsW t (s.w 0) (s.w q) l sl
  own : ∀ a, sl.a = some a → ∀ i, l.length * t.n ≤ i → i < sl.cap * t.n → ∃ v, s.w q a.block (a.off + i) = some (.v v)
theorem BldW.nil {α : Type} {t : Ty α} {q : Nat} {s : St} : BldW t q s [] ⟨none, 0, 0⟩ := ⟨Ls.nil_, fun a ha => by cases ha⟩
theorem BldW.st {α : Type} {t : Ty α} {q : Nat} {s s' : St} {l : List α} {sl : Sl} {S : List Nat} (h : BldW t q s l sl) (hs : Step S s s') (hq : q ∉ S) : BldW t q s' l sl :=
  ⟨h.ls.st hs hq, fun a ha i h1 h2 => (h.own a ha i h1 h2).imp fun v hv => hs.view hq _ _ _ hv⟩
theorem appW2_rule {α : Type} {t : Ty α} {q kx : Nat} {s1 : St} {l : List α} {x : α} {sl : Sl} {b1 : Nat} {size bytes : Nat} {zero : Array Value} {K : Sl → HP}
    (hB1 : BldW t q s1 l sl) (hx1 : LsW t (s1.w 0) (s1.w kx) [x] ⟨some (at0 b1), 1, 1⟩)
    (hK1 : ∀ s' sl', Step [q] s1 s' → BldW t q s' (l ++ [x]) sl' → K sl' s'.H) (hn : size = t.n := by rfl) (hz : zero.size = t.n := by rfl)
    (hb : (l.length + 1) * bytes ≤ 140737488355328 := by first | omega | (simp; omega))
    (hl : l.length < 4611686018427387903 := by first | omega | (simp; omega)) (hq1 : q < 2305843009213693952 + 1152921504606846976 * s1.H.size := by first | omega | (unfold own; omega)) (hq0 : q ≠ 0 := by first | assumption | omega | (unfold own; omega)) :
    app size bytes zero sl ⟨some (at0 b1), 1, 1⟩ K s1.H := by
  subst hn
  obtain ⟨new, n1, n2, n3, n4⟩ := hx1.row
  have hsl := hB1.ls.len
  simp only [List.length_singleton, Nat.one_mul] at n1
  refine ⟨new, n2, fun hc => ?_, fun hc => ?_⟩
  · simp only at hc
    cases e : sl.a with
    | none => have := hB1.ls.nil e; omega
    | some a =>
      obtain ⟨g1, g2⟩ := hB1.ls.at_ a e
      have hown := hB1.own a e
      obtain ⟨b, o, sp⟩ := a
      have g1 := g1 (by omega)
      simp at g1; subst g1
      simp only [add_at]
      simp only at hown g2
      rw [hsl]
      have hcap : (l.length + 1) * t.n ≤ sl.cap * t.n := Nat.mul_le_mul_right _ (by omega)
      rw [Nat.add_mul, Nat.one_mul] at hcap
      have hcells : ∀ j, j < new.length → ∃ v0, s1.w q b (o + l.length * t.n + j) = some (.v v0) := fun j hj => by
        have := hown (l.length * t.n + j) (by omega) (by omega)
        rwa [show o + l.length * t.n + j = o + (l.length * t.n + j) by omega]
      by_cases hz0 : new = []
      · subst hz0
        have hn0 : t.n = 0 := n1.symm
        simp only [sts]
        refine hK1 s1 _ Step.refl ⟨⟨by simp, by simp; omega, fun h => (by cases h), fun a ha => ?_⟩, fun a ha i hi1 hi2 => ?_⟩
        · simp at ha; subst ha
          refine ⟨fun _ => rfl, fun j y hj => ?_⟩
          by_cases ej : j < l.length
          · rw [List.getElem?_append_left ej] at hj
            exact g2 j y hj
          · rw [List.getElem?_append_right (by omega)] at hj
            have hj0 : j - l.length = 0 := by
              have := (List.getElem?_eq_some_iff.1 hj).1
              simp at this; omega
            rw [hj0] at hj
            simp at hj; subst hj
            obtain ⟨ws, w1, w2⟩ := n4 (s1.w q) b (o + l.length * t.n) (fun i v hi => by simp at hi) 0 x rfl
            have := t.len w1
            have hws : ws = [] := List.eq_nil_of_length_eq_zero (by omega)
            subst hws
            exact ⟨[], w1, At.nil⟩
        · simp at ha; subst ha
          simp [hn0] at hi2
      have hlt0 : 0 < new.length := by cases new with | nil => exact absurd rfl hz0 | cons a l => simp
      have hqlt : q < 1152921504606846976 + 1152921504606846976 * s1.H.size := by
        obtain ⟨v0, hv0⟩ := hcells 0 hlt0
        rw [← (w_some hv0).2]; exact s1.wf _ _ (w_lt hv0)
      refine sts_rule (k := q) (k' := q) new (fun j hj => by rw [Nat.add_zero]; exact hcells j hj) n3 hqlt hq0 fun s' h' => ?_
      · have hst : Step [q] s1 s' := h'.step (q := q) (by simp) hq0 fun i hi => by
          obtain ⟨v, hv⟩ := hcells i hi
          rw [Nat.add_zero]
          exact (w_some hv).2
        have hkeep : ∀ i v, s1.w q b (o + i) = some (.v v) → ¬(l.length * t.n ≤ i ∧ i < l.length * t.n + t.n) → s'.w q b (o + i) = some (.v v) := fun i v hv hni => by
          have := h'.old b (o + i) (fun ⟨_, h1, h2⟩ => hni ⟨by omega, by omega⟩)
          exact w_mk (this.2.trans (w_some hv).1) (this.1.trans (w_some hv).2)
        refine hK1 s' _ hst ⟨⟨by simp, by simp; omega, fun h => (by cases h), fun a ha => ?_⟩, fun a ha i hi1 hi2 => ?_⟩
        · simp at ha; subst ha
          refine ⟨fun _ => rfl, fun j y hj => ?_⟩
          simp only
          by_cases ej : j < l.length
          · rw [List.getElem?_append_left ej] at hj
            obtain ⟨ws, w1, w2⟩ := g2 j y hj
            have hwl := t.len w1
            refine ⟨ws, t.mono hst.v0 w1, fun a v hav => ?_⟩
            have hlt := (List.getElem?_eq_some_iff.1 hav).1
            have hu := w2 a v hav
            have : (j + 1) * t.n ≤ l.length * t.n := Nat.mul_le_mul_right _ (by omega)
            rw [Nat.add_mul] at this
            have := hkeep (j * t.n + a) v (by rwa [← Nat.add_assoc]) (by omega)
            rwa [← Nat.add_assoc] at this
          · rw [List.getElem?_append_right (by omega)] at hj
            have := n4 (s'.w q) b (o + l.length * t.n) (by have := h'.here; rwa [Nat.add_zero] at this) _ _ hj
            have e2 : o + j * t.n = o + l.length * t.n + (j - l.length) * t.n := by
              rw [Nat.sub_mul]
              have : l.length * t.n ≤ j * t.n := Nat.mul_le_mul_right _ (by omega)
              omega
            rw [e2]
            exact this.mono hst.v0 (VLe.refl _)
        · simp at ha; subst ha
          simp only at hi2 ⊢
          rw [List.length_append, Nat.add_mul] at hi1
          simp only [List.length_singleton, Nat.one_mul] at hi1
          obtain ⟨v, hv⟩ := hown i (by omega) hi2
          exact ⟨v, hkeep i v hv (by omega)⟩
  · simp only at hc
    refine ⟨growslice_fits hc (by rw [hsl]; exact hb), by simp only; omega, ?_⟩
    obtain ⟨old, o1, o2, o3, o4⟩ := hB1.ls.row
    refine ⟨old, o2, fun ty c hcc => ?_⟩
    refine newc_f (K := fun b => K ⟨some (at0 b), sl.len + 1, c⟩) (κ := fun i => q) (lo := 0) (hi := 0) (fun i => hq1) (fun i _ => by simp) fun s' b hnew => ?_
    have hst : Step [q] s1 s' := hnew.step.n
    have hat : At (s'.w q) b 0 (old ++ new) := fun i v hi => by
      have hlt := (List.getElem?_eq_some_iff.1 hi).1
      refine w_mk ?_ ?_
      · rw [Nat.zero_add, hnew.here, List.getElem?_append_left (by simpa using hlt), hi]; rfl
      · rw [Nat.zero_add, hnew.col]
    refine hK1 s' ⟨some (at0 b), sl.len + 1, c⟩ hst ⟨⟨by simp [hsl], by simp only at hcc ⊢; omega, fun h => (by cases h), fun a ha => ?_⟩, fun a ha i hi1 hi2 => ?_⟩
    · simp at ha; subst ha
      refine ⟨fun _ => rfl, fun j y hj => ?_⟩
      simp only
      by_cases ej : j < l.length
      · rw [List.getElem?_append_left ej] at hj
        have := o4 (s'.w q) b 0 (fun i v hi => hat i v (by rw [List.getElem?_append_left (List.getElem?_eq_some_iff.1 hi).1]; exact hi)) j y hj
        exact this.mono hst.v0 (VLe.refl _)
      · rw [List.getElem?_append_right (by omega)] at hj
        have := n4 (s'.w q) b (l.length * t.n) (fun i v hi => by
          have := hat (old.length + i) v (by rw [List.getElem?_append_right (by omega)]; simpa using hi)
          rwa [Nat.zero_add, o1] at this) _ y hj
        have e2 : 0 + j * t.n = l.length * t.n + (j - l.length) * t.n := by
          rw [Nat.sub_mul]
          have : l.length * t.n ≤ j * t.n := Nat.mul_le_mul_right _ (by omega)
          omega
        rw [e2]
        exact this.mono hst.v0 (VLe.refl _)
    · simp at ha; subst ha
      simp only at hi2 ⊢
      have hlen : (old ++ new ++ zrow zero (c - (sl.len + 1))).length = c * t.n := by
        rw [List.length_append, List.length_append, zrowC_length, o1, n1, hz]
        have : c * t.n = (l.length + 1 + (c - (sl.len + 1))) * t.n := by
          congr 1
          simp only at hcc
          omega
        rw [this, Nat.add_mul, Nat.add_mul, Nat.one_mul]
      rw [Nat.zero_add]
      refine ⟨(old ++ new ++ zrow zero (c - (sl.len + 1)))[i]'(by omega), w_mk ?_ (hnew.col _)⟩
      rw [hnew.here, List.getElem?_eq_getElem (by simp only; omega)]; rfl
/-- the elements behind the first one -/
theorem slW_rule {α : Type} {t : Ty α} {q : Nat} {s : St} {l : List α} {sl : Sl} {size : Nat} {K : Sl → HP} {H : Heap} (h : BldW t q s l sl) (h1 : 1 ≤ l.length) (hn0 : 0 < t.n)
    (hK : ∀ sl', BldW t q s (l.drop 1) sl' → K sl' H) (hn : size = t.n := by rfl) : slL sl size 1 sl.len sl.cap K H := by
  subst hn
  have hlen := h.ls.len
  have hcap := h.ls.cap
  obtain ⟨b, o, ha⟩ := Ls.lt h.ls (j := 0) (by omega)
  obtain ⟨g1, g2⟩ := h.ls.at_ _ ha
  have hown := h.own _ ha
  simp only at g2 hown
  have e1 : ((sl.cap : Nat) : Int).toNat = sl.cap := Int.toNat_natCast _
  have e2 : ((sl.len : Nat) : Int).toNat = sl.len := Int.toNat_natCast _
  refine ⟨⟨by decide, by omega, by omega, Int.le_refl _⟩, hK _ ⟨⟨by simp; omega, by simp only [e1, e2]; omega, fun he => ?_, fun a ha' => ?_⟩, fun a ha' i hi1 hi2 => ?_⟩⟩
  · simp only [ha] at he
    split at he
    · simp at he
    · simp at he
  · simp only [ha, e1] at ha'
    by_cases hc1 : sl.cap = (1 : Int).toNat
    · rw [if_pos hc1] at ha'
      cases ha'
      refine ⟨fun _ => rfl, fun j x hj => ?_⟩
      have hc1' : sl.cap = 1 := hc1
      rw [List.getElem?_eq_none (by simp; omega)] at hj
      cases hj
    · rw [if_neg hc1] at ha'
      simp only [Option.map_some, Option.some.injEq, add_at] at ha'
      subst ha'
      refine ⟨fun _ => rfl, fun j x hj => ?_⟩
      rw [List.getElem?_drop] at hj
      have := g2 (1 + j) x hj
      simp only at this ⊢
      rwa [show o + (1 : Int).toNat * t.n + j * t.n = o + (1 + j) * t.n by rw [Nat.add_mul]; show o + 1 * t.n + _ = _; omega]
  · simp only [ha, e1] at ha' hi2
    have hmul : (sl.cap - (1 : Int).toNat) * t.n = sl.cap * t.n - t.n := by show (sl.cap - 1) * t.n = _; rw [Nat.sub_mul, Nat.one_mul]
    have hdl : (l.drop 1).length * t.n = l.length * t.n - t.n := by rw [List.length_drop, Nat.sub_mul, Nat.one_mul]
    have hge : t.n ≤ l.length * t.n := Nat.le_mul_of_pos_left _ (by omega)
    by_cases hc1 : sl.cap = (1 : Int).toNat
    · have hc1' : sl.cap = 1 := hc1
      rw [hmul, hc1'] at hi2
      omega
    · rw [if_neg hc1] at ha'
      simp only [Option.map_some, Option.some.injEq, add_at] at ha'
      subst ha'
      obtain ⟨v, hv⟩ := hown (t.n + i) (by omega) (by omega)
      refine ⟨v, ?_⟩
      simp only
      rwa [show o + (1 : Int).toNat * t.n + i = o + (t.n + i) by show o + 1 * t.n + i = _; omega]
end Go.Ph
end
section
set_option linter.all false
namespace Go.Ph
structure ContM where
  seq : Int
  size : Int
  broken : Int
  l : List FoundM
structure BoxM where
  user : Int
  bound : Int
  next : Int
  l : List ContM
def recNext (x : RecM) : Int := x.f.getD 3 0
def recBase (x : RecM) : Int := x.f.getD 4 0
def recUid (x : RecM) : Int := x.f.getD 5 0
/-- the next number with what a record tells -/
def after (n : Int) (x : RecM) : Int := max (max n (recNext x)) (recUid x + 1)
namespace P
def dat (d : RDisk) (e : EntM) : List UInt8 := match d.files[e.File.toNat]? with | some f => f.now.data.toList | none => []
def contOf (q : Int) (b : List UInt8) : ContM := ⟨q, b.length, broken b, founds b⟩
def conts (d : RDisk) (u : Nat) : List EntM → Option (List ContM)
  | [] => some []
  | e :: es => if seqOf u e.Name = 0 then none else if seqOf u e.Name < 0 then conts d u es else (conts d u es).map (contOf (seqOf u e.Name) (dat d e) :: ·)
def baseF (q : Int) (n : Int) (f : FoundM) : Int := if f.x.kind = 1 ∧ recBase f.x ≤ q then max n (recBase f.x) else n
def baseC (n : Int) (c : ContM) : Int := c.l.foldl (baseF c.seq) n
def base (l : List ContM) : Int := l.foldl baseC 0
def drops (u : Int) (from_ : Int) : RDisk → List ContM → RDisk × Int × List ContM
  | d, [] => (d, 0, [])
  | d, c :: cs => if c.seq < from_ then (if (R.drop d (cnameI u c.seq)).2 ≠ 0 then ((R.drop d (cnameI u c.seq)).1, (R.drop d (cnameI u c.seq)).2, []) else drops u from_ (R.drop d (cnameI u c.seq)).1 cs) else (d, 0, c :: cs)
def nextC (n : Int) (c : ContM) : Int := c.l.foldl (fun n f => after n f.x) n
def next (l : List ContM) : Int := l.foldl nextC 1
/-- the box that is opened, or why there is none -/
def openR (d : RDisk) (u bound : Int) : RDisk × Option BoxM × Int :=
  if d.down then (d, none, 11) else if ¬(1 ≤ u ∧ u ≤ 999) ∨ bound < 1 then (d, none, 1)
  else if (R.tidy d (ba (front u.toNat))).2 ≠ 0 then ((R.tidy d (ba (front u.toNat))).1, none, (R.tidy d (ba (front u.toNat))).2)
  else match conts (R.tidy d (ba (front u.toNat))).1 u.toNat (R.tidy d (ba (front u.toNat))).1.now with
    | none => ((R.tidy d (ba (front u.toNat))).1, none, 12)
    | some l => if (drops u (base l) (R.tidy d (ba (front u.toNat))).1 l).2.1 ≠ 0 then ((drops u (base l) (R.tidy d (ba (front u.toNat))).1 l).1, none, (drops u (base l) (R.tidy d (ba (front u.toNat))).1 l).2.1)
      else ((drops u (base l) (R.tidy d (ba (front u.toNat))).1 l).1, some ⟨u, bound, next (drops u (base l) (R.tidy d (ba (front u.toNat))).1 l).2.2, (drops u (base l) (R.tidy d (ba (front u.toNat))).1 l).2.2⟩, 0)
end P
theorem RInv.good {d : RDisk} (h : RInv d) : Good d.files.length d.now ∧ d.now.length ≤ 1024 := by
  obtain ⟨v, h⟩ := h
  have := h.ns
  rw [h.nodes.1] at this
  exact ⟨this.1.good, this.2⟩
theorem RInv.dat {d : RDisk} (h : RInv d) {e : EntM} (he : e ∈ d.now) : ∃ f, d.files[e.File.toNat]? = some f ∧ f.now.size ≤ 4194304 ∧ R.find d.now e.Name = e.File ∧ 0 ≤ e.File := by
  obtain ⟨v, h⟩ := h
  have hn := h.ns.1
  have hr := hn.good.rng e he
  have hm := (hn.mem e.Name e.File).2 he
  have hlt : e.File.toNat < v.nodes.length := by omega
  have hlt2 : e.File.toNat < d.files.length := by rw [← h.nodes.1]; exact hlt
  have := h.cont e.File.toNat _ _ (List.getElem?_eq_getElem hlt) (List.getElem?_eq_getElem hlt2) (.inl ⟨e.Name, by rw [Int.toNat_of_nonneg hr.1]; exact hm⟩)
  refine ⟨_, List.getElem?_eq_getElem hlt2, ?_, find_mem hn.good he, hr.1⟩
  rw [← this.1]
  exact (h.sizes _ (List.getElem_mem hlt)).seen
theorem dat_text {d : RDisk} (h : RInv d) {e : EntM} (he : e ∈ d.now) (hd : d.down = false) : (R.text d e.Name).2 = 0 ∧ (R.text d e.Name).1.data.toList = P.dat d e ∧ (P.dat d e).length ≤ 4194304 := by
  obtain ⟨f, h1, h2, h3, h4⟩ := h.dat he
  have hdat : P.dat d e = f.now.data.toList := by unfold P.dat; rw [h1]
  unfold R.text
  rw [hd, h3]
  simp only [Bool.false_eq_true, if_false]
  rw [if_neg (by omega)]
  refine ⟨rfl, ?_, by rw [hdat, ba_len]; exact h2⟩
  rw [hdat]; unfold R.data; rw [h3, h1]
/-! names and numbers -/
theorem pre_split {n : ByteArray} {u : Nat} (h : R.pre n (ba (front u)) = true) : n = ba (front u ++ n.data.toList.drop 5) := by
  rw [pre_list, ba_list, decide_eq_true_eq] at h
  obtain ⟨r, hr⟩ := h
  have : n.data.toList.drop 5 = r := by rw [← hr, List.drop_left' (front_len u)]
  rw [this, hr, list_ba]
theorem numberOf_pos {r : List UInt8} (h : numberOf r ≠ 0) : r.length = 8 ∧ (∀ c ∈ r, isDig c = true) ∧ numberOf r = num r ∧ 1 ≤ num r ∧ num r ≤ 99999999 ∧ low (num r) 8 = r := by
  unfold numberOf at h ⊢
  by_cases hc : r.length = 8 ∧ r.all isDig = true
  · rw [if_pos hc] at h ⊢
    have ha : ∀ c ∈ r, isDig c = true := List.all_eq_true.1 hc.2
    have h1 := num_lt r ha
    have h2 := low_num r ha
    rw [hc.1] at h1 h2
    exact ⟨hc.1, ha, rfl, by omega, by omega, h2⟩
  · rw [if_neg hc] at h; exact absurd rfl h
theorem seqOf_cases {u : Nat} {n : ByteArray} : (R.pre n (ba (front u)) = false ∧ seqOf u n = -1) ∨ (R.pre n (ba (front u)) = true ∧ seqOf u n = numberOf (n.data.toList.drop 5)) := by
  unfold seqOf
  cases hp : R.pre n (ba (front u))
  · exact .inl ⟨rfl, rfl⟩
  · refine .inr ⟨rfl, ?_⟩
    rw [if_pos rfl]
    split
    · rename_i h5
      have : n.data.toList.drop 5 = [] := List.drop_eq_nil_of_le (by rw [ba_len]; omega)
      rw [this]; rfl
    · rfl
theorem numberOf_nn (r : List UInt8) : 0 ≤ numberOf r := by unfold numberOf; split <;> omega
theorem seqOf_pos {u : Nat} {n : ByteArray} (hu : 1 ≤ u ∧ u ≤ 999) (h0 : seqOf u n ≠ 0) (h1 : ¬ seqOf u n < 0) : R.pre n (ba (front u)) = true ∧ numberOf (n.data.toList.drop 5) = seqOf u n ∧ cnameI u (seqOf u n) = n ∧ 1 ≤ seqOf u n ∧ seqOf u n ≤ 99999999 := by
  rcases seqOf_cases (u := u) (n := n) with ⟨a, b⟩ | ⟨a, b⟩
  · rw [b] at h1; exact absurd (by decide) h1
  · rw [b] at h0 ⊢
    obtain ⟨g1, g2, g3, g4, g5, g6⟩ := numberOf_pos h0
    refine ⟨a, rfl, ?_, by omega, by omega⟩
    rw [g3]
    unfold cnameI
    rw [if_pos ⟨by omega, by omega, by omega, by omega⟩]
    simp only [Int.toNat_natCast, cname, g6]
    exact (pre_split a).symm
theorem lex_num : ∀ (a b : List UInt8), a.length = b.length → (∀ c ∈ a, isDig c = true) → (∀ c ∈ b, isDig c = true) → a < b → num a < num b
  | [], [], _, _, _, h => by simp at h
  | [], d :: b, hl, _, _, _ => by simp at hl
  | c :: a, [], hl, _, _, _ => by simp at hl
  | c :: a, d :: b, hl, ha, hb, h => by
    have hla : a.length = b.length := by simpa using hl
    have ha' : ∀ c ∈ a, isDig c = true := fun x hx => ha x (by simp [hx])
    have hb' : ∀ c ∈ b, isDig c = true := fun x hx => hb x (by simp [hx])
    have hc := ha c (by simp)
    have hd := hb d (by simp)
    simp [isDig] at hc hd
    rw [num_cons, num_cons, hla]
    have h1 := num_lt a ha'
    have h2 := num_lt b hb'
    rw [hla] at h1
    rw [List.cons_lt_cons_iff] at h
    rcases h with h | ⟨rfl, h⟩
    · have hlt : c.toNat < d.toNat := UInt8.lt_iff_toNat_lt.1 h
      have : (c.toNat - 48 + 1) * 10 ^ b.length ≤ (d.toNat - 48) * 10 ^ b.length := Nat.mul_le_mul_right _ (by omega)
      rw [Nat.add_mul, Nat.one_mul] at this
      omega
    · have := lex_num a b hla ha' hb' h
      omega
theorem seq_lt {u : Nat} {m n : ByteArray} (hu : 1 ≤ u ∧ u ≤ 999) (h : slt m n = true) (hm0 : seqOf u m ≠ 0) (hm1 : ¬ seqOf u m < 0) (hn0 : seqOf u n ≠ 0) (hn1 : ¬ seqOf u n < 0) : seqOf u m < seqOf u n := by
  obtain ⟨m1, m2, m3, m4, m5⟩ := seqOf_pos hu hm0 hm1
  obtain ⟨n1, n2, n3, n4, n5⟩ := seqOf_pos hu hn0 hn1
  obtain ⟨a1, a2, a3, -, -, -⟩ := numberOf_pos (r := m.data.toList.drop 5) (by omega)
  obtain ⟨b1, b2, b3, -, -, -⟩ := numberOf_pos (r := n.data.toList.drop 5) (by omega)
  rw [← m2, ← n2, a3, b3]
  have e1 := pre_split m1
  have e2 := pre_split n1
  rw [slt_eq, decide_eq_true_eq] at h
  rw [e1, e2, ba_list, ba_list] at h
  have := lex_num _ _ (by rw [a1, b1]) a2 b2 (by
    have hf : ∀ (p x y : List UInt8), p ++ x < p ++ y → x < y := fun p => by
      induction p with
      | nil => intro x y h; exact h
      | cons c p ih =>
        intro x y h
        rw [List.cons_append, List.cons_append, List.cons_lt_cons_iff] at h
        rcases h with h | ⟨_, h⟩
        · exact absurd h (by rw [UInt8.lt_iff_toNat_lt]; omega)
        · exact ih x y h
    exact hf _ _ _ h)
  omega
/-- all numbers are small -/
def Small (f : List Int) : Prop := ∀ v ∈ f, 0 ≤ v ∧ v ≤ 9007199254740992
theorem Small.get {f : List Int} (h : Small f) (j : Nat) : 0 ≤ f.getD j 0 ∧ f.getD j 0 ≤ 9007199254740992 := by
  rw [List.getD_eq_getElem?_getD]
  cases e : f[j]? with
  | none => simp
  | some v => exact h v (List.mem_of_getElem? e)
theorem Small.set {f : List Int} (h : Small f) {j : Nat} {v : Int} (hv : 0 ≤ v ∧ v ≤ 9007199254740992) : Small (f.set j v) := by
  intro w hw
  rcases List.mem_or_eq_of_mem_set hw with h1 | rfl
  · exact h w h1
  · exact hv
theorem fill_small : ∀ (L : List PartM) (vs : List Int) (g : List Int), (∀ p ∈ L, PartOk p) → okV L vs = true → Small g → Small ((L.zip vs).foldl (fun g x => g.set x.1.j x.2) g)
  | [], vs, g, _, _, hg => by simpa using hg
  | p :: L, [], g, _, _, hg => by simpa using hg
  | p :: L, v :: vs, g, hL, ho, hg => by
    simp only [okV, List.zip_cons_cons, List.all_cons, Bool.and_eq_true, decide_eq_true_eq] at ho
    have hp := hL p (by simp)
    have h1 := hp.lo
    have h2 := hp.hi
    rw [List.zip_cons_cons, List.foldl_cons]
    exact fill_small L vs _ (fun q hq => hL q (by simp [hq])) ho.2 (hg.set ⟨by omega, by omega⟩)
structure RecOk (x : RecM) : Prop where
  len : x.f.length = 11
  small : Small x.f
  data : x.data.length ≤ 4194304
theorem readR_ok {k : Int} {l : List UInt8} {x : RecM} (h : readR k l = .ok x) (hl : l.length ≤ 4194304) : RecOk x := by
  unfold readR at h
  by_cases h1 : layout k = []
  · rw [if_pos h1] at h; cases h
  rw [if_neg h1] at h
  have hk : 1 ≤ k ∧ k ≤ 6 := by
    rcases Classical.em (1 ≤ k ∧ k ≤ 6) with h2 | h2
    · exact h2
    · exact absurd (layout_nil.2 h2) h1
  repeat (first | (split at h; first | cases h | skip) )
  all_goals first
    | cases h
    | skip
  all_goals (rename_i ho; refine ⟨fillF_len _ _ _, fill_small _ _ _ (layout_ok k) ho ?_, ?_⟩)
  all_goals first
    | (intro v hv; simp at hv; rcases hv with rfl | rfl <;> omega)
    | (simp only; split <;> simp <;> omega)
structure FOk (f : FoundM) : Prop where
  at_ : f.at_ ≤ 4194304
  len : f.len ≤ 4194304
  x : RecOk f.x
structure COk (c : ContM) : Prop where
  seq : 1 ≤ c.seq ∧ c.seq ≤ 99999999
  size : 0 ≤ c.size ∧ c.size ≤ 4194304
  broken : 0 ≤ c.broken ∧ c.broken ≤ 4194304
  len : c.l.length ≤ 4194304
  l : ∀ f ∈ c.l, FOk f
theorem founds_ok {b : List UInt8} (hb : b.length ≤ 4194304) : (founds b).length ≤ b.length ∧ (∀ f ∈ founds b, FOk f) ∧ 0 ≤ broken b ∧ broken b ≤ b.length := by
  have hf := frames_ok b
  have h1 := hf.len
  have h2 := hf.sum
  have h3 := sumF_le (frames b)
  refine ⟨?_, ?_, ?_, ?_⟩
  · have := List.length_filterMap_le found (frames b)
    unfold founds; omega
  · intro f hf'
    unfold founds at hf'
    rw [List.mem_filterMap] at hf'
    obtain ⟨g, hg, hgf⟩ := hf'
    have go := hf.all g hg
    have g1 := go.in_
    have g2 := go.pay
    unfold found at hgf
    split at hgf
    · rename_i x hx
      cases hgf
      exact ⟨by simp only; omega, by simp only; omega, readR_ok hx (by omega)⟩
    · cases hgf
  · unfold broken founds; omega
  · unfold broken; omega
theorem contOf_ok {q : Int} {b : List UInt8} (hb : b.length ≤ 4194304) (hq : 1 ≤ q ∧ q ≤ 99999999) : COk (P.contOf q b) := by
  obtain ⟨h1, h2, h3, h4⟩ := founds_ok hb
  refine ⟨hq, ?_, ?_, ?_, h2⟩
  · unfold P.contOf; simp only; omega
  · unfold P.contOf; simp only; omega
  · unfold P.contOf; simp only; omega
structure CsOk (l : List ContM) : Prop where
  all : ∀ c ∈ l, COk c
  sorted : l.Pairwise fun a b => a.seq < b.seq
theorem conts_ok {d : RDisk} {u : Nat} (hu : 1 ≤ u ∧ u ≤ 999) : ∀ (es : List EntM) (l : List ContM), (∀ e ∈ es, (P.dat d e).length ≤ 4194304) → (es.Pairwise fun a b => slt a.Name b.Name = true) → P.conts d u es = some l → CsOk l ∧ l.length ≤ es.length ∧ ∀ c ∈ l, ∃ e ∈ es, seqOf u e.Name = c.seq ∧ seqOf u e.Name ≠ 0 ∧ ¬ seqOf u e.Name < 0
  | [], l, _, _, h => by
    simp only [P.conts, Option.some.injEq] at h
    subst h
    exact ⟨⟨by simp, by simp⟩, by simp, by simp⟩
  | e :: es, l, hd, hs, h => by
    rw [List.pairwise_cons] at hs
    have hd' : ∀ e ∈ es, (P.dat d e).length ≤ 4194304 := fun x hx => hd x (by simp [hx])
    rw [P.conts] at h
    by_cases h0 : seqOf u e.Name = 0
    · rw [if_pos h0] at h; cases h
    rw [if_neg h0] at h
    by_cases h1 : seqOf u e.Name < 0
    · rw [if_pos h1] at h
      obtain ⟨g1, g2, g3⟩ := conts_ok hu es l hd' hs.2 h
      refine ⟨g1, by simp; omega, fun c hc => ?_⟩
      obtain ⟨e', m1, m2⟩ := g3 c hc
      exact ⟨e', by simp [m1], m2⟩
    · rw [if_neg h1, Option.map_eq_some_iff] at h
      obtain ⟨l', hl', rfl⟩ := h
      obtain ⟨g1, g2, g3⟩ := conts_ok hu es l' hd' hs.2 hl'
      obtain ⟨-, -, -, m4, m5⟩ := seqOf_pos hu h0 h1
      refine ⟨⟨?_, ?_⟩, by simp; omega, ?_⟩
      · intro c hc
        simp only [List.mem_cons] at hc
        rcases hc with rfl | hc
        · exact contOf_ok (hd e (by simp)) ⟨m4, m5⟩
        · exact g1.all c hc
      · rw [List.pairwise_cons]
        refine ⟨fun c hc => ?_, g1.sorted⟩
        obtain ⟨e', m1, m2, m3, m6⟩ := g3 c hc
        rw [← m2]
        exact seq_lt hu (hs.1 e' m1) h0 h1 m3 m6
      · intro c hc
        simp only [List.mem_cons] at hc
        rcases hc with rfl | hc
        · exact ⟨e, by simp, rfl, h0, h1⟩
        · obtain ⟨e', m1, m2⟩ := g3 c hc
          exact ⟨e', by simp [m1], m2⟩
/-! what is done to the disk -/
theorem begin_down {d : RDisk} (h : (R.begin d).2 = 0) : d.down = false ∧ (R.begin d).1.down = false := by
  unfold R.begin at h ⊢
  cases hd : d.down
  · rw [hd] at h
    simp only [Bool.false_eq_true, if_false] at h ⊢
    by_cases h1 : d.crash = 0
    · rw [if_pos h1] at h; simp at h
    · rw [if_neg h1] at h ⊢
      split at h <;> simp_all
  · rw [hd] at h; simp at h
theorem unlink_down {d : RDisk} {n : ByteArray} (h : (R.unlink d n).2 = 0) : d.down = false ∧ (R.unlink d n).1.down = false := by
  unfold R.unlink at h ⊢
  simp only at h ⊢
  by_cases h0 : (R.begin d).2 = 0
  · rw [if_neg (by simpa using h0)] at h ⊢
    have := begin_down h0
    split at h
    · cases h
    · rename_i hf
      rw [if_neg hf]
      exact this
  · rw [if_pos h0] at h; exact absurd h h0
theorem unlinkAll_down : ∀ (l : List ByteArray) (d : RDisk), d.down = false → (R.unlinkAll d l).2 = 0 → (R.unlinkAll d l).1.down = false
  | [], d, hd, h => hd
  | n :: l, d, hd, h => by
    rw [R.unlinkAll] at h ⊢
    by_cases h0 : (R.unlink d n).2 = 0
    · rw [if_neg (by simpa using h0)] at h ⊢
      exact unlinkAll_down l _ (unlink_down h0).2 h
    · rw [if_pos h0] at h; exact absurd h h0
theorem tidy_down {d : RDisk} {p : ByteArray} (hd : d.down = false) (h : (R.tidy d p).2 = 0) : (R.tidy d p).1.down = false := by
  unfold R.tidy at h ⊢
  rw [hd] at h ⊢
  exact unlinkAll_down _ _ hd h
theorem tidy_calls {d : RDisk} {p : ByteArray} (hn : d.now.length ≤ 1024) : (R.tidy d p).1.calls ≤ d.calls + 1024 := by
  unfold R.tidy
  split
  · simp only; omega
  · have h1 := R.unlinkAll_calls (R.tidies (d.now.map (·.Name)) p) d
    have h2 : (R.tidies (d.now.map (·.Name)) p).length ≤ 1024 := Nat.le_trans (List.length_filter_le _ _) (by simp; omega)
    omega
theorem drop_calls (d : RDisk) (n : ByteArray) : (R.drop d n).1.calls ≤ d.calls + 3 := by
  unfold R.drop
  split
  · simp only; omega
  · split
    · have := R.unlink_calls d n; omega
    · have h1 := R.unlink_calls d n
      have h2 := again_calls (c := 1) (fun d => R.syncDir_calls d) (R.unlink d n).1
      omega
/-- names are short -/
def Nm (d : RDisk) : Prop := ∀ e ∈ d.now, e.Name.size ≤ 32
theorem unlink_now (d : RDisk) (n : ByteArray) : ∀ e ∈ (R.unlink d n).1.now, e ∈ d.now := by
  intro e he
  unfold R.unlink at he
  simp only at he
  split at he
  · rwa [R.begin_now] at he
  · split at he
    · rwa [R.begin_now] at he
    · unfold R.turn at he
      simp only [R.begin_now] at he
      rw [do_unlink] at he
      split at he
      · exact he
      · exact (List.mem_filter.1 he).1
theorem syncDir_now (d : RDisk) : (R.syncDir d).1.now = d.now := by
  unfold R.syncDir
  simp only
  split
  · exact R.begin_now d
  · exact R.begin_now d
theorem again_now (d : RDisk) : (R.again R.syncDir d).1.now = d.now := by
  unfold R.again
  split
  · rw [syncDir_now, syncDir_now]
  · exact syncDir_now d
theorem Nm.unlink {d : RDisk} (h : Nm d) (n : ByteArray) : Nm (R.unlink d n).1 := fun e he => h e (unlink_now d n e he)
theorem Nm.unlinkAll : ∀ (l : List ByteArray) {d : RDisk}, Nm d → Nm (R.unlinkAll d l).1
  | [], d, h => h
  | n :: l, d, h => by
    rw [R.unlinkAll]
    split
    · exact h.unlink n
    · exact Nm.unlinkAll l (h.unlink n)
theorem Nm.tidy {d : RDisk} (h : Nm d) (p : ByteArray) : Nm (R.tidy d p).1 := by
  unfold R.tidy
  split
  · exact h
  · exact Nm.unlinkAll _ h
end Go.Ph
end
section
set_option linter.all false
namespace Go.Ph
open S
theorem Nodes.st2 {k : Nat} {s s' : St} {l : List VNode} {ps : List (Option Addr)} {S : List Nat} (h : Nodes k s l ps) (hs : Step S s s') (hl : l.length ≤ 1000000000000) (hS : ∀ x ∈ S, x ∉ dk k) : Nodes k s' l ps :=
  ⟨h.len, fun j x hx => by
    obtain ⟨p, h1, h2⟩ := h.at_ j x hx
    have hj := (List.getElem?_eq_some_iff.1 hx).1
    exact ⟨p, h1, h2.st hs (fun hm => hS _ hm (by rw [mem_dk]; omega)) (fun hm => hS _ hm (by rw [mem_dk]; omega))⟩⟩
theorem VDp.st2 {k : Nat} {s s' : St} {b : Nat} {v : VDisk} {ps : List (Option Addr)} {S : List Nat} (h : VDp k s b v ps) (hs : Step S s s') (hl : v.nodes.length ≤ 1000000000000) (hS : ∀ x ∈ S, x ∉ dk k) : VDp k s' b v ps := by
  obtain ⟨k0, ⟨n, m, ms, mu, h1, h2, h3, ⟨es, cl, h4⟩, h5⟩, h6⟩ := h
  have g : ∀ j, j < 100 → k + j ∉ S := fun j hj hm => hS _ hm (by rw [mem_dk]; omega)
  exact ⟨k0, ⟨n, m, ms, mu, h1.mono (hs.view (by simpa using g 0 (by decide))), h2.st hs (g 1 (by decide)), h3.st hs (g 2 (by decide)), ⟨es, cl, h4.st hs (g 3 (by decide))⟩, h5.st hs (g 4 (by decide))⟩, h6.st2 hs hl hS⟩
theorem DV.st2 {k : Nat} {s s' : St} {b : Nat} {d : RDisk} {S : List Nat} (h : DV k s b d) (hs : Step S s s') (hc : d.calls < 1000000000000 - 1024) (hS : ∀ x ∈ S, x ∉ dk k) : DV k s' b d := by
  obtain ⟨v, ps, h1, h2⟩ := h
  have := h2.nodes
  exact ⟨v, ps, h1.st2 hs (by omega) hS, h2⟩
theorem Ko.own {k j : Nat} {s : St} (h : Ko k s) (hj : j < 16) : own s + j ∉ dk k := by
  unfold Ko at h; rw [mem_dk]; omega
/-! rows of things that were found -/
theorem ldRecO {s : St} {q b o : Nat} {f : List Int} {sl : Sl} {K : G_api_Rec → HP} (h : At (s.w q) b o (rowF f sl)) (hf : f.length = 11) (hK : ∀ r, fieldsOf r = f → r.Data = sl → K r s.H) : ld_G_api_Rec ⟨b, o, none⟩ K s.H := by
  match f, hf, h, hK with
  | [a0, a1, a2, a3, a4, a5, a6, a7, a8, a9, a10], _, h, hK =>
    unfold ld_G_api_Rec
    repeat (first|refine nn_at ?_|refine ldI_at h rfl ?_|refine ldB_at h rfl ?_|refine ldS_at h rfl ?_|refine ldP_at h rfl ?_|refine ldM_at h rfl ?_|refine ldL_at h rfl ?_)
    exact hK ⟨a0, a1, a2, a3, a4, a5, a6, a7, a8, a9, a10, sl⟩ rfl rfl
def rowFd (f : FoundM) (sl : Sl) : List Value := .int .i64 f.at_ :: .int .i64 f.len :: rowF f.x.f sl
theorem At.tail2 {V : View} {b o : Nat} {x y : Value} {vs : List Value} (h : At V b o (x :: y :: vs)) : At V b (o + 2) vs := fun i v hi => by
  have := h (i + 2) v (by simpa using hi)
  rwa [show o + (i + 2) = o + 2 + i by omega] at this
theorem ldFound {s : St} {q b o : Nat} {f : FoundM} {sl : Sl} {K : G_api_Found → HP} (h : At (s.w q) b o (rowFd f sl)) (hf : f.x.f.length = 11) (hK : ∀ r : G_api_Found, [Value.int .i64 r.At, .int .i64 r.Len, .int .i64 r.Rec_Kind, .int .i64 r.Rec_User, .int .i64 r.Rec_Seq, .int .i64 r.Rec_Next, .int .i64 r.Rec_Base, .int .i64 r.Rec_Uid, .int .i64 r.Rec_Time, .int .i64 r.Rec_Flags, .int .i64 r.Rec_Body, .int .i64 r.Rec_Size, .int .i64 r.Rec_Origin, .slice r.Rec_Data.a r.Rec_Data.len r.Rec_Data.cap] = rowFd f sl → K r s.H) : ld_G_api_Found ⟨b, o, none⟩ K s.H := by
  obtain ⟨a, n, ⟨fl, dt⟩⟩ := f
  simp only at hf
  match fl, hf, h, hK with
  | [a0, a1, a2, a3, a4, a5, a6, a7, a8, a9, a10], _, h, hK =>
    unfold ld_G_api_Found
    repeat (first|refine nn_at ?_|refine ldI_at h rfl ?_|refine ldB_at h rfl ?_|refine ldS_at h rfl ?_|refine ldP_at h rfl ?_|refine ldM_at h rfl ?_|refine ldL_at h rfl ?_)
    exact hK ⟨a, n, a0, a1, a2, a3, a4, a5, a6, a7, a8, a9, a10, sl⟩ rfl
theorem ldF2 {s : St} {q b j : Nat} {f : FoundM} {sl : Sl} {K : Int → HP} (h : At (s.w q) b 0 (rowFd f sl)) (hj : j < f.x.f.length) (hK : K (f.x.f.getD j 0) s.H) : ldI .i64 (((at0 b).add 2).add j) K s.H := by
  rw [at0_add]
  have h2 := h.tail2
  rw [Nat.zero_add] at h2
  exact ldI_at h2 (rowF_get hj) hK
theorem ldF2o {s : St} {q b o j : Nat} {f : FoundM} {sl : Sl} {K : Int → HP} (h : At (s.w q) b o (rowFd f sl)) (hj : j < f.x.f.length) (hK : K (f.x.f.getD j 0) s.H) : ldI .i64 (((⟨b, o, none⟩ : Addr).add 2).add j) K s.H := by
  rw [add_at b o 2]
  exact ldI_at h.tail2 (rowF_get hj) hK
theorem ldFr {s : St} {q b o : Nat} {f : FoundM} {sl : Sl} {K : G_api_Rec → HP} (h : At (s.w q) b o (rowFd f sl)) (hf : f.x.f.length = 11) (hK : ∀ r, fieldsOf r = f.x.f → r.Data = sl → K r s.H) : ld_G_api_Rec ((⟨b, o, none⟩ : Addr).add 2) K s.H := by
  rw [add_at]
  exact ldRecO h.tail2 hf hK
/-! containers -/
def cvRow (x : G_dbox_container) : List Value := [.int .i64 x.seq, .int .i64 x.size, .int .i64 x.broken, .slice x.l.a x.l.len x.l.cap]
def tCV : Ty G_dbox_container := ⟨4, fun _ x vs => vs = cvRow x, by rintro _ _ _ rfl; rfl, fun _ h => h, by rintro _ _ _ rfl; simp [one, cvRow]⟩
def tCont : Ty ContM := ⟨4, fun V x vs => ∃ sl : Sl, vs = [.int .i64 x.seq, .int .i64 x.size, .int .i64 x.broken, .slice sl.a sl.len sl.cap] ∧ Ls tFound V x.l sl, by rintro _ _ _ ⟨_, rfl, _⟩; rfl, by rintro _ _ _ _ h ⟨sl, rfl, h1⟩; exact ⟨sl, rfl, h1.mono h h⟩, by rintro _ _ _ ⟨_, rfl, _⟩; simp [one]⟩
structure CvAt (V : View) (m : ContM) (c : G_dbox_container) : Prop where
  seq : c.seq = m.seq
  size : c.size = m.size
  broken : c.broken = m.broken
  l : Ls tFound V m.l c.l
theorem CvAt.mono {V V' : View} {m : ContM} {c : G_dbox_container} (h : CvAt V m c) (hv : VLe V V') : CvAt V' m c := ⟨h.1, h.2, h.3, h.4.mono hv hv⟩
structure All2 {α β : Type} (R : α → β → Prop) (l : List α) (m : List β) : Prop where
  len : l.length = m.length
  all : ∀ (i : Nat) (x : α) (y : β), l[i]? = some x → m[i]? = some y → R x y
theorem All2.nil {α β : Type} {R : α → β → Prop} : All2 R [] [] := ⟨rfl, fun i x y h => by simp at h⟩
theorem All2.snoc {α β : Type} {R : α → β → Prop} {l : List α} {m : List β} {x : α} {y : β} (h : All2 R l m) (hx : R x y) : All2 R (l ++ [x]) (m ++ [y]) := by
  refine ⟨by simp [h.len], fun i a b ha hb => ?_⟩
  by_cases e : i < l.length
  · rw [List.getElem?_append_left e] at ha
    rw [List.getElem?_append_left (by rw [← h.len]; exact e)] at hb
    exact h.all i a b ha hb
  · rw [List.getElem?_append_right (by omega)] at ha
    rw [List.getElem?_append_right (by rw [← h.len]; omega), ← h.len] at hb
    have := (List.getElem?_eq_some_iff.1 ha).1
    simp at this
    have e0 : i - l.length = 0 := by omega
    rw [e0] at ha hb
    simp at ha hb
    subst ha hb
    exact hx
theorem All2.drop {α β : Type} {R : α → β → Prop} {l : List α} {m : List β} (h : All2 R l m) (n : Nat) : All2 R (l.drop n) (m.drop n) :=
  ⟨by simp [h.len], fun i x y hx hy => by rw [List.getElem?_drop] at hx hy; exact h.all _ _ _ hx hy⟩
theorem All2.imp {α β : Type} {R R' : α → β → Prop} {l : List α} {m : List β} (h : All2 R l m) (hr : ∀ x y, R x y → R' x y) : All2 R' l m := ⟨h.len, fun i x y hx hy => hr _ _ (h.all i x y hx hy)⟩
/-- the program's box of colours k, k + 1, k + 2 stands in block b -/
structure BoxP (k : Nat) (s : St) (b : Nat) (x : BoxM) (dp : Option Addr) (sl : Sl) (cs : List G_dbox_container) : Prop where
  k0 : k ≠ 0
  row : At (s.w k) b 0 [.pointer dp, .int .i64 x.user, .int .i64 x.bound, .int .i64 x.next, .slice sl.a sl.len sl.cap]
  ls : BldW tCV (k + 1) s cs sl
  all : All2 (CvAt (s.w 0)) x.l cs
  last : ∀ m c, x.l.getLast? = some m → cs.getLast? = some c → Bld tFound (k + 2) s m.l c.l
def BoxV (k : Nat) (s : St) (b : Nat) (x : BoxM) (dp : Option Addr) : Prop := ∃ sl cs, BoxP k s b x dp sl cs
theorem BoxP.st {k : Nat} {s s' : St} {b : Nat} {x : BoxM} {dp : Option Addr} {sl : Sl} {cs : List G_dbox_container} {S : List Nat} (h : BoxP k s b x dp sl cs) (hs : Step S s s') (h0 : k ∉ S) (h1 : k + 1 ∉ S) (h2 : k + 2 ∉ S) : BoxP k s' b x dp sl cs :=
  ⟨h.k0, h.row.mono (hs.view h0), h.ls.st hs h1, h.all.imp fun _ _ g => g.mono hs.v0, fun m c hm hc => (h.last m c hm hc).st hs h2⟩
theorem BoxV.st {k : Nat} {s s' : St} {b : Nat} {x : BoxM} {dp : Option Addr} {S : List Nat} (h : BoxV k s b x dp) (hs : Step S s s') (h0 : k ∉ S) (h1 : k + 1 ∉ S) (h2 : k + 2 ∉ S) : BoxV k s' b x dp := by
  obtain ⟨sl, cs, h⟩ := h
  exact ⟨sl, cs, h.st hs h0 h1 h2⟩
theorem cont_ls {V W : View} {l : List ContM} {cs : List G_dbox_container} {sl : Sl} (h : LsW tCV V W cs sl) (hc : All2 (CvAt V) l cs) : LsW tCont V W l sl :=
  ⟨by rw [h.len, hc.len], h.cap, h.nil, fun a ha => ⟨(h.at_ a ha).1, fun j x hx => by
    have hj := (List.getElem?_eq_some_iff.1 hx).1
    obtain ⟨c, hcj⟩ : ∃ c, cs[j]? = some c := ⟨_, List.getElem?_eq_getElem (by rw [← hc.len]; exact hj)⟩
    obtain ⟨vs, rfl, h2⟩ := (h.at_ a ha).2 j c hcj
    have g := hc.all j x c hx hcj
    exact ⟨_, ⟨c.l, by show cvRow c = _; unfold cvRow; rw [g.seq, g.size, g.broken], g.l⟩, h2⟩⟩⟩
theorem BoxP.lw {k : Nat} {s : St} {b : Nat} {x : BoxM} {dp : Option Addr} {sl : Sl} {cs : List G_dbox_container} (h : BoxP k s b x dp sl cs) : LsW tCont (s.w 0) (s.w (k + 1)) x.l sl := cont_ls h.ls.ls h.all
theorem foldl_take {α β : Type} {f : β → α → β} {l : List α} {i : Nat} {x : α} {a : β} (h : l[i]? = some x) : (l.take (i + 1)).foldl f a = f ((l.take i).foldl f a) x := by
  rw [List.take_succ, h, List.foldl_append]; rfl
theorem dbase_ok {s : St} {q : Nat} {l : List ContM} {sl : Sl} {K : Int → HP} (h : LsW tCont (s.w 0) (s.w q) l sl) (hl : l.length ≤ 1000000000) (hc : ∀ c ∈ l, COk c) (hK : ∀ s', Step [] s s' → K (P.base l) s'.H) : dbox_base sl K s.H := by
  unfold dbox_base
  have hlen := h.len
  refine loop_rule (fun i : Nat => [.int .i64 (P.base (l.take i)), .int .i64 i]) (fun i s' => i ≤ l.length ∧ Step [] s s') (fun i _ => l.length - i) 0 rfl ⟨Nat.zero_le _, Step.refl⟩ ?_
  rintro i s1 ⟨hi, e1⟩ G hG
  simp only [List.getD_cons_zero, List.getD_cons_succ, asI_v, asL_v, asS_v, asB_v, asM_v, asP_v]
  refine bif_dec (fun hlt => ?_) (fun hlt => ?_)
  · refine ixL_rule (h.st e1 (by simp)) (by omega) (by omega) fun bx ox c hx hel => ?_
    rw [Int.toNat_natCast] at hx
    obtain ⟨vs, ⟨scl, rfl, hcl⟩, hat⟩ := hel
    have co := hc c (List.mem_of_getElem? hx)
    unfold ld_G_dbox_container
    repeat (first|refine nn_at ?_|refine ldI_at hat rfl ?_|refine ldB_at hat rfl ?_|refine ldS_at hat rfl ?_|refine ldP_at hat rfl ?_|refine ldM_at hat rfl ?_|refine ldL_at hat rfl ?_)
    refine newc_sts rfl (by simp [one]) fun s2 p5 e2 a5 => ?_
    repeat (first|refine nn_at ?_|refine ldI_at a5 rfl ?_|refine ldB_at a5 rfl ?_|refine ldS_at a5 rfl ?_|refine ldP_at a5 rfl ?_|refine ldM_at a5 rfl ?_|refine ldL_at a5 rfl ?_)
    have hcl2 := Ls.st hcl e2
    have hll := hcl2.len
    have hcl0 := co.len
    have hG' := hG (i + 1)
    have hbt : P.base (l.take (i + 1)) = P.baseC (P.base (l.take i)) c := foldl_take hx
    rw [hbt] at hG'
    refine loop_rule (fun j : Nat => [.int .i64 ((c.l.take j).foldl (P.baseF c.seq) (P.base (l.take i))), .int .i64 j]) (fun j s' => j ≤ c.l.length ∧ Step [] s2 s') (fun j _ => c.l.length - j) 0 rfl ⟨Nat.zero_le _, Step.refl⟩ ?_
    rintro j s3 ⟨hj, e3⟩ G2 hG2
    simp only [List.getD_cons_zero, List.getD_cons_succ, asI_v, asL_v, asS_v, asB_v, asM_v, asP_v]
    refine bif_dec (fun hlt2 => ?_) (fun hlt2 => ?_)
    · refine ixL_rule (Ls.st hcl2 e3) (by omega) (by omega) fun bx2 ox2 f hf hel2 => ?_
      rw [Int.toNat_natCast] at hf
      obtain ⟨vs, ⟨sd, rfl, hf11, hd⟩, hat2⟩ := hel2
      refine ldFound (f := f) hat2 hf11 fun r hr => ?_
      rw [hr]
      refine newc_sts (by rw [rowFd, List.length_cons, List.length_cons, rowF_len, hf11]; rfl) (fun v hv => tFound.one (V := s3.w 0) (x := f) ⟨sd, rfl, hf11, hd⟩ v hv) fun s4 p7 e4 a7 => ?_
      have hG2' := hG2 (j + 1) s4 ⟨by omega, e3.trans e4⟩ (by omega)
      rw [foldl_take hf] at hG2'
      refine ldF2 a7 (by omega) ?_
      have nx : ∀ {v : Int}, P.baseF c.seq ((c.l.take j).foldl (P.baseF c.seq) (P.base (l.take i))) f = v → G2 [.int .i64 v, .int .i64 (w64 ((j : Int) + 1))] s4.H := fun hv => by
        rw [w64_id (by omega) (by omega), ← hv]; exact hG2'
      have nb : ¬(f.x.kind = 1 ∧ recBase f.x ≤ c.seq) → dbox_base_j1 ((c.l.take j).foldl (P.baseF c.seq) (P.base (l.take i))) p5 p7 sl sl.len i scl scl.len j false K G G2 s4.H := fun hn => by
        unfold dbox_base_j1 dbox_base_j2
        refine bif_f (nx ?_)
        unfold P.baseF; rw [if_neg hn]
      refine bif_dec (fun h1 => ?_) (fun h1 => ?_)
      · refine ldF2 a7 (by omega) ?_
        refine ldI_at ((a5.mono e3.v0).mono e4.v0) rfl ?_
        by_cases h2 : f.x.f.getD 4 0 ≤ c.seq
        · rw [decide_eq_true h2]
          unfold dbox_base_j1 dbox_base_j2
          refine bif_t ?_
          refine ldF2 a7 (by omega) ?_
          refine nx ?_
          unfold P.baseF
          rw [if_pos ⟨h1, h2⟩]
          unfold recBase
          split <;> omega
        · rw [decide_eq_false h2]
          exact nb fun hh => h2 hh.2
      · exact nb fun hh => h1 hh.1
    · have : j = c.l.length := by omega
      subst this
      rw [List.take_of_length_le (Nat.le_refl _), w64_id (by omega) (by omega)]
      exact hG' s3 ⟨by omega, (e1.trans e2).trans e3⟩ (by omega)
  · have : i = l.length := by omega
    subst this
    rw [List.take_of_length_le (Nat.le_refl _)]
    exact hK s1 e1
end Go.Ph
end
section
set_option linter.all false
namespace Go.Ph
open S
theorem after_ok {s : St} {x : RecM} {r : G_api_Rec} {K : Int → HP} (h : RecAt (s.w 0) x r) (hx : RecOk x) (hK : ∀ s', Step [] s s' → K (max (max 1 (recNext x)) (recUid x + 1)) s'.H) : dbox_after r K s.H := by
  unfold dbox_after
  have hxl := h.len
  refine newc_0 fun s1 p1 n1 a1' => ?_
  have e1 := n1.step
  have a1 : At (s1.w 0) p1 0 (rowF x.f r.Data) := by rw [← h.f]; exact a1'
  refine ldI_at a1 (rowF_get (by omega)) ?_
  refine ldI_at a1 (rowF_get (by omega)) ?_
  have hu := hx.small.get 5
  rw [w64_id (by omega) (by omega)]
  have := hK s1 e1
  have e : (if x.f.getD 5 0 + 1 > (if x.f.getD 3 0 > 1 then x.f.getD 3 0 else 1) then x.f.getD 5 0 + 1 else (if x.f.getD 3 0 > 1 then x.f.getD 3 0 else 1)) = max (max 1 (recNext x)) (recUid x + 1) := by
    unfold recNext recUid
    split <;> split <;> omega
  rw [e]; exact this
theorem dread_ok {C : Cx} {kd q : Nat} {s : St} {b : Nat} {d : RDisk} {u seq : Int} {e : EntM} {K : G_dbox_container → Int → HP} (h : DV kd s b d) (he : e ∈ d.now) (hd : d.down = false) (hn : cnameI u seq = e.Name) (hq0 : q ≠ 0)
    (hq : q < 2305843009213693952 + 1152921504606846976 * s.H.size) (hqo : q ≠ own s ∧ q ≠ own s + 1)
    (hK : ∀ s' c, Step [q] s s' → CvAt (s'.w 0) (P.contOf seq (P.dat d e)) c → Bld tFound q s' (founds (P.dat d e)) c.l → K c 0 s'.H) : dbox_read C (some ⟨b, 0, none⟩) u seq K s.H := by
  unfold dbox_read
  refine newc_k (own s) (by unfold own; omega) fun s1 p6 n1 a1 => ?_
  have e1 := n1.step
  have hz1 := e1.sz
  refine CName_ok fun s2 e2 => ?_
  rw [hn]
  have e12 := e1.trans e2
  have hz2 := e12.sz
  refine vRead_ok (h.st e12 (by simp)) fun s3 r e3 l3 => ?_
  obtain ⟨t1, t2, t3⟩ := dat_text h.inv he hd
  rw [t1]
  rw [t2] at l3
  have e13 := e12.trans e3
  have hz3 := e13.sz
  refine bif_ndec (fun h => absurd rfl h) (fun _ => ?_)
  refine newc_k (own s + 1) (by unfold own; omega) fun s4 p10 n4 a4 => ?_
  have e4 := n4.step
  have hz4 := e4.sz
  have hlen := l3.len
  refine row_rule (own s + 1) a4 rfl (by simp [one]) (by unfold own; omega) (.inl rfl) fun s5 e5 z5 a5 _ => ?_
  have es5 : Step [own s, own s + 1, q] s s5 := (e13.trans e4).n.tr e5 (A := [])
  have hz5 := es5.sz
  refine recScan_ok (Ls.st (Ls.st l3 e4) e5) (by omega) hq0 (by omega) fun s6 o6 e6 b6 => ?_
  have es6 : Step [own s, own s + 1, q] s s6 := es5.tr e6
  have a56 := a5.mono (e6.view (k := own s + 1) (by simp; exact fun h => hqo.2 h.symm))
  refine fld_rule a56 (by simp) rfl (by unfold own; omega) (fun s7 e7 z7 a7 _ => ?_)
  refine fld_rule a7 (by simp) rfl (by unfold own; omega) (fun s8 e8 z8 a8 _ => ?_)
  have es7 : Step [own s, own s + 1, q] s s7 := es6.tr e7
  have es8 : Step [own s, own s + 1, q] s s8 := es7.tr e8
  unfold ld_G_dbox_container
  repeat (first|refine nn_at ?_|refine ldI_at a8 rfl ?_|refine ldB_at a8 rfl ?_|refine ldS_at a8 rfl ?_|refine ldP_at a8 rfl ?_|refine ldM_at a8 rfl ?_|refine ldL_at a8 rfl ?_)
  have a18 : At (s8.w (own s)) p6 0 [.int .i64 0, .int .i64 0, .int .i64 0, .slice none 0 0] := (((((a1.mono ((e2.trans e3).view (by simp))).mono (e4.view (by simp))).mono (e5.view (by simp))).mono (e6.view (by simp; exact fun h => hqo.1 h.symm))).mono (e7.view (by simp))).mono (e8.view (by simp))
  refine row_rule (own s) a18 rfl (by simp [one]) (by unfold own; omega) (.inl rfl) fun s9 e9 z9 a9 _ => ?_
  repeat (first|refine nn_at ?_|refine ldI_at a9 rfl ?_|refine ldB_at a9 rfl ?_|refine ldS_at a9 rfl ?_|refine ldP_at a9 rfl ?_|refine ldM_at a9 rfl ?_|refine ldL_at a9 rfl ?_)
  have es9 : Step [own s, own s + 1, q] s s9 := es8.tr e9
  have b9 := ((b6.st e7 (by simp; exact hqo.2)).st e8 (by simp; exact hqo.2)).st e9 (by simp; exact hqo.1)
  refine hK s9 _ ((es9.loc).loc (by omega)) ⟨rfl, ?_, rfl, b9.ls⟩ b9
  show ((r.len : Nat) : Int) = ((P.dat d e).length : Nat)
  rw [hlen]
theorem conts_drop {d : RDisk} {u i : Nat} {es : List EntM} {e : EntM} (h : es[i]? = some e) : P.conts d u (es.drop i) = if seqOf u e.Name = 0 then none else if seqOf u e.Name < 0 then P.conts d u (es.drop (i + 1)) else (P.conts d u (es.drop (i + 1))).map (P.contOf (seqOf u e.Name) (P.dat d e) :: ·) := by
  rw [take_two h]; rfl
theorem getLast_drop {α : Type} {l : List α} (h : l.drop 1 ≠ []) : (l.drop 1).getLast? = l.getLast? := by
  cases l with
  | nil => rfl
  | cons a l =>
    cases l with
    | nil => exact absurd rfl h
    | cons b l => simp
theorem nextC_ge {n : Int} (c : ContM) (h : 1 ≤ n) : 1 ≤ P.nextC n c := by
  unfold P.nextC
  generalize c.l = l
  induction l generalizing n with
  | nil => exact h
  | cons f l ih => exact ih (by show 1 ≤ after n f.x; unfold after; omega)
theorem next_ge (l : List ContM) : ∀ {n : Int}, 1 ≤ n → 1 ≤ l.foldl P.nextC n := by
  induction l with
  | nil => exact fun h => h
  | cons c l ih => exact fun h => ih (nextC_ge c h)
theorem foldF_ge (l : List FoundM) : ∀ {n : Int}, 1 ≤ n → 1 ≤ l.foldl (fun n f => after n f.x) n := by
  induction l with
  | nil => exact fun h => h
  | cons f l ih => exact fun {n} h => ih (n := after n f.x) (by unfold after; omega)
/-- the next number is counted -/
theorem dnext_ok {C : Cx} {kb : Nat} {s : St} {p : Nat} {x : BoxM} {dp : Option Addr} {t0 : Option Addr} {from_ : Int} {K : Option Addr → Int → HP} {G : List Value → HP} (h : BoxV kb s p x dp) (hx : x.next = 1) (hc : ∀ c ∈ x.l, COk c) (hl : x.l.length ≤ 1024)
    (hK : ∀ s', Step [kb] s s' → BoxV kb s' p { x with next := P.next x.l } dp → K (some (at0 p)) 0 s'.H) : dbox_Open_j3 C t0 x.user p from_ false K G s.H := by
  unfold dbox_Open_j3
  obtain ⟨sl, cs, hb⟩ := h
  have hrow := hb.row
  have hk0 := hb.k0
  refine bif_f ?_
  repeat (first|refine nn_at ?_|refine ldI_at hrow rfl ?_|refine ldB_at hrow rfl ?_|refine ldS_at hrow rfl ?_|refine ldP_at hrow rfl ?_|refine ldM_at hrow rfl ?_|refine ldL_at hrow rfl ?_)
  have hlw := hb.lw
  have hlen := hlw.len
  rw [hx] at hrow
  have hnxt : P.next (x.l.take 0) = 1 := rfl
  refine loop_rule (fun i : Nat => [.int .i64 i]) (fun i s' => i ≤ x.l.length ∧ Step [kb] s s' ∧ At (s'.w kb) p 0 [.pointer dp, .int .i64 x.user, .int .i64 x.bound, .int .i64 (P.next (x.l.take i)), .slice sl.a sl.len sl.cap]) (fun i _ => x.l.length - i) 0 rfl ⟨Nat.zero_le _, Step.refl, hrow⟩ ?_
  rintro i s1 ⟨hi, e1, a1⟩ G1 hG
  simp only [List.getD_cons_zero, List.getD_cons_succ, asI_v, asL_v, asS_v, asB_v, asM_v, asP_v]
  refine bif_dec (fun hlt => ?_) (fun hlt => ?_)
  · refine ixL_rule (hlw.st e1 (by simp)) (by omega) (by omega) fun bx ox c hcx hel => ?_
    rw [Int.toNat_natCast] at hcx
    obtain ⟨vs, ⟨scl, rfl, hcl⟩, hat⟩ := hel
    have co := hc c (List.mem_of_getElem? hcx)
    unfold ld_G_dbox_container
    repeat (first|refine nn_at ?_|refine ldI_at hat rfl ?_|refine ldB_at hat rfl ?_|refine ldS_at hat rfl ?_|refine ldP_at hat rfl ?_|refine ldM_at hat rfl ?_|refine ldL_at hat rfl ?_)
    refine newc_sts rfl (by simp [one]) fun s2 p5 e2 a5 => ?_
    repeat (first|refine nn_at ?_|refine ldI_at a5 rfl ?_|refine ldB_at a5 rfl ?_|refine ldS_at a5 rfl ?_|refine ldP_at a5 rfl ?_|refine ldM_at a5 rfl ?_|refine ldL_at a5 rfl ?_)
    have hcl2 := Ls.st hcl e2
    have hll := hcl2.len
    have hcl0 := co.len
    have hG' := hG (i + 1)
    have hbt : P.next (x.l.take (i + 1)) = P.nextC (P.next (x.l.take i)) c := foldl_take hcx
    have hge : 1 ≤ P.next (x.l.take i) := next_ge _ (Int.le_refl _)
    rw [hbt] at hG'
    have a12 := a1.mono (e2.view (k := kb) (by simp))
    refine loop_rule (fun j : Nat => [.int .i64 j]) (fun j s' => j ≤ c.l.length ∧ Step [kb] s2 s' ∧ At (s'.w kb) p 0 [.pointer dp, .int .i64 x.user, .int .i64 x.bound, .int .i64 ((c.l.take j).foldl (fun n f => after n f.x) (P.next (x.l.take i))), .slice sl.a sl.len sl.cap]) (fun j _ => c.l.length - j) 0 rfl ⟨Nat.zero_le _, Step.refl, a12⟩ ?_
    rintro j s3 ⟨hj, e3, a3⟩ G2 hG2
    simp only [List.getD_cons_zero, List.getD_cons_succ, asI_v, asL_v, asS_v, asB_v, asM_v, asP_v]
    refine bif_dec (fun hlt2 => ?_) (fun hlt2 => ?_)
    · refine ixL_rule (Ls.st hcl2 e3) (by omega) (by omega) fun bx2 ox2 f hf hel2 => ?_
      rw [Int.toNat_natCast] at hf
      obtain ⟨vs, ⟨sd, rfl, hf11, hd⟩, hat2⟩ := hel2
      have fo := co.l f (List.mem_of_getElem? hf)
      refine ldFound (f := f) hat2 hf11 fun r hr => ?_
      rw [hr]
      refine newc_sts (by rw [rowFd, List.length_cons, List.length_cons, rowF_len, hf11]; rfl) (fun v hv => tFound.one (V := s3.w 0) (x := f) ⟨sd, rfl, hf11, hd⟩ v hv) fun s4 p7 e4 a7 => ?_
      have a34 := a3.mono (e4.view (k := kb) (by simp))
      refine nn_at ?_
      refine ldI_at a34 rfl ?_
      refine ldFr a7 hf11 fun r2 f2 d2 => ?_
      refine after_ok (x := f.x) ⟨f2, by rw [d2]; exact Ls.st hd e4⟩ fo.x fun s5 e5 => ?_
      have a35 := a34.mono (e5.view (k := kb) (by simp))
      refine held_rule (ldI_at a35 rfl rfl) ?_
      refine nn_at ?_
      refine fld_rule a35 (by simp) rfl hk0 (fun s6 e6 z6 a6 _ => ?_)
      have hge2 : 1 ≤ (c.l.take j).foldl (fun n f => after n f.x) (P.next (x.l.take i)) := foldF_ge _ hge
      have hm : (if max (max 1 (recNext f.x)) (recUid f.x + 1) > (c.l.take j).foldl (fun n f => after n f.x) (P.next (x.l.take i)) then max (max 1 (recNext f.x)) (recUid f.x + 1) else (c.l.take j).foldl (fun n f => after n f.x) (P.next (x.l.take i))) = (c.l.take (j + 1)).foldl (fun n f => after n f.x) (P.next (x.l.take i)) := by
        rw [foldl_take hf]
        generalize (c.l.take j).foldl (fun n f => after n f.x) (P.next (x.l.take i)) = n at *
        unfold after
        split <;> omega
      rw [w64_id (by omega) (by omega)]
      rw [hm] at a6
      exact hG2 (j + 1) s6 ⟨by omega, e3.trans ((e4.trans e5).n.trans e6), a6⟩ (by omega)
    · have : j = c.l.length := by omega
      subst this
      rw [List.take_of_length_le (Nat.le_refl _)] at a3
      rw [w64_id (by omega) (by omega)]
      exact hG' s3 ⟨by omega, e1.trans (e2.n.trans e3), a3⟩ (by omega)
  · have : i = x.l.length := by omega
    subst this
    rw [List.take_of_length_le (Nat.le_refl _)] at a1
    exact hK s1 e1 ⟨sl, cs, hk0, a1, hb.ls.st e1 (by simp), hb.all.imp fun _ _ g => g.mono e1.v0, fun m c hm hc => (hb.last m c hm hc).st e1 (by simp)⟩
end Go.Ph
end

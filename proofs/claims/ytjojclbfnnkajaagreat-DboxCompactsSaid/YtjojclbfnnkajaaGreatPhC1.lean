/- Parts of the proof that pigeonholelaw18.DboxCompacts returns true at every input and leaves the input as it was: what the words of the functions tell, part 1. -/
import Derived.Test.YtjojclbfnnkajaaGreatPhC0
section
set_option linter.all false
namespace Go.Ph
open S
theorem ME {n : Int} (h : 0 ≤ n) (h2 : n < 256) : wr .u8 n = n := by
 unfold wr IntKind.wrap
 simp [IntKind.bits, IntKind.signed]
 omega
def digit (n : Nat) : UInt8 := UInt8.ofNat (48 + n % 10)
theorem zy (n : Nat) : (digit n).toNat = 48 + n % 10 := by unfold digit; rw [UInt8.toNat_ofNat']; omega
def low (n : Nat) : Nat → List UInt8
 | 0 => []
 | i + 1 => digit (n / 10 ^ i) :: low n i
theorem kO (n : Nat) : ∀ i, (low n i).length = i
 | 0 => rfl
 | i + 1 => by simp [low, kO n i]
def ba (l : List UInt8) : ByteArray := ⟨l.toArray⟩
theorem iL (l : List UInt8) : (ba l).size = l.length := by simp [ba, ByteArray.size]
theorem DS (a b : List UInt8) : ba a ++ ba b = ba (a ++ b) := by apply mM; simp [ba]
theorem Np {α : Type} {t : Ty α} {s : St} {q kx : Nat} {l m : List α} {d x : Sl} {size : Nat} {K : Int → HP} (hd : bz t (s.w 0) (s.w q) l d) (hx : bz t (s.w 0) (s.w kx) m x) (hq0 : q ≠ 0)
  (hK : ∀ s', Step [q] s s' → s'.H.size = s.H.size → bz t (s'.w 0) (s'.w q) (m.take (min m.length l.length) ++ l.drop (min m.length l.length)) d → (∀ a, d.a = some a → ∀ x i, ¬(x = a.block ∧ a.off ≤ i ∧ i < a.off + min m.length l.length * t.n) → s'.c x i = s.c x i ∧ pk s'.H x i = pk s.H x i) → K (min m.length l.length : Nat) s'.H) (hn : size = t.n := by rfl) : xy size d x K s.H := by
 subst hn
 have hdl := hd.len
 have hxl := hx.len
 obtain ⟨new, n1, n2, n3, n4⟩ := (hx.take (min m.length l.length) (Nat.min_le_left _ _)).row
 simp only [List.length_take] at n1
 have hc : min x.len d.len = min m.length l.length := by rw [hdl, hxl]
 refine ⟨new, by rw [hc]; exact n2, ?_⟩
 unfold m8
 rw [hc]
 generalize hcc : min m.length l.length = c at *
 cases e : d.a with
 | none =>
  have h0 := hd.nil e
  have hcap := hd.cap
  have hl0 : l = [] := List.eq_nil_of_length_eq_zero (by omega)
  subst hl0
  have : c = 0 := by simp at hcc; omega
  subst this
  exact hK s Step.refl rfl (by simpa using hd) (fun _ _ _ _ _ => ⟨rfl, rfl⟩)
 | some a =>
  obtain ⟨g1, g2⟩ := hd.at_ a e
  by_cases hl0 : l = []
  ·subst hl0
   have : c = 0 := by simp at hcc; omega
   subst this
   have hnew : new = [] := List.eq_nil_of_length_eq_zero (by rw [n1]; simp)
   subst hnew
   exact hK s Step.refl rfl (by simpa using hd) (fun _ _ _ _ _ => ⟨rfl, rfl⟩)
  obtain ⟨b, o, sp⟩ := a
  have g1 := g1 (by have := hd.cap; have := List.length_pos_iff.2 hl0; omega)
  simp at g1; subst g1
  simp only at g2 ⊢
  have hnl : new.length = c * t.n := by rw [n1]; congr 1; omega
  have hcells : ∀ j, j < new.length → ∃ v0, s.w q b (o + 0 + j) = some (.v v0) := fun j hj => by
   have hpos : 0 < t.n := by
    rcases Nat.eq_zero_or_pos t.n with h | h
    ·rw [h] at hnl; omega
    ·exact h
   have hjl : j / t.n < l.length := by
    have : j / t.n < c := Nat.div_lt_of_lt_mul (by rw [Nat.mul_comm]; omega)
    omega
   obtain ⟨ws, w1, w2⟩ := g2 (j / t.n) _ (List.getElem?_eq_getElem hjl)
   have hwl := t.len w1
   have hm := Nat.mod_lt j hpos
   have := w2 (j % t.n) _ (List.getElem?_eq_getElem (by omega))
   have hdm := Nat.div_add_mod j t.n
   rw [Nat.mul_comm] at hdm
   rw [show o + j / t.n * t.n + j % t.n = o + 0 + j by omega] at this
   exact ⟨_, this⟩
  have hqlt : new.length ≠ 0 → q < 1152921504606846976 + 1152921504606846976 * s.H.size := fun h => by
   obtain ⟨v0, hv0⟩ := hcells 0 (by omega)
   rw [← (bY hv0).2]; exact s.wf _ _ (mq hv0)
  by_cases hz : new.length = 0
  ·have : new = [] := List.eq_nil_of_length_eq_zero hz
   subst this
   simp only [aq]
   refine hK s Step.refl rfl ⟨by simp; omega, hd.cap, hd.nil, fun a ha => ?_⟩ (fun _ _ _ _ _ => ⟨rfl, rfl⟩)
   rw [e] at ha; simp at ha; subst ha
   refine ⟨fun _ => rfl, fun j y hj => ?_⟩
   by_cases ej : j < c
   ·rw [List.getElem?_append_left (by simp; omega)] at hj
    exact n4 _ _ _ (fun i v hi => by simp at hi) j y hj
   ·rw [List.getElem?_append_right (by simp; omega), List.getElem?_drop] at hj
    have : c + (j - (List.take c m).length) = j := by simp; omega
    rw [this] at hj
    exact g2 j y hj
  ·refine kJ (k := q) (k' := q) new hcells n3 (hqlt hz) hq0 fun s' h' => ?_
   have hst : Step [q] s s' := h'.step (q := q) (by simp) hq0 fun j hj => by
    obtain ⟨v, hv⟩ := hcells j hj
    exact (bY hv).2
   refine hK s' hst h'.sz ⟨by simp; omega, hd.cap, hd.nil, fun a ha => ?_⟩ (fun a ha x i hn => by
    rw [e] at ha; simp at ha; subst ha
    refine h'.old x i fun ⟨q1, q2, q3⟩ => hn ⟨q1, q2, ?_⟩
    rw [hnl] at q3; exact q3)
   rw [e] at ha; simp at ha; subst ha
   refine ⟨fun _ => rfl, fun j y hj => ?_⟩
   simp only
   by_cases ej : j < c
   ·rw [List.getElem?_append_left (by simp; omega)] at hj
    have := n4 (s'.w q) b o (by have := h'.here; rwa [Nat.add_zero] at this) j y hj
    exact this.mono hst.v0 (eE.refl _)
   ·rw [List.getElem?_append_right (by simp; omega), List.getElem?_drop] at hj
    have : c + (j - (List.take c m).length) = j := by simp; omega
    rw [this] at hj
    obtain ⟨ws, w1, w2⟩ := g2 j y hj
    refine ⟨ws, t.mono hst.v0 w1, fun a v hav => ?_⟩
    have hu := w2 a v hav
    have hcj : c * t.n ≤ j * t.n := Nat.mul_le_mul_right _ (by omega)
    have := h'.old b (o + j * t.n + a) (fun ⟨_, h1, h2⟩ => by omega)
    exact dP (this.2.trans (bY hu).1) (this.1.trans (bY hu).2)
def tV : Ty Value := ⟨1, fun _ v vs => vs = [v] ∧ one v = true, by rintro _ _ _ ⟨rfl, _⟩; rfl, fun _ h => h, by rintro _ _ _ ⟨rfl, h⟩; simpa using h⟩
theorem freeze (s : St) (q : Nat) : ∃ s' : St, s'.H = s.H ∧ Step [q] s s' ∧ eE (s.w q) (s'.w 0) := by
 refine ⟨⟨s.H, fun b i => if s.c b i = q then 0 else s.c b i, fun b i hb => ?_, fun b i hb => ?_⟩, rfl, ⟨Nat.le_refl _, fun b i hb hn => ?_, fun _ _ => rfl⟩, fun b i x hx => ?_⟩
 ·split
  ·omega
  ·exact s.wf b i hb
 ·split at hb
  ·exact absurd rfl hb
  ·exact s.fz b i hb
 ·refine ⟨?_, rfl⟩
  show (if s.c b i = q then 0 else s.c b i) = s.c b i
  split
  ·rename_i h
   rcases hn with h0 | h0
   ·exact h0.symm
   ·exact absurd (by rw [h]; simp) h0
  ·rfl
 ·obtain ⟨h1, h2⟩ := bY hx
  exact dP h1 (by show (if s.c b i = q then 0 else s.c b i) = 0; rw [if_pos h2])
theorem ZL {s : St} {n : Int} {K : Sl → HP} (q : Nat) (hq : q < 2305843009213693952 + 1152921504606846976 * s.H.size) (h0 : 0 ≤ n ∧ n ≤ 281474976710656)
  (hK : ∀ s' sl l, Step [] s s' → s'.H.size = s.H.size + 1 → bz tV (s'.w 0) (s'.w q) l sl → l.length = n.toNat → K sl s'.H) : BW n K s.H := by
 refine ⟨h0, fun cap ty cs hc hl => ?_⟩
 refine pZ (K := fun b => K ⟨some (af b), n.toNat, cap⟩) (lo := 0) (hi := 0) (fun _ => q) (fun _ => hq) (fun i _ => by simp) fun s' b hn => ?_
 refine hK s' _ ((cs.map (Value.int .u8)).take n.toNat) hn.step hn.sz ⟨by simp; omega, hc, fun h => (by cases h), fun a ha => ?_⟩ (by simp; omega)
 simp at ha; subst ha
 refine ⟨fun _ => rfl, fun j x hj => ⟨[x], ⟨rfl, ?_⟩, fun i v hi => ?_⟩⟩
 ·rw [List.getElem?_take] at hj
  split at hj
  ·rw [List.getElem?_map, Option.map_eq_some_iff] at hj
   obtain ⟨y, _, rfl⟩ := hj
   rfl
  ·cases hj
 ·have e : i = 0 := by cases i with
   | zero => rfl
   | succ i => simp at hi
  subst e
  simp at hi; subst hi
  refine dP ?_ (hn.col _)
  simp only [tV, Nat.zero_add, Nat.mul_one, Nat.add_zero]
  rw [hn.here]
  rw [List.getElem?_take] at hj
  split at hj
  ·rw [hj]; rfl
  ·cases hj
theorem bz.bytes {V W : View} {l : List UInt8} {sl : Sl} (h : bz tV V W (l.map fun c => Value.int .u8 c.toNat) sl) : bz bf V W l sl :=
 ⟨by have := h.len; simpa using this, h.cap, h.nil, fun a ha => ⟨(h.at_ a ha).1, fun j x hj => by
  obtain ⟨ws, ⟨rfl, _⟩, w2⟩ := (h.at_ a ha).2 j (.int .u8 x.toNat) (by rw [List.getElem?_map, hj]; rfl)
  exact ⟨_, rfl, w2⟩⟩⟩
theorem bz.vals {V W : View} {l : List UInt8} {sl : Sl} (h : bz bf V W l sl) : bz tV V W (l.map fun c => Value.int .u8 c.toNat) sl :=
 ⟨by have := h.len; simpa using this, h.cap, h.nil, fun a ha => ⟨(h.at_ a ha).1, fun j x hj => by
  rw [List.getElem?_map, Option.map_eq_some_iff] at hj
  obtain ⟨y, hy, rfl⟩ := hj
  obtain ⟨ws, w1, w2⟩ := (h.at_ a ha).2 j y hy
  exact ⟨ws, ⟨w1, rfl⟩, w2⟩⟩⟩
theorem adt {n : Int} {K : Int → Int → HP} {H : aP} (hn : n = 3 ∨ n = 8) (hK : K 0 n H) : tW (wr .u64 ((1 : Nat) : Int)) (wr .u64 n) K H := by
 unfold tW yD
 refine ⟨by decide, ⟨by decide, ⟨by decide, ⟨by decide, ⟨by decide, ?_⟩⟩⟩⟩⟩
 rcases hn with rfl | rfl
 ·exact hK
 ·exact hK
theorem zY {α : Type} {t : Ty α} {s s' : St} {q i c : Nat} {l r : List α} {sl sub : Sl} {b o : Nat} (h : bz t (s.w 0) (s.w q) l sl) (ha : sl.a = some ⟨b, o, none⟩) (hst : Step [q] s s')
  (hs : bz t (s'.w 0) (s'.w q) r sub) (hsa : sub.a = some ⟨b, o + i * t.n, none⟩) (hr : i + r.length = l.length) (hc : c ≤ r.length)
  (hold : ∀ x j, ¬(x = b ∧ o + i * t.n ≤ j ∧ j < o + i * t.n + c * t.n) → s'.c x j = s.c x j ∧ pk s'.H x j = pk s.H x j) : bz t (s'.w 0) (s'.w q) (l.take i ++ r) sl := by
 refine ⟨by rw [h.len]; simp; omega, h.cap, h.nil, fun a ha' => ?_⟩
 rw [ha] at ha'; simp at ha'; subst ha'
 refine ⟨fun _ => rfl, fun j y hj => ?_⟩
 simp only
 have hil : (l.take i).length = i := by simp; omega
 by_cases ej : j < i
 ·rw [List.getElem?_append_left (by omega), List.getElem?_take_of_lt ej] at hj
  obtain ⟨ws, w1, w2⟩ := (h.at_ _ ha).2 j y hj
  have hwl := t.len w1
  refine ⟨ws, t.mono hst.v0 w1, fun a v hav => ?_⟩
  have hlt := (List.getElem?_eq_some_iff.1 hav).1
  have hu := w2 a v hav
  have hcj : (j + 1) * t.n ≤ i * t.n := Nat.mul_le_mul_right _ (by omega)
  rw [Nat.add_mul] at hcj
  have := hold b (o + j * t.n + a) (fun ⟨_, h1, h2⟩ => by omega)
  exact dP (this.2.trans (bY hu).1) (this.1.trans (bY hu).2)
 ·rw [List.getElem?_append_right (by omega), hil] at hj
  have := (hs.at_ _ hsa).2 (j - i) y hj
  simp only at this
  have e2 : o + i * t.n + (j - i) * t.n = o + j * t.n := by
   rw [Nat.sub_mul]
   have : i * t.n ≤ j * t.n := Nat.mul_le_mul_right _ (by omega)
   omega
  rwa [e2] at this
theorem uk {α : Type} {t : Ty α} {V W : View} {l : List α} {sl : Sl} {size : Nat} {lo hi mx : Int} {b o : Nat} {K : Sl → HP} {H : aP} (h : bz t V W l sl) (ha : sl.a = some ⟨b, o, none⟩) (h0 : 0 ≤ lo) (h1 : lo ≤ hi) (h2 : hi ≤ l.length) (h3 : hi ≤ mx) (h4 : mx ≤ sl.cap) (h5 : lo < mx)
  (hK : ∀ sl', bz t V W ((l.take hi.toNat).drop lo.toNat) sl' → sl'.cap = mx.toNat - lo.toNat → sl'.a = some ⟨b, o + lo.toNat * t.n, none⟩ → K sl' H) (hn : size = t.n := by rfl) : eY sl size lo hi mx K H := by
 subst hn
 refine lY (K := fun sl' H => sl'.a = some ⟨b, o + lo.toNat * t.n, none⟩ → K sl' H) h h0 h1 h2 h3 h4 (fun sl' g1 g2 g3 => hK sl' g1 g2 g3) |> fun hh => ⟨hh.1, hh.2 ?_⟩
 simp only
 rw [if_neg (by omega), ha]
 simp [dK]
theorem Yu {s : St} {c : UInt8} {sl : Sl} {n : Int} {kx q : Nat} {K : Sl → HP} (h : bz bf (s.w 0) (s.w kx) [c] sl) (hq : q < 2305843009213693952 + 1152921504606846976 * s.H.size) (hq0 : q ≠ 0) (hkx : kx ≠ q) (hn : n = 3 ∨ n = 8)
  (hK : ∀ s' r, Step [q] s s' → bz bf (s'.w 0) (s'.w q) (List.replicate n.toNat c) r → K r s'.H) : sS sl n K s.H := by
 have hl1 : sl.len = 1 := h.len
 unfold sS
 refine aN (fun h => by omega) (fun _ => ?_)
 refine aN (fun h => by omega) (fun _ => ?_)
 rw [hl1]
 refine adt hn ?_
 rw [decide_eq_false (show ¬(0 : Int) < 0 by omega)]
 refine bt ?_
 rw [decide_eq_false (show ¬(9223372036854775807 : Int) < n by omega)]
 unfold CB
 refine bt ?_
 refine aN (fun h => by omega) (fun _ => ?_)
 rw [aY (by omega) (by omega)]
 refine aN (fun h => by omega) (fun _ => ?_)
 unfold vK
 refine ZL q hq (by omega) fun s1 t54 l e1 z1 b1 hl => ?_
 obtain ⟨b, o, ha⟩ := Ls.lt b1 (j := 0) (by omega)
 have hcap := b1.cap
 have hlen := b1.len
 refine uk b1 ha (by omega) (by omega) (by omega) (by omega) (by omega) (by omega) fun t57 b2 c2 a2 => ?_
 have e0 : o + (0 : Int).toNat * tV.n = o := by simp
 rw [e0] at a2
 have hN : ∃ N : Nat, n = N ∧ (N = 3 ∨ N = 8) := ⟨n.toNat, by omega, by omega⟩
 obtain ⟨N, rfl, hN⟩ := hN
 simp only [Int.toNat_natCast, Int.toNat_zero, List.drop_zero] at b2 c2 hl hK
 rw [List.take_of_length_le (by omega)] at b2
 have hv : bz tV (s1.w 0) (s1.w kx) [Value.int .u8 c.toNat] sl := bz.vals (h.mono e1.v0 (e1.view (by simp)))
 refine Np b2 hv hq0 fun s2 e2 z2 b3 _ => ?_
 have hm : min [Value.int .u8 c.toNat].length l.length = 1 := by simp; omega
 rw [hm] at b3 ⊢
 refine cD (ι := Nat × List Value) (fun x => [.int .i64 x.1]) (fun x s' => 1 ≤ x.1 ∧ x.1 ≤ N ∧ Step [q] s s' ∧ bz tV (s'.w 0) (s'.w q) x.2 t57 ∧ x.2.length = N ∧ x.2.take x.1 = List.replicate x.1 (Value.int .u8 c.toNat)) (fun x _ => N - x.1) (1, _) rfl
  ⟨Nat.le_refl _, by omega, e1.n.trans e2, b3, by simp; omega, by simp⟩ ?_
 rintro ⟨i, r⟩ s3 ⟨hi1, hi, e3, b4, hrl, hrt⟩ G hG
 simp only [List.getD_cons_zero, List.getD_cons_succ, cI, cN, cK, cH, cJ, cO]
 simp only at hi1 hi b4 hrl hrt
 have h57 := b4.len
 refine aN (fun hlt => ?_) (fun hlt => ?_)
 ·refine uk b4 a2 (by omega) (by omega) (by omega) (by omega) (by omega) (by omega) fun t70 b70 c70 a70 => ?_
  refine uk b4 a2 (by omega) (by split <;> omega) (by split <;> omega) (by split <;> omega) (by omega) (by omega) fun t73 b73 c73 a73 => ?_
  have hmin : (if (N : Int) < (i : Int) then (N : Int) else i) = (i : Int) := by rw [if_neg (by omega)]
  rw [hmin] at b73
  simp only [Int.toNat_natCast, Int.toNat_zero, List.drop_zero] at b70 b73 a70
  rw [List.take_of_length_le (by omega)] at b70
  rw [hrt] at b73
  refine Np b70 b73 hq0 fun s4 e4 z4 b5 f5 => ?_
  have hml : min (List.replicate i (Value.int .u8 c.toNat)).length (r.drop i).length = min i (N - i) := by simp [hrl]
  rw [hml] at b5 f5 ⊢
  have hp := zY b4 a2 e4 b5 a70 (by simp <;> omega) (c := min i (N - i)) (by simp <;> omega) (fun x j hx => f5 _ a70 x j (by simpa using hx))
  rw [aY (by omega) (by omega)]
  have := hG (i + min i (N - i), r.take i ++ ((List.replicate i (Value.int .u8 c.toNat)).take (min i (N - i)) ++ (r.drop i).drop (min i (N - i)))) s4 ⟨by simp only; omega, by simp only; omega, e3.trans e4, hp, by simp; omega, ?_⟩ (by simp only; omega)
  ·exact this
  ·simp only
   rw [hrt, List.take_replicate, ← List.append_assoc, List.replicate_append_replicate]
   rw [List.take_append_of_le_length (by simp <;> omega), List.take_replicate]
   congr 1; omega
 ·have : i = N := by omega
  subst this
  rw [List.take_of_length_le (by omega)] at hrt
  subst hrt
  refine hK s3 t57 e3 (bz.bytes ?_)
  simpa using b4
theorem Iu {n : Nat} : ∀ (j d : Nat), n / 10 ^ j = 0 → low n (j + d) = List.replicate d 48 ++ low n j
 | j, 0, h => by simp
 | j, d + 1, h => by
  have e : n / 10 ^ (j + d) = 0 := by rw [Nat.pow_add, ← Nat.div_div_eq_div_mul, h, Nat.zero_div]
  rw [show j + (d + 1) = j + d + 1 by omega, low, e, Iu j d h, List.replicate_succ]
  rfl
theorem Fp {s : St} {n : Nat} {w : Nat} {K : ByteArray → HP} (hn : n < 9223372036854775808) (hw : w = 3 ∨ w = 8) (hK : ∀ s', Step [] s s' → K (ba (low n w)) s'.H) : oO n w K s.H := by
 have hq0 : own s ≠ 0 := by unfold own; omega
 unfold oO
 refine bZ fun s1 b1 n1 a1 => ?_
 have e1 := n1.step
 have hz := n1.sz
 have h1 : bz bf (s1.w 0) (s1.w 0) [(48 : UInt8)] ⟨some (af b1), 1, 1⟩ := Ls.single rfl a1
 refine Yu (q := own s) h1 (by unfold own; omega) hq0 (by omega) (by omega) fun s2 r e2 b2 => ?_
 rw [Int.toNat_natCast] at b2
 have hrl := b2.len
 rw [List.length_replicate] at hrl
 refine cD (ι := Nat) (fun j => [.int .i64 ((n / 10 ^ j : Nat) : Int), .int .i64 ((w : Int) - 1 - j)]) (fun j s' => j ≤ w ∧ Step [own s] s s' ∧ bz bf (s'.w 0) (s'.w (own s)) (List.replicate (w - j) 48 ++ low n j) r) (fun j _ => w - j) 0
  (by rw [aY (by omega) (by omega)]; simp) ⟨Nat.zero_le _, e1.n.trans e2, by simpa [low] using b2⟩ ?_
 rintro j s3 ⟨hj, e3, b3⟩ G hG
 simp only [List.getD_cons_zero, List.getD_cons_succ, cI, cN, cK, cH, cJ, cO]
 have fin : low n w = List.replicate (w - j) 48 ++ low n j → rV (n / 10 ^ j : Nat) r ((w : Int) - 1 - j) false K G s3.H := fun he => by
  unfold rV
  refine bt ?_
  refine k8 b3 ?_
  rw [← he]
  exact hK s3 e3.loc
 have hp : n / 10 ^ (j + 1) = n / 10 ^ j / 10 := by rw [Nat.pow_succ, ← Nat.div_div_eq_div_mul]
 have hqn : n / 10 ^ j ≤ n := Nat.div_le_self _ _
 refine aN (fun hpos => ?_) (fun hpos => ?_)
 ·by_cases h0 : (0 : Int) ≤ (w : Int) - 1 - j
  ·rw [decide_eq_true h0]
   have hG' := hG (j + 1)
   simp only [low] at hG'
   rw [hp] at hG'
   clear fin
   generalize n / 10 ^ j = q at *
   unfold rV
   refine bH ?_
   refine ⟨by decide, ?_⟩
   have hm : Int.tmod (q : Int) 10 = ((q % 10 : Nat) : Int) := by
    rw [Int.tmod_eq_emod_of_nonneg (by omega)]; omega
   have hd : Int.tdiv (q : Int) 10 = ((q / 10 : Nat) : Int) := by
    rw [Int.tdiv_eq_ediv_of_nonneg (by omega)]; omega
   rw [hm, hd, aY (n := 48 + ((q % 10 : Nat) : Int)) (by omega) (by omega), ME (by omega) (by omega)]
   have hll : (List.replicate (w - j) (48 : UInt8) ++ low n j).length = w := by simp [kO]; omega
   refine vA b3 h0 (by rw [hll]; omega) fun b o x ha hx _ => ?_
   refine BX (x := digit q) b3 ha (by rw [hll]; omega) (by show [_] = [_]; rw [zy]; rfl) hq0 (by decide) fun s4 e4 z4 b4 => ?_
   refine ⟨by decide, ?_⟩
   rw [aY (by omega) (by omega), aY (by omega) (by omega)]
   have := hG' s4 ⟨by omega, e3.trans e4, ?_⟩ (by omega)
   ·rw [show (w : Int) - 1 - j - 1 = (w : Int) - 1 - (j + 1 : Nat) by omega]
    exact this
   ·have e1 : (List.replicate (w - j) (48 : UInt8) ++ low n j).set ((w : Int) - 1 - j).toNat (digit q) = List.replicate (w - (j + 1)) 48 ++ digit q :: low n j := by
     rw [show ((w : Int) - 1 - j).toNat = w - j - 1 by omega]
     rw [show w - j = (w - (j + 1)) + 1 by omega, List.replicate_succ', List.append_assoc]
     rw [List.set_append_right _ _ (by simp)]
     simp
    rw [e1] at b4
    exact b4
  ·rw [decide_eq_false h0]
   exact fin (by rw [show w - j = 0 by omega, show w = j by omega]; rfl)
 ·have h0 : n / 10 ^ j = 0 := by
   clear fin hG hp hqn
   generalize n / 10 ^ j = q at hpos ⊢
   omega
  refine fin ?_
  have := Iu j (w - j) h0
  rwa [show j + (w - j) = w by omega] at this
end Go.Ph
end
section
set_option linter.all false
namespace Go.Ph
open S
def front (u : Nat) : List UInt8 := 99 :: (low u 3 ++ [45])
def cname (u q : Nat) : List UInt8 := front u ++ low q 8
def aT (u q : Int) : ByteArray := if 1 ≤ u ∧ u ≤ 999 ∧ 1 ≤ q ∧ q ≤ 99999999 then ba (cname u.toNat q.toNat) else ⟨#[]⟩
theorem lE (u : Nat) : (front u).length = 5 := by simp [front, kO]
theorem uL (u q : Nat) : (cname u q).length = 13 := by simp [cname, lE, kO]
theorem yE {s : St} {u : Nat} {K : ByteArray → HP} (hu : u < 9223372036854775808) (hK : ∀ s', Step [] s s' → K (ba (front u)) s'.H) : mz u K s.H := by
 unfold mz
 refine Fp hu (.inl rfl) fun s1 e1 => ?_
 refine vO (by rw [iL, kO]; show 1 + 3 ≤ _; omega) ?_
 have h1 : (⟨#[99]⟩ : ByteArray) ++ ba (low u 3) = ba (99 :: low u 3) := DS [99] _
 rw [h1]
 refine vO (by rw [iL, List.length_cons, kO]; show 4 + 1 ≤ _; omega) ?_
 have h2 : ba (99 :: low u 3) ++ (⟨#[45]⟩ : ByteArray) = ba (front u) := DS _ [45]
 rw [h2]
 exact hK s1 e1
theorem lq {s : St} {u q : Int} {K : ByteArray → HP} (hK : ∀ s', Step [] s s' → K (aT u q) s'.H) : gO u q K s.H := by
 unfold gO qu xY
 have bad : ¬(1 ≤ u ∧ u ≤ 999 ∧ 1 ≤ q ∧ q ≤ 99999999) → nK u q true K s.H := fun h => by
  unfold nK
  refine bH ?_
  have := hK s Step.refl
  rwa [aT, if_neg h] at this
 have seq : 1 ≤ u → u ≤ 999 → (bif decide ((1 : Int) ≤ q) then (fun t10 => nK u q (!t10) K) (decide (q ≤ 99999999)) else (fun t10 => nK u q (!t10) K) false) s.H := fun h1 h2 => by
  refine aN (fun h3 => ?_) (fun h3 => ?_)
  ·by_cases h4 : q ≤ 99999999
   ·simp only [decide_eq_true h4, Bool.not_true]
    unfold nK
    refine bt ?_
    obtain ⟨u, rfl⟩ := Int.eq_ofNat_of_zero_le (show 0 ≤ u by omega)
    obtain ⟨q, rfl⟩ := Int.eq_ofNat_of_zero_le (show 0 ≤ q by omega)
    refine yE (by omega) fun s1 e1 => ?_
    refine Fp (by omega) (.inr rfl) fun s2 e2 => ?_
    refine vO (by rw [iL, iL, lE, kO]; decide) ?_
    rw [DS]
    have := hK s2 (e1.trans e2)
    rwa [aT, if_pos ⟨h1, h2, h3, h4⟩] at this
   ·simp only [decide_eq_false h4, Bool.not_false]
    exact bad fun h => h4 h.2.2.2
  ·simp only [Bool.not_false]
   exact bad fun h => h3 h.2.2.1
 refine aN (fun h1 => ?_) (fun h1 => ?_)
 ·by_cases h2 : u ≤ 999
  ·simp only [decide_eq_true h2, Bool.not_true]
   exact bt (seq h1 h2)
  ·simp only [decide_eq_false h2, Bool.not_false]
   exact bH (bad fun h => h2 h.2.1)
 ·simp only [Bool.not_false]
  exact bH (bad fun h => h1 h.1)
end Go.Ph
end
section
set_option linter.all false
namespace Go.Ph
open S
def dZ (c : UInt8) : Bool := decide (48 ≤ c.toNat) && decide (c.toNat ≤ 57)
def num : List UInt8 → Nat := fun l => l.foldl (fun n c => 10 * n + (c.toNat - 48)) 0
theorem zC (l : List UInt8) (c : UInt8) : num (l ++ [c]) = 10 * num l + (c.toNat - 48) := by simp [num]
theorem qg {α : Type} {P : List α → Prop} (h0 : P []) (h1 : ∀ l c, P l → P (l ++ [c])) (l : List α) : P l := by
 have : ∀ r : List α, P r.reverse := fun r => by
  induction r with
  | nil => exact h0
  | cons c r ih => rw [List.reverse_cons]; exact h1 _ _ ih
 have := this l.reverse
 rwa [List.reverse_reverse] at this
theorem qI (l : List UInt8) : (∀ c ∈ l, dZ c = true) → num l < 10 ^ l.length := by
 refine qg (P := fun l => (∀ c ∈ l, dZ c = true) → num l < 10 ^ l.length) (fun _ => by decide) (fun l c ih h => ?_) l
 have h1 := ih fun c hc => h c (by simp [hc])
 have h2 := h c (by simp)
 rw [zC, List.length_append, List.length_singleton, Nat.pow_succ]
 simp [dZ] at h2
 omega
theorem Xu (l : List UInt8) : ∀ a : Nat, l.foldl (fun n c => 10 * n + (c.toNat - 48)) a = a * 10 ^ l.length + num l := by
 refine qg (P := fun l => ∀ a : Nat, l.foldl (fun n c => 10 * n + (c.toNat - 48)) a = a * 10 ^ l.length + num l) (fun a => by simp [num]) (fun l c ih a => ?_) l
 rw [List.foldl_append, List.foldl_cons, List.foldl_nil, ih a, zC, List.length_append, List.length_singleton, Nat.pow_succ, Nat.mul_add, ← Nat.mul_assoc a, Nat.mul_comm (a * 10 ^ l.length) 10]
 omega
theorem vZ (c : UInt8) (r : List UInt8) : num (c :: r) = (c.toNat - 48) * 10 ^ r.length + num r := by
 have := Xu r (10 * 0 + (c.toNat - 48))
 simpa [num] using this
theorem Ji (n : Nat) : ∀ i m, n % 10 ^ i = m % 10 ^ i → low n i = low m i
 | 0, m, h => rfl
 | i + 1, m, h => by
  have h1 : n % 10 ^ i = m % 10 ^ i := by
   have := congrArg (· % 10 ^ i) h
   simp only [Nat.pow_succ] at this
   rwa [Nat.mod_mul_right_mod, Nat.mod_mul_right_mod] at this
  have h2 : n / 10 ^ i % 10 = m / 10 ^ i % 10 := by
   have := congrArg (· / 10 ^ i) h
   simp only [Nat.pow_succ] at this
   rwa [Nat.mod_mul_right_div_self, Nat.mod_mul_right_div_self] at this
  simp only [low]
  rw [Ji n i m h1]
  congr 1
  unfold digit
  rw [h2]
theorem BM : ∀ (l : List UInt8), (∀ c ∈ l, dZ c = true) → low (num l) l.length = l
 | [], h => rfl
 | c :: r, h => by
  have hr : ∀ c ∈ r, dZ c = true := fun c hc => h c (by simp [hc])
  have hc := h c (by simp)
  have h1 := qI r hr
  have h2 := BM r hr
  simp only [List.length_cons, low]
  rw [vZ]
  have e1 : ((c.toNat - 48) * 10 ^ r.length + num r) / 10 ^ r.length = c.toNat - 48 := by
   rw [Nat.mul_comm, Nat.mul_add_div (Nat.pow_pos (by decide)), Nat.div_eq_of_lt h1]; omega
  have e2 : low ((c.toNat - 48) * 10 ^ r.length + num r) r.length = low (num r) r.length := Ji _ _ _ (by rw [Nat.mul_comm, Nat.mul_add_mod])
  rw [e1, e2, h2]
  congr 1
  unfold digit
  simp [dZ] at hc
  rw [show 48 + (c.toNat - 48) % 10 = c.toNat by omega]
  simp
theorem nr (a : ByteArray) (i j : Nat) : (a.extract i j).data.toList = (a.data.toList.drop i).take (j - i) := by simp
theorem vP (s p : ByteArray) : R.pre s p = decide (p.data.toList <+: s.data.toList) := by
 unfold R.pre
 rw [Bool.eq_iff_iff]
 simp only [Bool.and_eq_true, decide_eq_true_eq]
 constructor
 ·rintro ⟨h1, h2⟩
  have : (s.extract 0 p.size).data.toList = p.data.toList := by rw [h2]
  rw [nr, Nat.sub_zero, List.drop_zero] at this
  rw [← this]
  exact List.take_prefix _ _
 ·rintro ⟨r, hr⟩
  have hl := congrArg List.length hr
  rw [List.length_append, dw, dw] at hl
  refine ⟨by omega, mM ?_⟩
  rw [nr, Nat.sub_zero, List.drop_zero, ← hr]
  rw [List.take_append_of_le_length (by rw [dw]; exact Nat.le_refl _), List.take_of_length_le (by rw [dw]; exact Nat.le_refl _)]
def gN (r : List UInt8) : Int := if r.length = 8 ∧ r.all dZ = true then num r else 0
theorem gZ (l : List UInt8) : (ba l).data.toList = l := by simp [ba]
theorem Si (b : ByteArray) : ba b.data.toList = b := by apply mM; simp [ba]
theorem Gl {r : List UInt8} {i : Nat} {c : UInt8} (h : r[i]? = some c) : num (r.take (i + 1)) = 10 * num (r.take i) + (c.toNat - 48) := by
 rw [List.take_succ, h]; simp [zC]
theorem ZH {r : List UInt8} {i : Nat} {c : UInt8} (h : r[i]? = some c) (ha : ∀ x ∈ r.take i, dZ x = true) (hc : dZ c = true) : ∀ x ∈ r.take (i + 1), dZ x = true := by
 rw [List.take_succ, h]; intro x hx; simp at hx
 rcases hx with hx | hx
 ·exact ha x hx
 ·rw [hx]; exact hc
theorem Ye {u : Nat} {r : List UInt8} (hu : 1 ≤ u ∧ u ≤ 999) (ha : ∀ x ∈ r, dZ x = true) : (if aT u (num r) = ba (front u ++ r) then (num r : Int) else 0) = gN r := by
 have hal : r.all dZ = true := List.all_eq_true.2 ha
 have hlt := qI r ha
 unfold gN aT
 by_cases h8 : r.length = 8
 ·rw [if_pos (And.intro h8 hal)]
  rw [h8] at hlt
  by_cases h0 : num r = 0
  ·rw [h0]; simp
  ·rw [if_pos (c := _ ∧ _) ⟨by omega, by omega, by omega, by omega⟩]
   have := BM r ha
   rw [h8] at this
   rw [if_pos]
   simp only [cname, Int.toNat_natCast, this]
 ·rw [if_neg (c := r.length = 8 ∧ _) (fun h => h8 h.1)]
  rw [if_neg]
  intro h
  have hz := congrArg ByteArray.size h
  rw [iL, List.length_append, lE] at hz
  split at hz
  ·rw [iL, uL] at hz; omega
  ·have : (⟨#[]⟩ : ByteArray).size = 0 := rfl
   omega
theorem ad7 {s : St} {u : Nat} {r : List UInt8} {K : Int → HP} (hu : 1 ≤ u ∧ u ≤ 999) (hr : r.length ≤ 1000000000000)
  (hK : ∀ s', Step [] s s' → K (gN r) s'.H) : pJ u (ba (front u ++ r)) K s.H := by
 unfold pJ
 refine yE (by omega) fun s1 e1 => ?_
 have hp : R.pre (ba (front u ++ r)) (ba (front u)) = true := by rw [vP, gZ, gZ]; exact decide_eq_true (List.prefix_append _ _)
 unfold yF xq
 refine yQ (H := s1.H) (K := fun t7 => bif t7 then _ else _) ?_
 rw [hp]
 refine bH (vv (by rw [iL, iL, lE, List.length_append, lE]; omega) ?_)
 have hx : (ba (front u ++ r)).extract (((ba (front u)).size : Int)).toNat (((ba (front u ++ r)).size : Int)).toNat = ba r := by
  apply mM
  rw [nr, gZ, gZ, iL, iL, Int.toNat_natCast, Int.toNat_natCast, List.drop_left, List.length_append]
  exact List.take_of_length_le (by omega)
 rw [hx]
 refine Hx 0 (by omega) fun s2 sl e2 z2 hb => ?_
 rw [gZ] at hb
 have hls : Ls bf (s2.w 0) r sl := hb.1
 have hlen := hls.len
 refine cD (fun i : Nat => [.int .i64 (num (r.take i) : Nat), .int .i64 i]) (fun i s' => i ≤ r.length ∧ Step [] s s' ∧ Ls bf (s'.w 0) r sl ∧ (∀ x ∈ r.take i, dZ x = true) ∧ num (r.take i) ≤ 1000000009) (fun i _ => r.length - i) 0 (by simp [num]) ⟨Nat.zero_le _, e1.trans e2, hls, by simp, by simp [num]⟩ ?_
 rintro i s3 ⟨hi, e3, l3, ha, hn⟩ G hG
 simp only [List.getD_cons_zero, List.getD_cons_succ, cI, cN, cK, cH, cJ, cO]
 have bad : gN r = 0 → qj u (ba (front u ++ r)) (num (r.take i)) 0 sl 0 i true K G s3.H := fun h => by
  unfold qj
  have := hK s3 e3
  rw [h] at this
  exact bH this
 refine aN (fun hlt => ?_) (fun hlt => ?_)
 ·have hlt' : i < r.length := by omega
  obtain ⟨c, hc⟩ : ∃ c, r[i]? = some c := ⟨_, List.getElem?_eq_getElem hlt'⟩
  have hcm : c ∈ r := List.mem_of_getElem? hc
  refine bU l3 (by omega) (by omega) fun b o x hx hel => ?_
  have hxc : x = c := by rw [Int.toNat_natCast, hc] at hx; exact (Option.some.inj hx).symm
  subst hxc
  obtain ⟨vs, rfl, hat⟩ := hel
  refine iQ hat rfl ?_
  have nod : dZ x = false → gN r = 0 := fun h => by
   unfold gN
   rw [if_neg]
   rintro ⟨-, h2⟩
   rw [List.all_eq_true] at h2
   rw [h2 x hcm] at h
   cases h
  refine aN (fun h1 => ?_) (fun h1 => ?_)
  ·exact bad (nod (by simp [dZ]; omega))
  ·refine aN (fun h2 => ?_) (fun h2 => ?_)
   ·exact bad (nod (by simp [dZ]; omega))
   ·by_cases h3 : (99999999 : Int) < num (r.take i)
    ·rw [decide_eq_true h3]
     refine bad ?_
     have := qI (r.take i) ha
     unfold gN
     rw [if_neg]
     rintro ⟨h4, -⟩
     have hl : (r.take i).length ≤ 7 := by rw [List.length_take]; omega
     have : 10 ^ (r.take i).length ≤ 10 ^ 7 := Nat.pow_le_pow_right (by decide) hl
     omega
    ·rw [decide_eq_false h3]
     unfold qj
     refine bt ?_
     have h48 : wr .u8 ((x.toNat : Int) - 48) = ((x.toNat - 48 : Nat) : Int) := by rw [ME (by omega) (by omega)]; omega
     rw [h48, aY (n := ((x.toNat - 48 : Nat) : Int)) (by omega) (by omega), aY (n := 10 * _) (by omega) (by omega), aY (by omega) (by omega), aY (by omega) (by omega)]
     have hG' := hG (i + 1) s3 ⟨by omega, e3, l3, ZH hc ha (by simp [dZ]; omega), by rw [Gl hc]; omega⟩ (by omega)
     rw [Gl hc] at hG'
     exact hG'
 ·have : i = r.length := by omega
  subst this
  rw [List.take_of_length_le (Nat.le_refl _)] at *
  refine lq fun s4 e4 => ?_
  have := hK s4 (e3.trans e4)
  rw [← Ye hu ha] at this
  refine bK (fun h => ?_) (fun h => ?_)
  ·rwa [if_neg h] at this
  ·rwa [if_pos h] at this
def cz (u : Nat) (n : ByteArray) : Int := if R.pre n (ba (front u)) then (if n.size = 5 then 0 else gN (n.data.toList.drop 5)) else -1
end Go.Ph
end
section
set_option linter.all false
namespace Go.Ph
open S
def be (l : List UInt8) : Nat := l.foldl (fun n c => 256 * n + c.toNat) 0
theorem wq (l : List UInt8) (c : UInt8) : be (l ++ [c]) = 256 * be l + c.toNat := by simp [be]
theorem afE {r : List UInt8} {i : Nat} {c : UInt8} (h : r[i]? = some c) : be (r.take (i + 1)) = 256 * be (r.take i) + c.toNat := by
 rw [List.take_succ, h]; simp [wq]
theorem LD (l : List UInt8) : be l < 256 ^ l.length := by
 refine qg (P := fun l => be l < 256 ^ l.length) (by decide) (fun l c ih => ?_) l
 rw [wq, List.length_append, List.length_singleton, Nat.pow_succ]
 have := c.toNat_lt
 omega
theorem QN (i : Nat) (h : i ≤ 7) : 256 ^ i ≤ 72057594037927936 := Nat.pow_le_pow_right (n := 256) (by decide) h
theorem jm {n : Int} (h : 0 ≤ n) (h2 : n < 18446744073709551616) : wr .u64 n = n := by
 unfold wr IntKind.wrap
 simp [IntKind.bits, IntKind.signed]
 omega
theorem AX {n : Int} (h : 0 ≤ n) (h2 : n < 4294967296) : wr .u32 n = n := by
 unfold wr IntKind.wrap
 simp [IntKind.bits, IntKind.signed]
 omega
theorem S7 {n c : Nat} (hn : n < 72057594037927936) (hc : c < 256) : uO .u64 (xQ .u64 n 8) c = ((256 * n + c : Nat) : Int) := by
 unfold uO xQ
 have h1 : IntKind.wrap .u64 ((n : Int) * 2 ^ (min (8 : Int).toNat (IntKind.bits .u64))) = ((n * 256 : Nat) : Int) := by
  show IntKind.wrap .u64 ((n : Int) * 2 ^ 8) = _
  have : (n : Int) * 2 ^ 8 = ((n * 256 : Nat) : Int) := by omega
  rw [this]; exact jm (by omega) (by omega)
 rw [h1]
 have h2 : (BitVec.ofInt (IntKind.bits .u64) ((n * 256 : Nat) : Int) ||| BitVec.ofInt (IntKind.bits .u64) (c : Int)).toNat = 256 * n + c := by
  rw [BitVec.toNat_or, BitVec.ofInt_natCast, BitVec.ofInt_natCast, BitVec.toNat_ofNat, BitVec.toNat_ofNat]
  show (n * 256) % 2 ^ 64 ||| c % 2 ^ 64 = _
  rw [Nat.mod_eq_of_lt (by omega), Nat.mod_eq_of_lt (by omega)]
  have := Nat.shiftLeft_add_eq_or_of_lt (a := n) (b := c) (i := 8) (by omega)
  rw [Nat.shiftLeft_eq, show (2:Nat) ^ 8 = 256 from rfl] at this
  omega
 rw [h2]
 exact jm (by omega) (by omega)
def eV (l : List UInt8) (at_ k : Int) : Int := if 1 ≤ k ∧ k ≤ 8 ∧ 0 ≤ at_ ∧ at_ + k ≤ l.length then be ((l.drop at_.toNat).take k.toNat) else 0
def Kx (l : List UInt8) (at_ k : Int) : Bool := decide (1 ≤ k ∧ k ≤ 8 ∧ 0 ≤ at_ ∧ at_ + k ≤ l.length)
theorem JZ (l : List UInt8) (a k : Int) : 0 ≤ eV l a k ∧ eV l a k < 18446744073709551616 := by
 unfold eV
 split
 ·have := LD ((l.drop a.toNat).take k.toNat)
  have h2 : ((l.drop a.toNat).take k.toNat).length ≤ 8 := by rw [List.length_take]; omega
  have : 256 ^ ((l.drop a.toNat).take k.toNat).length ≤ 256 ^ 8 := Nat.pow_le_pow_right (by decide) h2
  omega
 ·omega
theorem yN {s : St} {k0 : Nat} {l : List UInt8} {sl : Sl} {a k : Int} {K : Int → Bool → HP} (h : bz bf (s.w 0) (s.w k0) l sl) (hl : l.length ≤ 9000000000000000000) (hk : -100 ≤ a ∧ a < 9223372036854775808)
  (hK : K (eV l a k) (Kx l a k) s.H) : nW sl a k K s.H := by
 unfold nW lU
 have hlen := h.len
 have hcap := h.cap
 unfold eV Kx at hK
 have bad : ¬(1 ≤ k ∧ k ≤ 8 ∧ 0 ≤ a ∧ a + k ≤ l.length) → oC sl a k true K s.H := fun hn => by
  unfold oC
  rw [if_neg hn, decide_eq_false hn] at hK
  exact bH hK
 refine aN (fun h1 => ?_) (fun h1 => bH (bad (by omega)))
 refine bK (fun h2 => ?_) (fun h2 => ?_)
 ·exact bad (by omega)
 refine aN (fun h3 => ?_) (fun h3 => ?_)
 ·exact bad (by omega)
 refine aN (fun h4 => ?_) (fun h4 => ?_)
 ·exact bad (by omega)
 rw [aY (n := (sl.len : Nat) - a) (by omega) (by omega)]
 by_cases h5 : ((sl.len : Nat) : Int) - a < k
 ·rw [decide_eq_true h5]
  exact bad (by omega)
 rw [decide_eq_false h5]
 rw [if_pos (by omega), decide_eq_true (by omega)] at hK
 unfold oC
 refine bt ?_
 rw [aY (n := a + k) (by omega) (by omega)]
 refine lY h (by omega) (by omega) (by omega) (by omega) (by omega) fun sl' hs hc => ?_
 have hrr : (l.take (a + k).toNat).drop a.toNat = (l.drop a.toNat).take k.toNat := by rw [List.drop_take]; congr 1; omega
 rw [hrr] at hs
 generalize hr : (l.drop a.toNat).take k.toNat = r at *
 have hrl : r.length = k.toNat := by rw [← hr, List.length_take, List.length_drop]; omega
 have hsl := hs.len
 refine cD (fun i : Nat => [.int .u64 (be (r.take i) : Nat), .int .i64 i]) (fun i s' => i ≤ r.length ∧ s' = s) (fun i _ => r.length - i) 0 (by simp [be]) ⟨Nat.zero_le _, rfl⟩ ?_
 rintro i s3 ⟨hi, rfl⟩ G hG
 simp only [List.getD_cons_zero, List.getD_cons_succ, cI, cN, cK, cH, cJ, cO]
 refine aN (fun hlt => ?_) (fun hlt => ?_)
 ·refine bU hs (by omega) (by omega) fun b o x hx hel => ?_
  obtain ⟨vs, rfl, hat⟩ := hel
  refine iQ hat rfl ?_
  have hrx : r[i]? = some x := by rw [← hx]; congr 1
  have hb := LD (r.take i)
  have hp := QN (r.take i).length (by rw [List.length_take]; omega)
  have hxl := x.toNat_lt
  refine ⟨by decide, ?_⟩
  rw [jm (n := (x.toNat : Int)) (by omega) (by omega), S7 (by omega) (by omega), aY (by omega) (by omega)]
  have hG' := hG (i + 1) s3 ⟨by omega, rfl⟩ (by omega)
  rw [afE hrx] at hG'
  exact hG'
 ·have : i = r.length := by omega
  subst this
  rw [List.take_of_length_le (Nat.le_refl _)]
  exact hK
def iS (c : BitVec 32) : BitVec 32 := (c >>> 1) ^^^ (if c.getLsbD 0 then 3988292384#32 else 0#32)
def iq (c : BitVec 32) : BitVec 32 := iS (iS (iS (iS c)))
def LI (c : BitVec 32) : BitVec 32 := iq (iq c)
theorem abM (a b : BitVec 32) : iS (a ^^^ b) = iS a ^^^ iS b := by
 unfold iS
 rw [BitVec.ushiftRight_xor_distrib, BitVec.getLsbD_xor]
 cases a.getLsbD 0 <;> cases b.getLsbD 0 <;> simp [BitVec.xor_assoc]
 ·rw [BitVec.xor_comm]
 ·generalize a >>> 1 = x; generalize b >>> 1 = y
  rw [BitVec.xor_comm y, ← BitVec.xor_assoc (3988292384#32)]; simp
theorem YV (a b : BitVec 32) : iq (a ^^^ b) = iq a ^^^ iq b := by simp only [iq, abM]
theorem xL (c : BitVec 32) (i : Nat) (hi : i < 4) : iS ((c >>> 4) <<< (i + 1)) = (c >>> 4) <<< i := by
 unfold iS
 have h0 : ((c >>> 4) <<< (i + 1)).getLsbD 0 = false := by simp
 rw [h0]
 simp only [Bool.false_eq_true, if_false, BitVec.xor_zero]
 apply BitVec.eq_of_getLsbD_eq
 intro j hj
 simp only [BitVec.getLsbD_ushiftRight, BitVec.getLsbD_shiftLeft]
 by_cases h1 : j < i
 ·simp [h1, show 1 + j < i + 1 by omega]
 ·by_cases h2 : 1 + j < 32
  ·simp [h1, h2, hj, show ¬(1 + j < i + 1) by omega, show 4 + (1 + j - (i + 1)) = 4 + (j - i) by omega]
  ·have : j = 31 := by omega
   subst this
   simp [h1]
   have : c.getLsbD (4 + (31 - i)) = false := BitVec.getLsbD_of_ge _ _ (by omega)
   simpa using this
theorem aav (c : BitVec 32) : iq ((c >>> 4) <<< 4) = c >>> 4 := by
 unfold iq
 rw [xL c 3 (by decide), xL c 2 (by decide), xL c 1 (by decide), xL c 0 (by decide)]
 simp
theorem VA (c : BitVec 32) : c = ((c >>> 4) <<< 4) ^^^ (c &&& 15#32) := by
 apply BitVec.eq_of_getLsbD_eq
 intro j hj
 simp only [BitVec.getLsbD_xor, BitVec.getLsbD_shiftLeft, BitVec.getLsbD_ushiftRight, BitVec.getLsbD_and]
 by_cases h : j < 4
 ·have : (15#32).getLsbD j = true := by
   match j, h with
   | 0, _ => rfl
   | 1, _ => rfl
   | 2, _ => rfl
   | 3, _ => rfl
  simp [h, this]
 ·have : (15#32).getLsbD j = false := by
   obtain ⟨k, rfl⟩ := Nat.exists_eq_add_of_le (show 4 ≤ j by omega)
   unfold BitVec.getLsbD
   show Nat.testBit 15 (4 + k) = false
   apply Nat.testBit_lt_two_pow
   have : 2 ^ 4 ≤ 2 ^ (4 + k) := Nat.pow_le_pow_right (by decide) (by omega)
   omega
  rw [this]
  simp [h, hj, -BitVec.getLsbD_eq_getElem, show 4 + (j - 4) = j by omega]
theorem JU (c : BitVec 32) : iq c = iq (c &&& 15#32) ^^^ (c >>> 4) := by
 conv => lhs; rw [VA c, YV, aav]
 exact BitVec.xor_comm _ _
end Go.Ph
end
section
set_option linter.all false
namespace Go.Ph
open S
theorem tj (a : BitVec 32) : BitVec.ofInt (IntKind.bits .u32) (a.toNat : Int) = a := by
 show BitVec.ofInt 32 _ = a
 rw [BitVec.ofInt_natCast]; exact BitVec.ofNat_toNat .. |>.trans (by simp)
theorem eZ {s : St} {k b : Nat} {vs ws : List Value} {K : HP} (k' : Nat) (h : At (s.w k) b 0 vs) (hl : ws.length = vs.length) (hv : ∀ v ∈ ws, one v = true) (hk : k ≠ 0) (hk' : k' = k ∨ k' = 0)
  (hK : ∀ s' : St, Step [k] s s' → s'.H.size = s.H.size → At (s'.w k') b 0 ws → lu b s s' → K s'.H) : aq (af b) 0 ws K s.H := by
 cases hw : ws with
 | nil =>
  rw [hw] at hK
  exact hK s Step.refl rfl At.nil (fun _ _ _ => ⟨rfl, rfl⟩)
 | cons w0 wr0 =>
  rw [← hw]
  have hpos : 0 < vs.length := by rw [← hl, hw]; simp
  have h0 := h 0 _ (List.getElem?_eq_getElem hpos)
  have hc0 := s.wf b (0 + 0) (mq h0)
  rw [(bY h0).2] at hc0
  refine kJ (k := k) (k' := k') ws (fun j hj => ⟨_, by have := h j _ (List.getElem?_eq_getElem (by omega)); simpa using this⟩) hv (by rcases hk' with h | h <;> omega) hk fun s2 h2 => ?_
  refine hK s2 (h2.step (q := k) (by simp) hk fun i hi => by
   have := h i _ (List.getElem?_eq_getElem (by omega))
   have := (bY this).2
   simpa using this) h2.sz (by have := h2.here; simpa using this) (fun x i hx => h2.old x i (fun ⟨q, _⟩ => hx q))
theorem vf (a : BitVec 32) : IntKind.wrap .u32 (a.toNat : Int) = (a.toNat : Int) := AX (by omega) (by have := a.isLt; omega)
theorem qw (a b : BitVec 32) : gu .u32 (a.toNat : Int) (b.toNat : Int) = ((a ^^^ b).toNat : Int) := by
 unfold gu; rw [tj, tj]; exact vf (a ^^^ b)
theorem n32 (a : BitVec 32) : gM .u32 (a.toNat : Int) 15 = ((a &&& 15#32).toNat : Int) := by
 unfold gM; rw [tj]; exact vf (a &&& 15#32)
theorem R7 (a : BitVec 32) : gM .u32 (a.toNat : Int) 1 = ((a &&& 1#32).toNat : Int) := by
 unfold gM; rw [tj]; exact vf (a &&& 1#32)
theorem p32 (a : BitVec 32) : gu .u32 (a.toNat : Int) 3988292384 = ((a ^^^ 3988292384#32).toNat : Int) := by
 unfold gu; rw [tj]; exact vf (a ^^^ 3988292384#32)
theorem LR (a : BitVec 32) : eM .u32 (a.toNat : Int) 4 = ((a >>> 4).toNat : Int) := by
 unfold eM
 show Int.fdiv _ (2 ^ 4) = _
 rw [BitVec.toNat_ushiftRight, Nat.shiftRight_eq_div_pow, Int.fdiv_eq_ediv_of_nonneg _ (by decide)]; omega
theorem Ql (a : BitVec 32) : eM .u32 (a.toNat : Int) 1 = ((a >>> 1).toNat : Int) := by
 unfold eM
 show Int.fdiv _ (2 ^ 1) = _
 rw [BitVec.toNat_ushiftRight, Nat.shiftRight_eq_div_pow, Int.fdiv_eq_ediv_of_nonneg _ (by decide)]; omega
theorem DZ (a : BitVec 32) : gu .u32 (if IntKind.signed .u32 then -1 else IntKind.max .u32) (a.toNat : Int) = ((~~~a).toNat : Int) := by
 have : (if IntKind.signed .u32 then -1 else IntKind.max .u32) = (((4294967295#32 : BitVec 32).toNat : Nat) : Int) := by decide
 rw [this, qw]
 congr 2
def bx (x : UInt8) : BitVec 32 := BitVec.ofNat 32 x.toNat
theorem NI (x : UInt8) : wr .u32 (x.toNat : Int) = ((bx x).toNat : Int) := by
 have := x.toNat_lt
 rw [AX (by omega) (by omega)]; unfold bx; rw [BitVec.toNat_ofNat, Nat.mod_eq_of_lt (by omega)]
theorem afT (c : BitVec 32) : (iS c) = if c.toNat % 2 = 1 then (c >>> 1) ^^^ 3988292384#32 else c >>> 1 := by
 unfold iS
 have : c.getLsbD 0 = decide (c.toNat % 2 = 1) := by
  unfold BitVec.getLsbD; rw [Nat.testBit_zero]
 rw [this]
 by_cases h : c.toNat % 2 = 1 <;> simp [h]
def lN (c : BitVec 32) (l : List UInt8) : BitVec 32 := l.foldl (fun c x => LI (c ^^^ bx x)) c
def crc (c : BitVec 32) (l : List UInt8) : BitVec 32 := ~~~ (lN (~~~ c) l)
theorem aaM {r : List UInt8} {i : Nat} {x : UInt8} (h : r[i]? = some x) (c : BitVec 32) : lN c (r.take (i + 1)) = LI (lN c (r.take i) ^^^ bx x) := by
 rw [List.take_succ, h]; simp [lN, List.foldl_append]
theorem aaB (c : BitVec 32) (a b : List UInt8) : crc (crc c a) b = crc c (a ++ b) := by
 unfold crc lN
 rw [BitVec.not_not, List.foldl_append]
def nc (c : BitVec 32) : Nat → BitVec 32
 | 0 => c
 | n + 1 => iS (nc c n)
def gI : List Value := (List.range 16).map fun i => .int .u32 ((iq (BitVec.ofNat 32 i)).toNat : Nat)
theorem adU {s : St} {K : nA → HP}
  (hK : ∀ s' (t : nA), Step [] s s' → gI = [.int .u32 t.c0, .int .u32 t.c1, .int .u32 t.c2, .int .u32 t.c3, .int .u32 t.c4, .int .u32 t.c5, .int .u32 t.c6, .int .u32 t.c7, .int .u32 t.c8, .int .u32 t.c9, .int .u32 t.iF, .int .u32 t.xb, .int .u32 t.uX, .int .u32 t.wK, .int .u32 t.xB, .int .u32 t.nE] → K t s'.H) : rP K s.H := by
 unfold rP
 have hq0 : own s ≠ 0 := by unfold own; omega
 refine dm (own s) (by unfold own; omega) fun s1 b n1 a1 => ?_
 refine cD (fun i : Nat => [.int .i64 i]) (fun i s' => i ≤ 16 ∧ Step [own s] s s' ∧ s'.H.size = s1.H.size ∧ At (s'.w (own s)) b 0 (gI.take i ++ List.replicate (16 - i) (.int .u32 0))) (fun i _ => 16 - i) 0 rfl ⟨by decide, n1.step.n, rfl, a1⟩ ?_
 rintro i s2 ⟨hi, e2, z2, a2⟩ G hG
 simp only [List.getD_cons_zero, List.getD_cons_succ, cI, cN, cK, cH, cJ, cO]
 refine aN (fun hlt => ?_) (fun hlt => ?_)
 ·have hi' : wr .u32 (i : Int) = ((BitVec.ofNat 32 i).toNat : Int) := by rw [AX (by omega) (by omega), BitVec.toNat_ofNat, Nat.mod_eq_of_lt (by omega)]
  rw [hi']
  refine cD (fun j : Nat => [.int .u32 ((nc (BitVec.ofNat 32 i) j).toNat : Nat), .int .i64 j]) (fun j s' => j ≤ 4 ∧ s' = s2) (fun j _ => 4 - j) 0 rfl ⟨by decide, rfl⟩ ?_
  rintro j s4 ⟨hj, rfl⟩ G2 hG2
  simp only [List.getD_cons_zero, List.getD_cons_succ, cI, cN, cK, cH, cJ, cO]
  refine aN (fun hlt2 => ?_) (fun hlt2 => ?_)
  ·rw [R7, Ql, p32]
   unfold Dm
   rw [aY (by omega) (by omega)]
   have hG2' := hG2 (j + 1) s4 ⟨by omega, rfl⟩ (by omega)
   simp only [nc] at hG2'
   rw [afT] at hG2'
   have ha : (nc (BitVec.ofNat 32 i) j &&& 1#32).toNat = (nc (BitVec.ofNat 32 i) j).toNat % 2 := by
    rw [BitVec.toNat_and]; exact Nat.and_one_is_mod _
   rw [ha]
   refine aN (fun h => ?_) (fun h => ?_)
   ·refine ⟨by decide, ?_⟩
    rwa [if_pos (by omega)] at hG2'
   ·refine ⟨by decide, ?_⟩
    rwa [if_neg (by omega)] at hG2'
  ·have : j = 4 := by omega
   subst this
   refine ⟨by omega, by omega, ?_⟩
   rw [Int.toNat_natCast, Nat.mul_one]
   have hlen : (gI.take i ++ List.replicate (16 - i) (Value.int .u32 0)).length = 16 := by simp [gI]; omega
   have hT : gI[i]? = some (.int .u32 ((nc (BitVec.ofNat 32 i) 4).toNat : Nat)) := by
    unfold gI; rw [List.getElem?_map, List.getElem?_range (by omega)]; rfl
   refine cP a2 (by rw [hlen]; omega) rfl hq0 (fun s5 e5 z5 a5 _ => ?_)
   rw [aY (by omega) (by omega)]
   refine hG (i + 1) s5 ⟨by omega, e2.tr e5, by omega, ?_⟩ (by omega)
   have hs : (gI.take i ++ List.replicate (16 - i) (Value.int .u32 0)).set i (.int .u32 ((nc (BitVec.ofNat 32 i) 4).toNat : Nat)) = gI.take (i + 1) ++ List.replicate (16 - (i + 1)) (.int .u32 0) := by
    have ht : (gI.take i).length = i := by rw [List.length_take]; simp [gI]; omega
    rw [List.set_append_right _ _ (by omega), ht, Nat.sub_self, List.take_succ, hT]
    rw [show 16 - i = (16 - (i + 1)) + 1 by omega, List.replicate_succ]
    simp
   rwa [hs] at a5
 ·have : i = 16 := by omega
  subst this
  have a3 : At (s2.w (own s)) b 0 gI := by
   have : gI.take 16 = gI := List.take_of_length_le (by simp [gI])
   rw [this] at a2
   simpa using a2
  unfold yO
  repeat (first|refine aj ?_|refine av a3 rfl ?_|refine aK a3 rfl ?_|refine aH a3 rfl ?_|refine aI a3 rfl ?_|refine aJ a3 rfl ?_|refine aC a3 rfl ?_)
  refine eZ (own s) a3 rfl (by simp [one]) hq0 (.inl rfl) fun s3 e3 z3 a4 _ => ?_
  repeat (first|refine aj ?_|refine av a4 rfl ?_|refine aK a4 rfl ?_|refine aH a4 rfl ?_|refine aI a4 rfl ?_|refine aJ a4 rfl ?_|refine aC a4 rfl ?_)
  exact hK s3 _ ((e2.tr e3 (S := [own s])).loc) rfl
theorem Iq {s : St} {k0 : Nat} {l : List UInt8} {sl : Sl} {c : BitVec 32} {K : Int → HP} (h : bz bf (s.w 0) (s.w k0) l sl) (hl : l.length ≤ 9000000000000000000)
  (hK : ∀ s', Step [] s s' → K ((crc c l).toNat : Int) s'.H) : oX (c.toNat : Int) sl K s.H := by
 unfold oX
 refine adU fun s1 t e1 hT => ?_
 refine dQ rfl (by simp [one]) fun s2 b e2 a2 => ?_
 rw [← hT] at a2
 rw [DZ]
 have hlen := h.len
 have hls : bz bf (s2.w 0) (s2.w k0) l sl := h.mono (e1.trans e2).v0 ((e1.trans e2).view (by simp))
 refine cD (fun i : Nat => [.int .u32 ((lN (~~~ c) (l.take i)).toNat : Nat), .int .i64 i]) (fun i s' => i ≤ l.length ∧ s' = s2) (fun i _ => l.length - i) 0 (by simp [lN]) ⟨Nat.zero_le _, rfl⟩ ?_
 rintro i s3 ⟨hi, rfl⟩ G hG
 simp only [List.getD_cons_zero, List.getD_cons_succ, cI, cN, cK, cH, cJ, cO]
 refine aN (fun hlt => ?_) (fun hlt => ?_)
 ·refine bU hls (by omega) (by omega) fun b o x hx hel => ?_
  obtain ⟨vs, rfl, hat⟩ := hel
  refine iQ hat rfl ?_
  have hG' := hG (i + 1) s3 ⟨by omega, rfl⟩ (by omega)
  rw [aaM (by simpa using hx)] at hG'
  rw [NI, qw]
  generalize lN (~~~ c) (l.take i) ^^^ bx x = e at *
  have hT2 : ∀ e : BitVec 32, gI[(e &&& 15#32).toNat]? = some (.int .u32 ((iq (e &&& 15#32)).toNat : Nat)) ∧ (e &&& 15#32).toNat < 16 := fun e => by
   have : (e &&& 15#32).toNat < 16 := by
    rw [BitVec.toNat_and]
    exact Nat.lt_of_le_of_lt Nat.and_le_right (by decide)
   refine ⟨?_, this⟩
   unfold gI; rw [List.getElem?_map, List.getElem?_range this]
   simp
  rw [n32]
  refine ⟨by omega, by have := (hT2 e).2; omega, ?_⟩
  rw [Int.toNat_natCast, Nat.mul_one]
  refine av a2 (hT2 e).1 ?_
  refine ⟨by decide, ?_⟩
  rw [LR, qw, ← JU, n32]
  refine ⟨by omega, by have := (hT2 (iq e)).2; omega, ?_⟩
  rw [Int.toNat_natCast, Nat.mul_one]
  refine av a2 (hT2 (iq e)).1 ?_
  refine ⟨by decide, ?_⟩
  rw [LR, qw, ← JU, aY (by omega) (by omega)]
  exact hG'
 ·have : i = l.length := by omega
  subst this
  rw [List.take_of_length_le (Nat.le_refl _), DZ]
  exact hK s3 (e1.trans e2)
theorem NR {s : St} {k0 : Nat} {l : List UInt8} {sl : Sl} {K : Int → HP} (h : bz bf (s.w 0) (s.w k0) l sl) (hl : l.length ≤ 9000000000000000000)
  (hK : ∀ s', Step [] s s' → K ((crc 0#32 l).toNat : Int) s'.H) : yx sl K s.H := Iq (c := 0#32) h hl hK
theorem JL {s : St} {k0 k1 : Nat} {l m : List UInt8} {sl sm : Sl} {K : Int → HP} (h : bz bf (s.w 0) (s.w k0) l sl) (h1 : bz bf (s.w 0) (s.w k1) m sm) (hl : l.length ≤ 9000000000000000000) (hm : m.length ≤ 9000000000000000000)
  (hK : ∀ s', Step [] s s' → K ((crc 0#32 (l ++ m)).toNat : Int) s'.H) : qE sl sm K s.H := by
 unfold qE
 refine NR h hl fun s1 e1 => ?_
 refine Iq (h1.st e1 (by simp)) hm fun s2 e2 => ?_
 rw [aaB]
 exact hK s2 (e1.trans e2)
end Go.Ph
end
section
set_option linter.all false
namespace Go.Ph
def aW (n : Nat) : Nat → List UInt8
 | 0 => []
 | k + 1 => aW (n / 256) k ++ [UInt8.ofNat (n % 256)]
theorem dN (n k : Nat) : (aW n k).length = k := by
 induction k generalizing n with
 | zero => rfl
 | succ k ih => simp [aW, ih]
theorem wz (n k : Nat) (h : n < 256 ^ k) : be (aW n k) = n := by
 induction k generalizing n with
 | zero => simp at h; subst h; rfl
 | succ k ih =>
  rw [Nat.pow_succ] at h
  rw [aW, wq, ih _ (by omega), UInt8.toNat_ofNat']
  omega
theorem Uv (l : List UInt8) : aW (be l) l.length = l := by
 refine qg (P := fun l => aW (be l) l.length = l) rfl (fun l c ih => ?_) l
 have hc := c.toNat_lt
 rw [List.length_append, List.length_singleton, aW, wq]
 rw [show (256 * be l + c.toNat) / 256 = be l by omega, show (256 * be l + c.toNat) % 256 = c.toNat by omega, ih]
 simp
def eo (c : UInt8) : List UInt8 := if c = 80 then [81, 0] else if c = 81 then [81, 1] else [c]
def bO (l : List UInt8) : List UInt8 := l.flatMap eo
theorem sj (a b : List UInt8) : bO (a ++ b) = bO a ++ bO b := by simp [bO]
theorem Zk : bO [] = [] := rfl
theorem lK (c : UInt8) (l : List UInt8) : bO (c :: l) = eo c ++ bO l := by simp [bO]
theorem WS (c d : UInt8) (a b : List UInt8) (h : eo c ++ a = eo d ++ b) : c = d ∧ a = b := by
 unfold eo at h
 by_cases h1 : c = 80 <;> by_cases h2 : d = 80 <;> by_cases h3 : c = 81 <;> by_cases h4 : d = 81 <;> simp_all
 all_goals first | exact absurd h.1.symm ‹_› | exact absurd h.1 ‹_›
theorem DX (c : UInt8) : eo c ≠ [] := by unfold eo; repeat (first | split | simp)
def rd (b : List UInt8) (i : Nat) : Except Int (UInt8 × Nat) :=
 match b[i]? with
 | none => .error 2
 | some c => if c = 80 then .error 3 else if c = 81 then (match b[i + 1]? with
  | none => .error 2
  | some d => if d = 0 then .ok (80, i + 2) else if d = 1 then .ok (81, i + 2) else .error 3) else .ok (c, i + 1)
theorem aga {b : List UInt8} {i : Nat} {e : Int} (h : rd b i = .error e) : e ≠ 0 := by
 unfold rd at h
 split at h
 ·cases h; decide
 ·split at h
  ·cases h; decide
  ·split at h
   ·split at h
    ·cases h; decide
    ·split at h
     ·cases h
     ·split at h
      ·cases h
      ·cases h; decide
   ·cases h
theorem yg {α : Type} {l : List α} {i : Nat} {x : α} (h : l[i]? = some x) : l.drop i = x :: l.drop (i + 1) := by
 have hi : i < l.length := by
  rcases Nat.lt_or_ge i l.length with h1 | h1
  ·exact h1
  ·rw [List.getElem?_eq_none h1] at h; cases h
 rw [List.drop_eq_getElem_cons hi]
 rw [List.getElem?_eq_getElem hi] at h
 rw [Option.some.inj h]
theorem Ba {b : List UInt8} {i k : Nat} {c : UInt8} (h : rd b i = .ok (c, k)) : i < k ∧ k ≤ b.length ∧ k ≤ i + 2 ∧ (b.drop i).take (k - i) = eo c := by
 have lt : ∀ {j : Nat} {x : UInt8}, b[j]? = some x → j < b.length := fun {j x} h1 => by
  rcases Nat.lt_or_ge j b.length with h2 | h2
  ·exact h2
  ·rw [List.getElem?_eq_none h2] at h1; cases h1
 unfold rd at h
 split at h
 ·cases h
 ·rename_i x hx
  split at h
  ·cases h
  ·split at h
   ·rename_i h80 h81
    split at h
    ·cases h
    ·rename_i y hy
     have h2 := lt hy
     have hd : b.drop i = x :: y :: b.drop (i + 2) := by rw [yg hx, yg hy]
     split at h
     ·cases h
      refine ⟨by omega, by omega, by omega, ?_⟩
      rw [hd, show i + 2 - i = 2 by omega]
      subst_vars; rfl
     ·split at h
      ·cases h
       refine ⟨by omega, by omega, by omega, ?_⟩
       rw [hd, show i + 2 - i = 2 by omega]
       subst_vars; rfl
      ·cases h
   ·rename_i h80 h81
    cases h
    have h2 := lt hx
    refine ⟨by omega, by omega, by omega, ?_⟩
    rw [yg hx, show i + 1 - i = 1 by omega]
    simp [eo, h80, h81]
def eR (b : List UInt8) : Nat → Nat → List UInt8 → Except Int (List UInt8 × Nat)
 | 0, i, out => .ok (out, i)
 | n + 1, i, out => match rd b i with
  | .error e => .error e
  | .ok x => eR b n x.2 (out ++ [x.1])
theorem BR {b : List UInt8} {e : Int} : ∀ (n i : Nat) (out : List UInt8), eR b n i out = .error e → e ≠ 0
 | 0, i, out, h => by cases h
 | n + 1, i, out, h => by
  unfold eR at h
  split at h
  ·cases h; exact aga ‹_›
  ·exact BR n _ _ h
theorem Nl {b : List UInt8} : ∀ (n i k : Nat) (out all : List UInt8), i ≤ b.length → eR b n i out = .ok (all, k) → ∃ more, all = out ++ more ∧ more.length = n ∧ i ≤ k ∧ k ≤ b.length ∧ (b.drop i).take (k - i) = bO more
 | 0, i, k, out, all, hi, h => by
  cases h
  exact ⟨[], by simp, rfl, Nat.le_refl _, hi, by simp [bO]⟩
 | n + 1, i, k, out, all, hi, h => by
  unfold eR at h
  split at h
  ·cases h
  ·rename_i x hx
   obtain ⟨c, j⟩ := x
   obtain ⟨r1, r2, r4, r3⟩ := Ba hx
   obtain ⟨more, m1, m2, m3, m4, m5⟩ := Nl n _ _ _ _ r2 h
   refine ⟨c :: more, by rw [m1]; simp, by simp [m2], by omega, m4, ?_⟩
   rw [lK, ← r3, ← m5]
   have hs : k - i = (j - i) + (k - j) := by omega
   rw [hs, List.take_add, List.drop_drop, show i + (j - i) = j by omega]
structure gm where
 at_ : Nat
 len : Nat
 kind : Nat
 bn : List UInt8
def pW (b : List UInt8) (i : Nat) (all : List UInt8) (k : Nat) : Except Int gm :=
 if ((crc 0#32 (all.take 5 ++ all.drop 9)).toNat : Int) = eV all 5 4 then .ok ⟨i, k - i, (all.getD 0 0).toNat, all.drop 9⟩ else .error 5
def mV (b : List UInt8) (i : Nat) (out : List UInt8) (k : Nat) : Except Int gm :=
 if 65536 < eV out 1 4 then .error 4 else match eR b (4 + (eV out 1 4).toNat) k out with
  | .error e => .error e
  | .ok x => pW b i x.1 x.2
def gd (b : List UInt8) (i : Nat) : Except Int gm :=
 match b[i]? with
 | none => .error 2
 | some c => if c = 80 then (match eR b 5 (i + 1) [] with
  | .error e => .error e
  | .ok x => mV b i x.1 x.2) else .error 3
theorem As {b : List UInt8} {i : Nat} {e : Int} (h : gd b i = .error e) : e ≠ 0 := by
 unfold gd at h
 split at h
 ·cases h; decide
 ·split at h
  ·split at h
   ·cases h; exact BR _ _ _ ‹_›
   ·unfold mV at h
    split at h
    ·cases h; decide
    ·split at h
     ·cases h; exact BR _ _ _ ‹_›
     ·unfold pW at h
      split at h
      ·cases h
      ·cases h; decide
  ·cases h; decide
structure jP (b : List UInt8) (i k : Nat) (all : List UInt8) : Prop where
 le : i + 1 ≤ k
 len : k ≤ b.length
 cut : (b.drop (i + 1)).take (k - (i + 1)) = bO all
theorem jP.app {b : List UInt8} {i k k2 n : Nat} {all all2 : List UInt8} (h : jP b i k all) (h2 : eR b n k all = .ok (all2, k2)) : jP b i k2 all2 ∧ all2.length = all.length + n ∧ all2.take all.length = all := by
 obtain ⟨more, m1, m2, m3, m4, m5⟩ := Nl n _ _ _ _ h.len h2
 have hle := h.le
 refine ⟨⟨by omega, m4, ?_⟩, by rw [m1, List.length_append, m2], by rw [m1, List.take_left]⟩
 rw [m1, sj, ← m5, ← h.cut]
 have hs : k2 - (i + 1) = (k - (i + 1)) + (k2 - k) := by omega
 rw [hs, List.take_add, List.drop_drop, show i + 1 + (k - (i + 1)) = k by omega]
def wrap (kind : UInt8) (bn : List UInt8) : List UInt8 :=
 80 :: bO (kind :: (aW bn.length 4 ++ (aW (crc 0#32 (kind :: (aW bn.length 4 ++ bn))).toNat 4 ++ bn)))
theorem xX {l : List UInt8} {a k : Nat} (hk : 1 ≤ k ∧ k ≤ 8) (h : a + k ≤ l.length) : eV l a k = be ((l.drop a).take k) := by
 unfold eV
 rw [if_pos ⟨by omega, by omega, by omega, by omega⟩, Int.toNat_natCast, Int.toNat_natCast]
end Go.Ph
end
section
set_option linter.all false
namespace Go.Ph
open S
theorem oe {c : UInt8} {n : Nat} (h : (c.toNat : Int) = (n : Int)) (hn : n < 256 := by decide) : c = UInt8.ofNat n := by
 apply UInt8.toNat_inj.1
 rw [UInt8.toNat_ofNat']; omega
theorem acH {s : St} {q q2 b0 i : Nat} {sl o : Sl} {out : List UInt8} {c : UInt8} {n : Int} {K : Int → HP} {G : List Value → HP} (hq : q ≠ 0 ∧ q2 ≠ 0 ∧ q ≠ q2) (hq2 : q2 < 2305843009213693952 + 1152921504606846976 * s.H.size)
  (ha : At (s.w q) b0 0 [.slice sl.a sl.len sl.cap, .int .i64 i, .slice o.a o.len o.cap]) (hB : bF bf q2 s out o) (hl : out.length ≤ 1000000000000)
  (hG : ∀ s' o', Step [q, q2] s s' → At (s'.w q) b0 0 [.slice sl.a sl.len sl.cap, .int .i64 i, .slice o'.a o'.len o'.cap] → bF bf q2 s' (out ++ [c]) o' → G [] s'.H) :
  sV (some ⟨b0, 0, none⟩) n (c.toNat : Int) K G s.H := by
 unfold sV
 repeat (first|refine aj ?_|refine av ha rfl ?_|refine aK ha rfl ?_|refine aH ha rfl ?_|refine aI ha rfl ?_|refine aJ ha rfl ?_|refine aC ha rfl ?_)
 refine jv c hB rfl (fun s1 o1 e1 b1 => ?_) rfl rfl (by omega) (by omega) hq2 hq.2.1
 have a1 := ha.mono (e1.view (by simpa using hq.2.2))
 refine aj ?_
 refine cP a1 (by simp) rfl hq.1 (fun s2 e2 z2 a2 _ => ?_)
 exact hG s2 o1 (e1.tr e2) a2 (b1.st e2 (by simpa using fun h => hq.2.2 h.symm))
theorem GV {s : St} {q q2 b0 : Nat} {b out : List UInt8} {sl o : Sl} {i m n : Nat} {K : Int → HP} (hq : q ≠ 0 ∧ q2 ≠ 0 ∧ q ≠ q2) (hq2 : q2 < 2305843009213693952 + 1152921504606846976 * s.H.size)
  (ha : At (s.w q) b0 0 [.slice sl.a sl.len sl.cap, .int .i64 i, .slice o.a o.len o.cap]) (hb : Ls bf (s.w 0) b sl) (hB : bF bf q2 s out o) (hn : n = out.length + m) (hbl : b.length ≤ 1000000000000) (hnl : n ≤ 1000000000000) (hi : i ≤ b.length)
  (hE : ∀ e s', eR b m i out = .error e → Step [q, q2] s s' → K e s'.H)
  (hO : ∀ all k s' o', eR b m i out = .ok (all, k) → Step [q, q2] s s' → At (s'.w q) b0 0 [.slice sl.a sl.len sl.cap, .int .i64 k, .slice o'.a o'.len o'.cap] → bF bf q2 s' all o' → K 0 s'.H) :
  oG (some ⟨b0, 0, none⟩) n K s.H := by
 unfold oG
 have hlen := hb.len
 refine cD (ι := Nat × Nat × List UInt8) (fun _ => []) (fun x s' => Step [q, q2] s s' ∧ eR b m i out = eR b x.1 x.2.1 x.2.2 ∧ n = x.2.2.length + x.1 ∧ x.2.1 ≤ b.length ∧ ∃ o', At (s'.w q) b0 0 [.slice sl.a sl.len sl.cap, .int .i64 x.2.1, .slice o'.a o'.len o'.cap] ∧ bF bf q2 s' x.2.2 o') (fun x _ => x.1) (m, i, out) rfl ⟨Step.refl, rfl, hn, hi, o, ha, hB⟩ ?_
 rintro ⟨m, i, out⟩ s1 ⟨e1, hr, hn, hi, o1, a1, b1⟩ G hG
 simp only at hr hn hi a1 b1
 have hol := b1.ls.len
 have hb1 := Ls.st hb e1
 repeat (first|refine aj ?_|refine av a1 rfl ?_|refine aK a1 rfl ?_|refine aH a1 rfl ?_|refine aI a1 rfl ?_|refine aJ a1 rfl ?_|refine aC a1 rfl ?_)
 refine aN (fun hlt => ?_) (fun hlt => ?_)
 ·obtain ⟨m, rfl⟩ : ∃ m', m = m' + 1 := ⟨m - 1, by omega⟩
  simp only [eR] at hr
  have hz1 := e1.sz
  have err : ∀ e, rd b i = .error e → K e s1.H := fun e he => by
   rw [he] at hr
   exact hE e s1 hr e1
  have go : ∀ (c : UInt8) k, rd b i = .ok (c, k) → At (s1.w q) b0 0 [.slice sl.a sl.len sl.cap, .int .i64 i, .slice o1.a o1.len o1.cap] → aq (Addr.add ⟨b0, 0, none⟩ 1) 0 [.int .i64 k] (sV (some ⟨b0, 0, none⟩) n (c.toNat : Int) K G) s1.H := fun c k hc a1 => by
   rw [hc] at hr
   refine cP a1 (by simp) rfl hq.1 (fun s2 e2 z2 a2 _ => ?_)
   refine acH hq (by omega) a2 (b1.st e2 (by simpa using fun h => hq.2.2 h.symm)) (by omega) fun s3 o3 e3 a3 b3 => ?_
   have hk := Ba hc
   exact hG (m, k, out ++ [c]) s3 ⟨(e1.tr e2 (S := [q, q2])).tr e3, hr, by simp; omega, hk.2.1, o3, a3, b3⟩ (by simp)
  have hnn : ∀ {K' : Addr → HP}, K' ⟨b0, 0, none⟩ s1.H → nn (some ⟨b0, 0, none⟩) K' s1.H := fun h => aj h
  repeat (first|refine aj ?_|refine av a1 rfl ?_|refine aK a1 rfl ?_|refine aH a1 rfl ?_|refine aI a1 rfl ?_|refine aJ a1 rfl ?_|refine aC a1 rfl ?_)
  refine aN (fun h1 => ?_) (fun h1 => ?_)
  ·refine err 2 ?_
   unfold rd; rw [List.getElem?_eq_none (by omega)]
  ·repeat (first|refine aj ?_|refine av a1 rfl ?_|refine aK a1 rfl ?_|refine aH a1 rfl ?_|refine aI a1 rfl ?_|refine aJ a1 rfl ?_|refine aC a1 rfl ?_)
   refine bU hb1 (by omega) (by omega) fun bx ox x hx hel => ?_
   obtain ⟨vs, rfl, hat⟩ := hel
   rw [Int.toNat_natCast] at hx
   refine iQ hat rfl ?_
   refine aN (fun h2 => ?_) (fun h2 => ?_)
   ·refine err 3 ?_
    have : x = 80 := oe (n := 80) h2
    unfold rd; rw [hx]; simp [this]
   ·have n80 : x ≠ 80 := fun h => h2 (by rw [h]; rfl)
    refine bK (fun h3 => ?_) (fun h3 => ?_)
    ·have n81 : x ≠ 81 := fun h => h3 (by rw [h]; rfl)
     repeat (first|refine aj ?_|refine av a1 rfl ?_|refine aK a1 rfl ?_|refine aH a1 rfl ?_|refine aI a1 rfl ?_|refine aJ a1 rfl ?_|refine aC a1 rfl ?_)
     rw [aY (by omega) (by omega)]
     exact go x (i + 1) (by unfold rd; rw [hx]; simp [n80, n81]) a1
    ·have h81 : x = 81 := oe (n := 81) h3
     repeat (first|refine aj ?_|refine av a1 rfl ?_|refine aK a1 rfl ?_|refine aH a1 rfl ?_|refine aI a1 rfl ?_|refine aJ a1 rfl ?_|refine aC a1 rfl ?_)
     rw [aY (by omega) (by omega)]
     refine aN (fun h4 => ?_) (fun h4 => ?_)
     ·refine err 2 ?_
      unfold rd; rw [hx]; simp only [n80, h81, if_true, if_false]
      rw [List.getElem?_eq_none (by omega)]; rfl
     ·repeat (first|refine aj ?_|refine av a1 rfl ?_|refine aK a1 rfl ?_|refine aH a1 rfl ?_|refine aI a1 rfl ?_|refine aJ a1 rfl ?_|refine aC a1 rfl ?_)
      rw [aY (n := (i : Int) + 1) (by omega) (by omega)]
      refine bU hb1 (by omega) (by omega) fun bx2 ox2 y hy hel2 => ?_
      obtain ⟨vs, rfl, hat2⟩ := hel2
      have hy' : b[i + 1]? = some y := by rw [← hy]; congr 1
      refine iQ hat2 rfl ?_
      have hrd : rd b i = if y = 0 then .ok (80, i + 2) else if y = 1 then .ok (81, i + 2) else .error 3 := by
       unfold rd; rw [hx]; simp only [n80, h81, if_true, if_false, hy']; rfl
      refine aN (fun h5 => ?_) (fun h5 => ?_)
      ·refine err 3 ?_
       rw [hrd, if_neg (fun h => by rw [h] at h5; exact absurd h5 (by decide)), if_neg (fun h => by rw [h] at h5; exact absurd h5 (by decide))]
      ·repeat (first|refine aj ?_|refine av a1 rfl ?_|refine aK a1 rfl ?_|refine aH a1 rfl ?_|refine aI a1 rfl ?_|refine aJ a1 rfl ?_|refine aC a1 rfl ?_)
       rw [aY (n := (i : Int) + 1) (by omega) (by omega)]
       refine bU hb1 (by omega) (by omega) fun bx3 ox3 z hz hel3 => ?_
       obtain ⟨vs, rfl, hat3⟩ := hel3
       have hzy : z = y := by rw [hy] at hz; exact (Option.some.inj hz).symm
       subst hzy
       refine iQ hat3 rfl ?_
       repeat (first|refine aj ?_|refine av a1 rfl ?_|refine aK a1 rfl ?_|refine aH a1 rfl ?_|refine aI a1 rfl ?_|refine aJ a1 rfl ?_|refine aC a1 rfl ?_)
       rw [aY (n := (i : Int) + 2) (by omega) (by omega)]
       by_cases h6 : z = 0
       ·subst h6
        exact go 80 (i + 2) (by rw [hrd]; rfl) a1
       ·have h7 : z = 1 := oe (n := 1) (by
         have : z.toNat ≠ 0 := fun h => h6 (oe (n := 0) (by omega))
         omega)
        subst h7
        exact go 81 (i + 2) (by rw [hrd]; rfl) a1
 ·have : m = 0 := by omega
  subst this
  exact hO out i s1 o1 hr e1 a1 b1
structure pe (V : View) (f : gm) (r : iD) : Prop where
 at_ : r.At = f.at_
 len : r.eL = f.len
 kind : r.Kind = f.kind
 bn : Ls bf V f.bn r.cq
theorem pe.st {s s' : St} {f : gm} {r : iD} {S : List Nat} (h : pe (s.w 0) f r) (hs : Step S s s') : pe (s'.w 0) f r := ⟨h.1, h.2, h.3, Ls.st h.4 hs⟩
theorem GX {s : St} {q b : Nat} {vs : List Value} {x0 x1 x2 : Int} {x3 : Sl} {K : iD → HP} (h : At (s.w q) b 0 vs) (hl : vs.length = 4) (hq : q ≠ 0)
  (hK : ∀ s', Step [q] s s' → K ⟨x0, x1, x2, x3⟩ s'.H) : aq (af b) 0 [.int .i64 x0, .int .i64 x1, .int .i64 x2, .slice x3.a x3.len x3.cap] (dG (af b) fun r => K r) s.H := by
 refine eZ q h (by rw [hl]; rfl) (by simp [one]) hq (.inl rfl) fun s1 e1 z1 a1 _ => ?_
 unfold dG
 repeat (first|refine aj ?_|refine av a1 rfl ?_|refine aK a1 rfl ?_|refine aH a1 rfl ?_|refine aI a1 rfl ?_|refine aJ a1 rfl ?_|refine aC a1 rfl ?_)
 exact hK s1 e1
theorem TF {s : St} {q b : Nat} {x0 x1 x2 : Int} {x3 : Sl} {K : iD → HP} (h : At (s.w q) b 0 [.int .i64 x0, .int .i64 x1, .int .i64 x2, .slice x3.a x3.len x3.cap]) (hq : q ≠ 0)
  (hK : ∀ s', Step [q] s s' → K ⟨x0, x1, x2, x3⟩ s'.H) : dG (af b) (fun t => aq (af b) 0 [.int .i64 t.At, .int .i64 t.eL, .int .i64 t.Kind, .slice t.cq.a t.cq.len t.cq.cap] (dG (af b) fun r => K r)) s.H := by
 unfold dG
 repeat (first|refine aj ?_|refine av h rfl ?_|refine aK h rfl ?_|refine aH h rfl ?_|refine aI h rfl ?_|refine aJ h rfl ?_|refine aC h rfl ?_)
 exact GX h rfl hq hK
theorem Fy {a b : St} {S : List Nat} (h : Step (own a :: (own a + 1) :: (own a + 2) :: S) a b) : Step S a b := ((h.loc).loc (by omega)).loc (by omega)
theorem U2 {s : St} {b : List UInt8} {sl : Sl} {i : Nat} {K : iD → Int → HP} (hb : Ls bf (s.w 0) b sl) (hbl : b.length ≤ 1000000000) (hi : i < b.length)
  (hE : ∀ e fr s', gd b i = .error e → e ≠ 0 → Step [] s s' → K fr e s'.H)
  (hO : ∀ f fr s', gd b i = .ok f → Step [] s s' → pe (s'.w 0) f fr → K fr 0 s'.H) : rj sl i K s.H := by
 unfold rj
 have hlen := hb.len
 have hq0 : own s ≠ 0 := by unfold own; omega
 refine dm (own s) (by unfold own; omega) fun s1 p n1 a1 => ?_
 have e1 := n1.step
 refine aN (fun h1 => ?_) (fun h1 => ?_)
 ·omega
 rw [decide_eq_false (by omega)]
 unfold DF
 refine bt ?_
 have hb1 := Ls.st hb e1
 have err : ∀ {e : Int} {s' : St}, gd b i = .error e → Step [own s, own s + 1, own s + 2] s s' → At (s'.w (own s)) p 0 [.int .i64 0, .int .i64 0, .int .i64 0, .slice none 0 0] →
   dG (af p) (fun t => aq (af p) 0 [.int .i64 t.At, .int .i64 t.eL, .int .i64 t.Kind, .slice t.cq.a t.cq.len t.cq.cap] (dG (af p) fun r => K r e)) s'.H := fun {e s'} he es ha =>
  TF (x3 := ⟨none, 0, 0⟩) ha hq0 fun s'' e'' => hE e _ s'' he (As he) (Fy (es.tr e''))
 refine aN (fun h2 => ?_) (fun h2 => ?_)
 ·omega
 refine bU hb1 (by omega) (by omega) fun bx ox x hx hel => ?_
 obtain ⟨vs, rfl, hat⟩ := hel
 rw [Int.toNat_natCast] at hx
 refine iQ hat rfl ?_
 refine bK (fun h3 => ?_) (fun h3 => ?_)
 ·refine err ?_ e1.n a1
  unfold gd; rw [hx]
  simp only
  rw [if_neg (fun h => h3 (by rw [h]; rfl))]
 have h80 : x = 80 := oe (n := 80) h3
 subst h80
 have hfa : gd b i = match eR b 5 (i + 1) [] with | .error e => .error e | .ok x => mV b i x.1 x.2 := by
  unfold gd; rw [hx]; rfl
 rw [aY (by omega) (by omega)]
 have hz1 := e1.sz
 refine dm (own s + 1) (by unfold own; omega) fun s2 r n2 a2 => ?_
 have e2 := n2.step
 have hb2 := Ls.st hb1 e2
 have a21 := a1.mono (e2.view (by simp))
 have hz2 := e2.sz
 have e12 : Step [own s, own s + 1, own s + 2] s s2 := (e1.trans e2).n
 refine GV (q := own s + 1) (q2 := own s + 2) (i := i + 1) (m := 5) (n := 5) (o := ⟨none, 0, 0⟩) (out := []) ⟨by omega, by omega, by omega⟩ (by unfold own; omega) a2 hb2 bF.nil rfl (by omega) (by omega) (by omega) ?_ ?_
 ·intro e s3 hr e3
  rw [hr] at hfa
  have he := As hfa
  refine bK (fun h4 => ?_) (fun h4 => absurd h4 he)
  exact err hfa (e12.tr e3) (a21.mono (e3.view (by simp <;> omega)))
 ·intro out k s3 o3 hr e3 a3 b3
  rw [hr] at hfa
  simp only [mV] at hfa
  refine bK (fun h4 => absurd rfl h4) (fun _ => ?_)
  have hg5 : jP b i k out ∧ out.length = 0 + 5 ∧ _ := jP.app (b := b) (i := i) (k := i + 1) (all := []) ⟨Nat.le_refl _, by omega, by simp [bO]⟩ hr
  obtain ⟨g5, l5, -⟩ := hg5
  have es3 : Step [own s, own s + 1, own s + 2] s s3 := e12.tr e3
  have hz3 := es3.sz
  have a31 := a21.mono (e3.view (by simp <;> omega))
  repeat (first|refine aj ?_|refine av a3 rfl ?_|refine aK a3 rfl ?_|refine aH a3 rfl ?_|refine aI a3 rfl ?_|refine aJ a3 rfl ?_|refine aC a3 rfl ?_)
  refine yN b3.ls (by omega) (by omega) ?_
  have hbd := JZ out 1 4
  refine aN (fun h5 => ?_) (fun h5 => ?_)
  ·rw [if_pos h5] at hfa
   exact err hfa es3 a31
  rw [if_neg h5] at hfa
  rw [aY (n := eV out 1 4) (by omega) (by omega), aY (n := 9 + eV out 1 4) (by omega) (by omega)]
  have hn : 9 + eV out 1 4 = ((9 + (eV out 1 4).toNat : Nat) : Int) := by omega
  rw [hn]
  refine GV (q := own s + 1) (q2 := own s + 2) (i := k) (m := 4 + (eV out 1 4).toNat) (out := out) ⟨by omega, by omega, by omega⟩ (by unfold own; omega) a3 (Ls.st hb2 e3) b3 (by omega) (by omega) (by omega) g5.len ?_ ?_
  ·intro e s4 hr2 e4
   rw [hr2] at hfa
   have he := As hfa
   refine bK (fun h4 => ?_) (fun h4 => absurd h4 he)
   exact err hfa (es3.tr e4) (a31.mono (e4.view (by simp <;> omega)))
  ·intro all k2 s4 o4 hr2 e4 a4 b4
   rw [hr2] at hfa
   refine bK (fun h4 => absurd rfl h4) (fun _ => ?_)
   obtain ⟨g9, l9, -⟩ := g5.app hr2
   have es4 : Step [own s, own s + 1, own s + 2] s s4 := es3.tr e4
   have a41 := a31.mono (e4.view (by simp <;> omega))
   have ho4 := b4.ls.len
   have hc4 := b4.ls.cap
   have hk2 := g9.len
   have hk3 := g9.le
   repeat (first|refine aj ?_|refine av a4 rfl ?_|refine aK a4 rfl ?_|refine aH a4 rfl ?_|refine aI a4 rfl ?_|refine aJ a4 rfl ?_|refine aC a4 rfl ?_)
   refine yN b4.ls (by omega) (by omega) ?_
   repeat (first|refine aj ?_|refine av a4 rfl ?_|refine aK a4 rfl ?_|refine aH a4 rfl ?_|refine aI a4 rfl ?_|refine aJ a4 rfl ?_|refine aC a4 rfl ?_)
   refine lY b4.ls (by omega) (by omega) (by omega) (by omega) (by omega) fun sA hA cA => ?_
   repeat (first|refine aj ?_|refine av a4 rfl ?_|refine aK a4 rfl ?_|refine aH a4 rfl ?_|refine aI a4 rfl ?_|refine aJ a4 rfl ?_|refine aC a4 rfl ?_)
   refine lY b4.ls (by omega) (by omega) (by omega) (by omega) (by omega) fun sB hB cB => ?_
   have eA : (all.take (5 : Int).toNat).drop (0 : Int).toNat = all.take 5 := by simp
   have eB : (all.take ((o4.len : Nat) : Int).toNat).drop (9 : Int).toNat = all.drop 9 := by rw [Int.toNat_natCast, ho4, List.take_of_length_le (Nat.le_refl _)]; rfl
   rw [eA] at hA
   rw [eB] at hB
   refine JL hA hB (by rw [List.length_take]; omega) (by rw [List.length_drop]; omega) fun s5 e5 => ?_
   have es5 : Step [own s, own s + 1, own s + 2] s s5 := es4.trans e5.n
   have a51 := a41.mono (e5.view (by simp))
   have a52 := a4.mono (e5.view (by simp))
   have b5 := b4.st e5 (by simp)
   have hcl := (crc 0#32 (all.take 5 ++ all.drop 9)).isLt
   rw [jm (by omega) (by omega)]
   unfold pW at hfa
   simp only at hfa
   refine bK (fun h6 => ?_) (fun h6 => ?_)
   ·rw [if_neg h6] at hfa
    exact err hfa es5 a51
   rw [if_pos h6] at hfa
   repeat (first|refine aj ?_|refine av a52 rfl ?_|refine aK a52 rfl ?_|refine aH a52 rfl ?_|refine aI a52 rfl ?_|refine aJ a52 rfl ?_|refine aC a52 rfl ?_)
   refine bU b5.ls (by omega) (by omega) fun bx0 ox0 x0 hx0 hel0 => ?_
   obtain ⟨vs, rfl, hat0⟩ := hel0
   refine iQ hat0 rfl ?_
   repeat (first|refine aj ?_|refine av a52 rfl ?_|refine aK a52 rfl ?_|refine aH a52 rfl ?_|refine aI a52 rfl ?_|refine aJ a52 rfl ?_|refine aC a52 rfl ?_)
   refine lY b5.ls (by omega) (by omega) (by omega) (by omega) (by omega) fun sC hC cC => ?_
   rw [eB] at hC
   have hx0l := x0.toNat_lt
   rw [aY (n := (k2 : Int) - i) (by omega) (by omega), aY (n := (x0.toNat : Int)) (by omega) (by omega)]
   refine GX a51 rfl hq0 fun s6 e6 => ?_
   refine hO _ _ s6 hfa (Fy (es5.tr e6)) ⟨rfl, by simp only; omega, ?_, Ls.st hC e6⟩
   have : all.getD 0 0 = x0 := by rw [List.getD_eq_getElem?_getD]; rw [show all[0]? = some x0 from hx0]; rfl
   simp only [this]
end Go.Ph
end
section
set_option linter.all false
namespace Go.Ph
open S
theorem ac5 (n : Nat) : ∀ i, aW n (i + 1) = UInt8.ofNat (n / 256 ^ i % 256) :: aW n i := by
 intro i
 induction i generalizing n with
 | zero => simp [aW]
 | succ i ih =>
  rw [aW, ih (n / 256), aW, List.cons_append, Nat.div_div_eq_div_mul, Nat.pow_succ, Nat.mul_comm]
theorem aaj {l : List UInt8} {i : Nat} {c : UInt8} (h : l[i]? = some c) : bO (l.take (i + 1)) = bO (l.take i) ++ eo c := by
 rw [List.take_succ, h, sj]; simp [bO]
theorem uc (l : List UInt8) : (bO l).length ≤ 2 * l.length := by
 induction l with
 | nil => simp [bO]
 | cons c l ih => rw [lK, List.length_append, List.length_cons]; have : (eo c).length ≤ 2 := by { unfold eo; repeat (first | split | simp) }; omega
theorem Vv {V : View} {c d : UInt8} {b : Nat} (h : At V b 0 [.int .u8 c.toNat, .int .u8 d.toNat]) : Ls bf V [c, d] ⟨some (af b), 2, 2⟩ :=
 ⟨rfl, Nat.le_refl _, fun h => (by cases h), fun a e => by
  simp at e; subst e
  refine ⟨fun _ => rfl, fun j y hj => ?_⟩
  match j, hj with
  | 0, hj => simp at hj; subst hj; exact ⟨_, rfl, fun i v hi => by
    cases i with
    | zero => have := h 0 _ rfl; simp at hi; subst hi; simpa using this
    | succ i => simp at hi⟩
  | 1, hj => simp at hj; subst hj; exact ⟨_, rfl, fun i v hi => by
    cases i with
    | zero => have := h 1 _ rfl; simp at hi; subst hi; simpa [bf] using this
    | succ i => simp at hi⟩
  | j + 2, hj => simp at hj⟩
end Go.Ph
end
section
set_option linter.all false
namespace Go.Ph
open S
theorem MQ {a b : List UInt8} : ba a = ba b ↔ a = b := by
 constructor
 ·intro h; rw [← gZ a, ← gZ b, h]
 ·rintro rfl; rfl
theorem jP.snoc {b : List UInt8} {i k k2 : Nat} {all : List UInt8} {c : UInt8} (h : jP b i k all) (h2 : rd b k = .ok (c, k2)) : jP b i k2 (all ++ [c]) := by
 have : eR b 1 k all = .ok (all ++ [c], k2) := by simp only [eR, h2]
 exact (h.app this).1
end Go.Ph
end
section
set_option linter.all false
namespace Go.Ph
open S
def yz : Ty gm := ⟨4, fun V x vs => ∃ sl : Sl, vs = [.int .i64 x.at_, .int .i64 x.len, .int .i64 x.kind, .slice sl.a sl.len sl.cap] ∧ Ls bf V x.bn sl, by rintro _ _ _ ⟨_, rfl, _⟩; rfl, by rintro _ _ _ _ h ⟨sl, rfl, h1⟩; exact ⟨sl, rfl, h1.mono h h⟩, by rintro _ _ _ ⟨_, rfl, _⟩; simp [one]⟩
def yR : Ty (Int × Int) := ⟨2, fun _ x vs => vs = [.int .i64 x.1, .int .i64 x.2], by rintro _ _ _ rfl; rfl, fun _ h => h, by rintro _ _ _ rfl; simp [one]⟩
theorem pe.row {V : View} {f : gm} {r : iD} (h : pe V f r) : yz.R V f [.int .i64 r.At, .int .i64 r.eL, .int .i64 r.Kind, .slice r.cq.a r.cq.len r.cq.cap] :=
 ⟨r.cq, by rw [h.at_, h.len, h.kind], h.bn⟩
structure MY (b : List UInt8) (i : Nat) (f : gm) : Prop where
 at_ : f.at_ = i
 pos : 1 ≤ f.len
 Aw : i + f.len ≤ b.length
 kind : f.kind < 256
 bn : f.bn.length ≤ 65536
 le : f.bn.length ≤ f.len
theorem Cs {b : List UInt8} : ∀ (n i k : Nat) (out all : List UInt8), eR b n i out = .ok (all, k) → i + n ≤ k
 | 0, i, k, out, all, h => by cases h; omega
 | n + 1, i, k, out, all, h => by
  unfold eR at h
  split at h
  ·cases h
  ·rename_i x hx
   have := (Ba (c := x.1) (k := x.2) hx).1
   have := Cs n _ _ _ _ h
   omega
theorem IG {b : List UInt8} {i : Nat} {f : gm} (h : gd b i = .ok f) : MY b i f := by
 unfold gd at h
 split at h
 ·cases h
 ·rename_i c hc
  have hi : i < b.length := by
   rcases Nat.lt_or_ge i b.length with h1 | h1
   ·exact h1
   ·rw [List.getElem?_eq_none h1] at hc; cases hc
  split at h
  ·split at h
   ·cases h
   ·rename_i x hx
    obtain ⟨out, k⟩ := x
    obtain ⟨g5, l5, -⟩ := jP.app (b := b) (i := i) (k := i + 1) (all := []) ⟨Nat.le_refl _, by omega, by simp [bO]⟩ hx
    unfold mV at h
    split at h
    ·cases h
    ·split at h
     ·cases h
     ·rename_i y hy
      obtain ⟨all, k2⟩ := y
      obtain ⟨g9, l9, -⟩ := g5.app hy
      have h1 := Cs _ _ _ _ _ hx
      have h2 := Cs _ _ _ _ _ hy
      have h3 := g9.len
      unfold pW at h
      split at h
      ·cases h
       refine ⟨rfl, by simp only; omega, by simp only; omega, UInt8.toNat_lt _, ?_, ?_⟩
       ·simp only [List.length_drop]; simp at l5 hy; omega
       ·simp only [List.length_drop]; simp at l5 hy; omega
      ·cases h
  ·cases h
def gr (b : List UInt8) : Nat → Nat → List gm
 | 0, _ => []
 | n + 1, i => if i < b.length then (match gd b i with | .error _ => gr b n (i + 1) | .ok f => f :: gr b n (i + f.len)) else []
theorem EZ {b : List UInt8} : ∀ (n i : Nat), b.length ≤ i → gr b n i = []
 | 0, _, _ => rfl
 | n + 1, i, h => by rw [gr, if_neg (by omega)]
def frames (b : List UInt8) : List gm := gr b b.length 0
theorem xh {a b : St} {S : List Nat} (h : Step (own a :: (own a + 1) :: (own a + 2) :: (own a + 3) :: S) a b) : Step S a b := (((h.loc).loc (by omega)).loc (by omega)).loc (by omega)
theorem afp {C : Cx} {s : St} {b : List UInt8} {sl : Sl} {K : Sl → Sl → HP} (hb : Ls bf (s.w 0) b sl) (hbl : b.length ≤ 1000000000)
  (hK : ∀ s' o g, Step [] s s' → Ls yz (s'.w 0) (frames b) o → K o g s'.H) : sq C sl K s.H := by
 unfold sq
 have hlen := hb.len
 have hown : own s = 1152921504606846976 + 1152921504606846976 * s.H.size := rfl
 have hq0 : own s ≠ 0 := by unfold own; omega
 refine dm (own s) (by unfold own; omega) fun s1 p3 n1 a1 => ?_
 have e1 := n1.step
 have hz1 := e1.sz
 refine dm (own s + 1) (by unfold own; omega) fun s2 p4 n2 a2 => ?_
 have e2 := n2.step
 have a12 := a1.mono (e2.view (by simp))
 have hz2 := e2.sz
 refine eZ (own s + 1) a2 rfl (by simp [one]) (by omega) (.inl rfl) fun s3 e3 z3 a3 _ => ?_
 have a13 := a12.mono (e3.view (by simp))
 have es3 : Step [own s, own s + 1, own s + 2, own s + 3] s s3 := (e1.trans e2).n.tr e3 (A := [])
 intro f hf
 have shut : ∀ (s' : St) (fr to : Int) (g : Sl) (gs : List (Int × Int)) (K' : Value → HP), s.H.size ≤ s'.H.size → At (s'.w (own s)) p3 0 [.slice g.a g.len g.cap] → At (s'.w (own s + 1)) p4 0 [.int .i64 fr] → bF yR (own s + 2) s' gs g → gs.length ≤ 1000000000 →
   (∀ s'' g' gs', Step [own s, own s + 2] s' s'' → At (s''.w (own s)) p3 0 [.slice g'.a g'.len g'.cap] → bF yR (own s + 2) s'' gs' g' → gs'.length ≤ gs.length + 1 → K' (.tuple #[]) s''.H) → C.ap f [.int .i64 to] K' s'.H := fun s' fr to g gs K' hz ha ha4 hg hgl hk => by
  refine hf _ _ _ ?_
  show uD to (af p4) (af p3) (K' (.tuple #[])) s'.H
  unfold uD
  refine iQ ha4 rfl ?_
  refine js (fun _ => ?_) (fun _ => ?_)
  ·refine kN ha rfl ?_
   refine iQ ha4 rfl ?_
   refine jv (fr, to) hg rfl (fun s5 o5 e5 b5 => ?_) rfl rfl (by omega) (by omega) (by omega) (by omega)
   refine eZ (own s) (ha.mono (e5.view (by simp))) rfl (by simp [one]) hq0 (.inl rfl) fun s6 e6 z6 a6 _ => ?_
   exact hk s6 o5 _ (e5.tr e6) a6 (b5.st e6 (by simp)) (by simp)
  ·exact hk s' g gs Step.refl ha hg (by omega)
 refine cD (ι := Nat × List gm × Sl) (fun x => [.slice x.2.2.a x.2.2.len x.2.2.cap, .int .i64 x.1])
  (fun x s' => Step [own s, own s + 1, own s + 2, own s + 3] s s' ∧ x.1 ≤ b.length ∧ x.2.1.length ≤ x.1 ∧ bF yz (own s + 3) s' x.2.1 x.2.2 ∧ (∃ n, b.length - x.1 ≤ n ∧ x.2.1 ++ gr b n x.1 = frames b) ∧ ∃ (fr : Int) (g : Sl) (gs : List (Int × Int)), At (s'.w (own s)) p3 0 [.slice g.a g.len g.cap] ∧ At (s'.w (own s + 1)) p4 0 [.int .i64 fr] ∧ bF yR (own s + 2) s' gs g ∧ gs.length ≤ x.1)
  (fun x _ => b.length - x.1) (0, [], ⟨none, 0, 0⟩) rfl ⟨es3, Nat.zero_le _, Nat.le_refl _, bF.nil, ⟨b.length, by simp only; omega, rfl⟩, 0, ⟨none, 0, 0⟩, [], a13, a3, bF.nil, Nat.le_refl _⟩ ?_
 rintro ⟨i, acc, o⟩ s4 ⟨e4, hi, hal, b4, ⟨n, hn, hsc⟩, fr, g, gs, ap3, ap4, bg, hgl⟩ G hG
 simp only at hi hal b4 hn hsc hgl
 have hz4 := e4.sz
 simp only [List.getD_cons_zero, List.getD_cons_succ, cI, cN, cK, cH, cJ, cO]
 refine aN (fun hlt => ?_) (fun hlt => ?_)
 ·have hi' : i < b.length := by omega
  obtain ⟨m, rfl⟩ : ∃ m, n = m + 1 := ⟨n - 1, by omega⟩
  rw [gr, if_pos hi'] at hsc
  refine U2 (Ls.st hb e4) hbl hi' ?_ ?_
  ·intro e fr' s5 he hne e5
   rw [he] at hsc
   refine dQ rfl (by simp [one]) fun s6 p6 e6 a6 => ?_
   refine bK (fun _ => ?_) (fun h => absurd h hne)
   rw [aY (by omega) (by omega)]
   have e56 := e5.trans e6
   exact hG (i + 1, acc, o) s6 ⟨e4.trans e56.n, hi', by simp only; omega, b4.st e56 (by simp), ⟨m, by simp only; omega, hsc⟩, fr, g, gs, ap3.mono (e56.view (by simp)), ap4.mono (e56.view (by simp)), bg.st e56 (by simp), by simp only; omega⟩ (by simp only; omega)
  ·intro f1 fr' s5 he e5 hfr
   have fo := IG he
   have fo1 := fo.pos
   have fo2 := fo.Aw
   rw [he] at hsc
   refine dQ rfl (by simp [one]) fun s6 p6 e6 a6 => ?_
   refine bK (fun h => absurd rfl h) (fun _ => ?_)
   have e56 := e5.trans e6
   have hz6 := e56.sz
   refine shut s6 fr i g gs _ (by omega) (ap3.mono (e56.view (by simp))) (ap4.mono (e56.view (by simp))) (bg.st e56 (by simp)) (by omega) fun s7 g7 gs7 e7 a7 b7 l7 => ?_
   have a67 := a6.mono e7.v0
   have hz7 := e7.sz
   have b47 := (b4.st e56 (by simp)).st e7 (by simp)
   unfold dG
   repeat (first|refine aj ?_|refine av a67 rfl ?_|refine aK a67 rfl ?_|refine aH a67 rfl ?_|refine aI a67 rfl ?_|refine aJ a67 rfl ?_|refine aC a67 rfl ?_)
   have hrow : yz.R (s7.w 0) f1 [.int .i64 fr'.At, .int .i64 fr'.eL, .int .i64 fr'.Kind, .slice fr'.cq.a fr'.cq.len fr'.cq.cap] := ((hfr.st e6).st e7).row
   refine jv f1 b47 hrow (fun s8 o8 e8 b8 => ?_) rfl rfl (by omega) (by omega) (by omega) (by omega)
   have a68 := a67.mono e8.v0
   repeat (first|refine aj ?_|refine av a68 rfl ?_|refine aK a68 rfl ?_|refine aH a68 rfl ?_|refine aI a68 rfl ?_|refine aJ a68 rfl ?_|refine aC a68 rfl ?_)
   rw [hfr.len, aY (by omega) (by omega)]
   have ap47 := ((ap4.mono (e56.view (by simp))).mono (e7.view (by simp))).mono (e8.view (by simp))
   refine eZ (own s + 1) ap47 rfl (by simp [one]) (by omega) (.inl rfl) fun s9 e9 z9 a9 _ => ?_
   have hG' := hG (i + f1.len, acc ++ [f1], o8) s9
   rw [show ((i : Int) + (f1.len : Nat)) = ((i + f1.len : Nat) : Int) by omega]
   refine hG' ⟨?_, fo2, by simp; omega, b8.st e9 (by simp), ⟨m, by simp only; omega, by simpa using hsc⟩, _, g7, gs7, (a7.mono (e8.view (by simp))).mono (e9.view (by simp)), a9, (b7.st e8 (by simp)).st e9 (by simp), by simp only; omega⟩ (by simp only; omega)
   have q1 : Step [own s, own s + 1, own s + 2, own s + 3] s s6 := e4.trans e56.n
   have q2 : Step [own s, own s + 1, own s + 2, own s + 3] s s7 := q1.tr e7
   have q3 : Step [own s, own s + 1, own s + 2, own s + 3] s s8 := q2.tr e8
   exact q3.tr e9
 ·have : i = b.length := by omega
  subst this
  rw [EZ n _ (Nat.le_refl _), List.append_nil] at hsc
  subst hsc
  refine shut s4 fr _ g gs _ (by omega) ap3 ap4 bg (by omega) fun s7 g7 gs7 e7 a7 b7 l7 => ?_
  have q2 : Step [own s, own s + 1, own s + 2, own s + 3] s s7 := e4.tr e7
  refine kN a7 rfl ?_
  refine eZ (own s) a7 rfl (by simp [one]) hq0 (.inl rfl) fun s9 e9 z9 a9 _ => ?_
  refine kN a9 rfl ?_
  have q3 : Step [own s, own s + 1, own s + 2, own s + 3] s s9 := q2.tr e9
  exact hK s9 _ g7 (xh q3) (((b4.st e7 (by simp)).st e9 (by simp)).ls)
end Go.Ph
end
section
set_option linter.all false
namespace Go.Ph
open S
theorem bF.none_ {α : Type} {t : Ty α} {q : Nat} {s : St} {b : Nat} : bF t q s [] ⟨some (af b), 0, 0⟩ :=
 ⟨⟨rfl, Nat.le_refl _, fun h => (by cases h), fun a e => by simp at e; subst e; exact ⟨fun _ => rfl, fun j y hj => by simp at hj⟩⟩, fun a ha i h1 h2 => by simp at h2⟩
end Go.Ph
end
section
set_option linter.all false
namespace Go.Ph
open S
structure RecM where
 f : List Int
 data : List UInt8
def RecM.kind (x : RecM) : Int := x.f.getD 0 0
def fieldsOf (r : aZ) : List Int := [r.Kind, r.bR, r.Seq, r.Next, r.bW, r.bV, r.Time, r.Flags, r.Body, r.bQ, r.Origin]
structure dM (V : View) (x : RecM) (r : aZ) : Prop where
 f : fieldsOf r = x.f
 data : Ls bf V x.data r.Data
theorem dM.st {s s' : St} {x : RecM} {r : aZ} {S : List Nat} (h : dM (s.w 0) x r) (hs : Step S s s') : dM (s'.w 0) x r := ⟨h.1, Ls.st h.2 hs⟩
theorem dM.len {V : View} {x : RecM} {r : aZ} (h : dM V x r) : x.f.length = 11 := by rw [← h.f]; rfl
def bL (f : List Int) (sl : Sl) : List Value := f.map (Value.int .i64) ++ [.slice sl.a sl.len sl.cap]
theorem nG (f : List Int) (sl : Sl) : (bL f sl).length = f.length + 1 := by simp [bL]
theorem fZ {f : List Int} {sl : Sl} {j : Nat} (h : j < f.length) : (bL f sl)[j]? = some (.int .i64 (f.getD j 0)) := by
 unfold bL
 rw [List.getElem?_append_left (by simpa using h), List.getElem?_map, List.getElem?_eq_getElem h]
 simp [List.getD_eq_getElem?_getD, h]
theorem mI {f : List Int} {sl : Sl} (h : f.length = 11) : (bL f sl)[11]? = some (.slice sl.a sl.len sl.cap) := by
 unfold bL
 rw [List.getElem?_append_right (by simp [h])]
 simp [h]
theorem EH {f : List Int} {sl : Sl} {j : Nat} {v : Int} (h : j < f.length) : (bL f sl).set j (.int .i64 v) = bL (f.set j v) sl := by
 unfold bL
 rw [List.set_append_left _ _ (by simpa using h), List.map_set]
theorem abk {f : List Int} {sl sl' : Sl} (h : f.length = 11) : (bL f sl).set 11 (.slice sl'.a sl'.len sl'.cap) = bL f sl' := by
 unfold bL
 rw [List.set_append_right _ _ (by simp [h])]
 simp [h]
theorem zi (f : List Int) (sl : Sl) : ∀ v ∈ bL f sl, one v = true := by
 intro v hv
 simp [bL] at hv
 rcases hv with ⟨a, _, rfl⟩ | rfl <;> rfl
theorem fF {s : St} {q b : Nat} {f : List Int} {sl : Sl} {K : aZ → HP} (h : At (s.w q) b 0 (bL f sl)) (hf : f.length = 11) (hK : ∀ r, fieldsOf r = f → r.Data = sl → K r s.H) : bq ⟨b, 0, none⟩ K s.H := by
 match f, hf, h, hK with
 | [a0, a1, a2, a3, a4, a5, a6, a7, a8, a9, a10], _, h, hK =>
  unfold bq
  repeat (first|refine aj ?_|refine av h rfl ?_|refine aK h rfl ?_|refine aH h rfl ?_|refine aI h rfl ?_|refine aJ h rfl ?_|refine aC h rfl ?_)
  exact hK ⟨a0, a1, a2, a3, a4, a5, a6, a7, a8, a9, a10, sl⟩ rfl rfl
theorem rec_eq {r : aZ} {f : List Int} {sl : Sl} (h : fieldsOf r = f) (hd : r.Data = sl) : [Value.int .i64 r.Kind, .int .i64 r.bR, .int .i64 r.Seq, .int .i64 r.Next, .int .i64 r.bW, .int .i64 r.bV, .int .i64 r.Time, .int .i64 r.Flags, .int .i64 r.Body, .int .i64 r.bQ, .int .i64 r.Origin, .slice r.Data.a r.Data.len r.Data.cap] = bL f sl := by
 rw [← h, ← hd]; rfl
structure dz where
 w : Nat
 lo : Int
 hi : Int
 j : Nat
def pK (b : Nat) : Ty dz := ⟨4, fun _ x vs => vs = [.int .i64 x.w, .int .i64 x.lo, .int .i64 x.hi, .pointer (some ⟨b, x.j, none⟩)], by rintro _ _ _ rfl; rfl, fun _ h => h, by rintro _ _ _ rfl; simp [one]⟩
def gv : dz := ⟨4, 1, 2147483648, 5⟩
def je : dz := ⟨1, 0, 31, 7⟩
def jq : dz := ⟨4, 1, 2147483648, 8⟩
def gP : dz := ⟨4, 1, 2147483649, 3⟩
def layout (k : Int) : List dz :=
 if k = 1 then [⟨2, 1, 999, 1⟩, ⟨4, 1, 2147483648, 2⟩, gP, ⟨4, 0, 2147483648, 4⟩]
 else if k = 2 then [gv, ⟨8, 0, 4503599627370496, 6⟩, je, jq, ⟨4, 0, 32768, 9⟩, ⟨8, 0, 9007199254740992, 10⟩]
 else if k = 3 then [gv] else if k = 4 then [gv, je] else if k = 5 then [gP] else if k = 6 then [jq] else []
theorem od (k : Int) {P : List dz → Prop} (h1 : k = 1 → P [⟨2, 1, 999, 1⟩, ⟨4, 1, 2147483648, 2⟩, gP, ⟨4, 0, 2147483648, 4⟩])
  (h2 : k = 2 → P [gv, ⟨8, 0, 4503599627370496, 6⟩, je, jq, ⟨4, 0, 32768, 9⟩, ⟨8, 0, 9007199254740992, 10⟩]) (h3 : k = 3 → P [gv]) (h4 : k = 4 → P [gv, je]) (h5 : k = 5 → P [gP]) (h6 : k = 6 → P [jq])
  (h0 : k ≠ 1 → k ≠ 2 → k ≠ 3 → k ≠ 4 → k ≠ 5 → k ≠ 6 → P []) : P (layout k) := by
 unfold layout
 by_cases e1 : k = 1
 ·rw [if_pos e1]; exact h1 e1
 rw [if_neg e1]
 by_cases e2 : k = 2
 ·rw [if_pos e2]; exact h2 e2
 rw [if_neg e2]
 by_cases e3 : k = 3
 ·rw [if_pos e3]; exact h3 e3
 rw [if_neg e3]
 by_cases e4 : k = 4
 ·rw [if_pos e4]; exact h4 e4
 rw [if_neg e4]
 by_cases e5 : k = 5
 ·rw [if_pos e5]; exact h5 e5
 rw [if_neg e5]
 by_cases e6 : k = 6
 ·rw [if_pos e6]; exact h6 e6
 rw [if_neg e6]
 exact h0 e1 e2 e3 e4 e5 e6
structure uf (p : dz) : Prop where
 w : p.w = 1 ∨ p.w = 2 ∨ p.w = 4 ∨ p.w = 8
 j : 1 ≤ p.j ∧ p.j ≤ 10
 lo : 0 ≤ p.lo
 hi : 0 ≤ p.hi ∧ p.hi ≤ 9007199254740992
theorem lQ (k : Int) : ∀ p ∈ layout k, uf p := by
 refine od k (P := fun l => ∀ p ∈ l, uf p) ?_ ?_ ?_ ?_ ?_ ?_ ?_ <;> intros <;> (rename_i p hp; simp [gv, je, jq, gP] at hp <;> first | (rcases hp with rfl | rfl | rfl | rfl | rfl | rfl <;> exact ⟨by decide, by decide, by decide, by decide⟩) | (rcases hp with rfl | rfl | rfl | rfl <;> exact ⟨by decide, by decide, by decide, by decide⟩) | (rcases hp with rfl | rfl <;> exact ⟨by decide, by decide, by decide, by decide⟩) | (subst hp; exact ⟨by decide, by decide, by decide, by decide⟩))
theorem th (k : Int) : (layout k).length ≤ 6 := by
 refine od k (P := fun l => l.length ≤ 6) ?_ ?_ ?_ ?_ ?_ ?_ ?_ <;> intros <;> simp
theorem Ls.of {α : Type} {t : Ty α} {V : View} (g : α → List Value) (hg : ∀ x, t.R V x (g x)) : ∀ (l : List α) (b o : Nat), At V b o (l.flatMap g) → ∀ j x, l[j]? = some x → El t V V x b (o + j * t.n)
 | [], b, o, h, j, x, hj => by simp at hj
 | y :: l, b, o, h, 0, x, hj => by
  simp at hj; subst hj
  refine ⟨g y, hg y, fun i v hi => ?_⟩
  have := h i v (by rw [List.flatMap_cons, List.getElem?_append_left]; exact hi; exact (List.getElem?_eq_some_iff.1 hi).1)
  simpa using this
 | y :: l, b, o, h, j + 1, x, hj => by
  have hl := t.len (hg y)
  have := Ls.of g hg l b (o + t.n) (fun i v hi => by
   have := h (t.n + i) v (by rw [List.flatMap_cons, List.getElem?_append_right (by omega), hl]; simpa using hi)
   rwa [← Nat.add_assoc] at this) j x (by simpa using hj)
  rwa [show o + (j + 1) * t.n = o + t.n + j * t.n by rw [Nat.add_mul]; omega]
theorem Ls.S9 {α : Type} {t : Ty α} {V : View} (g : α → List Value) (hg : ∀ x, t.R V x (g x)) {l : List α} {b n : Nat} (hn : n = l.length) (h : At V b 0 (l.flatMap g)) : Ls t V l ⟨some (af b), n, n⟩ :=
 ⟨hn, Nat.le_refl _, fun h => (by cases h), fun a e => by
  simp at e; subst e
  exact ⟨fun _ => rfl, Ls.of g hg l b 0 h⟩⟩
def Lp (b : Nat) (x : dz) : List Value := [.int .i64 x.w, .int .i64 x.lo, .int .i64 x.hi, .pointer (some ⟨b, x.j, none⟩)]
theorem tq {s : St} {q b : Nat} {f : List Int} {sl : Sl} {K : Sl → HP} (h : At (s.w q) b 0 (bL f sl)) (hf : f.length = 11)
  (hK : ∀ s' o, Step [] s s' → Ls (pK b) (s'.w 0) (layout (f.getD 0 0)) o → (o.a.isNone = true ↔ layout (f.getD 0 0) = []) → K o s'.H) : lC (some ⟨b, 0, none⟩) K s.H := by
 unfold lC
 refine aj ?_
 refine dQ rfl (by simp [one]) fun s1 p3 e1 a3 => ?_
 refine aj ?_
 refine dQ rfl (by simp [one]) fun s2 p4 e2 a4 => ?_
 refine aj ?_
 refine dQ rfl (by simp [one]) fun s3 p5 e3 a5 => ?_
 refine aj ?_
 refine dQ rfl (by simp [one]) fun s4 p6 e4 a6 => ?_
 have h4 : At (s4.w q) b 0 (bL f sl) := h.mono ((((e1.trans e2).trans e3).trans e4).view (by simp))
 have e14 := (((e1.trans e2).trans e3).trans e4)
 have b3 := a3.mono ((e2.trans e3).trans e4).v0
 have b4 := a4.mono (e3.trans e4).v0
 have b5 := a5.mono e4.v0
 refine aj ?_
 refine av h4 (fZ (by omega)) ?_
 have fin : ∀ (l : List dz) (n : Nat) (cs : Array Value), layout (f.getD 0 0) = l → n = l.length → l ≠ [] → cs.toList = l.flatMap (Lp b) → az cs (fun t => K ⟨some (af t), n, n⟩) s4.H := fun l n cs hl hn hne hcs => by
  refine bZ fun s5 p e5 a5 => ?_
  rw [hcs] at a5
  refine hK s5 _ (e14.trans e5.step) ?_ ?_
  ·rw [hl]
   exact Ls.S9 (Lp b) (fun x => rfl) hn a5
  ·rw [hl]; simp [hne]
 unfold fM
 refine aN (fun k1 => ?_) (fun k1 => ?_)
 ·refine aj ?_
  refine aj ?_
  repeat (first|refine aj ?_|refine av a6 rfl ?_|refine aK a6 rfl ?_|refine aH a6 rfl ?_|refine aI a6 rfl ?_|refine aJ a6 rfl ?_|refine aC a6 rfl ?_)
  exact fin [⟨2, 1, 999, 1⟩, ⟨4, 1, 2147483648, 2⟩, gP, ⟨4, 0, 2147483648, 4⟩] 4 _ (by unfold layout; rw [if_pos k1]) rfl (by simp) (by rfl)
 refine aN (fun k2 => ?_) (fun k2 => ?_)
 ·repeat (first|refine aj ?_|refine av b3 rfl ?_|refine aK b3 rfl ?_|refine aH b3 rfl ?_|refine aI b3 rfl ?_|refine aJ b3 rfl ?_|refine aC b3 rfl ?_)
  repeat (first|refine aj ?_|refine av b4 rfl ?_|refine aK b4 rfl ?_|refine aH b4 rfl ?_|refine aI b4 rfl ?_|refine aJ b4 rfl ?_|refine aC b4 rfl ?_)
  repeat (first|refine aj ?_|refine av b5 rfl ?_|refine aK b5 rfl ?_|refine aH b5 rfl ?_|refine aI b5 rfl ?_|refine aJ b5 rfl ?_|refine aC b5 rfl ?_)
  exact fin [gv, ⟨8, 0, 4503599627370496, 6⟩, je, jq, ⟨4, 0, 32768, 9⟩, ⟨8, 0, 9007199254740992, 10⟩] 6 _ (by unfold layout; rw [if_neg k1, if_pos k2]) rfl (by simp) (by rfl)
 refine aN (fun k3 => ?_) (fun k3 => ?_)
 ·repeat (first|refine aj ?_|refine av b3 rfl ?_|refine aK b3 rfl ?_|refine aH b3 rfl ?_|refine aI b3 rfl ?_|refine aJ b3 rfl ?_|refine aC b3 rfl ?_)
  exact fin [gv] 1 _ (by unfold layout; rw [if_neg k1, if_neg k2, if_pos k3]) rfl (by simp) (by rfl)
 refine aN (fun k4 => ?_) (fun k4 => ?_)
 ·repeat (first|refine aj ?_|refine av b3 rfl ?_|refine aK b3 rfl ?_|refine aH b3 rfl ?_|refine aI b3 rfl ?_|refine aJ b3 rfl ?_|refine aC b3 rfl ?_)
  repeat (first|refine aj ?_|refine av b4 rfl ?_|refine aK b4 rfl ?_|refine aH b4 rfl ?_|refine aI b4 rfl ?_|refine aJ b4 rfl ?_|refine aC b4 rfl ?_)
  exact fin [gv, je] 2 _ (by unfold layout; rw [if_neg k1, if_neg k2, if_neg k3, if_pos k4]) rfl (by simp) (by rfl)
 refine aN (fun k5 => ?_) (fun k5 => ?_)
 ·repeat (first|refine aj ?_|refine av a6 rfl ?_|refine aK a6 rfl ?_|refine aH a6 rfl ?_|refine aI a6 rfl ?_|refine aJ a6 rfl ?_|refine aC a6 rfl ?_)
  exact fin [gP] 1 _ (by unfold layout; rw [if_neg k1, if_neg k2, if_neg k3, if_neg k4, if_pos k5]) rfl (by simp) (by rfl)
 refine aN (fun k6 => ?_) (fun k6 => ?_)
 ·repeat (first|refine aj ?_|refine av b5 rfl ?_|refine aK b5 rfl ?_|refine aH b5 rfl ?_|refine aI b5 rfl ?_|refine aJ b5 rfl ?_|refine aC b5 rfl ?_)
  exact fin [jq] 1 _ (by unfold layout; rw [if_neg k1, if_neg k2, if_neg k3, if_neg k4, if_neg k5, if_pos k6]) rfl (by simp) (by rfl)
 ·have hl : layout (f.getD 0 0) = [] := by unfold layout; rw [if_neg k1, if_neg k2, if_neg k3, if_neg k4, if_neg k5, if_neg k6]
  exact hK s4 _ e14 (by rw [hl]; exact Ls.iO) (by rw [hl]; simp)
theorem acQ {s : St} {x y : RecM} {r r2 : aZ} {K : Bool → HP} (h : dM (s.w 0) x r) (h2 : dM (s.w 0) y r2) (hK : ∀ s', Step [] s s' → K (decide (x.f = y.f ∧ x.data = y.data)) s'.H) : tO r r2 K s.H := by
 unfold tO
 refine bZ fun s1 p1 n1 a1 => ?_
 refine bZ fun s2 p2 n2 a2 => ?_
 have e1 := n1.step
 have e2 := n2.step
 have a12 := a1.mono e2.v0
 have all : ∀ {s' : St} {r : aZ} {K' : qh → HP}, (∀ s'' (t : qh), Step [] s' s'' → [t.c0, t.c1, t.c2, t.c3, t.c4, t.c5, t.c6, t.c7, t.c8, t.c9, t.iF] = fieldsOf r → K' t s''.H) → qm r K' s'.H := fun {s' r K'} hk => by
  unfold qm
  refine bZ fun s3 p3 n3 a3 => ?_
  have e3 := n3.step
  refine dm (own s') (by have := e3.sz; unfold own; omega) fun s4 p4 n4 a4 => ?_
  have e4 := n4.step
  have a34 := a3.mono e4.v0
  repeat (first|refine aj ?_|refine av a34 rfl ?_|refine aK a34 rfl ?_|refine aH a34 rfl ?_|refine aI a34 rfl ?_|refine aJ a34 rfl ?_|refine aC a34 rfl ?_)
  refine eZ (own s') a4 rfl (by simp [one]) (by unfold own; omega) (.inl rfl) fun s5 e5 z5 a5 _ => ?_
  unfold HU
  repeat (first|refine aj ?_|refine av a5 rfl ?_|refine aK a5 rfl ?_|refine aH a5 rfl ?_|refine aI a5 rfl ?_|refine aJ a5 rfl ?_|refine aC a5 rfl ?_)
  exact hk s5 _ (((e3.trans e4).n.trans e5).loc) rfl
 unfold bq
 repeat (first|refine aj ?_|refine av a12 rfl ?_|refine aK a12 rfl ?_|refine aH a12 rfl ?_|refine aI a12 rfl ?_|refine aJ a12 rfl ?_|refine aC a12 rfl ?_)
 repeat (first|refine aj ?_|refine av a2 rfl ?_|refine aK a2 rfl ?_|refine aH a2 rfl ?_|refine aI a2 rfl ?_|refine aJ a2 rfl ?_|refine aC a2 rfl ?_)
 refine all fun s3 t e3 ht => ?_
 have a23 := a2.mono e3.v0
 refine fD ?_ ?_
 ·repeat (first|refine aj ?_|refine av a23 rfl ?_|refine aK a23 rfl ?_|refine aH a23 rfl ?_|refine aI a23 rfl ?_|refine aJ a23 rfl ?_|refine aC a23 rfl ?_)
  rfl
 refine all fun s4 t2 e4 ht2 => ?_
 have e04 := (((e1.trans e2).trans e3).trans e4)
 have a14 := (a12.mono e3.v0).mono e4.v0
 have a24 := a23.mono e4.v0
 have hc : (decide ((t.c0 : Int) = t2.c0) && (decide ((t.c1 : Int) = t2.c1) && (decide ((t.c2 : Int) = t2.c2) && (decide ((t.c3 : Int) = t2.c3) && (decide ((t.c4 : Int) = t2.c4) && (decide ((t.c5 : Int) = t2.c5) && (decide ((t.c6 : Int) = t2.c6) && (decide ((t.c7 : Int) = t2.c7) && (decide ((t.c8 : Int) = t2.c8) && (decide ((t.c9 : Int) = t2.c9) && (decide ((t.iF : Int) = t2.iF) && true))))))))))) = decide (x.f = y.f) := by
  have e : (x.f = y.f) = ([t.c0, t.c1, t.c2, t.c3, t.c4, t.c5, t.c6, t.c7, t.c8, t.c9, t.iF] = [t2.c0, t2.c1, t2.c2, t2.c3, t2.c4, t2.c5, t2.c6, t2.c7, t2.c8, t2.c9, t2.iF]) := by
   rw [ht, ht2, ← h.f, ← h2.f]
  simp only [e]
  simp
 rw [hc]
 have hK' := hK s4 e04
 refine aN (fun hx => ?_) (fun hx => ?_)
 ·repeat (first|refine aj ?_|refine av a14 rfl ?_|refine aK a14 rfl ?_|refine aH a14 rfl ?_|refine aI a14 rfl ?_|refine aJ a14 rfl ?_|refine aC a14 rfl ?_)
  repeat (first|refine aj ?_|refine av a24 rfl ?_|refine aK a24 rfl ?_|refine aH a24 rfl ?_|refine aI a24 rfl ?_|refine aJ a24 rfl ?_|refine aC a24 rfl ?_)
  unfold yl
  refine k8 (h.st e04).data ?_
  refine k8 (h2.st e04).data ?_
  have hba : ((⟨x.data.toArray⟩ : ByteArray) = ⟨y.data.toArray⟩) ↔ x.data = y.data := MQ
  have : decide ((⟨x.data.toArray⟩ : ByteArray) = ⟨y.data.toArray⟩) = decide (x.f = y.f ∧ x.data = y.data) := by
   rw [decide_eq_decide, hba]; simp [hx]
  rw [this]
  exact hK'
 ·rwa [decide_eq_false (fun h => hx h.1)] at hK'
end Go.Ph
end
section
set_option linter.all false
namespace Go.Ph
open S
theorem zX {s : St} {q b j : Nat} {vs : List Value} {k : IntKind} {K : Int → HP} {n : Int} (h : At (s.w q) b 0 vs) (hi : vs[j]? = some (.int k n)) (hK : K n s.H) : ag k ⟨b, j, none⟩ K s.H := by
 rw [← BH]; exact av h hi hK
theorem KY {s : St} {k b j : Nat} {vs : List Value} {v : Value} {K : HP} (h : At (s.w k) b 0 vs) (hi : j < vs.length) (hv : one v = true) (hk : k ≠ 0)
  (hK : ∀ s' : St, Step [k] s s' → s'.H.size = s.H.size → At (s'.w k) b 0 (vs.set j v) → lu b s s' → K s'.H) : aq ⟨b, j, none⟩ 0 [v] K s.H := by
 rw [← BH]; exact cP h hi hv hk hK
def eC (k : Int) (f : List Int) (l : List dz) : List Int := l.foldl (fun g p => g.set p.j (f.getD p.j 0)) (k :: List.replicate 10 0)
theorem oP (k : Int) (f : List Int) (l : List dz) : (eC k f l).length = 11 := by
 refine qg (P := fun l => (eC k f l).length = 11) rfl (fun l p ih => ?_) l
 simp only [eC, List.foldl_append, List.foldl_cons, List.foldl_nil, List.length_set] at ih ⊢
 exact ih
theorem LL (k : Int) (f : List Int) (l : List dz) (p : dz) : eC k f (l ++ [p]) = (eC k f l).set p.j (f.getD p.j 0) := by simp [eC]
def jF (f : List Int) : List Int := eC (f.getD 0 0) f (layout (f.getD 0 0))
def gL (x : RecM) : Bool := decide (x.f = jF x.f ∧ x.data = if x.kind = 6 then x.data else [])
theorem Ut {s : St} {x : RecM} {r : aZ} {K : Bool → HP} (h : dM (s.w 0) x r) (hK : ∀ s', Step [] s s' → K (gL x) s'.H) : tT r K s.H := by
 unfold tT
 have hxl := h.len
 have hq0 : own s ≠ 0 := by unfold own; omega
 refine bZ fun s1 p1 n1 a1 => ?_
 have e1 := n1.step
 have a1' : At (s1.w 0) p1 0 (bL x.f r.Data) := by rw [← h.f]; exact a1
 refine av a1' (fZ (by omega)) ?_
 refine dm (own s) (by have := e1.sz; unfold own; omega) fun s2 p3 n2 a2 => ?_
 have e2 := n2.step
 refine eZ (own s) a2 rfl (by simp [one]) hq0 (.inl rfl) fun s3 e3 z3 a3 _ => ?_
 have a13 : At (s3.w 0) p1 0 (bL x.f r.Data) := (a1'.mono e2.v0).mono e3.v0
 have es3 : Step [own s] s s3 := (e1.trans e2).n.tr e3 (A := [])
 have a3' : At (s3.w (own s)) p3 0 (bL (eC x.kind x.f []) ⟨none, 0, 0⟩) := a3
 have hr := h.st es3
 refine tq a13 hxl fun s4 o1 e4 l1 _ => ?_
 have a34 := a3'.mono (e4.view (by simp))
 have a14 := a13.mono e4.v0
 refine tq a34 (oP _ _ _) fun s5 o3 e5 l3 _ => ?_
 have a35 := a34.mono (e5.view (by simp))
 have a15 := a14.mono e5.v0
 have l15 := Ls.st l1 e5
 have hk : (eC x.kind x.f []).getD 0 0 = x.kind := rfl
 rw [hk] at l3
 have es5 : Step [own s] s s5 := es3.trans (e4.trans e5).n
 have hLl := l3.len
 have hLL := th x.kind
 change Ls (pK p1) (s5.w 0) (layout x.kind) o1 at l15
 have hL := lQ x.kind
 have hbf : jF x.f = eC x.kind x.f (layout x.kind) := rfl
 rw [show gL x = decide (x.f = eC x.kind x.f (layout x.kind) ∧ x.data = if x.kind = 6 then x.data else []) from rfl] at hK
 generalize layout x.kind = L at *
 refine cD (fun i : Nat => [.int .i64 i]) (fun i s' => i ≤ L.length ∧ Step [own s] s s' ∧ Step [own s] s5 s' ∧ At (s'.w (own s)) p3 0 (bL (eC x.kind x.f (L.take i)) ⟨none, 0, 0⟩)) (fun i _ => L.length - i) 0 rfl ⟨Nat.zero_le _, es5, Step.refl, a35⟩ ?_
 rintro i s6 ⟨hi, es6, e56, a36⟩ G hG
 simp only [List.getD_cons_zero, List.getD_cons_succ, cI, cN, cK, cH, cJ, cO]
 have a16 := a15.mono e56.v0
 have fin : ∀ s7 (sl : Sl), Step [own s] s6 s7 → At (s7.w (own s)) p3 0 (bL (eC x.kind x.f L) sl) → Ls bf (s7.w 0) (if x.kind = 6 then x.data else []) sl → xR p1 p3 K s7.H := fun s7 sl e7 a37 hsl => by
  unfold xR
  have es7 := es6.trans e7
  refine fF (sl := r.Data) (a16.mono e7.v0) hxl fun r1 f1 d1 => ?_
  refine fF a37 (oP _ _ _) fun r2 f2 d2 => ?_
  refine acQ (x := x) (y := ⟨eC x.kind x.f L, if x.kind = 6 then x.data else []⟩) ⟨f1, by rw [d1]; exact (h.st es7).data⟩ ⟨f2, by rw [d2]; exact hsl⟩ fun s8 e8 => ?_
  exact hK s8 ((es7.trans e8.n).loc)
 refine aN (fun hlt => ?_) (fun hlt => ?_)
 ·have hz6 := es6.sz
  refine bU (Ls.st l3 e56) (by omega) (by omega) fun b3 q3 p hp hel => ?_
  rw [Int.toNat_natCast] at hp
  obtain ⟨vs, rfl, hat⟩ := hel
  unfold fM
  repeat (first|refine aj ?_|refine av hat rfl ?_|refine aK hat rfl ?_|refine aH hat rfl ?_|refine aI hat rfl ?_|refine aJ hat rfl ?_|refine aC hat rfl ?_)
  refine dQ rfl (by simp [one]) fun s7 p6 e7 a7 => ?_
  repeat (first|refine aj ?_|refine av a7 rfl ?_|refine aK a7 rfl ?_|refine aH a7 rfl ?_|refine aI a7 rfl ?_|refine aJ a7 rfl ?_|refine aC a7 rfl ?_)
  refine bU (Ls.st l15 (e56.trans e7.n)) (by omega) (by have := l15.len; omega) fun b4 q4 p' hp' hel' => ?_
  rw [Int.toNat_natCast, hp] at hp'
  have := Option.some.inj hp'
  subst this
  obtain ⟨vs, rfl, hat'⟩ := hel'
  refine aI hat' rfl ?_
  have hpo := hL p (List.mem_of_getElem? hp)
  have hpj := hpo.j
  refine aj ?_
  refine zX (a16.mono e7.v0) (fZ (by omega)) ?_
  refine aj ?_
  have a37 := a36.mono (e7.view (by simp))
  refine KY a37 (by rw [nG, oP]; omega) rfl hq0 (fun s8 e8 z8 a8 _ => ?_)
  rw [EH (by rw [oP]; omega)] at a8
  rw [aY (by omega) (by omega)]
  have ht : L.take (i + 1) = L.take i ++ [p] := by rw [List.take_succ, hp]; rfl
  refine hG (i + 1) s8 ⟨by omega, es6.trans (e7.n.trans e8), e56.trans (e7.n.trans e8), ?_⟩ (by omega)
  rw [ht, LL]
  exact a8
 ·have : i = L.length := by omega
  subst this
  rw [List.take_of_length_le (Nat.le_refl _)] at a36
  refine av a16 (fZ (by omega)) ?_
  refine aN (fun h6 => ?_) (fun h6 => ?_)
  ·refine aC a16 (mI hxl) ?_
   refine cP a36 (by rw [nG, oP]; omega) rfl hq0 (fun s8 e8 z8 a8 _ => ?_)
   rw [abk (oP _ _ _)] at a8
   refine fin s8 r.Data e8 a8 ?_
   rw [if_pos (show x.kind = 6 from h6)]
   exact ((h.st es6).st e8).data
  ·refine fin s6 ⟨none, 0, 0⟩ Step.refl a36 ?_
   rw [if_neg (show ¬x.kind = 6 from h6)]
   exact Ls.iO
def fC (f : List Int) (p : dz) : Bool := decide (p.lo ≤ f.getD p.j 0) && decide (f.getD p.j 0 ≤ p.hi)
def cj (x : RecM) : Int :=
 if layout x.kind = [] then 16 else if (layout x.kind).all (fC x.f) = false then 1 else if x.kind = 6 ∧ 32768 < x.data.length then 4 else if gL x = true then 0 else 3
theorem yy {s : St} {x : RecM} {r : aZ} {K : Int → HP} (h : dM (s.w 0) x r) (hK : ∀ s', Step [] s s' → K (cj x) s'.H) : lG r K s.H := by
 unfold lG
 have hxl := h.len
 have hq0 : own s ≠ 0 := by unfold own; omega
 refine bZ fun s1 p1 n1 a1 => ?_
 have e1 := n1.step
 have a1' : At (s1.w 0) p1 0 (bL x.f r.Data) := by rw [← h.f]; exact a1
 refine tq a1' hxl fun s2 o e2 l2 hno => ?_
 have a2 := a1'.mono e2.v0
 have e12 := e1.trans e2
 change Ls (pK p1) (s2.w 0) (layout x.kind) o at l2
 change _ ↔ layout x.kind = [] at hno
 have hL := lQ x.kind
 have hLL := th x.kind
 unfold cj at hK
 generalize layout x.kind = L at *
 refine js (fun h1 => ?_) (fun h1 => ?_)
 ·rw [if_pos (hno.1 h1)] at hK
  exact hK s2 e12
 rw [if_neg (fun h => by rw [hno.2 h] at h1; cases h1)] at hK
 have hlen := l2.len
 refine cD (fun i : Nat => [.int .i64 i]) (fun i s' => i ≤ L.length ∧ Step [] s2 s' ∧ (L.take i).all (fC x.f) = true) (fun i _ => L.length - i) 0 rfl ⟨Nat.zero_le _, Step.refl, by simp⟩ ?_
 rintro i s3 ⟨hi, e3, hall⟩ G hG
 simp only [List.getD_cons_zero, List.getD_cons_succ, cI, cN, cK, cH, cJ, cO]
 have e03 := e12.trans e3
 have a3 := a2.mono e3.v0
 refine aN (fun hlt => ?_) (fun hlt => ?_)
 ·refine bU (Ls.st l2 e3) (by omega) (by omega) fun b3 q3 p hp hel => ?_
  rw [Int.toNat_natCast] at hp
  obtain ⟨vs, rfl, hat⟩ := hel
  unfold fM
  repeat (first|refine aj ?_|refine av hat rfl ?_|refine aK hat rfl ?_|refine aH hat rfl ?_|refine aI hat rfl ?_|refine aJ hat rfl ?_|refine aC hat rfl ?_)
  refine dQ rfl (by simp [one]) fun s4 p5 e4 a4 => ?_
  have hpm := List.mem_of_getElem? hp
  have hpj := (hL p hpm).j
  have a34 := a3.mono e4.v0
  have hg : ∀ {K' : Int → HP}, K' (x.f.getD p.j 0) s4.H → ag .i64 ⟨p1, p.j, none⟩ K' s4.H := fun hk => zX a34 (fZ (by omega)) hk
  refine aI a4 rfl ?_
  refine aj ?_
  refine hg ?_
  refine av a4 rfl ?_
  have bad : fC x.f p = false → uw p1 o o.len i true K G s4.H := fun hb => by
   unfold uw
   refine bH ?_
   have : L.all (fC x.f) = false := by
    rw [Bool.eq_false_iff]
    intro hh
    rw [List.all_eq_true] at hh
    rw [hh p hpm] at hb
    cases hb
   rw [if_pos this] at hK
   exact hK s4 (e03.trans e4)
  refine aN (fun h2 => ?_) (fun h2 => ?_) <;> change _ at h2 <;> simp only at h2
  ·exact bad (by unfold fC; rw [decide_eq_false (by omega)]; rfl)
  ·refine aI a4 rfl ?_
   refine aj ?_
   refine hg ?_
   refine av a4 rfl ?_
   by_cases h3 : p.hi < x.f.getD p.j 0
   ·rw [decide_eq_true h3]
    exact bad (by unfold fC; rw [decide_eq_false (show ¬ x.f.getD p.j 0 ≤ p.hi by omega), Bool.and_false])
   ·rw [decide_eq_false h3]
    unfold uw
    refine bt ?_
    rw [aY (by omega) (by omega)]
    refine hG (i + 1) s4 ⟨by omega, e3.trans e4, ?_⟩ (by omega)
    have ht : L.take (i + 1) = L.take i ++ [p] := by rw [List.take_succ, hp]; rfl
    rw [ht, List.all_append, hall]
    have : fC x.f p = true := by
     unfold fC; rw [decide_eq_true (show p.lo ≤ _ by omega), decide_eq_true (show _ ≤ p.hi by omega)]; rfl
    simp [this]
 ·have : i = L.length := by omega
  subst this
  rw [List.take_of_length_le (Nat.le_refl _)] at hall
  rw [if_neg (by rw [hall]; simp)] at hK
  refine av a3 (fZ (by omega)) ?_
  have hd3 := (h.st e03).data
  have hdl := hd3.len
  have j2 : ¬(x.kind = 6 ∧ 32768 < x.data.length) → tG p1 false K s3.H := fun hn => by
   unfold tG
   refine bt ?_
   rw [if_neg hn] at hK
   refine fF a3 hxl fun r1 f1 d1 => ?_
   refine Ut (x := x) ⟨f1, by rw [d1]; exact hd3⟩ fun s4 e4 => ?_
   have := hK s4 (e03.trans e4)
   refine js (fun hb => ?_) (fun hb => ?_)
   ·rwa [if_neg (by simpa using hb)] at this
   ·rwa [if_pos (by simpa using hb)] at this
  refine aN (fun h6 => ?_) (fun h6 => ?_)
  ·refine aC a3 (mI hxl) ?_
   by_cases h7 : (32768 : Int) < (r.Data.len : Nat)
   ·rw [decide_eq_true h7]
    unfold tG
    refine bH ?_
    rw [if_pos ⟨h6, by omega⟩] at hK
    exact hK s3 e03
   ·rw [decide_eq_false h7]
    exact j2 (by omega)
  ·exact j2 (fun h => h6 h.1)
end Go.Ph
end
section
set_option linter.all false
namespace Go.Ph
open S
theorem Ch {s : St} {l : List UInt8} {sl : Sl} {K : Sl → HP} (h : Ls bf (s.w 0) l sl) (hl : l.length ≤ 1000000000000) (hK : ∀ s' o, Step [] s s' → Ls bf (s'.w 0) l o → K o s'.H) : om sl K s.H := by
 unfold om
 refine js (fun h1 => ?_) (fun h1 => ?_)
 ·have : l = [] := by
   have hn : sl.a = none := by simpa using h1
   have h2 := h.nil hn
   have h3 := h.len
   have h4 := h.cap
   exact List.eq_nil_of_length_eq_zero (by omega)
  subst this
  exact hK s _ Step.refl Ls.iO
 ·refine bZ fun s1 p n1 a1 => ?_
  have e1 := n1.step
  have hz := e1.sz
  refine jl (q := own s) bF.none_ (Ls.st h e1) (fun s2 o2 e2 b2 => ?_) rfl rfl (by simp; omega) (by simp; omega) (by unfold own; omega) (by unfold own; omega)
  exact hK s2 o2 ((e1.n.trans e2).loc) (by simpa using b2.ls)
structure Src (q : Nat) (s : St) (b : Nat) (sl : Sl) (l : List UInt8) (at_ : Nat) (e : Int) : Prop where
 row : At (s.w q) b 0 [.slice sl.a sl.len sl.cap, .int .i64 at_, .int .i64 e]
 ls : Ls bf (s.w 0) l sl
 le : at_ ≤ l.length
theorem Src.st {q : Nat} {s s' : St} {b : Nat} {sl : Sl} {l : List UInt8} {at_ : Nat} {e : Int} {S : List Nat} (h : Src q s b sl l at_ e) (hs : Step S s s') (hq : q ∉ S) : Src q s' b sl l at_ e :=
 ⟨h.row.mono (hs.view hq), Ls.st h.ls hs, h.le⟩
theorem vh {q : Nat} {s : St} {b : Nat} {sl : Sl} {l : List UInt8} {at_ : Nat} {e c : Int} {K : Bool → HP} (h : Src q s b sl l at_ e) (hK : K (!decide (e = 0)) s.H) : kz (some ⟨b, 0, none⟩) false c K s.H := by
 unfold kz vu u5
 refine bt (bt ?_)
 have a := h.row
 repeat (first|refine aj ?_|refine av a rfl ?_|refine aK a rfl ?_|refine aH a rfl ?_|refine aI a rfl ?_|refine aJ a rfl ?_|refine aC a rfl ?_)
 exact hK
theorem Xa {q : Nat} {s : St} {b : Nat} {sl : Sl} {l : List UInt8} {at_ : Nat} {c : Int} {K : Bool → HP} (h : Src q s b sl l at_ 0) (hq : q ≠ 0) (hc : c ≠ 0) (hK : ∀ s', Step [q] s s' → Src q s' b sl l at_ c → K true s'.H) : kz (some ⟨b, 0, none⟩) true c K s.H := by
 unfold kz vu u5
 refine bH ?_
 have a := h.row
 refine aj ?_
 refine av a rfl ?_
 refine aN (fun _ => ?_) (fun h => absurd rfl h)
 refine aj ?_
 refine cP a (by simp) rfl hq (fun s1 e1 z1 a1 _ => ?_)
 repeat (first|refine aj ?_|refine av a1 rfl ?_|refine aK a1 rfl ?_|refine aH a1 rfl ?_|refine aI a1 rfl ?_|refine aJ a1 rfl ?_|refine aC a1 rfl ?_)
 rw [decide_eq_false hc]
 exact hK s1 e1 ⟨a1, Ls.st h.ls e1, h.le⟩
theorem uF {q : Nat} {s : St} {b : Nat} {sl : Sl} {l : List UInt8} {at_ : Nat} {e : Int} {K : Int → HP} (h : Src q s b sl l at_ e) (hl : l.length ≤ 1000000000000) (hK : K ((l.length - at_ : Nat) : Int) s.H) : mw (some ⟨b, 0, none⟩) K s.H := by
 unfold mw
 have a := h.row
 have hlen := h.ls.len
 have hle := h.le
 repeat (first|refine aj ?_|refine av a rfl ?_|refine aK a rfl ?_|refine aH a rfl ?_|refine aI a rfl ?_|refine aJ a rfl ?_|refine aC a rfl ?_)
 rw [aY (by omega) (by omega), show ((sl.len : Nat) : Int) - (at_ : Int) = ((l.length - at_ : Nat) : Int) by omega]
 exact hK
def jJ (l : List UInt8) (at_ : Nat) (e : Int) (k : Nat) : Nat × Int × Int := if e ≠ 0 then (at_, e, 0) else if l.length < at_ + k then (at_, 2, 0) else (at_ + k, 0, eV l at_ k)
theorem Pg {q : Nat} {s : St} {b : Nat} {sl : Sl} {l : List UInt8} {at_ k : Nat} {e : Int} {K : Int → HP} (h : Src q s b sl l at_ e) (hq : q ≠ 0) (hl : l.length ≤ 1000000000000) (hk : 1 ≤ k ∧ k ≤ 8)
  (hK : ∀ s', Step [q] s s' → Src q s' b sl l (jJ l at_ e k).1 (jJ l at_ e k).2.1 → K (jJ l at_ e k).2.2 s'.H) : rS (some ⟨b, 0, none⟩) k K s.H := by
 unfold rS lU
 refine aN (fun _ => ?_) (fun h => absurd (by omega) h)
 rw [decide_eq_true (show (k : Int) ≤ 8 by omega)]
 refine vh h ?_
 unfold jJ at hK
 by_cases he : e = 0
 ·subst he
  rw [if_neg (by simp)] at hK
  refine bK (fun h => absurd rfl h) (fun _ => ?_)
  refine uF h hl ?_
  have hle := h.le
  by_cases hs : l.length < at_ + k
  ·rw [if_pos hs] at hK
   rw [decide_eq_true (by omega)]
   refine Xa h hq (by decide) fun s1 e1 h1 => ?_
   unfold rR
   exact bH (hK s1 e1 h1)
  ·rw [if_neg hs] at hK
   rw [decide_eq_false (by omega)]
   refine vh h ?_
   unfold rR
   refine bK (fun h => absurd rfl h) (fun _ => ?_)
   have a := h.row
   repeat (first|refine aj ?_|refine av a rfl ?_|refine aK a rfl ?_|refine aH a rfl ?_|refine aI a rfl ?_|refine aJ a rfl ?_|refine aC a rfl ?_)
   refine yN h.ls (by omega) (by omega) ?_
   repeat (first|refine aj ?_|refine av a rfl ?_|refine aK a rfl ?_|refine aH a rfl ?_|refine aI a rfl ?_|refine aJ a rfl ?_|refine aC a rfl ?_)
   rw [aY (by omega) (by omega)]
   refine cP a (by simp) rfl hq (fun s1 e1 z1 a1 _ => ?_)
   exact hK s1 e1 ⟨by simpa using a1, Ls.st h.ls e1, by simp only; omega⟩
 ·rw [if_pos he] at hK
  refine bK (fun _ => ?_) (fun h => absurd h he)
  unfold rR
  exact bH (hK s Step.refl h)
theorem WQ {q : Nat} {s : St} {b : Nat} {sl : Sl} {l : List UInt8} {at_ : Nat} {e : Int} {K : Sl → HP} (h : Src q s b sl l at_ e) (hq : q ≠ 0) (hl : l.length ≤ 1000000000000)
  (hE : e ≠ 0 → K ⟨none, 0, 0⟩ s.H) (hO : e = 0 → ∀ s' o, Step [q] s s' → Src q s' b sl l l.length 0 → Ls bf (s'.w 0) (l.drop at_) o → K o s'.H) : rT (some ⟨b, 0, none⟩) ((l.length - at_ : Nat) : Int) K s.H := by
 unfold rT
 rw [decide_eq_false (by omega)]
 refine vh h ?_
 by_cases he : e = 0
 ·subst he
  refine bK (fun h => absurd rfl h) (fun _ => ?_)
  refine uF h hl ?_
  rw [decide_eq_false (by omega)]
  refine vh h ?_
  unfold wY
  refine bK (fun h => absurd rfl h) (fun _ => ?_)
  have a := h.row
  have hle := h.le
  have hlen := h.ls.len
  have hcap := h.ls.cap
  repeat (first|refine aj ?_|refine av a rfl ?_|refine aK a rfl ?_|refine aH a rfl ?_|refine aI a rfl ?_|refine aJ a rfl ?_|refine aC a rfl ?_)
  rw [aY (n := (at_ : Int) + ((l.length - at_ : Nat) : Int)) (by omega) (by omega), show (at_ : Int) + ((l.length - at_ : Nat) : Int) = (l.length : Int) by omega]
  refine cP a (by simp) rfl hq (fun s1 e1 z1 a1 _ => ?_)
  repeat (first|refine aj ?_|refine av a1 rfl ?_|refine aK a1 rfl ?_|refine aH a1 rfl ?_|refine aI a1 rfl ?_|refine aJ a1 rfl ?_|refine aC a1 rfl ?_)
  rw [aY (n := (l.length : Int) - ((l.length - at_ : Nat) : Int)) (by omega) (by omega), show (l.length : Int) - ((l.length - at_ : Nat) : Int) = (at_ : Int) by omega]
  have h1 := Ls.st h.ls e1
  refine lY h1 (by omega) (by omega) (by omega) (by omega) (by omega) fun sA hA cA => ?_
  rw [Int.toNat_natCast, Int.toNat_natCast, List.take_of_length_le (Nat.le_refl _)] at hA
  refine Ch hA (by rw [List.length_drop]; omega) fun s2 o e2 l2 => ?_
  exact hO rfl s2 o (e1.trans e2.n) ⟨by simpa using a1.mono (e2.view (by simp)), Ls.st h1 e2, Nat.le_refl _⟩ l2
 ·refine bK (fun _ => ?_) (fun h => absurd h he)
  unfold wY
  exact bH (hE he)
theorem PN {q : Nat} {s : St} {b : Nat} {sl : Sl} {l : List UInt8} {at_ : Nat} {e : Int} {K : Int → HP} (h : Src q s b sl l at_ e) (hl : l.length ≤ 1000000000000)
  (hK : K (if e = 0 ∧ at_ < l.length then 3 else e) s.H) : si (some ⟨b, 0, none⟩) K s.H := by
 unfold si
 have a := h.row
 have hle := h.le
 repeat (first|refine aj ?_|refine av a rfl ?_|refine aK a rfl ?_|refine aH a rfl ?_|refine aI a rfl ?_|refine aJ a rfl ?_|refine aC a rfl ?_)
 refine aN (fun he => ?_) (fun he => ?_)
 ·refine uF h hl ?_
  unfold wR
  refine aN (fun h => ?_) (fun h => ?_)
  ·rwa [if_pos ⟨he, by omega⟩] at hK
  ·rwa [if_neg (by omega)] at hK
 ·unfold wR
  refine bt ?_
  rwa [if_neg (fun h => he h.1)] at hK
end Go.Ph
end
section
set_option linter.all false
namespace Go.Ph
open S
def total (L : List dz) : Nat := (L.map (·.w)).sum
theorem acI (L : List dz) (p : dz) : total (L ++ [p]) = total L + p.w := by simp [total]
def jW (l : List UInt8) : List dz → Nat → List Int
 | [], _ => []
 | p :: L, o => eV l o p.w :: jW l L (o + p.w)
theorem D5 (l : List UInt8) (p : dz) : ∀ (L : List dz) (o : Nat), jW l (L ++ [p]) o = jW l L o ++ [eV l (o + total L : Nat) p.w]
 | [], o => by simp [jW, total]
 | q :: L, o => by
  simp only [List.cons_append, jW, D5 l p L]
  rw [show o + q.w + total L = o + total (q :: L) by simp [total]; omega]
def fu (k : Int) (L : List dz) (vs : List Int) : List Int := (L.zip vs).foldl (fun g x => g.set x.1.j x.2) (k :: List.replicate 10 0)
theorem Nk : ∀ (xs : List (dz × Int)) (g : List Int), (xs.foldl (fun g x => g.set x.1.j x.2) g).length = g.length
 | [], g => rfl
 | x :: xs, g => by rw [List.foldl_cons, Nk xs, List.length_set]
theorem AZ (k : Int) (L : List dz) (vs : List Int) : (fu k L vs).length = 11 := by unfold fu; rw [Nk]; rfl
theorem OH {α β : Type} {l : List α} {m : List β} {i : Nat} {x : α} {y : β} (hx : l[i]? = some x) (hy : m[i]? = some y) : (l.take (i + 1)).zip (m.take (i + 1)) = (l.take i).zip (m.take i) ++ [(x, y)] := by
 have hi : i < l.length := (List.getElem?_eq_some_iff.1 hx).1
 have hj : i < m.length := (List.getElem?_eq_some_iff.1 hy).1
 rw [List.take_succ, List.take_succ, hx, hy]
 rw [List.zip_append (by rw [List.length_take, List.length_take]; omega)]
 rfl
def fT (L : List dz) (vs : List Int) : Bool := (L.zip vs).all fun x => decide (x.1.lo ≤ x.2) && decide (x.2 ≤ x.1.hi)
def ga (L : List dz) (vs : List Int) : Bool := (L.zip vs).all fun x => decide (x.2 ≤ x.1.hi)
def iC (k : Int) (l : List UInt8) : Except Int RecM :=
 if layout k = [] then .error 16 else if l.length < total (layout k) then .error 2 else if k ≠ 6 ∧ total (layout k) < l.length then .error 3
 else if k = 6 ∧ 32768 < l.length - total (layout k) then .error 4
 else if fT (layout k) (jW l (layout k) 0) = true then .ok ⟨fu k (layout k) (jW l (layout k) 0), if k = 6 then l.drop (total (layout k)) else []⟩ else .error 1
theorem MI {k : Int} {vs : List Int} {data : List UInt8} (hne : layout k ≠ []) (hl : vs.length = (layout k).length) (hh : ga (layout k) vs = true) (hd : data.length ≤ 32768) (hd6 : k ≠ 6 → data = []) :
  cj ⟨fu k (layout k) vs, data⟩ = if fT (layout k) vs = true then 0 else 1 := by
 revert hne hl hh
 refine od k (P := fun L => L ≠ [] → vs.length = L.length → ga L vs = true → cj ⟨fu k L vs, data⟩ = if fT L vs = true then 0 else 1) ?_ ?_ ?_ ?_ ?_ ?_ ?_
 ·rintro rfl _ hl hh
  match vs, hl with
  | [a, b, c, d], _ =>
   have hd0 := hd6 (by decide)
   subst hd0
   simp [ga, gP] at hh
   simp [cj, RecM.kind, fu, layout, gL, jF, eC, fC, fT, gP, hh]
   try split <;> simp_all
 ·rintro rfl _ hl hh
  match vs, hl with
  | [a, b, c, d, e, f], _ =>
   have hd0 := hd6 (by decide)
   subst hd0
   simp [ga, gv, je, jq] at hh
   simp [cj, RecM.kind, fu, layout, gL, jF, eC, fC, fT, gv, je, jq, hh]
   try split <;> simp_all
 ·rintro rfl _ hl hh
  match vs, hl with
  | [a], _ =>
   have hd0 := hd6 (by decide)
   subst hd0
   simp [ga, gv] at hh
   simp [cj, RecM.kind, fu, layout, gL, jF, eC, fC, fT, gv, hh]
   try split <;> simp_all
 ·rintro rfl _ hl hh
  match vs, hl with
  | [a, b], _ =>
   have hd0 := hd6 (by decide)
   subst hd0
   simp [ga, gv, je] at hh
   simp [cj, RecM.kind, fu, layout, gL, jF, eC, fC, fT, gv, je, hh]
   try split <;> simp_all
 ·rintro rfl _ hl hh
  match vs, hl with
  | [a], _ =>
   have hd0 := hd6 (by decide)
   subst hd0
   simp [ga, gP] at hh
   simp [cj, RecM.kind, fu, layout, gL, jF, eC, fC, fT, gP, hh]
   try split <;> simp_all
 ·rintro rfl _ hl hh
  match vs, hl with
  | [a], _ =>
   simp [ga, jq] at hh
   have hd' : ¬ 32768 < data.length := by omega
   simp [cj, RecM.kind, fu, layout, gL, jF, eC, fC, fT, jq, hh, hd']
   try split <;> simp_all
 ·intro _ _ _ _ _ _ h
  exact absurd rfl h
theorem mR {s : St} {q b : Nat} {vs : List Value} {r : aZ} {K : aZ → HP} (h : At (s.w q) b 0 vs) (hl : vs.length = 12) (hq : q ≠ 0)
  (hK : ∀ s', Step [q] s s' → K r s'.H) : aq (af b) 0 [.int .i64 r.Kind, .int .i64 r.bR, .int .i64 r.Seq, .int .i64 r.Next, .int .i64 r.bW, .int .i64 r.bV, .int .i64 r.Time, .int .i64 r.Flags, .int .i64 r.Body, .int .i64 r.bQ, .int .i64 r.Origin, .slice r.Data.a r.Data.len r.Data.cap] (bq (af b) fun r => K r) s.H := by
 refine eZ q h (by rw [hl]; rfl) (by simp [one]) hq (.inl rfl) fun s1 e1 z1 a1 _ => ?_
 unfold bq
 repeat (first|refine aj ?_|refine av a1 rfl ?_|refine aK a1 rfl ?_|refine aH a1 rfl ?_|refine aI a1 rfl ?_|refine aJ a1 rfl ?_|refine aC a1 rfl ?_)
 exact hK s1 e1
theorem Gc {s : St} {q4 q6 p4 p6 : Nat} {x : RecM} {sl : Sl} {vs4 : List Value} {e : Int} {K : aZ → Int → HP} (h4 : At (s.w q4) p4 0 vs4) (hl4 : vs4.length = 12) (h6 : At (s.w q6) p6 0 (bL x.f sl)) (hx : x.f.length = 11) (hd : Ls bf (s.w 0) x.data sl) (hq : q4 ≠ 0)
  (hE : e ≠ 0 → ∀ r s', Step [q4] s s' → K r e s'.H) (hO : e = 0 → ∀ r s', Step [q4] s s' → dM (s'.w 0) x r → K r 0 s'.H) : wk p4 p6 e K s.H := by
 unfold wk
 refine bK (fun he => ?_) (fun he => ?_)
 ·exact mR (r := ⟨0, 0, 0, 0, 0, 0, 0, 0, 0, 0, 0, ⟨none, 0, 0⟩⟩) h4 hl4 hq fun s' e' => hE he _ s' e'
 ·refine fF h6 hx fun r f d => ?_
  refine mR h4 hl4 hq fun s' e' => ?_
  exact hO he r s' e' ⟨f, by rw [d]; exact Ls.st hd e'⟩
theorem Ry {s : St} {q4 q6 p4 p6 : Nat} {k : Int} {L : List dz} {vs : List Int} {data : List UInt8} {sl t8 t9 : Sl} {vs4 : List Value} {e : Int} {K : aZ → Int → HP} (h4 : At (s.w q4) p4 0 vs4) (hl4 : vs4.length = 12) (h6 : At (s.w q6) p6 0 (bL (k :: List.replicate 10 0) sl))
  (hd : Ls bf (s.w 0) data sl) (hq : q4 ≠ 0 ∧ q6 ≠ 0 ∧ q4 ≠ q6) (hL : L = layout k) (h8 : Ls (pK p6) (s.w 0) L t8) (h9 : Ls (tI .u64) (s.w 0) vs t9) (hvl : vs.length = L.length) (hpos : ∀ v ∈ vs, 0 ≤ v)
  (hE : ∀ e' r s', (if e ≠ 0 then e else if ga L vs = true then cj ⟨fu k L vs, data⟩ else 1) = e' → e' ≠ 0 → Step [q4, q6] s s' → K r e' s'.H)
  (hO : ∀ r s', e = 0 → ga L vs = true → cj ⟨fu k L vs, data⟩ = 0 → Step [q4, q6] s s' → dM (s'.w 0) ⟨fu k L vs, data⟩ r → K r 0 s'.H) : rX p4 p6 t8 t9 e K s.H := by
 unfold rX
 have hlen8 := h8.len
 have hlen9 := h9.len
 have hLo : ∀ p ∈ L, uf p := by rw [hL]; exact lQ k
 have hLL : L.length ≤ 6 := by rw [hL]; exact th k
 refine cD (ι := Nat × Int) (fun x => [.int .i64 x.2, .int .i64 x.1]) (fun x s' => x.1 ≤ L.length ∧ Step [q6] s s' ∧ (∃ f, f.length = 11 ∧ At (s'.w q6) p6 0 (bL f sl) ∧ (x.2 = 0 → e = 0 ∧ f = fu k (L.take x.1) (vs.take x.1) ∧ ga (L.take x.1) (vs.take x.1) = true)) ∧ (x.2 ≠ 0 → x.2 = e ∨ (e = 0 ∧ x.2 = 1 ∧ ga L vs = false))) (fun x _ => L.length - x.1) (0, e) rfl
  ⟨Nat.zero_le _, Step.refl, ⟨_, rfl, h6, fun h => ⟨h, rfl, rfl⟩⟩, fun _ => .inl rfl⟩ ?_
 rintro ⟨i, ei⟩ s1 ⟨hi, e1, ⟨f, hf, a6, hz⟩, hnz⟩ G hG
 simp only at hi hz hnz
 simp only [List.getD_cons_zero, List.getD_cons_succ, cI, cN, cK, cH, cJ, cO]
 have h41 := h4.mono (e1.view (k := q4) (by simp; exact hq.2.2))
 refine aN (fun hlt => ?_) (fun hlt => ?_)
 ·refine bU (Ls.st h8 e1) (by omega) (by omega) fun b3 q3 p hp hel => ?_
  rw [Int.toNat_natCast] at hp
  obtain ⟨ws, rfl, hat⟩ := hel
  unfold fM
  repeat (first|refine aj ?_|refine av hat rfl ?_|refine aK hat rfl ?_|refine aH hat rfl ?_|refine aI hat rfl ?_|refine aJ hat rfl ?_|refine aC hat rfl ?_)
  refine dQ rfl (by simp [one]) fun s2 p14 e2 a14 => ?_
  have hpm := List.mem_of_getElem? hp
  have hpo := hLo p hpm
  have hhi := hpo.hi
  have hwh : wr .u64 p.hi = p.hi := jm (by omega) (by omega)
  obtain ⟨v, hv⟩ : ∃ v, vs[i]? = some v := ⟨_, List.getElem?_eq_getElem (by omega)⟩
  have hvp := hpos v (List.mem_of_getElem? hv)
  have ldv : ∀ {s3 : St} {K' : Int → HP}, Step [] s2 s3 → K' v s3.H → aL t9 1 (i : Int) (fun t => ag .u64 t K') s3.H := fun {s3 K'} e3 hk => by
   refine bU ((Ls.st h9 e1).st (e2.trans e3)) (by omega) (by omega) fun bx ox x hx hel => ?_
   obtain ⟨ws, rfl, hat⟩ := hel
   rw [Int.toNat_natCast, hv] at hx
   have := Option.some.inj hx
   subst this
   exact iQ hat rfl hk
  have a62 := a6.mono (e2.view (k := q6) (by simp))
  have zt := OH hp hv
  have hit : ga (L.take (i + 1)) (vs.take (i + 1)) = (ga (L.take i) (vs.take i) && decide (v ≤ p.hi)) := by
   unfold ga; rw [zt, List.all_append]; simp
  have set : ∀ (ej : Int), (ej = 0 → ei = 0 ∧ v ≤ p.hi) → (ej ≠ 0 → ej = e ∨ (e = 0 ∧ ej = 1 ∧ ga L vs = false)) → wN p4 p6 t9 ej i p14 t8 t8.len i K G s2.H := fun ej h1 h2 => by
   unfold wN
   refine aI a14 rfl ?_
   refine ldv Step.refl ?_
   refine av a14 rfl ?_
   refine aj ?_
   have hm : ay (if (wr .u64 p.hi : Int) < v then (wr .u64 p.hi) else v) = if p.hi < v then p.hi else v := by
    rw [hwh]; split <;> exact aY (by omega) (by omega)
   rw [hm, aY (by omega) (by omega)]
   refine KY a62 (by rw [nG, hf]; have := hpo.j; omega) rfl hq.2.1 (fun s3 e3 z3 a3 _ => ?_)
   rw [EH (by rw [hf]; have := hpo.j; omega)] at a3
   refine hG (i + 1, ej) s3 ⟨by simp only; omega, e1.trans (e2.n.trans e3), ⟨_, by rw [List.length_set]; exact hf, a3, fun h => ?_⟩, h2⟩ (by simp only; omega)
   obtain ⟨g1, g2⟩ := h1 h
   obtain ⟨g3, g4, g5⟩ := hz g1
   refine ⟨g3, ?_, ?_⟩
   ·rw [if_neg (by omega), g4]
    unfold fu
    simp only [zt, List.foldl_append, List.foldl_cons, List.foldl_nil]
   ·simp only [hit, g5, decide_eq_true g2]; rfl
  refine aN (fun he => ?_) (fun he => ?_)
  ·refine ldv Step.refl ?_
   refine av a14 rfl ?_
   rw [hwh]
   by_cases hov : p.hi < v
   ·rw [decide_eq_true hov]
    unfold tw
    refine bH (set 1 (fun h => absurd h (by decide)) fun _ => .inr ⟨(hz he).1, rfl, ?_⟩)
    rw [Bool.eq_false_iff]
    intro hh
    unfold ga at hh
    rw [List.all_eq_true] at hh
    have := hh (p, v) (List.mem_of_getElem? (i := i) (by rw [List.getElem?_zip_eq_some]; exact ⟨hp, hv⟩))
    simp at this
    omega
   ·rw [decide_eq_false hov]
    unfold tw
    exact bt (set ei (fun h => ⟨h, by omega⟩) hnz)
  ·unfold tw
   exact bt (set ei (fun h => ⟨h, absurd h he⟩) hnz)
 ·have : i = L.length := by omega
  subst this
  rw [List.take_of_length_le (Nat.le_refl _), List.take_of_length_le (by omega)] at hz
  refine aN (fun he => ?_) (fun he => ?_)
  ·obtain ⟨g3, g4, g5⟩ := hz he
   rw [g4] at a6
   refine fF a6 (AZ _ _ _) fun r f1 d1 => ?_
   refine yy (x := ⟨fu k L vs, data⟩) ⟨f1, by rw [d1]; exact Ls.st hd e1⟩ fun s2 e2 => ?_
   refine Gc (x := ⟨fu k L vs, data⟩) (h41.mono (e2.view (by simp))) hl4 (a6.mono (e2.view (by simp))) (AZ _ _ _) (Ls.st hd (e1.trans e2.n)) hq.1 ?_ ?_
   ·intro hne r' s3 e3
    have e13 : Step [q4, q6] s s3 := Step.tr (Step.trans e1 e2.n) e3
    exact hE _ r' s3 (by rw [if_neg (by simpa using g3), if_pos g5]) hne e13
   ·intro h0 r' s3 e3 hr
    have e13 : Step [q4, q6] s s3 := Step.tr (Step.trans e1 e2.n) e3
    exact hO r' s3 g3 g5 h0 e13 hr
  ·refine Gc (x := ⟨f, data⟩) h41 hl4 a6 hf (Ls.st hd e1) hq.1 ?_ ?_
   ·intro hne r' s3 e3
    have e13 : Step [q4, q6] s s3 := Step.tr e1 e3
    rcases hnz he with h | ⟨h1, h2, h3⟩
    ·exact hE _ r' s3 (by rw [if_pos (by rw [← h]; exact he)]; exact h.symm) hne e13
    ·exact hE _ r' s3 (by rw [if_neg (by simpa using h1), if_neg (by rw [h3]; simp)]; exact h2.symm) hne e13
   ·intro h; exact absurd h he
end Go.Ph
end
section
set_option linter.all false
namespace Go.Ph
open S
theorem Pt {s : St} {k : Int} {l : List UInt8} {sl : Sl} {K : aZ → Int → HP} (h : Ls bf (s.w 0) l sl) (hl : l.length ≤ 1000000000)
  (hE : ∀ e r s', iC k l = .error e → e ≠ 0 → Step [] s s' → K r e s'.H)
  (hO : ∀ x r s', iC k l = .ok x → Step [] s s' → dM (s'.w 0) x r → K r 0 s'.H) : tU k sl K s.H := by
 unfold tU
 have hown : own s = 1152921504606846976 + 1152921504606846976 * s.H.size := rfl
 refine dm (own s) (by unfold own; omega) fun s1 p4 n1 a4 => ?_
 have e1 := n1.step
 have hz1 := e1.sz
 refine dm (own s + 1) (by unfold own; omega) fun s2 p6 n2 a2 => ?_
 have e2 := n2.step
 have hz2 := e2.sz
 refine eZ (own s + 1) a2 rfl (by simp [one]) (by omega) (.inl rfl) fun s3 e3 z3 a63 _ => ?_
 have a63' : At (s3.w (own s + 1)) p6 0 (bL (k :: List.replicate 10 0) ⟨none, 0, 0⟩) := a63
 have a43 := (a4.mono (e2.view (by simp))).mono (e3.view (by simp))
 have es3 : Step [own s, own s + 1, own s + 2, own s + 3] s s3 := (e1.trans e2).n.tr e3 (A := [])
 have hz3 := es3.sz
 unfold wT
 refine Ch (Ls.st h es3) (by omega) fun s4 o4 e4 l4 => ?_
 have hz4 := e4.sz
 refine dm (own s + 2) (by omega) fun s5 pS n5 aS => ?_
 have e5 := n5.step
 have e45 := e4.trans e5
 have hz5 := e5.sz
 have src : Src (own s + 2) s5 pS o4 l 0 0 := ⟨aS, Ls.st l4 e5, Nat.zero_le _⟩
 have a45 := a43.mono (e45.view (by simp))
 have a65 := a63'.mono (e45.view (by simp))
 refine tq a65 rfl fun s6 o8 e6 l8 hno => ?_
 have a46 := a45.mono (e6.view (by simp))
 have a66 := a65.mono (e6.view (by simp))
 have src6 := src.st e6 (by simp)
 have es6 : Step [own s, own s + 1, own s + 2, own s + 3] s s6 := es3.trans (e45.trans e6).n
 have hz6 := es6.sz
 change Ls (pK p6) (s6.w 0) (layout k) o8 at l8
 change _ ↔ layout k = [] at hno
 have hLo := lQ k
 have hLL := th k
 have hrd : iC k l = iC k l := rfl
 conv at hrd => rhs; unfold iC
 refine js (fun h1 => ?_) (fun h1 => ?_)
 ·rw [if_pos (hno.1 h1)] at hrd
  refine mR (r := ⟨0, 0, 0, 0, 0, 0, 0, 0, 0, 0, 0, ⟨none, 0, 0⟩⟩) a46 rfl (by omega) fun s7 e7 => ?_
  have q : Step [own s, own s + 1, own s + 2, own s + 3] s s7 := es6.tr e7
  exact hE 16 _ s7 hrd (by decide) (xh q)
 have hne : layout k ≠ [] := fun h => by rw [hno.2 h] at h1; cases h1
 rw [if_neg hne] at hrd
 have hlen8 := l8.len
 refine cD (ι := Nat × Sl × List Int × Nat × Int) (fun x => [.slice x.2.1.a x.2.1.len x.2.1.cap, .int .i64 x.1])
  (fun x s' => x.1 ≤ (layout k).length ∧ Step [own s + 2, own s + 3] s6 s' ∧ bF (tI .u64) (own s + 3) s' x.2.2.1 x.2.1 ∧ x.2.2.1.length = x.1 ∧ (∀ v ∈ x.2.2.1, 0 ≤ v) ∧ Src (own s + 2) s' pS o4 l x.2.2.2.1 x.2.2.2.2 ∧
   ((total ((layout k).take x.1) ≤ l.length ∧ x.2.2.2.1 = total ((layout k).take x.1) ∧ x.2.2.2.2 = 0 ∧ x.2.2.1 = jW l ((layout k).take x.1) 0) ∨ (l.length < total ((layout k).take x.1) ∧ x.2.2.2.2 = 2)))
  (fun x _ => (layout k).length - x.1) (0, ⟨none, 0, 0⟩, [], 0, 0) rfl ⟨Nat.zero_le _, Step.refl, bF.nil, rfl, by simp, src6, .inl ⟨by simp [total], by simp [total], rfl, rfl⟩⟩ ?_
 rintro ⟨i, o9, vs, at_, e⟩ s7 ⟨hi, e7, b9, hvl, hvp, sr, hcs⟩ G hG
 simp only at hi b9 hvl hvp sr hcs
 have hz7 := e7.sz
 have es7 : Step [own s, own s + 1, own s + 2, own s + 3] s s7 := es6.tr e7
 have a47 := a46.mono (e7.view (by simp <;> omega))
 have a67 := a66.mono (e7.view (by simp <;> omega))
 simp only [List.getD_cons_zero, List.getD_cons_succ, cI, cN, cK, cH, cJ, cO]
 refine aN (fun hlt => ?_) (fun hlt => ?_)
 ·refine bU (Ls.st l8 e7) (by omega) (by omega) fun b3 q3 p hp hel => ?_
  rw [Int.toNat_natCast] at hp
  obtain ⟨ws, rfl, hat⟩ := hel
  unfold fM
  repeat (first|refine aj ?_|refine av hat rfl ?_|refine aK hat rfl ?_|refine aH hat rfl ?_|refine aI hat rfl ?_|refine aJ hat rfl ?_|refine aC hat rfl ?_)
  refine dQ rfl (by simp [one]) fun s8 p11 e8 a11 => ?_
  refine av a11 rfl ?_
  have hpo := hLo p (List.mem_of_getElem? hp)
  have hpw := hpo.w
  refine Pg (sr.st e8 (by simp)) (by omega) (by omega) (by omega) fun s9 e9 sr9 => ?_
  have hz9 := (e8.n.trans e9 : Step [own s + 2] s7 s9).sz
  have hv0 : 0 ≤ (jJ l at_ e p.w).2.2 := by
   unfold jJ; split
   ·exact Int.le_refl _
   ·split
    ·exact Int.le_refl _
    ·exact (JZ _ _ _).1
  refine jv (jJ l at_ e p.w).2.2 ((b9.st e8 (by simp)).st e9 (by simp)) rfl (fun s10 o10 e10 b10 => ?_) rfl rfl (by omega) (by omega) (by omega) (by omega)
  rw [aY (by omega) (by omega)]
  have ht : (layout k).take (i + 1) = (layout k).take i ++ [p] := by rw [List.take_succ, hp]; rfl
  have e78 : Step [own s + 2, own s + 3] s6 s8 := e7.trans e8.n
  have e79 : Step [own s + 2, own s + 3] s6 s9 := e78.tr e9
  have e710 : Step [own s + 2, own s + 3] s6 s10 := e79.tr e10
  refine hG (i + 1, o10, vs ++ [(jJ l at_ e p.w).2.2], (jJ l at_ e p.w).1, (jJ l at_ e p.w).2.1) s10 ⟨by simp only; omega, e710, b10, by simp [hvl], ?_, sr9.st e10 (by simp), ?_⟩ (by simp only; omega)
  ·intro v hv
   simp only [List.mem_append, List.mem_singleton] at hv
   rcases hv with hv | rfl
   ·exact hvp v hv
   ·exact hv0
  ·simp only [ht, acI, D5]
   unfold jJ
   rcases hcs with ⟨c1, c2, c3, c4⟩ | ⟨c1, c2⟩
   ·rw [if_neg (by simpa using c3)]
    by_cases hs : l.length < at_ + p.w
    ·rw [if_pos hs]
     exact .inr ⟨by omega, rfl⟩
    ·rw [if_neg hs]
     refine .inl ⟨by omega, by simp only; omega, rfl, ?_⟩
     rw [c4, c2]; simp
   ·rw [if_pos (by rw [c2]; decide)]
    exact .inr ⟨by omega, c2⟩
 ·have : i = (layout k).length := by omega
  subst this
  rw [List.take_of_length_le (Nat.le_refl _)] at hcs
  have j1 : ∀ (s8 : St) (sd : Sl) (at2 : Nat) (data : List UInt8), Step [own s + 1, own s + 2] s7 s8 → At (s8.w (own s + 1)) p6 0 (bL (k :: List.replicate 10 0) sd) → Ls bf (s8.w 0) data sd → Src (own s + 2) s8 pS o4 l at2 e → (k ≠ 6 → data = [] ∧ at2 = at_) → (k = 6 → e = 0 → at2 = l.length ∧ data = l.drop at_) → (e ≠ 0 → data = []) → u6 p4 p6 (some ⟨pS, 0, none⟩) o8 o9 K s8.H := fun s8 sd at2 data e8 a68 hds sr8 hn6 h6 hde => by
   have es8 : Step [own s, own s + 1, own s + 2, own s + 3] s s8 := es7.tr e8
   have a48 := a47.mono (e8.view (by simp <;> omega))
   have b98 := b9.st e8 (by simp <;> omega)
   have l88 := (Ls.st l8 e7).st e8
   have hdl := hds.len
   unfold u6
   refine PN sr8 (by omega) ?_
   have j3 : ∀ e' : Int, (e' ≠ 0 → iC k l = .error e') → (e' = 0 → e = 0 ∧ data.length ≤ 32768 ∧ (k ≠ 6 → data = []) ∧ iC k l = (if fT (layout k) vs = true then .ok ⟨fu k (layout k) vs, data⟩ else .error 1)) → rX p4 p6 o8 o9 e' K s8.H := fun e' h1 h0 => by
    refine Ry (q4 := own s) (q6 := own s + 1) (L := layout k) (vs := vs) (data := data) a48 rfl a68 hds ⟨by omega, by omega, by omega⟩ rfl l88 b98.ls hvl hvp ?_ ?_
    ·intro e2 r s9 he2 hne2 e9
     have q : Step [own s, own s + 1, own s + 2, own s + 3] s s9 := es8.tr e9
     refine hE e2 r s9 ?_ hne2 (xh q)
     by_cases hz : e' = 0
     ·obtain ⟨g1, g2, g3, g4⟩ := h0 hz
      rw [if_neg (by simpa using hz)] at he2
      by_cases hh : ga (layout k) vs = true
      ·rw [if_pos hh, MI hne hvl hh g2 g3] at he2
       by_cases hk : fT (layout k) vs = true
       ·rw [if_pos hk] at he2; exact absurd he2.symm hne2
       ·rw [if_neg hk] at he2
        rw [g4, if_neg hk, he2]
      ·rw [if_neg hh] at he2
       have hk : ¬ fT (layout k) vs = true := fun hk => hh (by
        unfold fT at hk
        unfold ga
        rw [List.all_eq_true] at hk ⊢
        intro x hx
        have := hk x hx
        simp at this ⊢
        exact this.2)
       rw [g4, if_neg hk, he2]
     ·rw [if_pos hz] at he2
      rw [h1 hz, he2]
    ·intro r s9 hz hh hc e9 hr
     have q : Step [own s, own s + 1, own s + 2, own s + 3] s s9 := es8.tr e9
     obtain ⟨g1, g2, g3, g4⟩ := h0 hz
     rw [MI hne hvl hh g2 g3] at hc
     by_cases hk : fT (layout k) vs = true
     ·rw [if_pos hk] at g4
      exact hO _ r s9 g4 (xh q) hr
     ·rw [if_neg hk] at hc; cases hc
   have j2 : ∀ e' : Int, (e' ≠ 0 → iC k l = .error e') → (e' = 0 → e = 0 ∧ data.length ≤ 32768 ∧ (k ≠ 6 → data = []) ∧ iC k l = (if fT (layout k) vs = true then .ok ⟨fu k (layout k) vs, data⟩ else .error 1)) → rG p4 p6 o8 o9 e' false K s8.H := fun e' h1 h0 => by
    unfold rG
    exact bt (j3 e' h1 h0)
   rcases hcs with ⟨c1, c2, c3, c4⟩ | ⟨c1, c2⟩
   ·subst c3
    rw [if_neg (by omega)] at hrd
    by_cases hd : at2 < l.length
    ·rw [if_pos ⟨rfl, hd⟩]
     have hk6 : k ≠ 6 := fun h => by have := (h6 h rfl).1; omega
     rw [if_pos ⟨hk6, by have := (hn6 hk6).2; omega⟩] at hrd
     refine aN (fun h => absurd h (by decide)) (fun _ => ?_)
     exact j2 3 (fun _ => hrd) (fun h => absurd h (by decide))
    ·rw [if_neg (fun h => hd h.2)]
     have hn3 : ¬(k ≠ 6 ∧ total (layout k) < l.length) := fun h => by have := (hn6 h.1).2; omega
     rw [if_neg hn3] at hrd
     refine aN (fun _ => ?_) (fun h => absurd rfl h)
     refine aC a68 (mI rfl) ?_
     have hdd : k = 6 → data.length = l.length - total (layout k) := fun h => by rw [(h6 h rfl).2, List.length_drop, c2]
     by_cases hlg : (32768 : Int) < (sd.len : Nat)
     ·rw [decide_eq_true hlg]
      have hk6 : k = 6 := by
       rcases Int.decEq k 6 with hk | hk
       ·have := (hn6 hk).1; rw [this] at hdl; simp at hdl; omega
       ·exact hk
      rw [if_pos ⟨hk6, by have := hdd hk6; omega⟩] at hrd
      unfold rG
      exact bH (j3 4 (fun _ => hrd) (fun h => absurd h (by decide)))
     ·rw [decide_eq_false hlg]
      rw [if_neg (fun h => by have := hdd h.1; omega)] at hrd
      refine j2 0 (fun h => absurd rfl h) (fun _ => ⟨rfl, by omega, fun h => (hn6 h).1, ?_⟩)
      rw [hrd, c4]
      have : data = if k = 6 then l.drop (total (layout k)) else [] := by
       split
       ·rename_i h; rw [(h6 h rfl).2, c2]
       ·rename_i h; exact (hn6 h).1
      rw [this]
   ·subst c2
    rw [if_pos c1] at hrd
    rw [if_neg (fun h => absurd h.1 (by decide))]
    refine aN (fun h => absurd h (by decide)) (fun _ => ?_)
    exact j2 2 (fun _ => hrd) (fun h => absurd h (by decide))
  refine aN (fun hk6 => ?_) (fun hk6 => ?_)
  ·refine uF sr (by omega) ?_
   refine WQ sr (by omega) (by omega) ?_ ?_
   ·intro he
    refine cP a67 (by simp [bL]) rfl (by omega) (fun s8 e8 z8 a8 _ => ?_)
    exact j1 s8 ⟨none, 0, 0⟩ at_ [] (Step.tr (A := [own s + 1]) (B := []) e8 Step.refl) (by simpa [bL] using a8) Ls.iO (sr.st e8 (by simp)) (fun h => absurd hk6 h) (fun _ h => absurd h he) (fun _ => rfl)
   ·intro he s8 o e8 sr8 l8'
    refine cP (a67.mono (e8.view (by simp))) (by simp [bL]) rfl (by omega) (fun s9 e9 z9 a9 _ => ?_)
    have q : Step [own s + 1, own s + 2] s7 s9 := Step.tr e8 e9
    refine j1 s9 o l.length (l.drop at_) q (by simpa [bL] using a9) (Ls.st l8' e9) ?_ (fun h => absurd hk6 h) (fun _ _ => ⟨rfl, rfl⟩) (fun h => absurd he h)
    rw [he]
    exact sr8.st e9 (by simp)
  ·exact j1 s7 ⟨none, 0, 0⟩ at_ [] Step.refl a67 Ls.iO sr (fun _ => ⟨rfl, rfl⟩) (fun h => absurd h hk6) (fun _ => rfl)
end Go.Ph
end
section
set_option linter.all false
namespace Go.Ph
open S
def cl (v : Int) : Int := if 9223372036854775807 < v then 9223372036854775807 else v
theorem MH {k : Int} : layout k = [] ↔ ¬(1 ≤ k ∧ k ≤ 6) := by
 refine od k (P := fun L => L = [] ↔ ¬(1 ≤ k ∧ k ≤ 6)) ?_ ?_ ?_ ?_ ?_ ?_ ?_ <;> intros <;> simp <;> omega
end Go.Ph
end
section
set_option linter.all false
namespace Go.Ph
open S
structure ey where
 at_ : Nat
 len : Nat
 x : RecM
def gj : Ty ey := ⟨14, fun V x vs => ∃ sl : Sl, vs = .int .i64 x.at_ :: .int .i64 x.len :: bL x.x.f sl ∧ x.x.f.length = 11 ∧ Ls bf V x.x.data sl, by rintro _ _ _ ⟨_, rfl, h, _⟩; simp [bL, h], by rintro _ _ _ _ h ⟨sl, rfl, h0, h1⟩; exact ⟨sl, rfl, h0, h1.mono h h⟩, by
 rintro _ _ _ ⟨sl, rfl, _, _⟩ v hv
 simp only [List.mem_cons] at hv
 rcases hv with rfl | rfl | hv
 ·rfl
 ·rfl
 ·exact zi _ _ v hv⟩
def found (f : gm) : Option ey := match iC f.kind f.bn with | .ok x => some ⟨f.at_, f.len, x⟩ | .error _ => none
def gB (b : List UInt8) : List ey := (frames b).filterMap found
def gz (l : List ey) : Nat := (l.map (·.len)).sum
def broken (b : List UInt8) : Int := b.length - gz (gB b)
theorem adX (l : List ey) (x : ey) : gz (l ++ [x]) = gz l + x.len := by simp [gz]
structure Al (b : List UInt8) (i : Nat) (l : List gm) : Prop where
 len : l.length ≤ b.length - i
 sum : (l.map (·.len)).sum ≤ b.length - i
 all : ∀ f ∈ l, MY b f.at_ f
theorem BV (b : List UInt8) : ∀ (n i : Nat), i ≤ b.length → Al b i (gr b n i)
 | 0, i, h => ⟨by simp [gr], by simp [gr], by simp [gr]⟩
 | n + 1, i, h => by
  rw [gr]
  split
  ·rename_i hi
   cases hf : gd b i with
   | error e =>
    have ih := BV b n (i + 1) (by omega)
    show Al b i (gr b n (i + 1))
    exact ⟨by have := ih.len; omega, by have := ih.sum; omega, ih.all⟩
   | ok f =>
    have fo := IG hf
    have h1 := fo.pos
    have h2 := fo.Aw
    have ih := BV b n (i + f.len) h2
    have h3 := ih.len
    have h4 := ih.sum
    refine ⟨by simp only [List.length_cons]; omega, by simp only [List.map_cons, List.sum_cons]; omega, ?_⟩
    intro g hg
    simp only [List.mem_cons] at hg
    rcases hg with rfl | hg
    ·have := fo.at_; rw [this]; exact fo
    ·exact ih.all g hg
  ·exact ⟨by simp, by simp, by simp⟩
theorem He (b : List UInt8) : Al b 0 (frames b) := BV b b.length 0 (Nat.zero_le _)
theorem NL {α β : Type} {g : α → Option β} {l : List α} {i : Nat} {x : α} (h : l[i]? = some x) : (l.take (i + 1)).filterMap g = (l.take i).filterMap g ++ (match g x with | some y => [y] | none => []) := by
 rw [List.take_succ, h, List.filterMap_append]
 cases hg : g x <;> simp [hg]
theorem zD (l : List gm) : gz (l.filterMap found) ≤ (l.map (·.len)).sum := by
 induction l with
 | nil => simp [gz]
 | cons f l ih =>
  rw [List.filterMap_cons]
  split
  ·simp only [List.map_cons, List.sum_cons]; omega
  ·rename_i y hy
   have : y.len = f.len := by
    unfold found at hy
    split at hy
    ·cases hy; rfl
    ·cases hy
   simp only [gz, List.map_cons, List.sum_cons] at ih ⊢
   omega
theorem LG (l : List gm) (i : Nat) : ((l.take i).map (·.len)).sum ≤ (l.map (·.len)).sum := by
 conv => rhs; rw [← List.take_append_drop i l]
 rw [List.map_append, List.sum_append]; omega
theorem xx {V : View} {x : RecM} {r : aZ} {a n : Nat} (h : dM V x r) : gj.R V ⟨a, n, x⟩ [.int .i64 a, .int .i64 n, .int .i64 r.Kind, .int .i64 r.bR, .int .i64 r.Seq, .int .i64 r.Next, .int .i64 r.bW, .int .i64 r.bV, .int .i64 r.Time, .int .i64 r.Flags, .int .i64 r.Body, .int .i64 r.bQ, .int .i64 r.Origin, .slice r.Data.a r.Data.len r.Data.cap] :=
 ⟨r.Data, by show _ = _ :: _ :: bL x.f r.Data; rw [← h.f]; rfl, h.len, h.data⟩
theorem L6 {C : Cx} {s : St} {q : Nat} {b : List UInt8} {sl : Sl} {K : Sl → Int → HP} (hb : Ls bf (s.w 0) b sl) (hbl : b.length ≤ 1000000000) (hq0 : q ≠ 0) (hq : q < 2305843009213693952 + 1152921504606846976 * s.H.size)
  (hK : ∀ s' o, Step [q] s s' → bF gj q s' (gB b) o → K o (broken b) s'.H) : pH C sl K s.H := by
 unfold pH
 have hlen := hb.len
 have hown : own s = 1152921504606846976 + 1152921504606846976 * s.H.size := rfl
 refine afp hb hbl fun s1 o1 g1 e1 l1 => ?_
 have hz1 := e1.sz
 have hfo := He b
 have hfl := hfo.len
 have hfs := hfo.sum
 have hfa := hfo.all
 unfold broken gB at hK
 generalize frames b = F at *
 have hlF := l1.len
 refine cD (ι := Nat × Sl) (fun x => [.slice x.2.a x.2.len x.2.cap, .int .i64 ((b.length : Int) - gz ((F.take x.1).filterMap found)), .int .i64 x.1]) (fun x s' => x.1 ≤ F.length ∧ Step [q] s s' ∧ Step [q] s1 s' ∧ bF gj q s' ((F.take x.1).filterMap found) x.2) (fun x _ => F.length - x.1) (0, ⟨none, 0, 0⟩) (by simp [gz, hlen]) ⟨Nat.zero_le _, e1.n, Step.refl, bF.nil⟩ ?_
 rintro ⟨i, o⟩ s2 ⟨hi, e2, e12, b2⟩ G hG
 simp only at hi b2
 have hz2 := e2.sz
 simp only [List.getD_cons_zero, List.getD_cons_succ, cI, cN, cK, cH, cJ, cO]
 refine aN (fun hlt => ?_) (fun hlt => ?_)
 ·refine bU (Ls.st l1 e12) (by omega) (by omega) fun bx ox f hf hel => ?_
  obtain ⟨ws, ⟨pl, rfl, hpl⟩, hat⟩ := hel
  rw [Int.toNat_natCast] at hf
  have hfm := List.mem_of_getElem? hf
  have fo := hfa f hfm
  have fo1 := fo.bn
  unfold dG
  repeat (first|refine aj ?_|refine av hat rfl ?_|refine aK hat rfl ?_|refine aH hat rfl ?_|refine aI hat rfl ?_|refine aJ hat rfl ?_|refine aC hat rfl ?_)
  refine dQ rfl (by simp [one]) fun s3 p7 e3 a7 => ?_
  repeat (first|refine aj ?_|refine av a7 rfl ?_|refine aK a7 rfl ?_|refine aH a7 rfl ?_|refine aI a7 rfl ?_|refine aJ a7 rfl ?_|refine aC a7 rfl ?_)
  have ft := NL (g := found) hf
  have hsum := zD (F.take (i + 1))
  have hsum0 := zD (F.take i)
  have hst := LG F (i + 1)
  have hst0 := LG F i
  have hcl : ((F.take i).filterMap found).length ≤ i := by
   have := List.length_filterMap_le found (F.take i)
   rw [List.length_take] at this; omega
  have hG' := hG
  refine Pt (Ls.st hpl e3) (by omega) ?_ ?_
  ·intro e r s4 he hne e4
   refine dQ rfl (by simp [one]) fun s5 p8 e5 a8 => ?_
   refine bK (fun _ => ?_) (fun h => absurd h hne)
   unfold vT
   rw [aY (by omega) (by omega)]
   have hff : found f = none := by unfold found; rw [he]
   rw [hff, List.append_nil] at ft
   have e25 : Step [] s2 s5 := (e3.trans e4).trans e5
   have := hG' (i + 1, o) s5
   simp only [ft] at this
   exact this ⟨by omega, e2.trans e25.n, e12.trans e25.n, b2.st e25 (by simp)⟩ (by omega)
  ·intro x r s4 he e4 hr
   refine dQ rfl (by simp [one]) fun s5 p8 e5 a8 => ?_
   refine bK (fun h => absurd rfl h) (fun _ => ?_)
   have hff : found f = some ⟨f.at_, f.len, x⟩ := by unfold found; rw [he]
   rw [hff] at ft
   have a75 := (a7.mono e4.v0).mono e5.v0
   repeat (first|refine aj ?_|refine av a75 rfl ?_|refine aK a75 rfl ?_|refine aH a75 rfl ?_|refine aI a75 rfl ?_|refine aJ a75 rfl ?_|refine aC a75 rfl ?_)
   unfold bq
   repeat (first|refine aj ?_|refine av a8 rfl ?_|refine aK a8 rfl ?_|refine aH a8 rfl ?_|refine aI a8 rfl ?_|refine aJ a8 rfl ?_|refine aC a8 rfl ?_)
   have e25 : Step [] s2 s5 := (e3.trans e4).trans e5
   have hz5 := e25.sz
   refine jv (⟨f.at_, f.len, x⟩ : ey) (b2.st e25 (by simp)) (xx (hr.st e5)) (fun s6 o6 e6 b6 => ?_) rfl rfl (by omega) (by omega) (by omega) (by omega)
   have a76 := a75.mono e6.v0
   repeat (first|refine aj ?_|refine av a76 rfl ?_|refine aK a76 rfl ?_|refine aH a76 rfl ?_|refine aI a76 rfl ?_|refine aJ a76 rfl ?_|refine aC a76 rfl ?_)
   unfold vT
   have hs : gz ((F.take i).filterMap found ++ [⟨f.at_, f.len, x⟩]) = gz ((F.take i).filterMap found) + f.len := adX _ _
   have hle : gz ((F.take (i + 1)).filterMap found) = gz ((F.take i).filterMap found) + f.len := by rw [ft]; exact hs
   have := hG' (i + 1, o6) s6
   simp only [ft, hs] at this
   rw [aY (n := _ - ((f.len : Nat) : Int)) (by omega) (by omega), aY (by omega) (by omega)]
   rw [show (b.length : Int) - (gz ((F.take i).filterMap found) : Int) - (f.len : Int) = (b.length : Int) - ((gz ((F.take i).filterMap found) + f.len : Nat) : Int) by omega]
   exact this ⟨by omega, e2.trans (e25.n.trans e6), e12.trans (e25.n.trans e6), b6⟩ (by omega)
 ·have : i = F.length := by omega
  subst this
  rw [List.take_of_length_le (Nat.le_refl _)] at b2 ⊢
  exact hK s2 o e2 b2
end Go.Ph
end
section
set_option linter.all false
namespace Go.Ph
open S
structure gW {α : Type} (t : Ty α) (q : Nat) (s : St) (l : List α) (sl : Sl) : Prop where
 ls : bz t (s.w 0) (s.w q) l sl
 own : ∀ a, sl.a = some a → ∀ i, l.length * t.n ≤ i → i < sl.cap * t.n → ∃ v, s.w q a.block (a.off + i) = some (.v v)
theorem gW.nil {α : Type} {t : Ty α} {q : Nat} {s : St} : gW t q s [] ⟨none, 0, 0⟩ := ⟨Ls.iO, fun a ha => by cases ha⟩
theorem gW.st {α : Type} {t : Ty α} {q : Nat} {s s' : St} {l : List α} {sl : Sl} {S : List Nat} (h : gW t q s l sl) (hs : Step S s s') (hq : q ∉ S) : gW t q s' l sl :=
 ⟨h.ls.st hs hq, fun a ha i h1 h2 => (h.own a ha i h1 h2).imp fun v hv => hs.view hq _ _ _ hv⟩
theorem MU {α : Type} {t : Ty α} {q kx : Nat} {s1 : St} {l : List α} {x : α} {sl : Sl} {b1 : Nat} {size bytes : Nat} {zero : Array Value} {K : Sl → HP}
  (hB1 : gW t q s1 l sl) (hx1 : bz t (s1.w 0) (s1.w kx) [x] ⟨some (af b1), 1, 1⟩)
  (hK1 : ∀ s' sl', Step [q] s1 s' → gW t q s' (l ++ [x]) sl' → K sl' s'.H) (hn : size = t.n := by rfl) (hz : zero.size = t.n := by rfl)
  (hb : (l.length + 1) * bytes ≤ 140737488355328 := by first | omega | (simp; omega))
  (hl : l.length < 4611686018427387903 := by first | omega | (simp; omega)) (hq1 : q < 2305843009213693952 + 1152921504606846976 * s1.H.size := by first | omega | (unfold own; omega)) (hq0 : q ≠ 0 := by first | assumption | omega | (unfold own; omega)) :
  app size bytes zero sl ⟨some (af b1), 1, 1⟩ K s1.H := by
 subst hn
 obtain ⟨new, n1, n2, n3, n4⟩ := hx1.row
 have hsl := hB1.ls.len
 simp only [List.length_singleton, Nat.one_mul] at n1
 refine ⟨new, n2, fun hc => ?_, fun hc => ?_⟩
 ·simp only at hc
  cases e : sl.a with
  | none => have := hB1.ls.nil e; omega
  | some a =>
   obtain ⟨g1, g2⟩ := hB1.ls.at_ a e
   have hown := hB1.own a e
   obtain ⟨b, o, sp⟩ := a
   have g1 := g1 (by omega)
   simp at g1; subst g1
   simp only [dK]
   simp only at hown g2
   rw [hsl]
   have hcap : (l.length + 1) * t.n ≤ sl.cap * t.n := Nat.mul_le_mul_right _ (by omega)
   rw [Nat.add_mul, Nat.one_mul] at hcap
   have hcells : ∀ j, j < new.length → ∃ v0, s1.w q b (o + l.length * t.n + j) = some (.v v0) := fun j hj => by
    have := hown (l.length * t.n + j) (by omega) (by omega)
    rwa [show o + l.length * t.n + j = o + (l.length * t.n + j) by omega]
   by_cases hz0 : new = []
   ·subst hz0
    have hn0 : t.n = 0 := n1.symm
    simp only [aq]
    refine hK1 s1 _ Step.refl ⟨⟨by simp, by simp; omega, fun h => (by cases h), fun a ha => ?_⟩, fun a ha i hi1 hi2 => ?_⟩
    ·simp at ha; subst ha
     refine ⟨fun _ => rfl, fun j y hj => ?_⟩
     by_cases ej : j < l.length
     ·rw [List.getElem?_append_left ej] at hj
      exact g2 j y hj
     ·rw [List.getElem?_append_right (by omega)] at hj
      have hj0 : j - l.length = 0 := by
       have := (List.getElem?_eq_some_iff.1 hj).1
       simp at this; omega
      rw [hj0] at hj
      simp at hj; subst hj
      obtain ⟨ws, w1, w2⟩ := n4 (s1.w q) b (o + l.length * t.n) (fun i v hi => by simp at hi) 0 x rfl
      have := t.len w1
      have hws : ws = [] := List.eq_nil_of_length_eq_zero (by omega)
      subst hws
      exact ⟨[], w1, At.nil⟩
    ·simp at ha; subst ha
     simp [hn0] at hi2
   have hlt0 : 0 < new.length := by cases new with | nil => exact absurd rfl hz0 | cons a l => simp
   have hqlt : q < 1152921504606846976 + 1152921504606846976 * s1.H.size := by
    obtain ⟨v0, hv0⟩ := hcells 0 hlt0
    rw [← (bY hv0).2]; exact s1.wf _ _ (mq hv0)
   refine kJ (k := q) (k' := q) new (fun j hj => by rw [Nat.add_zero]; exact hcells j hj) n3 hqlt hq0 fun s' h' => ?_
   ·have hst : Step [q] s1 s' := h'.step (q := q) (by simp) hq0 fun i hi => by
     obtain ⟨v, hv⟩ := hcells i hi
     rw [Nat.add_zero]
     exact (bY hv).2
    have hkeep : ∀ i v, s1.w q b (o + i) = some (.v v) → ¬(l.length * t.n ≤ i ∧ i < l.length * t.n + t.n) → s'.w q b (o + i) = some (.v v) := fun i v hv hni => by
     have := h'.old b (o + i) (fun ⟨_, h1, h2⟩ => hni ⟨by omega, by omega⟩)
     exact dP (this.2.trans (bY hv).1) (this.1.trans (bY hv).2)
    refine hK1 s' _ hst ⟨⟨by simp, by simp; omega, fun h => (by cases h), fun a ha => ?_⟩, fun a ha i hi1 hi2 => ?_⟩
    ·simp at ha; subst ha
     refine ⟨fun _ => rfl, fun j y hj => ?_⟩
     simp only
     by_cases ej : j < l.length
     ·rw [List.getElem?_append_left ej] at hj
      obtain ⟨ws, w1, w2⟩ := g2 j y hj
      have hwl := t.len w1
      refine ⟨ws, t.mono hst.v0 w1, fun a v hav => ?_⟩
      have hlt := (List.getElem?_eq_some_iff.1 hav).1
      have hu := w2 a v hav
      have : (j + 1) * t.n ≤ l.length * t.n := Nat.mul_le_mul_right _ (by omega)
      rw [Nat.add_mul] at this
      have := hkeep (j * t.n + a) v (by rwa [← Nat.add_assoc]) (by omega)
      rwa [← Nat.add_assoc] at this
     ·rw [List.getElem?_append_right (by omega)] at hj
      have := n4 (s'.w q) b (o + l.length * t.n) (by have := h'.here; rwa [Nat.add_zero] at this) _ _ hj
      have e2 : o + j * t.n = o + l.length * t.n + (j - l.length) * t.n := by
       rw [Nat.sub_mul]
       have : l.length * t.n ≤ j * t.n := Nat.mul_le_mul_right _ (by omega)
       omega
      rw [e2]
      exact this.mono hst.v0 (eE.refl _)
    ·simp at ha; subst ha
     simp only at hi2 ⊢
     rw [List.length_append, Nat.add_mul] at hi1
     simp only [List.length_singleton, Nat.one_mul] at hi1
     obtain ⟨v, hv⟩ := hown i (by omega) hi2
     exact ⟨v, hkeep i v hv (by omega)⟩
 ·simp only at hc
  refine ⟨growslice_fits hc (by rw [hsl]; exact hb), by simp only; omega, ?_⟩
  obtain ⟨old, o1, o2, o3, o4⟩ := hB1.ls.row
  refine ⟨old, o2, fun ty c hcc => ?_⟩
  refine pZ (K := fun b => K ⟨some (af b), sl.len + 1, c⟩) (κ := fun i => q) (lo := 0) (hi := 0) (fun i => hq1) (fun i _ => by simp) fun s' b hnew => ?_
  have hst : Step [q] s1 s' := hnew.step.n
  have hat : At (s'.w q) b 0 (old ++ new) := fun i v hi => by
   have hlt := (List.getElem?_eq_some_iff.1 hi).1
   refine dP ?_ ?_
   ·rw [Nat.zero_add, hnew.here, List.getElem?_append_left (by simpa using hlt), hi]; rfl
   ·rw [Nat.zero_add, hnew.col]
  refine hK1 s' ⟨some (af b), sl.len + 1, c⟩ hst ⟨⟨by simp [hsl], by simp only at hcc ⊢; omega, fun h => (by cases h), fun a ha => ?_⟩, fun a ha i hi1 hi2 => ?_⟩
  ·simp at ha; subst ha
   refine ⟨fun _ => rfl, fun j y hj => ?_⟩
   simp only
   by_cases ej : j < l.length
   ·rw [List.getElem?_append_left ej] at hj
    have := o4 (s'.w q) b 0 (fun i v hi => hat i v (by rw [List.getElem?_append_left (List.getElem?_eq_some_iff.1 hi).1]; exact hi)) j y hj
    exact this.mono hst.v0 (eE.refl _)
   ·rw [List.getElem?_append_right (by omega)] at hj
    have := n4 (s'.w q) b (l.length * t.n) (fun i v hi => by
     have := hat (old.length + i) v (by rw [List.getElem?_append_right (by omega)]; simpa using hi)
     rwa [Nat.zero_add, o1] at this) _ y hj
    have e2 : 0 + j * t.n = l.length * t.n + (j - l.length) * t.n := by
     rw [Nat.sub_mul]
     have : l.length * t.n ≤ j * t.n := Nat.mul_le_mul_right _ (by omega)
     omega
    rw [e2]
    exact this.mono hst.v0 (eE.refl _)
  ·simp at ha; subst ha
   simp only at hi2 ⊢
   have hlen : (old ++ new ++ eO zero (c - (sl.len + 1))).length = c * t.n := by
    rw [List.length_append, List.length_append, zh, o1, n1, hz]
    have : c * t.n = (l.length + 1 + (c - (sl.len + 1))) * t.n := by
     congr 1
     simp only at hcc
     omega
    rw [this, Nat.add_mul, Nat.add_mul, Nat.one_mul]
   rw [Nat.zero_add]
   refine ⟨(old ++ new ++ eO zero (c - (sl.len + 1)))[i]'(by omega), dP ?_ (hnew.col _)⟩
   rw [hnew.here, List.getElem?_eq_getElem (by simp only; omega)]; rfl
theorem RP {α : Type} {t : Ty α} {q : Nat} {s : St} {l : List α} {sl : Sl} {size : Nat} {K : Sl → HP} {H : aP} (h : gW t q s l sl) (h1 : 1 ≤ l.length) (hn0 : 0 < t.n)
  (hK : ∀ sl', gW t q s (l.drop 1) sl' → K sl' H) (hn : size = t.n := by rfl) : eY sl size 1 sl.len sl.cap K H := by
 subst hn
 have hlen := h.ls.len
 have hcap := h.ls.cap
 obtain ⟨b, o, ha⟩ := Ls.lt h.ls (j := 0) (by omega)
 obtain ⟨g1, g2⟩ := h.ls.at_ _ ha
 have hown := h.own _ ha
 simp only at g2 hown
 have e1 : ((sl.cap : Nat) : Int).toNat = sl.cap := Int.toNat_natCast _
 have e2 : ((sl.len : Nat) : Int).toNat = sl.len := Int.toNat_natCast _
 refine ⟨⟨by decide, by omega, by omega, Int.le_refl _⟩, hK _ ⟨⟨by simp; omega, by simp only [e1, e2]; omega, fun he => ?_, fun a ha' => ?_⟩, fun a ha' i hi1 hi2 => ?_⟩⟩
 ·simp only [ha] at he
  split at he
  ·simp at he
  ·simp at he
 ·simp only [ha, e1] at ha'
  by_cases hc1 : sl.cap = (1 : Int).toNat
  ·rw [if_pos hc1] at ha'
   cases ha'
   refine ⟨fun _ => rfl, fun j x hj => ?_⟩
   have hc1' : sl.cap = 1 := hc1
   rw [List.getElem?_eq_none (by simp; omega)] at hj
   cases hj
  ·rw [if_neg hc1] at ha'
   simp only [Option.map_some, Option.some.injEq, dK] at ha'
   subst ha'
   refine ⟨fun _ => rfl, fun j x hj => ?_⟩
   rw [List.getElem?_drop] at hj
   have := g2 (1 + j) x hj
   simp only at this ⊢
   rwa [show o + (1 : Int).toNat * t.n + j * t.n = o + (1 + j) * t.n by rw [Nat.add_mul]; show o + 1 * t.n + _ = _; omega]
 ·simp only [ha, e1] at ha' hi2
  have hmul : (sl.cap - (1 : Int).toNat) * t.n = sl.cap * t.n - t.n := by show (sl.cap - 1) * t.n = _; rw [Nat.sub_mul, Nat.one_mul]
  have hdl : (l.drop 1).length * t.n = l.length * t.n - t.n := by rw [List.length_drop, Nat.sub_mul, Nat.one_mul]
  have hge : t.n ≤ l.length * t.n := Nat.le_mul_of_pos_left _ (by omega)
  by_cases hc1 : sl.cap = (1 : Int).toNat
  ·have hc1' : sl.cap = 1 := hc1
   rw [hmul, hc1'] at hi2
   omega
  ·rw [if_neg hc1] at ha'
   simp only [Option.map_some, Option.some.injEq, dK] at ha'
   subst ha'
   obtain ⟨v, hv⟩ := hown (t.n + i) (by omega) (by omega)
   refine ⟨v, ?_⟩
   simp only
   rwa [show o + (1 : Int).toNat * t.n + i = o + (t.n + i) by show o + 1 * t.n + i = _; omega]
end Go.Ph
end
section
set_option linter.all false
namespace Go.Ph
structure bM where
 seq : Int
 size : Int
 broken : Int
 l : List ey
structure BoxM where
 user : Int
 bound : Int
 next : Int
 l : List bM
def iZ (x : RecM) : Int := x.f.getD 3 0
def lB (x : RecM) : Int := x.f.getD 4 0
def iW (x : RecM) : Int := x.f.getD 5 0
def after (n : Int) (x : RecM) : Int := max (max n (iZ x)) (iW x + 1)
namespace P
def dat (d : ah) (e : aR) : List UInt8 := match d.files[e.aO.toNat]? with | some f => f.now.data.toList | none => []
def fA (q : Int) (b : List UInt8) : bM := ⟨q, b.length, broken b, gB b⟩
def eH (d : ah) (u : Nat) : List aR → Option (List bM)
 | [] => some []
 | e :: es => if cz u e.Name = 0 then none else if cz u e.Name < 0 then eH d u es else (eH d u es).map (fA (cz u e.Name) (dat d e) :: ·)
def iB (q : Int) (n : Int) (f : ey) : Int := if f.x.kind = 1 ∧ lB f.x ≤ q then max n (lB f.x) else n
def uQ (n : Int) (c : bM) : Int := c.l.foldl (iB c.seq) n
def base (l : List bM) : Int := l.foldl uQ 0
def eD (u : Int) (from_ : Int) : ah → List bM → ah × Int × List bM
 | d, [] => (d, 0, [])
 | d, c :: cs => if c.seq < from_ then (if (R.drop d (aT u c.seq)).2 ≠ 0 then ((R.drop d (aT u c.seq)).1, (R.drop d (aT u c.seq)).2, []) else eD u from_ (R.drop d (aT u c.seq)).1 cs) else (d, 0, c :: cs)
def m7 (n : Int) (c : bM) : Int := c.l.foldl (fun n f => after n f.x) n
def next (l : List bM) : Int := l.foldl m7 1
def fe (d : ah) (u bound : Int) : ah × Option BoxM × Int :=
 if d.down then (d, none, 11) else if ¬(1 ≤ u ∧ u ≤ 999) ∨ bound < 1 then (d, none, 1)
 else if (R.tidy d (ba (front u.toNat))).2 ≠ 0 then ((R.tidy d (ba (front u.toNat))).1, none, (R.tidy d (ba (front u.toNat))).2)
 else match eH (R.tidy d (ba (front u.toNat))).1 u.toNat (R.tidy d (ba (front u.toNat))).1.now with
  | none => ((R.tidy d (ba (front u.toNat))).1, none, 12)
  | some l => if (eD u (base l) (R.tidy d (ba (front u.toNat))).1 l).2.1 ≠ 0 then ((eD u (base l) (R.tidy d (ba (front u.toNat))).1 l).1, none, (eD u (base l) (R.tidy d (ba (front u.toNat))).1 l).2.1)
   else ((eD u (base l) (R.tidy d (ba (front u.toNat))).1 l).1, some ⟨u, bound, next (eD u (base l) (R.tidy d (ba (front u.toNat))).1 l).2.2, (eD u (base l) (R.tidy d (ba (front u.toNat))).1 l).2.2⟩, 0)
end P
theorem gY.good {d : ah} (h : gY d) : Good d.files.length d.now ∧ d.now.length ≤ 1024 := by
 obtain ⟨v, h⟩ := h
 have := h.ns
 rw [h.nodes.1] at this
 exact ⟨this.1.good, this.2⟩
theorem gY.dat {d : ah} (h : gY d) {e : aR} (he : e ∈ d.now) : ∃ f, d.files[e.aO.toNat]? = some f ∧ f.now.size ≤ 4194304 ∧ R.find d.now e.Name = e.aO ∧ 0 ≤ e.aO := by
 obtain ⟨v, h⟩ := h
 have hn := h.ns.1
 have hr := hn.good.cQ e he
 have hm := (hn.mem e.Name e.aO).2 he
 have hlt : e.aO.toNat < v.nodes.length := by omega
 have hlt2 : e.aO.toNat < d.files.length := by rw [← h.nodes.1]; exact hlt
 have := h.cont e.aO.toNat _ _ (List.getElem?_eq_getElem hlt) (List.getElem?_eq_getElem hlt2) (.inl ⟨e.Name, by rw [Int.toNat_of_nonneg hr.1]; exact hm⟩)
 refine ⟨_, List.getElem?_eq_getElem hlt2, ?_, nH hn.good he, hr.1⟩
 rw [← this.1]
 exact (h.sizes _ (List.getElem_mem hlt)).seen
theorem yS {d : ah} (h : gY d) {e : aR} (he : e ∈ d.now) (hd : d.down = false) : (R.text d e.Name).2 = 0 ∧ (R.text d e.Name).1.data.toList = P.dat d e ∧ (P.dat d e).length ≤ 4194304 := by
 obtain ⟨f, h1, h2, h3, h4⟩ := h.dat he
 have hdat : P.dat d e = f.now.data.toList := by unfold P.dat; rw [h1]
 unfold R.text
 rw [hd, h3]
 simp only [Bool.false_eq_true, if_false]
 rw [if_neg (by omega)]
 refine ⟨rfl, ?_, by rw [hdat, dw]; exact h2⟩
 rw [hdat]; unfold R.data; rw [h3, h1]
theorem xd {n : ByteArray} {u : Nat} (h : R.pre n (ba (front u)) = true) : n = ba (front u ++ n.data.toList.drop 5) := by
 rw [vP, gZ, decide_eq_true_eq] at h
 obtain ⟨r, hr⟩ := h
 have : n.data.toList.drop 5 = r := by rw [← hr, List.drop_left' (lE u)]
 rw [this, hr, Si]
theorem DO {r : List UInt8} (h : gN r ≠ 0) : r.length = 8 ∧ (∀ c ∈ r, dZ c = true) ∧ gN r = num r ∧ 1 ≤ num r ∧ num r ≤ 99999999 ∧ low (num r) 8 = r := by
 unfold gN at h ⊢
 by_cases hc : r.length = 8 ∧ r.all dZ = true
 ·rw [if_pos hc] at h ⊢
  have ha : ∀ c ∈ r, dZ c = true := List.all_eq_true.1 hc.2
  have h1 := qI r ha
  have h2 := BM r ha
  rw [hc.1] at h1 h2
  exact ⟨hc.1, ha, rfl, by omega, by omega, h2⟩
 ·rw [if_neg hc] at h; exact absurd rfl h
theorem Mg {u : Nat} {n : ByteArray} : (R.pre n (ba (front u)) = false ∧ cz u n = -1) ∨ (R.pre n (ba (front u)) = true ∧ cz u n = gN (n.data.toList.drop 5)) := by
 unfold cz
 cases hp : R.pre n (ba (front u))
 ·exact .inl ⟨rfl, rfl⟩
 ·refine .inr ⟨rfl, ?_⟩
  rw [if_pos rfl]
  split
  ·rename_i h5
   have : n.data.toList.drop 5 = [] := List.drop_eq_nil_of_le (by rw [dw]; omega)
   rw [this]; rfl
  ·rfl
theorem QA (r : List UInt8) : 0 ≤ gN r := by unfold gN; split <;> omega
theorem vt {u : Nat} {n : ByteArray} (hu : 1 ≤ u ∧ u ≤ 999) (h0 : cz u n ≠ 0) (h1 : ¬ cz u n < 0) : R.pre n (ba (front u)) = true ∧ gN (n.data.toList.drop 5) = cz u n ∧ aT u (cz u n) = n ∧ 1 ≤ cz u n ∧ cz u n ≤ 99999999 := by
 rcases Mg (u := u) (n := n) with ⟨a, b⟩ | ⟨a, b⟩
 ·rw [b] at h1; exact absurd (by decide) h1
 ·rw [b] at h0 ⊢
  obtain ⟨g1, g2, g3, g4, g5, g6⟩ := DO h0
  refine ⟨a, rfl, ?_, by omega, by omega⟩
  rw [g3]
  unfold aT
  rw [if_pos ⟨by omega, by omega, by omega, by omega⟩]
  simp only [Int.toNat_natCast, cname, g6]
  exact (xd a).symm
theorem D6 : ∀ (a b : List UInt8), a.length = b.length → (∀ c ∈ a, dZ c = true) → (∀ c ∈ b, dZ c = true) → a < b → num a < num b
 | [], [], _, _, _, h => by simp at h
 | [], d :: b, hl, _, _, _ => by simp at hl
 | c :: a, [], hl, _, _, _ => by simp at hl
 | c :: a, d :: b, hl, ha, hb, h => by
  have hla : a.length = b.length := by simpa using hl
  have ha' : ∀ c ∈ a, dZ c = true := fun x hx => ha x (by simp [hx])
  have hb' : ∀ c ∈ b, dZ c = true := fun x hx => hb x (by simp [hx])
  have hc := ha c (by simp)
  have hd := hb d (by simp)
  simp [dZ] at hc hd
  rw [vZ, vZ, hla]
  have h1 := qI a ha'
  have h2 := qI b hb'
  rw [hla] at h1
  rw [List.cons_lt_cons_iff] at h
  rcases h with h | ⟨rfl, h⟩
  ·have hlt : c.toNat < d.toNat := UInt8.lt_iff_toNat_lt.1 h
   have : (c.toNat - 48 + 1) * 10 ^ b.length ≤ (d.toNat - 48) * 10 ^ b.length := Nat.mul_le_mul_right _ (by omega)
   rw [Nat.add_mul, Nat.one_mul] at this
   omega
  ·have := D6 a b hla ha' hb' h
   omega
theorem KX {u : Nat} {m n : ByteArray} (hu : 1 ≤ u ∧ u ≤ 999) (h : slt m n = true) (hm0 : cz u m ≠ 0) (hm1 : ¬ cz u m < 0) (hn0 : cz u n ≠ 0) (hn1 : ¬ cz u n < 0) : cz u m < cz u n := by
 obtain ⟨m1, m2, m3, m4, m5⟩ := vt hu hm0 hm1
 obtain ⟨n1, n2, n3, n4, n5⟩ := vt hu hn0 hn1
 obtain ⟨a1, a2, a3, -, -, -⟩ := DO (r := m.data.toList.drop 5) (by omega)
 obtain ⟨b1, b2, b3, -, -, -⟩ := DO (r := n.data.toList.drop 5) (by omega)
 rw [← m2, ← n2, a3, b3]
 have e1 := xd m1
 have e2 := xd n1
 rw [qY, decide_eq_true_eq] at h
 rw [e1, e2, gZ, gZ] at h
 have := D6 _ _ (by rw [a1, b1]) a2 b2 (by
  have hf : ∀ (p x y : List UInt8), p ++ x < p ++ y → x < y := fun p => by
   induction p with
   | nil => intro x y h; exact h
   | cons c p ih =>
    intro x y h
    rw [List.cons_append, List.cons_append, List.cons_lt_cons_iff] at h
    rcases h with h | ⟨_, h⟩
    ·exact absurd h (by rw [UInt8.lt_iff_toNat_lt]; omega)
    ·exact ih x y h
  exact hf _ _ _ h)
 omega
def Small (f : List Int) : Prop := ∀ v ∈ f, 0 ≤ v ∧ v ≤ 9007199254740992
theorem Small.get {f : List Int} (h : Small f) (j : Nat) : 0 ≤ f.getD j 0 ∧ f.getD j 0 ≤ 9007199254740992 := by
 rw [List.getD_eq_getElem?_getD]
 cases e : f[j]? with
 | none => simp
 | some v => exact h v (List.mem_of_getElem? e)
theorem Small.set {f : List Int} (h : Small f) {j : Nat} {v : Int} (hv : 0 ≤ v ∧ v ≤ 9007199254740992) : Small (f.set j v) := by
 intro w hw
 rcases List.mem_or_eq_of_mem_set hw with h1 | rfl
 ·exact h w h1
 ·exact hv
theorem Di : ∀ (L : List dz) (vs : List Int) (g : List Int), (∀ p ∈ L, uf p) → fT L vs = true → Small g → Small ((L.zip vs).foldl (fun g x => g.set x.1.j x.2) g)
 | [], vs, g, _, _, hg => by simpa using hg
 | p :: L, [], g, _, _, hg => by simpa using hg
 | p :: L, v :: vs, g, hL, ho, hg => by
  simp only [fT, List.zip_cons_cons, List.all_cons, Bool.and_eq_true, decide_eq_true_eq] at ho
  have hp := hL p (by simp)
  have h1 := hp.lo
  have h2 := hp.hi
  rw [List.zip_cons_cons, List.foldl_cons]
  exact Di L vs _ (fun q hq => hL q (by simp [hq])) ho.2 (hg.set ⟨by omega, by omega⟩)
structure wJ (x : RecM) : Prop where
 len : x.f.length = 11
 small : Small x.f
 data : x.data.length ≤ 4194304
theorem Rs {k : Int} {l : List UInt8} {x : RecM} (h : iC k l = .ok x) (hl : l.length ≤ 4194304) : wJ x := by
 unfold iC at h
 by_cases h1 : layout k = []
 ·rw [if_pos h1] at h; cases h
 rw [if_neg h1] at h
 have hk : 1 ≤ k ∧ k ≤ 6 := by
  rcases Classical.em (1 ≤ k ∧ k ≤ 6) with h2 | h2
  ·exact h2
  ·exact absurd (MH.2 h2) h1
 repeat (first | (split at h; first | cases h | skip) )
 all_goals first
  | cases h
  | skip
 all_goals (rename_i ho; refine ⟨AZ _ _ _, Di _ _ _ (lQ k) ho ?_, ?_⟩)
 all_goals first
  | (intro v hv; simp at hv; rcases hv with rfl | rfl <;> omega)
  | (simp only; split <;> simp <;> omega)
structure G8 (f : ey) : Prop where
 at_ : f.at_ ≤ 4194304
 len : f.len ≤ 4194304
 x : wJ f.x
structure k9 (c : bM) : Prop where
 seq : 1 ≤ c.seq ∧ c.seq ≤ 99999999
 size : 0 ≤ c.size ∧ c.size ≤ 4194304
 broken : 0 ≤ c.broken ∧ c.broken ≤ 4194304
 len : c.l.length ≤ 4194304
 l : ∀ f ∈ c.l, G8 f
theorem afH {b : List UInt8} (hb : b.length ≤ 4194304) : (gB b).length ≤ b.length ∧ (∀ f ∈ gB b, G8 f) ∧ 0 ≤ broken b ∧ broken b ≤ b.length := by
 have hf := He b
 have h1 := hf.len
 have h2 := hf.sum
 have h3 := zD (frames b)
 refine ⟨?_, ?_, ?_, ?_⟩
 ·have := List.length_filterMap_le found (frames b)
  unfold gB; omega
 ·intro f hf'
  unfold gB at hf'
  rw [List.mem_filterMap] at hf'
  obtain ⟨g, hg, hgf⟩ := hf'
  have go := hf.all g hg
  have g1 := go.Aw
  have g2 := go.bn
  unfold found at hgf
  split at hgf
  ·rename_i x hx
   cases hgf
   exact ⟨by simp only; omega, by simp only; omega, Rs hx (by omega)⟩
  ·cases hgf
 ·unfold broken gB; omega
 ·unfold broken; omega
theorem agh {q : Int} {b : List UInt8} (hb : b.length ≤ 4194304) (hq : 1 ≤ q ∧ q ≤ 99999999) : k9 (P.fA q b) := by
 obtain ⟨h1, h2, h3, h4⟩ := afH hb
 refine ⟨hq, ?_, ?_, ?_, h2⟩
 ·unfold P.fA; simp only; omega
 ·unfold P.fA; simp only; omega
 ·unfold P.fA; simp only; omega
structure F0 (l : List bM) : Prop where
 all : ∀ c ∈ l, k9 c
 sorted : l.Pairwise fun a b => a.seq < b.seq
theorem vF {d : ah} {u : Nat} (hu : 1 ≤ u ∧ u ≤ 999) : ∀ (es : List aR) (l : List bM), (∀ e ∈ es, (P.dat d e).length ≤ 4194304) → (es.Pairwise fun a b => slt a.Name b.Name = true) → P.eH d u es = some l → F0 l ∧ l.length ≤ es.length ∧ ∀ c ∈ l, ∃ e ∈ es, cz u e.Name = c.seq ∧ cz u e.Name ≠ 0 ∧ ¬ cz u e.Name < 0
 | [], l, _, _, h => by
  simp only [P.eH, Option.some.injEq] at h
  subst h
  exact ⟨⟨by simp, by simp⟩, by simp, by simp⟩
 | e :: es, l, hd, hs, h => by
  rw [List.pairwise_cons] at hs
  have hd' : ∀ e ∈ es, (P.dat d e).length ≤ 4194304 := fun x hx => hd x (by simp [hx])
  rw [P.eH] at h
  by_cases h0 : cz u e.Name = 0
  ·rw [if_pos h0] at h; cases h
  rw [if_neg h0] at h
  by_cases h1 : cz u e.Name < 0
  ·rw [if_pos h1] at h
   obtain ⟨g1, g2, g3⟩ := vF hu es l hd' hs.2 h
   refine ⟨g1, by simp; omega, fun c hc => ?_⟩
   obtain ⟨e', m1, m2⟩ := g3 c hc
   exact ⟨e', by simp [m1], m2⟩
  ·rw [if_neg h1, Option.map_eq_some_iff] at h
   obtain ⟨l', hl', rfl⟩ := h
   obtain ⟨g1, g2, g3⟩ := vF hu es l' hd' hs.2 hl'
   obtain ⟨-, -, -, m4, m5⟩ := vt hu h0 h1
   refine ⟨⟨?_, ?_⟩, by simp; omega, ?_⟩
   ·intro c hc
    simp only [List.mem_cons] at hc
    rcases hc with rfl | hc
    ·exact agh (hd e (by simp)) ⟨m4, m5⟩
    ·exact g1.all c hc
   ·rw [List.pairwise_cons]
    refine ⟨fun c hc => ?_, g1.sorted⟩
    obtain ⟨e', m1, m2, m3, m6⟩ := g3 c hc
    rw [← m2]
    exact KX hu (hs.1 e' m1) h0 h1 m3 m6
   ·intro c hc
    simp only [List.mem_cons] at hc
    rcases hc with rfl | hc
    ·exact ⟨e, by simp, rfl, h0, h1⟩
    ·obtain ⟨e', m1, m2⟩ := g3 c hc
     exact ⟨e', by simp [m1], m2⟩
theorem Sy {d : ah} (h : (R.begin d).2 = 0) : d.down = false ∧ (R.begin d).1.down = false := by
 unfold R.begin at h ⊢
 cases hd : d.down
 ·rw [hd] at h
  simp only [Bool.false_eq_true, if_false] at h ⊢
  by_cases h1 : d.br = 0
  ·rw [if_pos h1] at h; simp at h
  ·rw [if_neg h1] at h ⊢
   split at h <;> simp_all
 ·rw [hd] at h; simp at h
theorem WW {d : ah} {n : ByteArray} (h : (R.unlink d n).2 = 0) : d.down = false ∧ (R.unlink d n).1.down = false := by
 unfold R.unlink at h ⊢
 simp only at h ⊢
 by_cases h0 : (R.begin d).2 = 0
 ·rw [if_neg (by simpa using h0)] at h ⊢
  have := Sy h0
  split at h
  ·cases h
  ·rename_i hf
   rw [if_neg hf]
   exact this
 ·rw [if_pos h0] at h; exact absurd h h0
theorem FB : ∀ (l : List ByteArray) (d : ah), d.down = false → (R.dW d l).2 = 0 → (R.dW d l).1.down = false
 | [], d, hd, h => hd
 | n :: l, d, hd, h => by
  rw [R.dW] at h ⊢
  by_cases h0 : (R.unlink d n).2 = 0
  ·rw [if_neg (by simpa using h0)] at h ⊢
   exact FB l _ (WW h0).2 h
  ·rw [if_pos h0] at h; exact absurd h h0
theorem L1 {d : ah} {p : ByteArray} (hd : d.down = false) (h : (R.tidy d p).2 = 0) : (R.tidy d p).1.down = false := by
 unfold R.tidy at h ⊢
 rw [hd] at h ⊢
 exact FB _ _ hd h
theorem Tn {d : ah} {p : ByteArray} (hn : d.now.length ≤ 1024) : (R.tidy d p).1.calls ≤ d.calls + 1024 := by
 unfold R.tidy
 split
 ·simp only; omega
 ·have h1 := R.G0 (R.gJ (d.now.map (·.Name)) p) d
  have h2 : (R.gJ (d.now.map (·.Name)) p).length ≤ 1024 := Nat.le_trans (List.length_filter_le _ _) (by simp; omega)
  omega
theorem BS (d : ah) (n : ByteArray) : (R.drop d n).1.calls ≤ d.calls + 3 := by
 unfold R.drop
 split
 ·simp only; omega
 ·split
  ·have := R.jx d n; omega
  ·have h1 := R.jx d n
   have h2 := kj (c := 1) (fun d => R.jI d) (R.unlink d n).1
   omega
def Nm (d : ah) : Prop := ∀ e ∈ d.now, e.Name.size ≤ 32
theorem Zp (d : ah) (n : ByteArray) : ∀ e ∈ (R.unlink d n).1.now, e ∈ d.now := by
 intro e he
 unfold R.unlink at he
 simp only at he
 split at he
 ·rwa [R.oS] at he
 ·split at he
  ·rwa [R.oS] at he
  ·unfold R.cM at he
   simp only [R.oS] at he
   rw [qG] at he
   split at he
   ·exact he
   ·exact (List.mem_filter.1 he).1
theorem A5 (d : ah) : (R.cy d).1.now = d.now := by
 unfold R.cy
 simp only
 split
 ·exact R.oS d
 ·exact R.oS d
theorem Ws (d : ah) : (R.again R.cy d).1.now = d.now := by
 unfold R.again
 split
 ·rw [A5, A5]
 ·exact A5 d
theorem Nm.unlink {d : ah} (h : Nm d) (n : ByteArray) : Nm (R.unlink d n).1 := fun e he => h e (Zp d n e he)
theorem Nm.dW : ∀ (l : List ByteArray) {d : ah}, Nm d → Nm (R.dW d l).1
 | [], d, h => h
 | n :: l, d, h => by
  rw [R.dW]
  split
  ·exact h.unlink n
  ·exact Nm.dW l (h.unlink n)
theorem Nm.tidy {d : ah} (h : Nm d) (p : ByteArray) : Nm (R.tidy d p).1 := by
 unfold R.tidy
 split
 ·exact h
 ·exact Nm.dW _ h
end Go.Ph
end
section
set_option linter.all false
namespace Go.Ph
open S
theorem gF.fQ {k : Nat} {s s' : St} {l : List cn} {ps : List (Option Addr)} {S : List Nat} (h : gF k s l ps) (hs : Step S s s') (hl : l.length ≤ 1000000000000) (hS : ∀ x ∈ S, x ∉ dk k) : gF k s' l ps :=
 ⟨h.len, fun j x hx => by
  obtain ⟨p, h1, h2⟩ := h.at_ j x hx
  have hj := (List.getElem?_eq_some_iff.1 hx).1
  exact ⟨p, h1, h2.st hs (fun hm => hS _ hm (by rw [fk]; omega)) (fun hm => hS _ hm (by rw [fk]; omega))⟩⟩
theorem dx.fQ {k : Nat} {s s' : St} {b : Nat} {v : bC} {ps : List (Option Addr)} {S : List Nat} (h : dx k s b v ps) (hs : Step S s s') (hl : v.nodes.length ≤ 1000000000000) (hS : ∀ x ∈ S, x ∉ dk k) : dx k s' b v ps := by
 obtain ⟨k0, ⟨n, m, ms, mu, h1, h2, h3, ⟨es, cl, h4⟩, h5⟩, h6⟩ := h
 have g : ∀ j, j < 100 → k + j ∉ S := fun j hj hm => hS _ hm (by rw [fk]; omega)
 exact ⟨k0, ⟨n, m, ms, mu, h1.mono (hs.view (by simpa using g 0 (by decide))), h2.st hs (g 1 (by decide)), h3.st hs (g 2 (by decide)), ⟨es, cl, h4.st hs (g 3 (by decide))⟩, h5.st hs (g 4 (by decide))⟩, h6.fQ hs hl hS⟩
theorem DV.fQ {k : Nat} {s s' : St} {b : Nat} {d : ah} {S : List Nat} (h : DV k s b d) (hs : Step S s s') (hc : d.calls < 1000000000000 - 1024) (hS : ∀ x ∈ S, x ∉ dk k) : DV k s' b d := by
 obtain ⟨v, ps, h1, h2⟩ := h
 have := h2.nodes
 exact ⟨v, ps, h1.fQ hs (by omega) hS, h2⟩
theorem Ko.own {k j : Nat} {s : St} (h : Ko k s) (hj : j < 16) : own s + j ∉ dk k := by
 unfold Ko at h; rw [fk]; omega
theorem C0 {s : St} {q b o : Nat} {f : List Int} {sl : Sl} {K : aZ → HP} (h : At (s.w q) b o (bL f sl)) (hf : f.length = 11) (hK : ∀ r, fieldsOf r = f → r.Data = sl → K r s.H) : bq ⟨b, o, none⟩ K s.H := by
 match f, hf, h, hK with
 | [a0, a1, a2, a3, a4, a5, a6, a7, a8, a9, a10], _, h, hK =>
  unfold bq
  repeat (first|refine aj ?_|refine av h rfl ?_|refine aK h rfl ?_|refine aH h rfl ?_|refine aI h rfl ?_|refine aJ h rfl ?_|refine aC h rfl ?_)
  exact hK ⟨a0, a1, a2, a3, a4, a5, a6, a7, a8, a9, a10, sl⟩ rfl rfl
def mJ (f : ey) (sl : Sl) : List Value := .int .i64 f.at_ :: .int .i64 f.len :: bL f.x.f sl
theorem At.xH {V : View} {b o : Nat} {x y : Value} {vs : List Value} (h : At V b o (x :: y :: vs)) : At V b (o + 2) vs := fun i v hi => by
 have := h (i + 2) v (by simpa using hi)
 rwa [show o + (i + 2) = o + 2 + i by omega] at this
theorem AR {s : St} {q b o : Nat} {f : ey} {sl : Sl} {K : ud → HP} (h : At (s.w q) b o (mJ f sl)) (hf : f.x.f.length = 11) (hK : ∀ r : ud, [Value.int .i64 r.At, .int .i64 r.eL, .int .i64 r.iw, .int .i64 r.iz, .int .i64 r.iJ, .int .i64 r.iM, .int .i64 r.ir, .int .i64 r.iu, .int .i64 r.iI, .int .i64 r.iE, .int .i64 r.iK, .int .i64 r.iG, .int .i64 r.iH, .slice r.cU.a r.cU.len r.cU.cap] = mJ f sl → K r s.H) : qA ⟨b, o, none⟩ K s.H := by
 obtain ⟨a, n, ⟨fl, dt⟩⟩ := f
 simp only at hf
 match fl, hf, h, hK with
 | [a0, a1, a2, a3, a4, a5, a6, a7, a8, a9, a10], _, h, hK =>
  unfold qA
  repeat (first|refine aj ?_|refine av h rfl ?_|refine aK h rfl ?_|refine aH h rfl ?_|refine aI h rfl ?_|refine aJ h rfl ?_|refine aC h rfl ?_)
  exact hK ⟨a, n, a0, a1, a2, a3, a4, a5, a6, a7, a8, a9, a10, sl⟩ rfl
theorem Ci {s : St} {q b j : Nat} {f : ey} {sl : Sl} {K : Int → HP} (h : At (s.w q) b 0 (mJ f sl)) (hj : j < f.x.f.length) (hK : K (f.x.f.getD j 0) s.H) : ag .i64 (((af b).add 2).add j) K s.H := by
 rw [BH]
 have h2 := h.xH
 rw [Nat.zero_add] at h2
 exact av h2 (fZ hj) hK
theorem UT {s : St} {q b o j : Nat} {f : ey} {sl : Sl} {K : Int → HP} (h : At (s.w q) b o (mJ f sl)) (hj : j < f.x.f.length) (hK : K (f.x.f.getD j 0) s.H) : ag .i64 (((⟨b, o, none⟩ : Addr).add 2).add j) K s.H := by
 rw [dK b o 2]
 exact av h.xH (fZ hj) hK
theorem vI {s : St} {q b o : Nat} {f : ey} {sl : Sl} {K : aZ → HP} (h : At (s.w q) b o (mJ f sl)) (hf : f.x.f.length = 11) (hK : ∀ r, fieldsOf r = f.x.f → r.Data = sl → K r s.H) : bq ((⟨b, o, none⟩ : Addr).add 2) K s.H := by
 rw [dK]
 exact C0 h.xH hf hK
def fV (x : fK) : List Value := [.int .i64 x.seq, .int .i64 x.size, .int .i64 x.broken, .slice x.l.a x.l.len x.l.cap]
def jB : Ty fK := ⟨4, fun _ x vs => vs = fV x, by rintro _ _ _ rfl; rfl, fun _ h => h, by rintro _ _ _ rfl; simp [one, fV]⟩
def xj : Ty bM := ⟨4, fun V x vs => ∃ sl : Sl, vs = [.int .i64 x.seq, .int .i64 x.size, .int .i64 x.broken, .slice sl.a sl.len sl.cap] ∧ Ls gj V x.l sl, by rintro _ _ _ ⟨_, rfl, _⟩; rfl, by rintro _ _ _ _ h ⟨sl, rfl, h1⟩; exact ⟨sl, rfl, h1.mono h h⟩, by rintro _ _ _ ⟨_, rfl, _⟩; simp [one]⟩
structure ku (V : View) (m : bM) (c : fK) : Prop where
 seq : c.seq = m.seq
 size : c.size = m.size
 broken : c.broken = m.broken
 l : Ls gj V m.l c.l
theorem ku.mono {V V' : View} {m : bM} {c : fK} (h : ku V m c) (hv : eE V V') : ku V' m c := ⟨h.1, h.2, h.3, h.4.mono hv hv⟩
structure gx {α β : Type} (R : α → β → Prop) (l : List α) (m : List β) : Prop where
 len : l.length = m.length
 all : ∀ (i : Nat) (x : α) (y : β), l[i]? = some x → m[i]? = some y → R x y
theorem gx.nil {α β : Type} {R : α → β → Prop} : gx R [] [] := ⟨rfl, fun i x y h => by simp at h⟩
theorem gx.snoc {α β : Type} {R : α → β → Prop} {l : List α} {m : List β} {x : α} {y : β} (h : gx R l m) (hx : R x y) : gx R (l ++ [x]) (m ++ [y]) := by
 refine ⟨by simp [h.len], fun i a b ha hb => ?_⟩
 by_cases e : i < l.length
 ·rw [List.getElem?_append_left e] at ha
  rw [List.getElem?_append_left (by rw [← h.len]; exact e)] at hb
  exact h.all i a b ha hb
 ·rw [List.getElem?_append_right (by omega)] at ha
  rw [List.getElem?_append_right (by rw [← h.len]; omega), ← h.len] at hb
  have := (List.getElem?_eq_some_iff.1 ha).1
  simp at this
  have e0 : i - l.length = 0 := by omega
  rw [e0] at ha hb
  simp at ha hb
  subst ha hb
  exact hx
theorem gx.drop {α β : Type} {R : α → β → Prop} {l : List α} {m : List β} (h : gx R l m) (n : Nat) : gx R (l.drop n) (m.drop n) :=
 ⟨by simp [h.len], fun i x y hx hy => by rw [List.getElem?_drop] at hx hy; exact h.all _ _ _ hx hy⟩
theorem gx.imp {α β : Type} {R R' : α → β → Prop} {l : List α} {m : List β} (h : gx R l m) (hr : ∀ x y, R x y → R' x y) : gx R' l m := ⟨h.len, fun i x y hx hy => hr _ _ (h.all i x y hx hy)⟩
structure kT (k : Nat) (s : St) (b : Nat) (x : BoxM) (dp : Option Addr) (sl : Sl) (cs : List fK) : Prop where
 k0 : k ≠ 0
 row : At (s.w k) b 0 [.pointer dp, .int .i64 x.user, .int .i64 x.bound, .int .i64 x.next, .slice sl.a sl.len sl.cap]
 ls : gW jB (k + 1) s cs sl
 all : gx (ku (s.w 0)) x.l cs
 last : ∀ m c, x.l.getLast? = some m → cs.getLast? = some c → bF gj (k + 2) s m.l c.l
def dJ (k : Nat) (s : St) (b : Nat) (x : BoxM) (dp : Option Addr) : Prop := ∃ sl cs, kT k s b x dp sl cs
theorem kT.st {k : Nat} {s s' : St} {b : Nat} {x : BoxM} {dp : Option Addr} {sl : Sl} {cs : List fK} {S : List Nat} (h : kT k s b x dp sl cs) (hs : Step S s s') (h0 : k ∉ S) (h1 : k + 1 ∉ S) (h2 : k + 2 ∉ S) : kT k s' b x dp sl cs :=
 ⟨h.k0, h.row.mono (hs.view h0), h.ls.st hs h1, h.all.imp fun _ _ g => g.mono hs.v0, fun m c hm hc => (h.last m c hm hc).st hs h2⟩
theorem dJ.st {k : Nat} {s s' : St} {b : Nat} {x : BoxM} {dp : Option Addr} {S : List Nat} (h : dJ k s b x dp) (hs : Step S s s') (h0 : k ∉ S) (h1 : k + 1 ∉ S) (h2 : k + 2 ∉ S) : dJ k s' b x dp := by
 obtain ⟨sl, cs, h⟩ := h
 exact ⟨sl, cs, h.st hs h0 h1 h2⟩
theorem PG {V W : View} {l : List bM} {cs : List fK} {sl : Sl} (h : bz jB V W cs sl) (hc : gx (ku V) l cs) : bz xj V W l sl :=
 ⟨by rw [h.len, hc.len], h.cap, h.nil, fun a ha => ⟨(h.at_ a ha).1, fun j x hx => by
  have hj := (List.getElem?_eq_some_iff.1 hx).1
  obtain ⟨c, hcj⟩ : ∃ c, cs[j]? = some c := ⟨_, List.getElem?_eq_getElem (by rw [← hc.len]; exact hj)⟩
  obtain ⟨vs, rfl, h2⟩ := (h.at_ a ha).2 j c hcj
  have g := hc.all j x c hx hcj
  exact ⟨_, ⟨c.l, by show fV c = _; unfold fV; rw [g.seq, g.size, g.broken], g.l⟩, h2⟩⟩⟩
theorem kT.lw {k : Nat} {s : St} {b : Nat} {x : BoxM} {dp : Option Addr} {sl : Sl} {cs : List fK} (h : kT k s b x dp sl cs) : bz xj (s.w 0) (s.w (k + 1)) x.l sl := PG h.ls.ls h.all
theorem sG {α β : Type} {f : β → α → β} {l : List α} {i : Nat} {x : α} {a : β} (h : l[i]? = some x) : (l.take (i + 1)).foldl f a = f ((l.take i).foldl f a) x := by
 rw [List.take_succ, h, List.foldl_append]; rfl
theorem afR {s : St} {q : Nat} {l : List bM} {sl : Sl} {K : Int → HP} (h : bz xj (s.w 0) (s.w q) l sl) (hl : l.length ≤ 1000000000) (hc : ∀ c ∈ l, k9 c) (hK : ∀ s', Step [] s s' → K (P.base l) s'.H) : rY sl K s.H := by
 unfold rY
 have hlen := h.len
 refine cD (fun i : Nat => [.int .i64 (P.base (l.take i)), .int .i64 i]) (fun i s' => i ≤ l.length ∧ Step [] s s') (fun i _ => l.length - i) 0 rfl ⟨Nat.zero_le _, Step.refl⟩ ?_
 rintro i s1 ⟨hi, e1⟩ G hG
 simp only [List.getD_cons_zero, List.getD_cons_succ, cI, cN, cK, cH, cJ, cO]
 refine aN (fun hlt => ?_) (fun hlt => ?_)
 ·refine bU (h.st e1 (by simp)) (by omega) (by omega) fun bx ox c hx hel => ?_
  rw [Int.toNat_natCast] at hx
  obtain ⟨vs, ⟨scl, rfl, hcl⟩, hat⟩ := hel
  have co := hc c (List.mem_of_getElem? hx)
  unfold fS
  repeat (first|refine aj ?_|refine av hat rfl ?_|refine aK hat rfl ?_|refine aH hat rfl ?_|refine aI hat rfl ?_|refine aJ hat rfl ?_|refine aC hat rfl ?_)
  refine dQ rfl (by simp [one]) fun s2 p5 e2 a5 => ?_
  repeat (first|refine aj ?_|refine av a5 rfl ?_|refine aK a5 rfl ?_|refine aH a5 rfl ?_|refine aI a5 rfl ?_|refine aJ a5 rfl ?_|refine aC a5 rfl ?_)
  have hcl2 := Ls.st hcl e2
  have hll := hcl2.len
  have hcl0 := co.len
  have hG' := hG (i + 1)
  have hbt : P.base (l.take (i + 1)) = P.uQ (P.base (l.take i)) c := sG hx
  rw [hbt] at hG'
  refine cD (fun j : Nat => [.int .i64 ((c.l.take j).foldl (P.iB c.seq) (P.base (l.take i))), .int .i64 j]) (fun j s' => j ≤ c.l.length ∧ Step [] s2 s') (fun j _ => c.l.length - j) 0 rfl ⟨Nat.zero_le _, Step.refl⟩ ?_
  rintro j s3 ⟨hj, e3⟩ G2 hG2
  simp only [List.getD_cons_zero, List.getD_cons_succ, cI, cN, cK, cH, cJ, cO]
  refine aN (fun hlt2 => ?_) (fun hlt2 => ?_)
  ·refine bU (Ls.st hcl2 e3) (by omega) (by omega) fun bx2 ox2 f hf hel2 => ?_
   rw [Int.toNat_natCast] at hf
   obtain ⟨vs, ⟨sd, rfl, hf11, hd⟩, hat2⟩ := hel2
   refine AR (f := f) hat2 hf11 fun r hr => ?_
   rw [hr]
   refine dQ (by rw [mJ, List.length_cons, List.length_cons, nG, hf11]; rfl) (fun v hv => gj.one (V := s3.w 0) (x := f) ⟨sd, rfl, hf11, hd⟩ v hv) fun s4 p7 e4 a7 => ?_
   have hG2' := hG2 (j + 1) s4 ⟨by omega, e3.trans e4⟩ (by omega)
   rw [sG hf] at hG2'
   refine Ci a7 (by omega) ?_
   have nx : ∀ {v : Int}, P.iB c.seq ((c.l.take j).foldl (P.iB c.seq) (P.base (l.take i))) f = v → G2 [.int .i64 v, .int .i64 (ay ((j : Int) + 1))] s4.H := fun hv => by
    rw [aY (by omega) (by omega), ← hv]; exact hG2'
   have nb : ¬(f.x.kind = 1 ∧ lB f.x ≤ c.seq) → tN ((c.l.take j).foldl (P.iB c.seq) (P.base (l.take i))) p5 p7 sl sl.len i scl scl.len j false K G G2 s4.H := fun hn => by
    unfold tN uE
    refine bt (nx ?_)
    unfold P.iB; rw [if_neg hn]
   refine aN (fun h1 => ?_) (fun h1 => ?_)
   ·refine Ci a7 (by omega) ?_
    refine av ((a5.mono e3.v0).mono e4.v0) rfl ?_
    by_cases h2 : f.x.f.getD 4 0 ≤ c.seq
    ·rw [decide_eq_true h2]
     unfold tN uE
     refine bH ?_
     refine Ci a7 (by omega) ?_
     refine nx ?_
     unfold P.iB
     rw [if_pos ⟨h1, h2⟩]
     unfold lB
     split <;> omega
    ·rw [decide_eq_false h2]
     exact nb fun hh => h2 hh.2
   ·exact nb fun hh => h1 hh.1
  ·have : j = c.l.length := by omega
   subst this
   rw [List.take_of_length_le (Nat.le_refl _), aY (by omega) (by omega)]
   exact hG' s3 ⟨by omega, (e1.trans e2).trans e3⟩ (by omega)
 ·have : i = l.length := by omega
  subst this
  rw [List.take_of_length_le (Nat.le_refl _)]
  exact hK s1 e1
end Go.Ph
end
section
set_option linter.all false
namespace Go.Ph
open S
theorem Bl {s : St} {x : RecM} {r : aZ} {K : Int → HP} (h : dM (s.w 0) x r) (hx : wJ x) (hK : ∀ s', Step [] s s' → K (max (max 1 (iZ x)) (iW x + 1)) s'.H) : mg r K s.H := by
 unfold mg
 have hxl := h.len
 refine bZ fun s1 p1 n1 a1' => ?_
 have e1 := n1.step
 have a1 : At (s1.w 0) p1 0 (bL x.f r.Data) := by rw [← h.f]; exact a1'
 refine av a1 (fZ (by omega)) ?_
 refine av a1 (fZ (by omega)) ?_
 have hu := hx.small.get 5
 rw [aY (by omega) (by omega)]
 have := hK s1 e1
 have e : (if x.f.getD 5 0 + 1 > (if x.f.getD 3 0 > 1 then x.f.getD 3 0 else 1) then x.f.getD 5 0 + 1 else (if x.f.getD 3 0 > 1 then x.f.getD 3 0 else 1)) = max (max 1 (iZ x)) (iW x + 1) := by
  unfold iZ iW
  split <;> split <;> omega
 rw [e]; exact this
theorem XK {C : Cx} {kd q : Nat} {s : St} {b : Nat} {d : ah} {u seq : Int} {e : aR} {K : fK → Int → HP} (h : DV kd s b d) (he : e ∈ d.now) (hd : d.down = false) (hn : aT u seq = e.Name) (hq0 : q ≠ 0)
  (hq : q < 2305843009213693952 + 1152921504606846976 * s.H.size) (hqo : q ≠ own s ∧ q ≠ own s + 1)
  (hK : ∀ s' c, Step [q] s s' → ku (s'.w 0) (P.fA seq (P.dat d e)) c → bF gj q s' (gB (P.dat d e)) c.l → K c 0 s'.H) : rL C (some ⟨b, 0, none⟩) u seq K s.H := by
 unfold rL
 refine dm (own s) (by unfold own; omega) fun s1 p6 n1 a1 => ?_
 have e1 := n1.step
 have hz1 := e1.sz
 refine lq fun s2 e2 => ?_
 rw [hn]
 have e12 := e1.trans e2
 have hz2 := e12.sz
 refine Fw (h.st e12 (by simp)) fun s3 r e3 l3 => ?_
 obtain ⟨t1, t2, t3⟩ := yS h.inv he hd
 rw [t1]
 rw [t2] at l3
 have e13 := e12.trans e3
 have hz3 := e13.sz
 refine bK (fun h => absurd rfl h) (fun _ => ?_)
 refine dm (own s + 1) (by unfold own; omega) fun s4 p10 n4 a4 => ?_
 have e4 := n4.step
 have hz4 := e4.sz
 have hlen := l3.len
 refine eZ (own s + 1) a4 rfl (by simp [one]) (by unfold own; omega) (.inl rfl) fun s5 e5 z5 a5 _ => ?_
 have es5 : Step [own s, own s + 1, q] s s5 := (e13.trans e4).n.tr e5 (A := [])
 have hz5 := es5.sz
 refine L6 (Ls.st (Ls.st l3 e4) e5) (by omega) hq0 (by omega) fun s6 o6 e6 b6 => ?_
 have es6 : Step [own s, own s + 1, q] s s6 := es5.tr e6
 have a56 := a5.mono (e6.view (k := own s + 1) (by simp; exact fun h => hqo.2 h.symm))
 refine cP a56 (by simp) rfl (by unfold own; omega) (fun s7 e7 z7 a7 _ => ?_)
 refine cP a7 (by simp) rfl (by unfold own; omega) (fun s8 e8 z8 a8 _ => ?_)
 have es7 : Step [own s, own s + 1, q] s s7 := es6.tr e7
 have es8 : Step [own s, own s + 1, q] s s8 := es7.tr e8
 unfold fS
 repeat (first|refine aj ?_|refine av a8 rfl ?_|refine aK a8 rfl ?_|refine aH a8 rfl ?_|refine aI a8 rfl ?_|refine aJ a8 rfl ?_|refine aC a8 rfl ?_)
 have a18 : At (s8.w (own s)) p6 0 [.int .i64 0, .int .i64 0, .int .i64 0, .slice none 0 0] := (((((a1.mono ((e2.trans e3).view (by simp))).mono (e4.view (by simp))).mono (e5.view (by simp))).mono (e6.view (by simp; exact fun h => hqo.1 h.symm))).mono (e7.view (by simp))).mono (e8.view (by simp))
 refine eZ (own s) a18 rfl (by simp [one]) (by unfold own; omega) (.inl rfl) fun s9 e9 z9 a9 _ => ?_
 repeat (first|refine aj ?_|refine av a9 rfl ?_|refine aK a9 rfl ?_|refine aH a9 rfl ?_|refine aI a9 rfl ?_|refine aJ a9 rfl ?_|refine aC a9 rfl ?_)
 have es9 : Step [own s, own s + 1, q] s s9 := es8.tr e9
 have b9 := ((b6.st e7 (by simp; exact hqo.2)).st e8 (by simp; exact hqo.2)).st e9 (by simp; exact hqo.1)
 refine hK s9 _ ((es9.loc).loc (by omega)) ⟨rfl, ?_, rfl, b9.ls⟩ b9
 show ((r.len : Nat) : Int) = ((P.dat d e).length : Nat)
 rw [hlen]
theorem abI {d : ah} {u i : Nat} {es : List aR} {e : aR} (h : es[i]? = some e) : P.eH d u (es.drop i) = if cz u e.Name = 0 then none else if cz u e.Name < 0 then P.eH d u (es.drop (i + 1)) else (P.eH d u (es.drop (i + 1))).map (P.fA (cz u e.Name) (P.dat d e) :: ·) := by
 rw [yg h]; rfl
theorem getLast_drop {α : Type} {l : List α} (h : l.drop 1 ≠ []) : (l.drop 1).getLast? = l.getLast? := by
 cases l with
 | nil => rfl
 | cons a l =>
  cases l with
  | nil => exact absurd rfl h
  | cons b l => simp
theorem ZI {n : Int} (c : bM) (h : 1 ≤ n) : 1 ≤ P.m7 n c := by
 unfold P.m7
 generalize c.l = l
 induction l generalizing n with
 | nil => exact h
 | cons f l ih => exact ih (by show 1 ≤ after n f.x; unfold after; omega)
theorem adi (l : List bM) : ∀ {n : Int}, 1 ≤ n → 1 ≤ l.foldl P.m7 n := by
 induction l with
 | nil => exact fun h => h
 | cons c l ih => exact fun h => ih (ZI c h)
theorem ae4 (l : List ey) : ∀ {n : Int}, 1 ≤ n → 1 ≤ l.foldl (fun n f => after n f.x) n := by
 induction l with
 | nil => exact fun h => h
 | cons f l ih => exact fun {n} h => ih (n := after n f.x) (by unfold after; omega)
theorem Wd {C : Cx} {kb : Nat} {s : St} {p : Nat} {x : BoxM} {dp : Option Addr} {t0 : Option Addr} {from_ : Int} {K : Option Addr → Int → HP} {G : List Value → HP} (h : dJ kb s p x dp) (hx : x.next = 1) (hc : ∀ c ∈ x.l, k9 c) (hl : x.l.length ≤ 1024)
  (hK : ∀ s', Step [kb] s s' → dJ kb s' p { x with next := P.next x.l } dp → K (some (af p)) 0 s'.H) : lD C t0 x.user p from_ false K G s.H := by
 unfold lD
 obtain ⟨sl, cs, hb⟩ := h
 have hrow := hb.row
 have hk0 := hb.k0
 refine bt ?_
 repeat (first|refine aj ?_|refine av hrow rfl ?_|refine aK hrow rfl ?_|refine aH hrow rfl ?_|refine aI hrow rfl ?_|refine aJ hrow rfl ?_|refine aC hrow rfl ?_)
 have hlw := hb.lw
 have hlen := hlw.len
 rw [hx] at hrow
 have hnxt : P.next (x.l.take 0) = 1 := rfl
 refine cD (fun i : Nat => [.int .i64 i]) (fun i s' => i ≤ x.l.length ∧ Step [kb] s s' ∧ At (s'.w kb) p 0 [.pointer dp, .int .i64 x.user, .int .i64 x.bound, .int .i64 (P.next (x.l.take i)), .slice sl.a sl.len sl.cap]) (fun i _ => x.l.length - i) 0 rfl ⟨Nat.zero_le _, Step.refl, hrow⟩ ?_
 rintro i s1 ⟨hi, e1, a1⟩ G1 hG
 simp only [List.getD_cons_zero, List.getD_cons_succ, cI, cN, cK, cH, cJ, cO]
 refine aN (fun hlt => ?_) (fun hlt => ?_)
 ·refine bU (hlw.st e1 (by simp)) (by omega) (by omega) fun bx ox c hcx hel => ?_
  rw [Int.toNat_natCast] at hcx
  obtain ⟨vs, ⟨scl, rfl, hcl⟩, hat⟩ := hel
  have co := hc c (List.mem_of_getElem? hcx)
  unfold fS
  repeat (first|refine aj ?_|refine av hat rfl ?_|refine aK hat rfl ?_|refine aH hat rfl ?_|refine aI hat rfl ?_|refine aJ hat rfl ?_|refine aC hat rfl ?_)
  refine dQ rfl (by simp [one]) fun s2 p5 e2 a5 => ?_
  repeat (first|refine aj ?_|refine av a5 rfl ?_|refine aK a5 rfl ?_|refine aH a5 rfl ?_|refine aI a5 rfl ?_|refine aJ a5 rfl ?_|refine aC a5 rfl ?_)
  have hcl2 := Ls.st hcl e2
  have hll := hcl2.len
  have hcl0 := co.len
  have hG' := hG (i + 1)
  have hbt : P.next (x.l.take (i + 1)) = P.m7 (P.next (x.l.take i)) c := sG hcx
  have hge : 1 ≤ P.next (x.l.take i) := adi _ (Int.le_refl _)
  rw [hbt] at hG'
  have a12 := a1.mono (e2.view (k := kb) (by simp))
  refine cD (fun j : Nat => [.int .i64 j]) (fun j s' => j ≤ c.l.length ∧ Step [kb] s2 s' ∧ At (s'.w kb) p 0 [.pointer dp, .int .i64 x.user, .int .i64 x.bound, .int .i64 ((c.l.take j).foldl (fun n f => after n f.x) (P.next (x.l.take i))), .slice sl.a sl.len sl.cap]) (fun j _ => c.l.length - j) 0 rfl ⟨Nat.zero_le _, Step.refl, a12⟩ ?_
  rintro j s3 ⟨hj, e3, a3⟩ G2 hG2
  simp only [List.getD_cons_zero, List.getD_cons_succ, cI, cN, cK, cH, cJ, cO]
  refine aN (fun hlt2 => ?_) (fun hlt2 => ?_)
  ·refine bU (Ls.st hcl2 e3) (by omega) (by omega) fun bx2 ox2 f hf hel2 => ?_
   rw [Int.toNat_natCast] at hf
   obtain ⟨vs, ⟨sd, rfl, hf11, hd⟩, hat2⟩ := hel2
   have fo := co.l f (List.mem_of_getElem? hf)
   refine AR (f := f) hat2 hf11 fun r hr => ?_
   rw [hr]
   refine dQ (by rw [mJ, List.length_cons, List.length_cons, nG, hf11]; rfl) (fun v hv => gj.one (V := s3.w 0) (x := f) ⟨sd, rfl, hf11, hd⟩ v hv) fun s4 p7 e4 a7 => ?_
   have a34 := a3.mono (e4.view (k := kb) (by simp))
   refine aj ?_
   refine av a34 rfl ?_
   refine vI a7 hf11 fun r2 f2 d2 => ?_
   refine Bl (x := f.x) ⟨f2, by rw [d2]; exact Ls.st hd e4⟩ fo.x fun s5 e5 => ?_
   have a35 := a34.mono (e5.view (k := kb) (by simp))
   refine fD (av a35 rfl rfl) ?_
   refine aj ?_
   refine cP a35 (by simp) rfl hk0 (fun s6 e6 z6 a6 _ => ?_)
   have hge2 : 1 ≤ (c.l.take j).foldl (fun n f => after n f.x) (P.next (x.l.take i)) := ae4 _ hge
   have hm : (if max (max 1 (iZ f.x)) (iW f.x + 1) > (c.l.take j).foldl (fun n f => after n f.x) (P.next (x.l.take i)) then max (max 1 (iZ f.x)) (iW f.x + 1) else (c.l.take j).foldl (fun n f => after n f.x) (P.next (x.l.take i))) = (c.l.take (j + 1)).foldl (fun n f => after n f.x) (P.next (x.l.take i)) := by
    rw [sG hf]
    generalize (c.l.take j).foldl (fun n f => after n f.x) (P.next (x.l.take i)) = n at *
    unfold after
    split <;> omega
   rw [aY (by omega) (by omega)]
   rw [hm] at a6
   exact hG2 (j + 1) s6 ⟨by omega, e3.trans ((e4.trans e5).n.trans e6), a6⟩ (by omega)
  ·have : j = c.l.length := by omega
   subst this
   rw [List.take_of_length_le (Nat.le_refl _)] at a3
   rw [aY (by omega) (by omega)]
   exact hG' s3 ⟨by omega, e1.trans (e2.n.trans e3), a3⟩ (by omega)
 ·have : i = x.l.length := by omega
  subst this
  rw [List.take_of_length_le (Nat.le_refl _)] at a1
  exact hK s1 e1 ⟨sl, cs, hk0, a1, hb.ls.st e1 (by simp), hb.all.imp fun _ _ g => g.mono e1.v0, fun m c hm hc => (hb.last m c hm hc).st e1 (by simp)⟩
end Go.Ph
end

/- Parts of the proof that pigeonholelaw18.DboxCompacts returns true at every input and leaves the input as it was: what the words of the functions tell, part 2. -/
import Derived.Test.YtjojclbfnnkajaaGreatPhC1
section
set_option linter.all false
namespace Go.Ph
open S
structure Kb (kb kd : Nat) (s : St) : Prop where
 k0 : kb ≠ 0
 own : kb + 16 ≤ Go.Ph.own s ∨ (Go.Ph.own s + 16 ≤ kb ∧ kb + 16 ≤ Go.Ph.own s + 1152921504606846976)
 Ml : kb + 16 ≤ kd ∨ kd + 1125899906842624 ≤ kb
theorem Kb.mono {kb kd : Nat} {S : List Nat} {s s' : St} (h : Kb kb kd s) (e : Step S s s') : Kb kb kd s' := by
 refine ⟨h.k0, ?_, h.Ml⟩
 have h1 := h.own
 have := e.sz
 unfold Go.Ph.own at *
 rcases Nat.lt_or_ge s.H.size s'.H.size with h2 | h2
 ·left; omega
 ·have : s'.H.size = s.H.size := by omega
  rw [this]; exact h1
def cG (kb : Nat) : List Nat := [kb, kb + 1, kb + 2]
def bN (kd kb : Nat) : List Nat := dk kd ++ cG kb
theorem Kb.clear {kb kd : Nat} {s : St} (h : Kb kb kd s) : ∀ x ∈ cG kb, x ∉ dk kd := by
 intro x hx
 have := h.Ml
 simp [cG] at hx
 rw [fk]; omega
theorem Kb.cl {kb kd : Nat} {s : St} (h : Kb kb kd s) : kb ∉ dk kd ∧ kb + 1 ∉ dk kd ∧ kb + 2 ∉ dk kd := ⟨h.clear _ (by simp [cG]), h.clear _ (by simp [cG]), h.clear _ (by simp [cG])⟩
theorem tD {kd kb : Nat} : ∀ x, x ∈ cG kb → x ∈ bN kd kb := by intro x hx; simp [bN, hx]
theorem jK {kd kb : Nat} : ∀ x, x ∈ dk kd → x ∈ bN kd kb := by intro x hx; simp [bN, hx]
theorem Fq {kd kb : Nat} : ∀ x, x ∈ [kb] → x ∈ bN kd kb := by intro x hx; simp at hx; subst hx; simp [bN, cG]
theorem we {kb : Nat} : ∀ x, x ∈ [kb] → x ∈ cG kb := by intro x hx; simp at hx; subst hx; simp [cG]
theorem tE {kb : Nat} : ∀ x, x ∈ [kb + 1] → x ∈ cG kb := by intro x hx; simp at hx; subst hx; simp [cG]
theorem Bb {kb : Nat} : ∀ x, x ∈ [kb + 2] → x ∈ cG kb := by intro x hx; simp at hx; subst hx; simp [cG]
theorem UH {C : Cx} {kd kb : Nat} {s : St} {b p : Nat} {d : ah} {x : BoxM} {from_ : Int} {K : Option Addr → Int → HP} (h : DV kd s b d) (hb : dJ kb s p x (some ⟨b, 0, none⟩)) (hx : x.next = 1) (hl : x.l.length ≤ 1024) (hc : ∀ c ∈ x.l, k9 c) (hcl : d.calls + 4096 < 1000000) (hko : Ko kd s) (hkb : Kb kb kd s)
  (h0 : ∀ s', (P.eD x.user from_ d x.l).2.1 ≠ 0 → Step (bN kd kb) s s' → DV kd s' b (P.eD x.user from_ d x.l).1 → K none (P.eD x.user from_ d x.l).2.1 s'.H)
  (h1 : ∀ s', (P.eD x.user from_ d x.l).2.1 = 0 → Step (bN kd kb) s s' → DV kd s' b (P.eD x.user from_ d x.l).1 → dJ kb s' p { x with next := P.next (P.eD x.user from_ d x.l).2.2, l := (P.eD x.user from_ d x.l).2.2 } (some ⟨b, 0, none⟩) → K (some (af p)) 0 s'.H) :
  loop (σ := List Value) (fun R2 vs2 => nn (some (af p)) fun t86 => aB (t86.add 4) fun t88 => bif (decide ((0 : Int) < (t88.len : Nat))) then (nn (some (af p)) fun t93 => aB (t93.add 4) fun t95 => aL t95 4 0 fun t96 => ag .i64 (t96.add 0) fun t98 => lD C (some ⟨b, 0, none⟩) x.user p from_ (decide ((t98 : Int) < from_)) K R2) else lD C (some ⟨b, 0, none⟩) x.user p from_ false K R2) [] s.H := by
 have hclear := hkb.cl
 refine cD (ι := ah × List bM) (fun _ => []) (fun y s' => Step (bN kd kb) s s' ∧ DV kd s' b y.1 ∧ dJ kb s' p { x with l := y.2 } (some ⟨b, 0, none⟩) ∧ P.eD x.user from_ d x.l = P.eD x.user from_ y.1 y.2 ∧ (∀ c ∈ y.2, k9 c) ∧ y.2.length ≤ 1024 ∧ y.1.calls + 4 * y.2.length ≤ d.calls + 4096) (fun y _ => y.2.length) (d, x.l) rfl
  ⟨Step.refl, h, hb, rfl, hc, hl, by simp only; omega⟩ ?_
 rintro ⟨d1, l1⟩ s1 ⟨e1, v1, b1, hd1, c1, ll1, cc1⟩ G hG
 simp only at v1 b1 hd1 c1 ll1 cc1
 have last : ∀ (s' : St), s' = s1 → (∀ c, l1.head? = some c → ¬ c.seq < from_) → lD C (some ⟨b, 0, none⟩) x.user p from_ false K G s'.H := fun s' hs hh => by
  subst hs
  have hdd : P.eD x.user from_ d1 l1 = (d1, 0, l1) := by
   cases l1 with
   | nil => rfl
   | cons c cs => rw [P.eD, if_neg (hh c rfl)]
  rw [hdd] at hd1
  rw [hd1] at h1
  refine Wd (x := { x with l := l1 }) b1 hx c1 ll1 fun s2 e2 b2 => ?_
  exact h1 s2 rfl (e1.trans (e2.mono Fq)) (v1.fQ e2 (by omega) (fun y hy => by simp at hy; subst hy; exact hclear.1)) b2
 obtain ⟨sl, cs, bb⟩ := b1
 have hrow := bb.row
 have hlw := bb.lw
 have hlen := hlw.len
 simp only at hrow hlw hlen
 repeat (first|refine aj ?_|refine av hrow rfl ?_|refine aK hrow rfl ?_|refine aH hrow rfl ?_|refine aI hrow rfl ?_|refine aJ hrow rfl ?_|refine aC hrow rfl ?_)
 refine aN (fun hpos => ?_) (fun hpos => ?_)
 ·repeat (first|refine aj ?_|refine av hrow rfl ?_|refine aK hrow rfl ?_|refine aH hrow rfl ?_|refine aI hrow rfl ?_|refine aJ hrow rfl ?_|refine aC hrow rfl ?_)
  obtain ⟨c, cs1, rfl⟩ : ∃ c cs1, l1 = c :: cs1 := by
   cases l1 with
   | nil => simp at hlen; omega
   | cons c cs1 => exact ⟨c, cs1, rfl⟩
  refine bU hlw (Int.le_refl _) (by simp <;> omega) fun bx ox c' hc' hel => ?_
  have : c' = c := by simpa using hc'.symm
  subst this
  obtain ⟨vs, ⟨scl, rfl, hcl'⟩, hat⟩ := hel
  refine av hat rfl ?_
  by_cases hlt : c'.seq < from_
  ·rw [decide_eq_true hlt]
   unfold lD
   refine bH ?_
   repeat (first|refine aj ?_|refine av hrow rfl ?_|refine aK hrow rfl ?_|refine aH hrow rfl ?_|refine aI hrow rfl ?_|refine aJ hrow rfl ?_|refine aC hrow rfl ?_)
   refine bU hlw (Int.le_refl _) (by simp <;> omega) fun bx2 ox2 c2 hc2 hel2 => ?_
   have : c2 = c' := by simpa using hc2.symm
   subst this
   obtain ⟨vs, ⟨scl2, rfl, hcl2⟩, hat2⟩ := hel2
   refine av hat2 rfl ?_
   refine lq fun s2 e2 => ?_
   have hko1 := hko.mono e1
   refine Io (v1.st e2 (by simp)) (by omega) (hko1.mono e2) fun s3 e3 v3 => ?_
   have hdc := BS d1 (aT x.user c2.seq)
   have e13 : Step (dk kd) s1 s3 := e2.n.trans e3
   have e03 : Step (bN kd kb) s s3 := e1.trans (e13.mono jK)
   rw [P.eD, if_pos hlt] at hd1
   refine bK (fun hne => ?_) (fun heq => ?_)
   ·rw [if_pos hne] at hd1
    rw [hd1] at h0
    exact h0 s3 hne e03 v3
   ·rw [if_neg (by simpa using heq)] at hd1
    have bb3 := bb.st e13 hclear.1 hclear.2.1 hclear.2.2
    have hrow3 := bb3.row
    simp only at hrow3
    repeat (first|refine aj ?_|refine av hrow3 rfl ?_|refine aK hrow3 rfl ?_|refine aH hrow3 rfl ?_|refine aI hrow3 rfl ?_|refine aJ hrow3 rfl ?_|refine aC hrow3 rfl ?_)
    have hcsl : cs.length = cs1.length + 1 := by have := bb3.all.len; simpa using this.symm
    refine RP bb3.ls (by omega) (by decide) fun sl' hw' => ?_
    refine aj ?_
    refine cP hrow3 (by simp) rfl bb3.k0 (fun s4 e4 z4 a4 _ => ?_)
    have e34 : Step (bN kd kb) s3 s4 := e4.mono Fq
    refine hG ((R.drop d1 (aT x.user c2.seq)).1, cs1) s4 ⟨e03.trans e34, v3.fQ e4 (by omega) (fun y hy => by simp at hy; subst hy; exact hclear.1), ⟨sl', cs.drop 1, bb3.k0, a4, hw'.st e4 (by simp), ?_, ?_⟩, hd1, fun y hy => c1 y (by simp [hy]), by simp only [List.length_cons] at ll1; simp only; omega, by simp only [List.length_cons] at cc1; simp only; omega⟩ (by simp)
    ·have := (bb3.all.drop 1).imp fun _ _ g => ku.mono g e4.v0
     simpa using this
    ·intro m c hm hc'
     have hne : cs.drop 1 ≠ [] := by intro h; rw [h] at hc'; simp at hc'
     rw [getLast_drop hne] at hc'
     have hm' : (c2 :: cs1).getLast? = some m := by
      cases cs1 with
      | nil => simp at hm
      | cons a t => simpa using hm
     exact (bb3.last m c hm' hc').st e4 (by simp)
  ·rw [decide_eq_false hlt]
   exact last s1 rfl fun c hc => by simp at hc; subst hc; exact hlt
 ·refine last s1 rfl fun c hc => ?_
  cases l1 with
  | nil => cases hc
  | cons a t => simp at hlen; omega
theorem Dc {C : Cx} {kd kb : Nat} {s : St} {b : Nat} {d : ah} {u bound : Int} {K : Option Addr → Int → HP} (h : DV kd s b d) (hcl : d.calls < 100000) (hnm : Nm d) (hko : Ko kd s) (hkb : Kb kb kd s)
  (h0 : ∀ s', (P.fe d u bound).2.1 = none → Step (bN kd kb) s s' → DV kd s' b (P.fe d u bound).1 → K none (P.fe d u bound).2.2 s'.H)
  (h1 : ∀ s' p x, (P.fe d u bound).2 = (some x, 0) → Step (bN kd kb) s s' → DV kd s' b (P.fe d u bound).1 → dJ kb s' p x (some ⟨b, 0, none⟩) → K (some (af p)) 0 s'.H) : j7 C (some ⟨b, 0, none⟩) u bound K s.H := by
 unfold j7 qu
 have hclear := hkb.cl
 refine Bn h ?_
 refine js (fun hd => ?_) (fun hd => ?_)
 ·have hop : P.fe d u bound = (d, none, 11) := by unfold P.fe; rw [if_pos hd]
  rw [hop] at h0
  exact h0 s rfl Step.refl h
 have bad : (¬(1 ≤ u ∧ u ≤ 999) ∨ bound < 1) → ta C (some ⟨b, 0, none⟩) u bound true K s.H := fun hb => by
  unfold ta
  refine bH ?_
  have hop : P.fe d u bound = (d, none, 1) := by unfold P.fe; rw [if_neg (by rw [hd]; simp), if_pos hb]
  rw [hop] at h0
  exact h0 s rfl Step.refl h
 refine aN (fun u1 => ?_) (fun u1 => bH (bad (.inl (fun h => u1 h.1))))
 by_cases u2 : u ≤ 999
 case neg => rw [decide_eq_false u2]; exact bH (bad (.inl (fun h => u2 h.2)))
 rw [decide_eq_true u2]
 refine bt ?_
 by_cases hb1 : bound < 1
 ·rw [decide_eq_true hb1]; exact bad (.inr hb1)
 rw [decide_eq_false hb1]
 unfold ta
 refine bt ?_
 have hop0 : P.fe d u bound = P.fe d u bound := rfl
 conv at hop0 => rhs; unfold P.fe
 rw [if_neg (by rw [hd]; simp), if_neg (by omega)] at hop0
 obtain ⟨u, rfl⟩ := Int.eq_ofNat_of_zero_le (show 0 ≤ u by omega)
 have hu : 1 ≤ u ∧ u ≤ 999 := by omega
 rw [Int.toNat_natCast] at hop0
 have hn1024 := h.inv.good.2
 refine yE (by omega) fun s1 e1 => ?_
 refine Sn (h.st e1 (by simp)) (by omega) hnm (hko.mono e1) fun s2 e2 v2 => ?_
 have e12 : Step (dk kd) s s2 := e1.n.trans e2
 have tc := Tn (p := ba (front u)) hn1024
 have tn := hnm.tidy (ba (front u))
 have td := L1 (p := ba (front u)) hd
 generalize R.tidy d (ba (front u)) = r at *
 obtain ⟨d1, er⟩ := r
 simp only at hop0 v2 tc tn td
 have es2 : Step (bN kd kb) s s2 := e12.mono jK
 refine bK (fun hne => ?_) (fun heq => ?_)
 ·rw [if_pos hne] at hop0
  rw [hop0] at h0
  exact h0 s2 rfl es2 v2
 rw [if_neg (by simpa using heq)] at hop0
 have hdn := td heq
 have hkb2 := hkb.mono e12
 have hko2 := hko.mono e12
 have hgood := v2.inv.good
 have hk0 := hkb.k0
 have hown2 := hkb2.own
 refine dm kb (by unfold own at hown2; omega) fun s3 p n3 a3 => ?_
 have e3 := n3.step
 refine ES (v2.st e3 (by simp)) (fun e he => by have := tn e he; omega) fun s4 r e4 l4 => ?_
 rw [hdn] at l4
 simp only [Bool.false_eq_true, if_false] at l4
 have e24 := e3.trans e4
 have v4 := v2.st e24 (by simp)
 have a4 := a3.mono (e4.view (k := kb) (by simp))
 have hko4 := hko2.mono e24
 have hkb4 := hkb2.mono e24
 have es4 : Step (bN kd kb) s s4 := es2.trans e24.n
 have hlen := l4.len
 rw [List.length_map] at hlen
 refine cD (ι := Nat × List bM) (fun x => [.int .i64 x.1]) (fun x s' => x.1 ≤ d1.now.length ∧ Step (cG kb) s4 s' ∧ dJ kb s' p ⟨u, bound, 1, x.2⟩ (some ⟨b, 0, none⟩) ∧ x.2.length ≤ x.1 ∧ P.eH d1 u d1.now = (P.eH d1 u (d1.now.drop x.1)).map (x.2 ++ ·)) (fun x _ => d1.now.length - x.1) (0, []) rfl
  ⟨Nat.zero_le _, Step.refl, ⟨⟨none, 0, 0⟩, [], hk0, a4, gW.nil, gx.nil, fun m c hm => by simp at hm⟩, Nat.le_refl _, by simp⟩ ?_
 rintro ⟨i, acc⟩ s5 ⟨hi, e5, b5, hal, hcn⟩ G hG
 simp only at hi b5 hal hcn
 have es5 : Step (bN kd kb) s s5 := es4.trans (e5.mono tD)
 have v5 : DV kd s5 b d1 := v4.fQ e5 (by omega) hkb.clear
 have hko5 := hko4.mono e5
 have hkb5 := hkb4.mono e5
 simp only [List.getD_cons_zero, List.getD_cons_succ, cI, cN, cK, cH, cJ, cO]
 refine aN (fun hlt => ?_) (fun hlt => ?_)
 ·have hi' : i < d1.now.length := by omega
  obtain ⟨e, he⟩ : ∃ e, d1.now[i]? = some e := ⟨_, List.getElem?_eq_getElem hi'⟩
  have hem := List.mem_of_getElem? he
  refine bU (Ls.st l4 e5) (by omega) (by simp; omega) fun bx ox n hn hel => ?_
  have hne : n = e.Name := by
   rw [Int.toNat_natCast, List.getElem?_map, he] at hn
   exact (Option.some.inj hn).symm
  subst hne
  obtain ⟨vs, rfl, hat⟩ := hel
  refine eW hat rfl ?_
  refine yE (by omega) fun s6 e6 => ?_
  refine yQ ?_
  have hcd := abI (d := d1) (u := u) he
  have skip : ∀ s' acc', Step (cG kb) s5 s' → dJ kb s' p ⟨u, bound, 1, acc'⟩ (some ⟨b, 0, none⟩) → acc'.length ≤ i + 1 → P.eH d1 u d1.now = (P.eH d1 u (d1.now.drop (i + 1))).map (acc' ++ ·) → xG C (some ⟨b, 0, none⟩) u p r r.len i K G s'.H := fun s' acc' es hb' hl' hc' => by
   unfold xG
   rw [aY (by omega) (by omega)]
   exact hG (i + 1, acc') s' ⟨hi', e5.trans es, hb', hl', hc'⟩ (by simp only; omega)
  rcases Mg (u := u) (n := e.Name) with ⟨q1, q2⟩ | ⟨q1, q2⟩
  ·rw [q1]
   refine bH ?_
   rw [hcd, if_neg (by omega), if_pos (by omega)] at hcn
   exact skip s6 acc e6.n (b5.st e6 (by simp) (by simp) (by simp)) (by omega) hcn
  ·rw [q1]
   refine bt ?_
   have hsp := xd q1
   have hnm1 := tn e hem
   have hnum : ∀ {K' : Int → HP}, (∀ s', Step [] s6 s' → K' (cz u e.Name) s'.H) → pJ u e.Name K' s6.H := fun {K'} hk => by
    rw [q2] at hk
    have := ad7 (s := s6) (r := e.Name.data.toList.drop 5) (K := K') hu (by rw [List.length_drop, dw]; omega) hk
    rwa [← hsp] at this
   refine hnum fun s7 e7 => ?_
   have e67 := e6.trans e7
   have b7 := b5.st e67 (by simp) (by simp) (by simp)
   have v7 := v5.st e67 (by simp)
   have es7 : Step (bN kd kb) s s7 := es5.trans e67.n
   refine aN (fun h0' => ?_) (fun h0' => ?_)
   ·rw [hcd, if_pos h0'] at hcn
    simp only [Option.map_none] at hcn
    rw [hcn] at hop0
    simp only at hop0
    rw [hop0] at h0
    exact h0 s7 rfl es7 v7
   ·have hnn : ¬ cz u e.Name < 0 := by rw [q2]; have := QA (e.Name.data.toList.drop 5); omega
    rw [hcd, if_neg h0', if_neg hnn] at hcn
    obtain ⟨-, -, p3, p4, p5⟩ := vt hu h0' hnn
    have hkb7 := hkb5.mono e67
    have ho7 := hkb7.own
    refine XK (q := kb + 2) v7 hem hdn p3 (by omega) (by unfold own at ho7; omega) (by omega) fun s8 c e8 cv8 bc8 => ?_
    have e58 : Step (cG kb) s5 s8 := e67.n.trans (e8.mono Bb)
    refine dQ rfl (by simp [one]) fun s9 p13 e9 a9 => ?_
    refine bK (fun h => absurd rfl h) (fun _ => ?_)
    obtain ⟨sl, cs, bb⟩ := b7
    have hrow8 := (bb.row.mono (e8.view (k := kb) (by simp))).mono (e9.view (by simp))
    simp only at hrow8
    refine aj ?_
    refine aC hrow8 rfl ?_
    unfold fS
    repeat (first|refine aj ?_|refine av a9 rfl ?_|refine aK a9 rfl ?_|refine aH a9 rfl ?_|refine aI a9 rfl ?_|refine aJ a9 rfl ?_|refine aC a9 rfl ?_)
    have hz9 := (((e67.n.trans e8 : Step [kb + 2] s5 s8).trans e9.n) : Step [kb + 2] s5 s9).sz
    refine dm 1 (by omega) fun s10 p75 n10 a10 => ?_
    have e10 := n10.step
    have hrow10 := hrow8.mono (e10.view (by simp))
    refine fD (aC hrow10 rfl rfl) ?_
    have hls10 : gW jB (kb + 1) s10 cs sl := ((bb.ls.st e8 (by simp)).st e9 (by simp)).st e10 (by simp)
    have hcsl : cs.length = acc.length := bb.all.len.symm
    have hz10 := e10.sz
    have ho5 := hkb5.own
    refine MU (kx := 1) (x := c) hls10 (Ls.single (show jB.R _ c (fV c) from rfl) a10) (fun s11 sl11 e11 w11 => ?_) rfl rfl (by omega) (by omega) (by unfold own at ho5; omega) (by omega)
    have hrow11 := hrow10.mono (e11.view (k := kb) (by simp))
    refine aj ?_
    refine cP hrow11 (by simp) rfl hk0 (fun s12 e12' z12 a12 _ => ?_)
    have e811 : Step (cG kb) s8 s11 := (e9.n.trans e10.n).trans (e11.mono tE)
    have e1112 : Step (cG kb) s11 s12 := e12'.mono we
    have e512 : Step (cG kb) s5 s12 := (e58.trans e811).trans e1112
    refine skip s12 (acc ++ [P.fA (cz u e.Name) (P.dat d1 e)]) e512 ⟨sl11, cs ++ [c], hk0, a12, w11.st e12' (by simp), ?_, ?_⟩ (by simp; omega) ?_
    ·refine gx.snoc ?_ (cv8.mono (e811.trans e1112).v0)
     exact bb.all.imp fun _ _ g => g.mono (((e8.mono Bb).trans e811).trans e1112).v0
    ·intro m c' hm hc'
     rw [List.getLast?_append, List.getLast?_singleton] at hm hc'
     simp at hm hc'
     subst hm hc'
     exact (((bc8.st e9 (by simp)).st e10 (by simp)).st e11 (by simp)).st e12' (by simp)
    ·rw [hcn, Option.map_map]
     congr 1
     funext l
     simp
 ·have : i = d1.now.length := by omega
  subst this
  rw [List.drop_length] at hcn
  simp only [P.eH, Option.map_some, List.append_nil] at hcn
  rw [hcn] at hop0
  simp only at hop0
  obtain ⟨ck, clen, -⟩ := vF hu d1.now acc (fun e he => (yS v2.inv he hdn).2.2) hgood.1.sorted hcn
  have hbv := b5
  obtain ⟨sl, cs, bb⟩ := b5
  have hrow := bb.row
  simp only at hrow
  repeat (first|refine aj ?_|refine av hrow rfl ?_|refine aK hrow rfl ?_|refine aH hrow rfl ?_|refine aI hrow rfl ?_|refine aJ hrow rfl ?_|refine aC hrow rfl ?_)
  have hlw := bb.lw
  refine afR (l := acc) hlw (by omega) ck.all fun s6 e6 => ?_
  have es6 : Step (bN kd kb) s s6 := es5.trans e6.n
  refine UH (x := ⟨u, bound, 1, acc⟩) (v5.st e6 (by simp)) (hbv.st e6 (by simp) (by simp) (by simp)) rfl (by simp only; omega) ck.all (by omega) (hko5.mono e6) (hkb5.mono e6) ?_ ?_
  ·intro s7 hne e7 v7
   simp only at hne v7
   rw [if_pos hne] at hop0
   rw [hop0] at h0
   exact h0 s7 rfl (es6.trans e7) v7
  ·intro s7 heq7 e7 v7 b7
   simp only at heq7 v7 b7
   rw [if_neg (by simpa using heq7)] at hop0
   rw [hop0] at h1
   exact h1 s7 p _ rfl (es6.trans e7) v7 b7
end Go.Ph
end
section
set_option linter.all false
namespace Go.Ph
open S
theorem JO : ∀ (l : List ByteArray) {d : ah}, gY d → d.calls + l.length < 1000000000000 - 1024 → gY (R.dW d l).1
 | [], d, h, _ => h
 | n :: l, d, h, hc => by
  have := R.jx d n
  rw [R.dW]
  simp only [List.length_cons] at hc
  split
  ·exact JD n h (by omega)
  ·exact JO l (JD n h (by omega)) (by omega)
theorem VB {d : ah} (p : ByteArray) (h : gY d) (hc : d.calls + 1024 < 1000000000000 - 1024) : gY (R.tidy d p).1 := by
 unfold R.tidy
 split
 ·exact h
 ·refine JO _ h ?_
  have h1 := h.good.2
  have h2 : (R.gJ (d.now.map (·.Name)) p).length ≤ 1024 := Nat.le_trans (List.length_filter_le _ _) (by simp; omega)
  omega
def CL (k : Nat) (s : St) (b : Nat) (x : BoxM) (dp : Option Addr) : Prop := ∃ sl : Sl, At (s.w k) b 0 [.pointer dp, .int .i64 x.user, .int .i64 x.bound, .int .i64 x.next, .slice sl.a sl.len sl.cap] ∧ Ls xj (s.w 0) x.l sl
theorem CL.st {k : Nat} {s s' : St} {b : Nat} {x : BoxM} {dp : Option Addr} {S : List Nat} (h : CL k s b x dp) (hs : Step S s s') (h0 : k ∉ S) : CL k s' b x dp := by
 obtain ⟨sl, h1, h2⟩ := h
 exact ⟨sl, h1.mono (hs.view h0), Ls.st h2 hs⟩
end Go.Ph
end
section
set_option linter.all false
namespace Go.Ph
open S
end Go.Ph
end
section
set_option linter.all false
namespace Go.Ph
open S
structure qL (x : BoxM) : Prop where
 cs : F0 x.l
 len : x.l.length ≤ 1024
theorem MV {u from_ : Int} : ∀ (l : List bM) (d : ah), (P.eD u from_ d l).2.2 <:+ l
 | [], d => by simp [P.eD]
 | c :: cs, d => by
  rw [P.eD]
  split
  ·split
   ·exact List.nil_suffix
   ·exact (MV cs _).trans (List.suffix_cons _ _)
  ·exact List.suffix_refl _
theorem M9 {d : ah} {u bound : Int} {x : BoxM} (h : gY d) (hc : d.calls < 100000) (ho : (P.fe d u bound).2.1 = some x) : qL x ∧ x.user = u ∧ x.bound = bound ∧ 1 ≤ u ∧ u ≤ 999 := by
 unfold P.fe at ho
 by_cases hd : d.down = true
 ·rw [if_pos hd] at ho; cases ho
 rw [if_neg hd] at ho
 by_cases hb : ¬(1 ≤ u ∧ u ≤ 999) ∨ bound < 1
 ·rw [if_pos hb] at ho; cases ho
 rw [if_neg hb] at ho
 have hi := VB (ba (front u.toNat)) h (by omega)
 have td := L1 (d := d) (p := ba (front u.toNat)) (by simpa using hd)
 generalize R.tidy d (ba (front u.toNat)) = r at *
 by_cases he : r.2 ≠ 0
 ·rw [if_pos he] at ho; cases ho
 rw [if_neg he] at ho
 have hu : 1 ≤ u.toNat ∧ u.toNat ≤ 999 := by omega
 have hg := hi.good
 cases hcn : P.eH r.1 u.toNat r.1.now with
 | none => rw [hcn] at ho; cases ho
 | some l =>
  rw [hcn] at ho
  simp only at ho
  have hdn := td (by simpa using he)
  obtain ⟨ck, clen, -⟩ := vF hu r.1.now l (fun e he => (yS hi he hdn).2.2) hg.1.sorted hcn
  have hs := MV (u := u) (from_ := P.base l) l r.1
  split at ho
  ·cases ho
  ·simp only [Option.some.injEq] at ho
   subst ho
   refine ⟨⟨⟨fun c hc => ck.all c (hs.subset hc), ck.sorted.sublist hs.sublist⟩, ?_⟩, rfl, rfl, by omega, by omega⟩
   have := hs.length_le
   show (P.eD u (P.base l) r.1 l).2.2.length ≤ 1024
   omega
structure fY where
 seq : Int
 at_ : Nat
 x : RecM
def mA : Ty fY := ⟨14, fun V x vs => ∃ sl : Sl, vs = .int .i64 x.seq :: .int .i64 x.at_ :: bL x.x.f sl ∧ x.x.f.length = 11 ∧ Ls bf V x.x.data sl, by rintro _ _ _ ⟨_, rfl, h, _⟩; simp [bL, h], by rintro _ _ _ _ h ⟨sl, rfl, h0, h1⟩; exact ⟨sl, rfl, h0, h1.mono h h⟩, by
 rintro _ _ _ ⟨sl, rfl, _, _⟩ v hv
 simp only [List.mem_cons] at hv
 rcases hv with rfl | rfl | hv
 ·rfl
 ·rfl
 ·exact zi _ _ v hv⟩
def bS (x : RecM) : Bool := decide (x.kind = 2) || decide (x.kind = 3) || decide (x.kind = 4)
namespace P
def jg (q : Int) (l : List ey) : List fY := (l.filter fun f => bS f.x).map fun f => ⟨q, f.at_, f.x⟩
def places (l : List bM) : List fY := l.flatMap fun c => jg c.seq c.l
def bI (l : List bM) : Int := match l.getLast? with | some c => c.seq | none => 0
def ig (l : List bM) : Int := (l.map (·.broken)).sum
end P
theorem Th {q : Int} {l : List ey} {j : Nat} {f : ey} (h : l[j]? = some f) : P.jg q (l.take (j + 1)) = P.jg q (l.take j) ++ (if bS f.x = true then [⟨q, f.at_, f.x⟩] else []) := by
 unfold P.jg
 rw [List.take_succ, h, List.filter_append, List.map_append]
 congr 1
 simp only [Option.toList_some, List.filter_cons, List.filter_nil]
 split <;> simp_all
theorem Qm {l : List bM} {i : Nat} {c : bM} (h : l[i]? = some c) : P.places (l.take (i + 1)) = P.places (l.take i) ++ P.jg c.seq c.l := by
 unfold P.places
 rw [List.take_succ, h, List.flatMap_append]; simp
theorem Gr (q : Int) (l : List ey) : (P.jg q l).length ≤ l.length := by
 unfold P.jg; rw [List.length_map]; exact List.length_filter_le _ _
theorem zR : ∀ (l : List bM), (∀ c ∈ l, k9 c) → (P.places l).length ≤ 4194304 * l.length
 | [], _ => by simp [P.places]
 | c :: l, h => by
  have h1 := zR l fun x hx => h x (by simp [hx])
  have h2 := Gr c.seq c.l
  have h3 := (h c (by simp)).len
  unfold P.places at h1 ⊢
  rw [List.flatMap_cons, List.length_append, List.length_cons]
  omega
theorem agt {s : St} {x : RecM} {r : aZ} {K : Bool → HP} (h : dM (s.w 0) x r) (hK : ∀ s', Step [] s s' → K (bS x) s'.H) :
  az #[.int .i64 r.Kind, .int .i64 r.bR, .int .i64 r.Seq, .int .i64 r.Next, .int .i64 r.bW, .int .i64 r.bV, .int .i64 r.Time, .int .i64 r.Flags, .int .i64 r.Body, .int .i64 r.bQ, .int .i64 r.Origin, .slice r.Data.a r.Data.len r.Data.cap] (fun t1 => ag .i64 ((af t1).add 0) fun t4 => bif (decide ((t4 : Int) = 2)) then (K true) else ag .i64 ((af t1).add 0) fun t8 => bif (decide ((t8 : Int) = 3)) then (K true) else ag .i64 ((af t1).add 0) fun t13 => K (decide ((t13 : Int) = 4))) s.H := by
 have hxl := h.len
 refine bZ fun s1 p1 n1 a1' => ?_
 have a1 : At (s1.w 0) p1 0 (bL x.f r.Data) := by rw [← h.f]; exact a1'
 have hK1 := hK s1 n1.step
 have e : bS x = (decide (x.f.getD 0 0 = 2) || decide (x.f.getD 0 0 = 3) || decide (x.f.getD 0 0 = 4)) := rfl
 rw [e] at hK1
 refine av a1 (fZ (by omega)) ?_
 refine aN (fun h2 => ?_) (fun h2 => ?_)
 ·rw [decide_eq_true h2] at hK1; simpa using hK1
 refine av a1 (fZ (by omega)) ?_
 refine aN (fun h3 => ?_) (fun h3 => ?_)
 ·rw [decide_eq_true h3] at hK1; simpa using hK1
 refine av a1 (fZ (by omega)) ?_
 rw [decide_eq_false h2, decide_eq_false h3] at hK1
 simpa using hK1
theorem zM {s : St} {x : RecM} {r : aZ} {K : Bool → HP} (h : dM (s.w 0) x r) (hK : ∀ s', Step [] s s' → K (bS x) s'.H) : oE r K s.H := agt h hK
theorem RJ {V : View} {x : RecM} {r : aZ} {q : Int} {a : Nat} (h : dM V x r) : mA.R V ⟨q, a, x⟩ [.int .i64 q, .int .i64 a, .int .i64 r.Kind, .int .i64 r.bR, .int .i64 r.Seq, .int .i64 r.Next, .int .i64 r.bW, .int .i64 r.bV, .int .i64 r.Time, .int .i64 r.Flags, .int .i64 r.Body, .int .i64 r.bQ, .int .i64 r.Origin, .slice r.Data.a r.Data.len r.Data.cap] :=
 ⟨r.Data, by show _ = _ :: _ :: bL x.f r.Data; rw [← h.f]; rfl, h.len, h.data⟩
theorem KC {s s' : St} {f : ey} {r : aZ} {sd : Sl} {S : List Nat} (h1 : fieldsOf r = f.x.f) (h2 : r.Data = sd) (h3 : Ls bf (s.w 0) f.x.data sd) (e : Step S s s') : dM (s'.w 0) f.x r := ⟨h1, by rw [h2]; exact Ls.st h3 e⟩
theorem yA {kb : Nat} {s : St} {p : Nat} {x : BoxM} {dp : Option Addr} {K : Sl → HP} (h : dJ kb s p x dp) (hx : qL x) (hko : kb + 1 ≠ own s) (hK : ∀ s' o, Step [] s s' → Ls mA (s'.w 0) (P.places x.l) o → K o s'.H) : jE (some ⟨p, 0, none⟩) K s.H := by
 unfold jE
 obtain ⟨sl, cs, hb⟩ := h
 have hrow := hb.row
 repeat (first|refine aj ?_|refine av hrow rfl ?_|refine aK hrow rfl ?_|refine aH hrow rfl ?_|refine aI hrow rfl ?_|refine aJ hrow rfl ?_|refine aC hrow rfl ?_)
 have hlw := hb.lw
 have hlen := hlw.len
 have hxl := hx.len
 have hall := hx.cs.all
 refine cD (ι := Nat × Sl) (fun y => [.slice y.2.a y.2.len y.2.cap, .int .i64 y.1]) (fun y s' => y.1 ≤ x.l.length ∧ Step [own s] s s' ∧ bF mA (own s) s' (P.places (x.l.take y.1)) y.2) (fun y _ => x.l.length - y.1) (0, ⟨none, 0, 0⟩) rfl ⟨Nat.zero_le _, Step.refl, bF.nil⟩ ?_
 rintro ⟨i, o⟩ s1 ⟨hi, e1, b1⟩ G hG
 simp only at hi b1
 have hz1 := e1.sz
 simp only [List.getD_cons_zero, List.getD_cons_succ, cI, cN, cK, cH, cJ, cO]
 refine aN (fun hlt => ?_) (fun hlt => ?_)
 ·refine bU (hlw.st e1 (by simpa using hko)) (by omega) (by omega) fun bx ox c hcx hel => ?_
  rw [Int.toNat_natCast] at hcx
  obtain ⟨vs, ⟨scl, rfl, hcl⟩, hat⟩ := hel
  have co := hall c (List.mem_of_getElem? hcx)
  unfold fS
  repeat (first|refine aj ?_|refine av hat rfl ?_|refine aK hat rfl ?_|refine aH hat rfl ?_|refine aI hat rfl ?_|refine aJ hat rfl ?_|refine aC hat rfl ?_)
  refine dQ rfl (by simp [one]) fun s2 p5 e2 a5 => ?_
  repeat (first|refine aj ?_|refine av a5 rfl ?_|refine aK a5 rfl ?_|refine aH a5 rfl ?_|refine aI a5 rfl ?_|refine aJ a5 rfl ?_|refine aC a5 rfl ?_)
  have hcl2 := Ls.st hcl e2
  have hll := hcl2.len
  have hcl0 := co.len
  have hpl := zR (x.l.take i) fun c hc => hall c (List.mem_of_mem_take hc)
  rw [List.length_take] at hpl
  have hpt := Qm hcx
  have hp0 : P.places (x.l.take i) = P.places (x.l.take i) ++ P.jg c.seq (c.l.take 0) := by simp [P.jg]
  have b2 := b1.st e2 (by simp)
  rw [hp0] at b2
  have hz2 := e2.sz
  refine cD (ι := Nat × Sl) (fun y => [.slice y.2.a y.2.len y.2.cap, .int .i64 y.1]) (fun y s' => y.1 ≤ c.l.length ∧ Step [own s] s2 s' ∧ bF mA (own s) s' (P.places (x.l.take i) ++ P.jg c.seq (c.l.take y.1)) y.2) (fun y _ => c.l.length - y.1) (0, o) rfl ⟨Nat.zero_le _, Step.refl, b2⟩ ?_
  rintro ⟨j, o3⟩ s3 ⟨hj, e3, b3⟩ G2 hG2
  simp only at hj b3
  have hz3 := e3.sz
  simp only [List.getD_cons_zero, List.getD_cons_succ, cI, cN, cK, cH, cJ, cO]
  refine aN (fun hlt2 => ?_) (fun hlt2 => ?_)
  ·refine bU (Ls.st hcl2 e3) (by omega) (by omega) fun bx2 ox2 f hf hel2 => ?_
   rw [Int.toNat_natCast] at hf
   obtain ⟨vs, ⟨sd, rfl, hf11, hd⟩, hat2⟩ := hel2
   refine AR (f := f) hat2 hf11 fun r hr => ?_
   rw [hr]
   refine dQ (by rw [mJ, List.length_cons, List.length_cons, nG, hf11]; rfl) (fun v hv => gj.one (V := s3.w 0) (x := f) ⟨sd, rfl, hf11, hd⟩ v hv) fun s4 p7 e4 a7 => ?_
   refine vI a7 hf11 fun r2 f2 d2 => ?_
   have ra4 : dM (s4.w 0) f.x r2 := KC f2 d2 hd e4
   refine zM ra4 fun s5 e5 => ?_
   have hft := Th (q := c.seq) hf
   have hpl2 := Gr c.seq (c.l.take j)
   rw [List.length_take] at hpl2
   have e35 := e4.trans e5
   have b5 := b3.st e35 (by simp)
   have hz5 := e35.sz
   refine js (fun hk => ?_) (fun hk => ?_)
   ·have a75 := a7.mono e5.v0
    have a55 := ((a5.mono e3.v0).mono e4.v0).mono e5.v0
    refine av a55 rfl ?_
    refine av (n := (f.at_ : Int)) a75 rfl ?_
    refine vI a75 hf11 fun r3 f3 d3 => ?_
    rw [if_pos hk] at hft
    refine jv (⟨c.seq, f.at_, f.x⟩ : fY) b5 (RJ (KC f3 d3 hd e35)) (fun s6 o6 e6 b6 => ?_) rfl rfl (by rw [List.length_append]; omega) (by rw [List.length_append]; omega) (by unfold own; omega) (by unfold own; omega)
    unfold xk
    rw [aY (by omega) (by omega)]
    refine hG2 (j + 1, o6) s6 ⟨by simp only; omega, e3.trans (e35.n.trans e6), ?_⟩ (by simp only; omega)
    rw [hft, ← List.append_assoc]; exact b6
   ·rw [if_neg (by rw [hk]; simp), List.append_nil] at hft
    unfold xk
    rw [aY (by omega) (by omega)]
    refine hG2 (j + 1, o3) s5 ⟨by simp only; omega, e3.trans e35.n, ?_⟩ (by simp only; omega)
    rw [hft]; exact b5
  ·have : j = c.l.length := by omega
   subst this
   rw [List.take_of_length_le (Nat.le_refl _)] at b3
   rw [aY (by omega) (by omega)]
   refine hG (i + 1, o3) s3 ⟨by simp only; omega, e1.trans (e2.n.trans e3), ?_⟩ (by simp only; omega)
   rw [hpt]; exact b3
 ·have : i = x.l.length := by omega
  subst this
  rw [List.take_of_length_le (Nat.le_refl _)] at b1
  exact hK s1 o e1.loc b1.ls
theorem IS {s : St} {x y : RecM} {r r2 : aZ} {K : Bool → HP} (h : dM (s.w 0) x r) (h2 : dM (s.w 0) y r2) (hK : ∀ s', Step [] s s' → K (decide (x.f = y.f ∧ x.data = y.data)) s'.H) : kS r r2 K s.H := by
 unfold kS
 have hxl := h.len
 have hyl := h2.len
 refine bZ fun s1 p1 n1 a1' => ?_
 refine bZ fun s2 p2 n2 a2' => ?_
 have e12 := n1.step.trans n2.step
 have a1 : At (s2.w 0) p1 0 (bL x.f r.Data) := by rw [← h.f]; exact a1'.mono n2.step.v0
 have a2 : At (s2.w 0) p2 0 (bL y.f r2.Data) := by rw [← h2.f]; exact a2'
 have hK2 := hK s2 e12
 have g1 : ∀ {j : Nat} {K' : Int → HP}, j < 11 → K' (x.f.getD j 0) s2.H → ag .i64 ((af p1).add j) K' s2.H := fun hj hk => av a1 (fZ (by omega)) hk
 have g2 : ∀ {j : Nat} {K' : Int → HP}, j < 11 → K' (y.f.getD j 0) s2.H → ag .i64 ((af p2).add j) K' s2.H := fun hj hk => av a2 (fZ (by omega)) hk
 have bad : ∀ j, x.f.getD j 0 ≠ y.f.getD j 0 → K false s2.H := fun j hj => by
  rwa [decide_eq_false (fun hh => hj (by rw [hh.1]))] at hK2
 have badj : ∀ j, x.f.getD j 0 ≠ y.f.getD j 0 → lp p1 p2 true K s2.H := fun j hj => by
  unfold lp; exact bH (bad j hj)
 have N : ∀ (j : Nat) {A B : HP}, j < 11 → (x.f.getD j 0 ≠ y.f.getD j 0 → A s2.H) → (x.f.getD j 0 = y.f.getD j 0 → B s2.H) → ag .i64 ((af p1).add j) (fun t => ag .i64 ((af p2).add j) fun u => bif (!decide ((t : Int) = u)) then A else B) s2.H := fun j A B hj hA hB => g1 hj (g2 hj (bK hA hB))
 have Y : ∀ (j : Nat) {A B : HP}, j < 11 → (x.f.getD j 0 = y.f.getD j 0 → A s2.H) → (x.f.getD j 0 ≠ y.f.getD j 0 → B s2.H) → ag .i64 ((af p1).add j) (fun t => ag .i64 ((af p2).add j) fun u => bif (decide ((t : Int) = u)) then A else B) s2.H := fun j A B hj hA hB => g1 hj (g2 hj (aN hA hB))
 refine N 0 (by decide) (badj 0) fun q0 => ?_
 refine N 1 (by decide) (badj 1) fun q1 => ?_
 refine N 2 (by decide) (badj 2) fun q2 => ?_
 refine N 3 (by decide) (badj 3) fun q3 => ?_
 refine N 4 (by decide) (badj 4) fun q4 => ?_
 refine g1 (by decide) (g2 (by decide) ?_)
 by_cases q5 : x.f.getD 5 0 = y.f.getD 5 0
 case neg => rw [decide_eq_false q5]; exact badj 5 q5
 rw [decide_eq_true q5]
 unfold lp
 refine bt ?_
 refine Y 6 (by decide) (fun q6 => ?_) (bad 6)
 refine Y 7 (by decide) (fun q7 => ?_) (bad 7)
 refine Y 8 (by decide) (fun q8 => ?_) (bad 8)
 refine Y 9 (by decide) (fun q9 => ?_) (bad 9)
 refine Y 10 (by decide) (fun q10 => ?_) (bad 10)
 refine aC a1 (mI hxl) ?_
 refine k8 (h.st e12).data ?_
 refine aC a2 (mI hyl) ?_
 refine k8 (h2.st e12).data ?_
 have hf : x.f = y.f := by
  apply List.ext_getElem (by omega)
  intro j h1 h2
  have q : x.f.getD j 0 = y.f.getD j 0 := by
   match j, (show j < 11 by omega) with
   | 0, _ => exact q0
   | 1, _ => exact q1
   | 2, _ => exact q2
   | 3, _ => exact q3
   | 4, _ => exact q4
   | 5, _ => exact q5
   | 6, _ => exact q6
   | 7, _ => exact q7
   | 8, _ => exact q8
   | 9, _ => exact q9
   | 10, _ => exact q10
  simpa [List.getD_eq_getElem?_getD, h1, h2] using q
 have hba : ((⟨x.data.toArray⟩ : ByteArray) = ⟨y.data.toArray⟩) ↔ x.data = y.data := MQ
 have : decide ((⟨x.data.toArray⟩ : ByteArray) = ⟨y.data.toArray⟩) = decide (x.f = y.f ∧ x.data = y.data) := by
  rw [decide_eq_decide, hba]; simp [hf]
 rw [this]
 exact hK2
theorem Em {s : St} {q b o : Nat} {x y : Value} {f : List Int} {sl : Sl} {K : aZ → HP} (h : At (s.w q) b o (x :: y :: bL f sl)) (hf : f.length = 11) (hK : ∀ r, fieldsOf r = f → r.Data = sl → K r s.H) : bq ((⟨b, o, none⟩ : Addr).add 2) K s.H := by
 rw [dK]
 exact C0 h.xH hf hK
theorem Qw {kb : Nat} {s : St} {p : Nat} {x : BoxM} {dp : Option Addr} {K : Int → HP} (h : dJ kb s p x dp) (hl : x.l.length ≤ 1024) (hK : K (P.bI x.l) s.H) : jN (some ⟨p, 0, none⟩) K s.H := by
 unfold jN kU
 obtain ⟨sl, cs, hb⟩ := h
 have hrow := hb.row
 have hlw := hb.lw
 have hlen := hlw.len
 repeat (first|refine aj ?_|refine av hrow rfl ?_|refine aK hrow rfl ?_|refine aH hrow rfl ?_|refine aI hrow rfl ?_|refine aJ hrow rfl ?_|refine aC hrow rfl ?_)
 unfold P.bI at hK
 refine aN (fun h0 => ?_) (fun h0 => ?_)
 ·have : x.l = [] := List.eq_nil_of_length_eq_zero (by omega)
  rw [this] at hK
  exact hK
 ·repeat (first|refine aj ?_|refine av hrow rfl ?_|refine aK hrow rfl ?_|refine aH hrow rfl ?_|refine aI hrow rfl ?_|refine aJ hrow rfl ?_|refine aC hrow rfl ?_)
  rw [aY (by omega) (by omega)]
  refine bU hlw (by omega) (by omega) fun bx ox c hc hel => ?_
  obtain ⟨vs, ⟨scl, rfl, hcl⟩, hat⟩ := hel
  refine bH ?_
  refine aj ?_
  refine av hat rfl ?_
  have : x.l.getLast? = some c := by
   rw [List.getLast?_eq_getElem?, ← hc]; congr 1; omega
  rw [this] at hK
  exact hK
theorem Q8 {l : List bM} {i : Nat} {c : bM} (h : l[i]? = some c) : P.ig (l.take (i + 1)) = P.ig (l.take i) + c.broken := by
 unfold P.ig
 rw [List.take_succ, h, List.map_append, List.sum_append]; simp
theorem LB : ∀ (l : List bM), (∀ c ∈ l, k9 c) → 0 ≤ P.ig l ∧ P.ig l ≤ 4194304 * l.length
 | [], _ => by simp [P.ig]
 | c :: l, h => by
  have h1 := LB l fun x hx => h x (by simp [hx])
  have h2 := (h c (by simp)).broken
  unfold P.ig at h1 ⊢
  rw [List.map_cons, List.sum_cons, List.length_cons]
  omega
theorem IX {kb : Nat} {s : St} {p : Nat} {x : BoxM} {dp : Option Addr} {K : Int → HP} (h : dJ kb s p x dp) (hx : qL x) (hK : ∀ s', Step [] s s' → K (P.ig x.l) s'.H) : mP (some ⟨p, 0, none⟩) K s.H := by
 unfold mP
 obtain ⟨sl, cs, hb⟩ := h
 have hrow := hb.row
 have hlw := hb.lw
 have hlen := hlw.len
 have hxl := hx.len
 repeat (first|refine aj ?_|refine av hrow rfl ?_|refine aK hrow rfl ?_|refine aH hrow rfl ?_|refine aI hrow rfl ?_|refine aJ hrow rfl ?_|refine aC hrow rfl ?_)
 refine cD (fun i : Nat => [.int .i64 (P.ig (x.l.take i)), .int .i64 i]) (fun i s' => i ≤ x.l.length ∧ Step [] s s') (fun i _ => x.l.length - i) 0 rfl ⟨Nat.zero_le _, Step.refl⟩ ?_
 rintro i s1 ⟨hi, e1⟩ G hG
 simp only [List.getD_cons_zero, List.getD_cons_succ, cI, cN, cK, cH, cJ, cO]
 refine aN (fun hlt => ?_) (fun hlt => ?_)
 ·refine bU (hlw.st e1 (by simp)) (by omega) (by omega) fun bx ox c hc hel => ?_
  rw [Int.toNat_natCast] at hc
  obtain ⟨vs, ⟨scl, rfl, hcl⟩, hat⟩ := hel
  unfold fS
  repeat (first|refine aj ?_|refine av hat rfl ?_|refine aK hat rfl ?_|refine aH hat rfl ?_|refine aI hat rfl ?_|refine aJ hat rfl ?_|refine aC hat rfl ?_)
  refine dQ rfl (by simp [one]) fun s2 p5 e2 a5 => ?_
  repeat (first|refine aj ?_|refine av a5 rfl ?_|refine aK a5 rfl ?_|refine aH a5 rfl ?_|refine aI a5 rfl ?_|refine aJ a5 rfl ?_|refine aC a5 rfl ?_)
  have hb := LB (x.l.take (i + 1)) fun c hc => hx.cs.all c (List.mem_of_mem_take hc)
  have hbt := Q8 hc
  have hl1 : (x.l.take (i + 1)).length ≤ 1024 := by rw [List.length_take]; omega
  change G [.int .i64 (ay (P.ig (List.take i x.l) + c.broken)), .int .i64 (ay ((i : Int) + 1))] s2.H
  rw [aY (by omega) (by omega), aY (by omega) (by omega)]
  have := hG (i + 1) s2 ⟨by omega, e1.trans e2⟩ (by omega)
  rw [hbt] at this
  exact this
 ·have : i = x.l.length := by omega
  subst this
  rw [List.take_of_length_le (Nat.le_refl _)]
  exact hK s1 e1
theorem Bw {kb : Nat} {s : St} {p : Nat} {x : BoxM} {dp : Option Addr} {K : Int → HP} (h : dJ kb s p x dp) (hK : K x.next s.H) : jV (some ⟨p, 0, none⟩) K s.H := by
 unfold jV
 obtain ⟨sl, cs, hb⟩ := h
 have hrow := hb.row
 repeat (first|refine aj ?_|refine av hrow rfl ?_|refine aK hrow rfl ?_|refine aH hrow rfl ?_|refine aI hrow rfl ?_|refine aJ hrow rfl ?_|refine aC hrow rfl ?_)
 exact hK
end Go.Ph
end
section
set_option linter.all false
namespace Go.Ph
open S
theorem D8 (n : Nat) : ∀ (k i : Nat), i < k → (aW n k)[i]? = some (UInt8.ofNat (n / 256 ^ (k - 1 - i) % 256))
 | 0, i, h => by omega
 | k + 1, i, h => by
  rw [ac5]
  cases i with
  | zero => simp
  | succ i =>
   rw [List.getElem?_cons_succ, D8 n k i (by omega)]
   rw [show k + 1 - 1 - (i + 1) = k - 1 - i by omega]
theorem Lu (j : Nat) : ((2 : Int) ^ (8 * j)) = ((256 ^ j : Nat) : Int) := by
 have h : (2 : Nat) ^ (8 * j) = 256 ^ j := Nat.pow_mul 2 8 j
 rw [← h, Int.natCast_pow]; rfl
theorem X8 {n j : Nat} (hn : n < 18446744073709551616) (hj : j ≤ 7) : wr .u8 (eM .u64 n (wr .u64 ((8 * j : Nat) : Int))) = ((n / 256 ^ j % 256 : Nat) : Int) := by
 rw [jm (by omega) (by omega)]
 unfold eM
 rw [Int.toNat_natCast]
 have hm : min (8 * j) (IntKind.bits .u64) = 8 * j := by show min (8 * j) 64 = _; omega
 rw [hm]
 rw [Lu, Int.fdiv_eq_ediv_of_nonneg _ (Int.natCast_nonneg _), ← Int.natCast_ediv]
 generalize n / 256 ^ j = m
 unfold wr IntKind.wrap
 simp [IntKind.bits, IntKind.signed]
theorem OP {s : St} {n k : Nat} {K : Sl → Bool → HP} (hn : n < 256 ^ k) (hk : 1 ≤ k ∧ k ≤ 8)
  (hK : ∀ s' o, Step [] s s' → Ls bf (s'.w 0) (aW n k) o → K o true s'.H) : tQ n k K s.H := by
 unfold tQ lU uB
 have hn8 : n < 18446744073709551616 := Nat.lt_of_lt_of_le hn (Nat.pow_le_pow_right (n := 256) (by decide) hk.2)
 refine aN (fun _ => ?_) (fun h => absurd (by omega) h)
 rw [decide_eq_true (show (k : Int) ≤ 8 by omega)]
 refine bt ?_
 have hq0 : own s ≠ 0 := by unfold own; omega
 have main : uI n k false K s.H := by
  unfold uI
  refine bt ?_
  refine vz (t := bf) (z := (0 : UInt8)) (own s) (by unfold own; omega) rfl (by omega) (by omega) (by omega) fun s1 o e1 z1 l1 => ?_
  rw [Int.toNat_natCast] at l1
  have hol : o.len = k := by rw [l1.len]; simp
  refine cD (fun i : Nat => [.int .i64 i]) (fun i s' => i ≤ k ∧ Step [own s] s s' ∧ bz bf (s'.w 0) (s'.w (own s)) ((aW n k).take i ++ List.replicate (k - i) 0) o) (fun i _ => k - i) 0 rfl ⟨Nat.zero_le _, e1.n, l1⟩ ?_
  rintro i s2 ⟨hi, e2, l2⟩ G hG
  simp only [List.getD_cons_zero, List.getD_cons_succ, cI, cN, cK, cH, cJ, cO]
  refine aN (fun hlt => ?_) (fun hlt => ?_)
  ·rw [aY (n := (k : Int) - 1) (by omega) (by omega), aY (n := (k : Int) - 1 - i) (by omega) (by omega), aY (n := 8 * ((k : Int) - 1 - i)) (by omega) (by omega)]
   have hj : 8 * ((k : Int) - 1 - i) = ((8 * (k - 1 - i) : Nat) : Int) := by omega
   rw [hj, X8 hn8 (by omega)]
   refine ⟨by rw [jm (by omega) (by omega)]; omega, ?_⟩
   have hll : ((aW n k).take i ++ List.replicate (k - i) (0 : UInt8)).length = k := by rw [List.length_append, List.length_take, dN, List.length_replicate]; omega
   refine vA l2 (by omega) (by omega) fun b off x ha hx hel => ?_
   rw [Int.toNat_natCast]
   refine BX (x := UInt8.ofNat (n / 256 ^ (k - 1 - i) % 256)) l2 ha (by omega) (by show [Value.int .u8 _] = [Value.int .u8 _]; rw [UInt8.toNat_ofNat', Nat.mod_eq_of_lt (Nat.mod_lt _ (by decide))]) hq0 (by decide) fun s3 e3 z3 l3 => ?_
   rw [aY (by omega) (by omega)]
   refine hG (i + 1) s3 ⟨by omega, e2.trans e3, ?_⟩ (by omega)
   have hs : ((aW n k).take i ++ List.replicate (k - i) (0 : UInt8)).set i (UInt8.ofNat (n / 256 ^ (k - 1 - i) % 256)) = (aW n k).take (i + 1) ++ List.replicate (k - (i + 1)) 0 := by
    have ht : ((aW n k).take i).length = i := by rw [List.length_take, dN]; omega
    rw [List.set_append_right _ _ (by omega), ht, Nat.sub_self, List.take_succ, D8 n k i (by omega)]
    rw [show k - i = (k - (i + 1)) + 1 by omega, List.replicate_succ]
    simp
   rwa [hs] at l3
  ·have : i = k := by omega
   subst this
   have ht : (aW n i).take i ++ List.replicate (i - i) (0 : UInt8) = aW n i := by
    rw [Nat.sub_self, List.replicate_zero, List.append_nil]
    exact List.take_of_length_le (by rw [dN]; exact Nat.le_refl _)
   rw [ht] at l2
   obtain ⟨s3, hs3, e3, v3⟩ := freeze s2 (own s)
   rw [← hs3]
   exact hK s3 o ((e2.trans e3).loc) (l2.mono e3.v0 v3)
 refine aN (fun h8 => ?_) (fun h8 => ?_)
 ·exact main
 ·have hk7 : k ≤ 7 := by omega
  have hw : ay (8 * (k : Int)) = ((8 * k : Nat) : Int) := by rw [aY (by omega) (by omega)]; omega
  rw [hw, jm (n := ((8 * k : Nat) : Int)) (by omega) (by omega)]
  refine ⟨by omega, ?_⟩
  have : eM .u64 (n : Int) ((8 * k : Nat) : Int) = 0 := by
   unfold eM
   rw [Int.toNat_natCast]
   have hm : min (8 * k) (IntKind.bits .u64) = 8 * k := by show min (8 * k) 64 = _; omega
   rw [hm]
   rw [Lu, Int.fdiv_eq_ediv_of_nonneg _ (Int.natCast_nonneg _), ← Int.natCast_ediv, Nat.div_eq_of_lt hn]; rfl
  rw [this]
  exact main
structure jC (q q2 : Nat) (s : St) (b : Nat) (l : List UInt8) : Prop where
 k0 : q ≠ 0 ∧ q2 ≠ 0 ∧ q ≠ q2
 at_ : ∃ o : Sl, At (s.w q) b 0 [.slice o.a o.len o.cap] ∧ bF bf q2 s l o
theorem jC.st {q q2 : Nat} {s s' : St} {b : Nat} {l : List UInt8} {S : List Nat} (h : jC q q2 s b l) (hs : Step S s s') (h1 : q ∉ S) (h2 : q2 ∉ S) : jC q q2 s' b l := by
 obtain ⟨k0, o, g1, g2⟩ := h
 exact ⟨k0, o, g1.mono (hs.view h1), g2.st hs h2⟩
theorem GC {q q2 : Nat} {s : St} {b : Nat} {l m : List UInt8} {sl : Sl} {K : HP} (h : jC q q2 s b l) (hm : Ls bf (s.w 0) m sl) (hl : l.length + m.length ≤ 1000000000000) (hq2 : q2 < 2305843009213693952 + 1152921504606846976 * s.H.size)
  (hK : ∀ s', Step [q, q2] s s' → jC q q2 s' b (l ++ m) → K s'.H) : qn (some ⟨b, 0, none⟩) sl K s.H := by
 unfold qn
 obtain ⟨k0, o, a, g⟩ := h
 refine aj ?_
 refine aC a rfl ?_
 refine jl g hm (fun s1 o1 e1 b1 => ?_) rfl rfl (by omega) (by omega) hq2 k0.2.1
 refine aj ?_
 refine cP (a.mono (e1.view (by simpa using k0.2.2))) (by simp) rfl k0.1 (fun s2 e2 z2 a2 _ => ?_)
 exact hK s2 (e1.tr e2) ⟨k0, o1, a2, b1.st e2 (by simpa using fun h => k0.2.2 h.symm)⟩
theorem ye {q q2 : Nat} {s : St} {b : Nat} {l : List UInt8} {n k : Nat} {K : Bool → HP} (h : jC q q2 s b l) (hn : n < 256 ^ k) (hk : 1 ≤ k ∧ k ≤ 8) (hl : l.length ≤ 1000000000) (hq2 : q2 < 2305843009213693952 + 1152921504606846976 * s.H.size)
  (hK : ∀ s', Step [q, q2] s s' → jC q q2 s' b (l ++ aW n k) → K true s'.H) : mO (some ⟨b, 0, none⟩) n k K s.H := by
 unfold mO
 refine OP hn hk fun s0 o0 e0 l0 => ?_
 have hz := e0.sz
 obtain ⟨k0, o, a, g⟩ := h.st e0 (by simp) (by simp)
 refine aj ?_
 refine aC a rfl ?_
 refine jl g l0 (fun s1 o1 e1 b1 => ?_) rfl rfl (by rw [dN]; omega) (by rw [dN]; omega) (by omega) k0.2.1
 refine aj ?_
 refine cP (a.mono (e1.view (by simpa using k0.2.2))) (by simp) rfl k0.1 (fun s2 e2 z2 a2 _ => ?_)
 exact hK s2 (e0.n.trans (Step.tr e1 e2)) ⟨k0, o1, a2, b1.st e2 (by simpa using fun h => k0.2.2 h.symm)⟩
theorem yP {q q2 : Nat} {s : St} {b : Nat} {l : List UInt8} {K : Sl → HP} (h : jC q q2 s b l) (hl : l.length ≤ 1000000000)
  (hK : ∀ s' o, Step [] s s' → Ls bf (s'.w 0) l o → K o s'.H) : mS (some ⟨b, 0, none⟩) K s.H := by
 unfold mS
 obtain ⟨k0, o, a, g⟩ := h
 refine aj ?_
 refine aC a rfl ?_
 exact Ch g.ls (by omega) hK
theorem adE {s : St} {l : List UInt8} {sl : Sl} {K : Sl → HP} (h : Ls bf (s.w 0) l sl) (hl : l.length ≤ 10000000000)
  (hK : ∀ s' o, Step [] s s' → Ls bf (s'.w 0) (bO l) o → K o s'.H) : rq sl K s.H := by
 unfold rq
 have hlen := h.len
 refine cD (ι := Nat × Sl) (fun x => [.slice x.2.a x.2.len x.2.cap, .int .i64 x.1]) (fun x s' => x.1 ≤ l.length ∧ Step [own s] s s' ∧ bF bf (own s) s' (bO (l.take x.1)) x.2) (fun x _ => l.length - x.1) (0, ⟨none, 0, 0⟩) rfl ⟨Nat.zero_le _, Step.refl, bF.nil⟩ ?_
 rintro ⟨i, o⟩ s1 ⟨hi, e1, b1⟩ G hG
 simp only at hi b1
 simp only [List.getD_cons_zero, List.getD_cons_succ, cI, cN, cK, cH, cJ, cO]
 have h1 := Ls.st h e1
 have hz1 := e1.sz
 refine aN (fun hlt => ?_) (fun hlt => ?_)
 ·have hvl := uc (l.take i)
  have htl : (l.take i).length ≤ i := by rw [List.length_take]; omega
  refine bU h1 (by omega) (by omega) fun bx ox x hx hel => ?_
  obtain ⟨vs, rfl, hat⟩ := hel
  have hG' := fun o' s' => hG (i + 1, o') s'
  simp only [aaj (by simpa using hx)] at hG'
  have rest : ∀ s2 o2, Step [own s] s1 s2 → bF bf (own s) s2 (bO (l.take i) ++ eo x) o2 → xg o2 sl sl.len i K G s2.H := fun s2 o2 e2 b2 => by
   unfold xg
   rw [aY (by omega) (by omega)]
   exact hG' o2 s2 ⟨by omega, e1.trans e2, b2⟩ (by omega)
  have vl : (x = 80 ∨ x = 81) → sO o x.toNat sl sl.len i true K G s1.H := fun hx => by
   unfold sO
   refine bH ?_
   obtain ⟨y, hy1, hy2⟩ : ∃ y : UInt8, wr .u8 ((x.toNat : Int) - 80) = y.toNat ∧ eo x = [81, y] := by
    rcases hx with rfl | rfl
    ·exact ⟨0, by decide, rfl⟩
    ·exact ⟨1, by decide, rfl⟩
   rw [hy1]
   refine bZ fun s2 b n2 a2 => ?_
   have e2 := n2.step
   have hz2 := e2.sz
   refine jl (b1.st e2 (by simp)) (Vv (c := 81) (d := y) a2) (fun s3 o3 e3 b3 => rest s3 o3 (e2.n.trans e3) (by rw [hy2]; exact b3)) rfl rfl (by simp; omega) (by simp; omega) (by unfold own; omega)
  refine iQ hat rfl ?_
  refine aN (fun h2 => ?_) (fun h2 => ?_)
  ·exact vl (.inl (oe (n := 80) h2))
  ·have n80 : x ≠ 80 := fun h => h2 (by rw [h]; rfl)
   by_cases h3 : (x.toNat : Int) = 81
   ·rw [decide_eq_true h3]
    exact vl (.inr (oe (n := 81) h3))
   ·rw [decide_eq_false h3]
    have n81 : x ≠ 81 := fun h => h3 (by rw [h]; rfl)
    unfold sO
    refine bt ?_
    have hv1 : eo x = [x] := by simp [eo, n80, n81]
    rw [hv1] at rest
    refine jv x b1 rfl (fun s2 o2 e2 b2 => rest s2 o2 e2 b2) rfl rfl (by omega) (by omega) (by unfold own; omega)
 ·have : i = l.length := by omega
  subst this
  rw [List.take_of_length_le (Nat.le_refl _)] at b1
  exact hK s1 o e1.loc b1.ls
theorem RG {s : St} {c : UInt8} {l : List UInt8} {sl : Sl} {K : Sl → Int → HP} (h : Ls bf (s.w 0) l sl) (hl : l.length ≤ 65536)
  (hK : ∀ s' o, Step [] s s' → Ls bf (s'.w 0) (wrap c l) o → K o 0 s'.H) : qV c.toNat sl K s.H := by
 unfold qV
 have hlen := h.len
 have hc := c.toNat_lt
 refine aN (fun h1 => ?_) (fun h1 => ?_)
 ·omega
 rw [decide_eq_false (by omega)]
 unfold Ds
 refine bt ?_
 refine aN (fun h2 => ?_) (fun h2 => ?_)
 ·omega
 rw [jm (n := (c.toNat : Int)) (by omega) (by omega), jm (n := ((sl.len : Nat) : Int)) (by omega) (by omega)]
 unfold oT
 have hown : own s = 1152921504606846976 + 1152921504606846976 * s.H.size := rfl
 refine dm (own s) (by omega) fun s1 p n1 a1 => ?_
 have e1 := n1.step
 have hz1 := e1.sz
 have k1 : jC (own s) (own s + 1) s1 p [] := ⟨⟨by omega, by omega, by omega⟩, ⟨none, 0, 0⟩, a1, bF.nil⟩
 have p1 : aW c.toNat 1 = [c] := by have := Uv [c]; simpa [be] using this
 refine ye (n := c.toNat) (k := 1) k1 (by omega) (by decide) (by simp) (by omega) fun s2 e2 k2 => ?_
 rw [p1] at k2
 have es2 : Step [own s, own s + 1] s s2 := e1.n.trans e2
 have hz2 := es2.sz
 refine ye (n := sl.len) (k := 4) k2 (by omega) (by decide) (by simp) (by omega) fun s3 e3 k3 => ?_
 have es3 := es2.trans e3
 have hz3 := es3.sz
 rw [hlen] at k3
 refine yP k3 (by simp [dN]) fun s4 o4 e4 l4 => ?_
 have es4 := es3.trans e4.n
 refine JL l4 (Ls.st h es4) (by simp [dN]) (by omega) fun s5 e5 => ?_
 have k5 := k3.st (e4.trans e5) (by simp) (by simp)
 have es5 := es4.trans e5.n
 have hz5 := es5.sz
 have hcr : [] ++ [c] ++ aW l.length 4 ++ l = c :: (aW l.length 4 ++ l) := rfl
 rw [hcr]
 have hlt := (crc 0#32 (c :: (aW l.length 4 ++ l))).isLt
 have hwr : wrap c l = [80] ++ bO ([] ++ [c] ++ aW l.length 4 ++ (aW (crc 0#32 (c :: (aW l.length 4 ++ l))).toNat 4) ++ l) := by unfold wrap; simp
 generalize (crc 0#32 (c :: (aW l.length 4 ++ l))).toNat = cr at *
 rw [jm (n := (cr : Int)) (by omega) (by omega)]
 refine ye (n := cr) (k := 4) k5 (by omega) (by decide) (by simp [dN]) (by omega) fun s6 e6 k6 => ?_
 have es6 := es5.trans e6
 have hz6 := es6.sz
 refine GC k6 (Ls.st h es6) (by simp [dN]; omega) (by omega) fun s7 e7 k7 => ?_
 have es7 := es6.trans e7
 have hz7 := es7.sz
 refine bZ fun s8 pm n8 a8 => ?_
 have e8 := n8.step
 refine yP (k7.st e8 (by simp) (by simp)) (by simp [dN]; omega) fun s9 o9 e9 l9 => ?_
 refine adE l9 (by simp [dN]; omega) fun s10 o10 e10 l10 => ?_
 have e910 := e9.trans e10
 have a10 := a8.mono e910.v0
 have es10 : Step [own s, own s + 1] s s10 := es7.trans (e8.trans e910).n
 have hz10 := es10.sz
 have hb : bF bf (own s) s10 [80] ⟨some (af pm), 1, 1⟩ := ⟨Ls.single rfl a10, fun a ha i h1 h2 => by simp [bf] at h1 h2; omega⟩
 have hvl := uc ([] ++ [c] ++ aW l.length 4 ++ aW cr 4 ++ l)
 have hvl2 : ([] ++ [c] ++ aW l.length 4 ++ aW cr 4 ++ l).length ≤ 65545 := by simp [dN]; omega
 refine jl hb l10 (fun s11 o11 e11 b11 => ?_) rfl rfl (by rw [List.length_singleton]; omega) (by rw [List.length_singleton]; omega) (by omega) (by omega)
 have := b11.ls
 rw [← hwr] at this
 have es11 : Step [own s, own s + 1] s s11 := es10.tr e11
 exact hK s11 o11 (es11.vD (Nat.le_refl _)) this
end Go.Ph
end
section
set_option linter.all false
namespace Go.Ph
open S
theorem L4 (k : Int) : ∀ p ∈ layout k, p.hi < ((256 ^ p.w : Nat) : Int) := by
 refine od k (P := fun l => ∀ p ∈ l, p.hi < ((256 ^ p.w : Nat) : Int)) ?_ ?_ ?_ ?_ ?_ ?_ ?_ <;> intros <;> (rename_i p hp; simp [gv, je, jq, gP] at hp <;> first | (rcases hp with rfl | rfl | rfl | rfl | rfl | rfl <;> decide) | (rcases hp with rfl | rfl | rfl | rfl <;> decide) | (rcases hp with rfl | rfl <;> decide) | (subst hp; decide))
def fh (f : List Int) (p : dz) : List UInt8 := aW (f.getD p.j 0).toNat p.w
def ek (x : RecM) : List UInt8 := (layout x.kind).flatMap (fh x.f) ++ x.data
def bB (x : RecM) : List UInt8 := wrap (UInt8.ofNat x.kind.toNat) (ek x)
structure fO (x : RecM) : Prop where
 ne : layout x.kind ≠ []
 kind : 1 ≤ x.kind ∧ x.kind ≤ 6
 all : ∀ p ∈ layout x.kind, p.lo ≤ x.f.getD p.j 0 ∧ x.f.getD p.j 0 ≤ p.hi
 data : x.data.length ≤ 32768
 bare : x.f = jF x.f
 d6 : x.kind ≠ 6 → x.data = []
theorem iX {x : RecM} (h : cj x = 0) : fO x := by
 unfold cj at h
 by_cases h1 : layout x.kind = []
 ·rw [if_pos h1] at h; cases h
 rw [if_neg h1] at h
 by_cases h2 : (layout x.kind).all (fC x.f) = false
 ·rw [if_pos h2] at h; cases h
 rw [if_neg h2] at h
 by_cases h3 : x.kind = 6 ∧ 32768 < x.data.length
 ·rw [if_pos h3] at h; cases h
 rw [if_neg h3] at h
 by_cases h4 : gL x = true
 ·unfold gL at h4
  rw [decide_eq_true_eq] at h4
  have h2' : (layout x.kind).all (fC x.f) = true := by simpa using h2
  rw [List.all_eq_true] at h2'
  refine ⟨h1, ?_, fun p hp => ?_, ?_, h4.1, fun h6 => ?_⟩
  ·rcases Classical.em (1 ≤ x.kind ∧ x.kind ≤ 6) with h | h
   ·exact h
   ·exact absurd (MH.2 h) h1
  ·have := h2' p hp
   unfold fC at this
   simpa using this
  ·by_cases h6 : x.kind = 6
   ·omega
   ·have := h4.2; rw [if_neg h6] at this; rw [this]; simp
  ·have := h4.2; rw [if_neg h6] at this; exact this
 ·rw [if_neg h4] at h; cases h
theorem oZ (f : List Int) (L : List dz) : (L.flatMap (fh f)).length = total L := by
 induction L with
 | nil => rfl
 | cons p L ih => rw [List.flatMap_cons, List.length_append, ih]; unfold fh; rw [dN]; simp [total]
theorem wP (k : Int) : total (layout k) ≤ 29 := by
 refine od k (P := fun L => total L ≤ 29) ?_ ?_ ?_ ?_ ?_ ?_ ?_ <;> intros <;> decide
theorem sN {x : RecM} (h : fO x) : (ek x).length ≤ 32797 := by
 unfold ek
 rw [List.length_append, oZ]
 have := wP x.kind
 have := h.data
 omega
theorem ad9 {s : St} {x : RecM} {r : aZ} {K : Sl → Int → HP} (h : dM (s.w 0) x r)
  (hE : cj x ≠ 0 → ∀ s', Step [] s s' → K ⟨none, 0, 0⟩ (cj x) s'.H) (hO : cj x = 0 → ∀ s' o, Step [] s s' → Ls bf (s'.w 0) (ek x) o → K o 0 s'.H) : rQ r K s.H := by
 unfold rQ
 have hxl := h.len
 refine bZ fun s1 p1 n1 a1' => ?_
 have e1 := n1.step
 have a1 : At (s1.w 0) p1 0 (bL x.f r.Data) := by rw [← h.f]; exact a1'
 refine fF a1 hxl fun r1 f1 d1 => ?_
 refine yy (x := x) ⟨f1, by rw [d1]; exact (h.st e1).data⟩ fun s2 e2 => ?_
 have e12 := e1.trans e2
 refine bK (fun hne => hE hne s2 e12) (fun heq => ?_)
 have hc := iX heq
 have hO' := hO heq
 have hpl := sN hc
 unfold oT
 have hown : own s = 1152921504606846976 + 1152921504606846976 * s.H.size := rfl
 have hz2 := e12.sz
 refine dm (own s) (by omega) fun s3 pS n3 a3 => ?_
 have e3 := n3.step
 have k3 : jC (own s) (own s + 1) s3 pS [] := ⟨⟨by omega, by omega, by omega⟩, ⟨none, 0, 0⟩, a3, bF.nil⟩
 have a13 := (a1.mono e2.v0).mono e3.v0
 refine tq a13 hxl fun s4 o4 e4 l4 _ => ?_
 have k4 := k3.st e4 (by simp) (by simp)
 have a14 := a13.mono e4.v0
 have es4 : Step [own s, own s + 1] s s4 := (e12.trans (e3.trans e4)).n
 change Ls (pK p1) (s4.w 0) (layout x.kind) o4 at l4
 have hLo := lQ x.kind
 have hLw := L4 x.kind
 have hLL := th x.kind
 have hall := hc.all
 have htot := wP x.kind
 unfold ek at hO' hpl
 generalize layout x.kind = L at *
 have hlen := l4.len
 refine cD (ι := Nat) (fun i => [.int .i64 i]) (fun i s' => i ≤ L.length ∧ Step [own s, own s + 1] s s' ∧ Step [own s, own s + 1] s4 s' ∧ jC (own s) (own s + 1) s' pS ((L.take i).flatMap (fh x.f))) (fun i _ => L.length - i) 0 rfl ⟨Nat.zero_le _, es4, Step.refl, k4⟩ ?_
 rintro i s5 ⟨hi, e5, e45, k5⟩ G hG
 have hz5 := e5.sz
 have hfl := oZ x.f (L.take i)
 have htl : total (L.take i) ≤ total L := by
  unfold total
  conv => rhs; rw [← List.take_append_drop i L]
  rw [List.map_append, List.sum_append]; omega
 have a15 := a14.mono e45.v0
 simp only [List.getD_cons_zero, List.getD_cons_succ, cI, cN, cK, cH, cJ, cO]
 refine aN (fun hlt => ?_) (fun hlt => ?_)
 ·refine bU (Ls.st l4 e45) (by omega) (by omega) fun bx ox p hp hel => ?_
  rw [Int.toNat_natCast] at hp
  obtain ⟨vs, rfl, hat⟩ := hel
  unfold fM
  repeat (first|refine aj ?_|refine av hat rfl ?_|refine aK hat rfl ?_|refine aH hat rfl ?_|refine aI hat rfl ?_|refine aJ hat rfl ?_|refine aC hat rfl ?_)
  refine dQ rfl (by simp [one]) fun s6 p7 e6 a7 => ?_
  have hpm := List.mem_of_getElem? hp
  have hpo := hLo p hpm
  have hpb := hall p hpm
  have hpw := hLw p hpm
  have hj := hpo.j
  have hw := hpo.w
  have hlo := hpo.lo
  have hhi := hpo.hi
  refine aI a7 rfl ?_
  refine aj ?_
  refine zX (a15.mono e6.v0) (fZ (by omega)) ?_
  refine av a7 rfl ?_
  have hv : wr .u64 (x.f.getD p.j 0) = ((x.f.getD p.j 0).toNat : Int) := by rw [jm (by omega) (by omega)]; omega
  rw [hv]
  have hz6 := e6.sz
  refine ye (k5.st e6 (by simp) (by simp)) (by omega) (by omega) (by omega) (by omega) fun s7 e7 k7 => ?_
  rw [aY (by omega) (by omega)]
  refine hG (i + 1) s7 ⟨by omega, e5.trans (e6.n.trans e7), e45.trans (e6.n.trans e7), ?_⟩ (by omega)
  have : (L.take (i + 1)).flatMap (fh x.f) = (L.take i).flatMap (fh x.f) ++ fh x.f p := by rw [List.take_succ, hp, List.flatMap_append]; simp
  rw [this]; exact k7
 ·have : i = L.length := by omega
  subst this
  rw [List.take_of_length_le (Nat.le_refl _)] at k5 hfl
  refine aC a15 (mI hxl) ?_
  have hdl := hc.data
  refine GC k5 (h.st e5).data (by omega) (by omega) fun s6 e6 k6 => ?_
  have es6 := e5.trans e6
  refine yP k6 (by rw [List.length_append]; omega) fun s7 o7 e7 l7 => ?_
  exact hO' s7 o7 ((es6.trans e7.n).vD (Nat.le_refl _)) l7
theorem Ab {s : St} {x : RecM} {r : aZ} {K : Sl → Int → HP} (h : dM (s.w 0) x r)
  (hE : cj x ≠ 0 → ∀ s', Step [] s s' → K ⟨none, 0, 0⟩ (cj x) s'.H) (hO : cj x = 0 → ∀ s' o, Step [] s s' → Ls bf (s'.w 0) (bB x) o → K o 0 s'.H) : lS r K s.H := by
 unfold lS
 have hxl := h.len
 refine bZ fun s1 p1 n1 a1' => ?_
 have e1 := n1.step
 have a1 : At (s1.w 0) p1 0 (bL x.f r.Data) := by rw [← h.f]; exact a1'
 refine fF a1 hxl fun r1 f1 d1 => ?_
 refine ad9 (x := x) ⟨f1, by rw [d1]; exact (h.st e1).data⟩ ?_ ?_
 ·intro hne s2 e2
  exact bK (fun _ => hE hne s2 (e1.trans e2)) (fun h => absurd h hne)
 ·intro heq s2 o2 e2 l2
  refine bK (fun h => absurd rfl h) (fun _ => ?_)
  have hc := iX heq
  have hk := hc.kind
  have hpl := sN hc
  refine av (a1.mono e2.v0) (fZ (by omega)) ?_
  have hkk : x.f.getD 0 0 = ((UInt8.ofNat x.kind.toNat).toNat : Int) := by
   rw [UInt8.toNat_ofNat', Nat.mod_eq_of_lt (by omega)]
   show x.kind = _; omega
  rw [hkk]
  refine RG l2 (by omega) fun s3 o3 e3 l3 => ?_
  exact hO heq s3 o3 ((e1.trans e2).trans e3) l3
theorem Sx {p : List UInt8} {c : UInt8} {r : List UInt8} : rd (p ++ eo c ++ r) p.length = .ok (c, p.length + (eo c).length) := by
 have g : ∀ (v : List UInt8) (j : Nat) (y : UInt8), v[j]? = some y → (p ++ v ++ r)[p.length + j]? = some y := fun v j y h => by
  have hj := (List.getElem?_eq_some_iff.1 h).1
  rw [List.append_assoc, List.getElem?_append_right (by omega), Nat.add_sub_cancel_left, List.getElem?_append_left hj, h]
 by_cases h80 : c = 80
 ·subst h80
  have hv : eo 80 = [81, 0] := rfl
  rw [hv]
  unfold rd
  have g0 := g [81, 0] 0 81 rfl
  have g1 := g [81, 0] 1 0 rfl
  rw [Nat.add_zero] at g0
  rw [g0]; simp only [g1]; rfl
 by_cases h81 : c = 81
 ·subst h81
  have hv : eo 81 = [81, 1] := rfl
  rw [hv]
  unfold rd
  have g0 := g [81, 1] 0 81 rfl
  have g1 := g [81, 1] 1 1 rfl
  rw [Nat.add_zero] at g0
  rw [g0]; simp only [g1]; rfl
 have hv : eo c = [c] := by simp [eo, h80, h81]
 rw [hv]
 unfold rd
 have g0 := g [c] 0 c rfl
 rw [Nat.add_zero] at g0
 rw [g0]
 simp [h80, h81]
theorem B7 : ∀ (l p r out : List UInt8), eR (p ++ bO l ++ r) l.length p.length out = .ok (out ++ l, p.length + (bO l).length)
 | [], p, r, out => by simp [eR, bO]
 | c :: l, p, r, out => by
  have hb : p ++ bO (c :: l) ++ r = p ++ eo c ++ (bO l ++ r) := by rw [lK]; simp
  rw [hb, List.length_cons, eR, Sx]
  simp only
  have := B7 l (p ++ eo c) r (out ++ [c])
  rw [List.length_append] at this
  have hb2 : p ++ eo c ++ (bO l ++ r) = p ++ eo c ++ bO l ++ r := by simp
  rw [hb2, this, lK]
  simp
  omega
theorem NG {c : UInt8} {bn p r : List UInt8} (hp : bn.length ≤ 65536) : gd (p ++ wrap c bn ++ r) p.length = .ok ⟨p.length, (wrap c bn).length, c.toNat, bn⟩ := by
 generalize hcr : crc 0#32 (c :: (aW bn.length 4 ++ bn)) = cr
 have hw : wrap c bn = 80 :: bO (c :: (aW bn.length 4 ++ (aW cr.toNat 4 ++ bn))) := by unfold wrap; rw [hcr]
 have hb0 : (p ++ wrap c bn ++ r)[p.length]? = some 80 := by
  rw [List.append_assoc, List.getElem?_append_right (Nat.le_refl _), Nat.sub_self, hw]; rfl
 have hlt := cr.isLt
 unfold gd
 rw [hb0]
 simp only [if_true]
 have hbb : p ++ wrap c bn ++ r = (p ++ [80]) ++ bO (c :: (aW bn.length 4 ++ (aW cr.toNat 4 ++ bn))) ++ r := by rw [hw]; simp
 have hsp : c :: (aW bn.length 4 ++ (aW cr.toNat 4 ++ bn)) = (c :: aW bn.length 4) ++ (aW cr.toNat 4 ++ bn) := by simp
 have h5 : eR (p ++ wrap c bn ++ r) 5 (p.length + 1) [] = .ok (c :: aW bn.length 4, (p ++ [80]).length + (bO (c :: aW bn.length 4)).length) := by
  rw [hbb, hsp, sj]
  have := B7 (c :: aW bn.length 4) (p ++ [80]) (bO (aW cr.toNat 4 ++ bn) ++ r) []
  simp only [List.length_cons, dN, List.nil_append, List.length_append, List.length_nil] at this ⊢
  rw [show p ++ [80] ++ (bO (c :: aW bn.length 4) ++ bO (aW cr.toNat 4 ++ bn)) ++ r = p ++ [80] ++ bO (c :: aW bn.length 4) ++ (bO (aW cr.toNat 4 ++ bn) ++ r) by simp]
  exact this
 rw [h5]
 simp only
 have g14 : eV (c :: aW bn.length 4) 1 4 = bn.length := by
  have := xX (l := c :: aW bn.length 4) (a := 1) (k := 4) (by decide) (by simp [dN])
  rw [show ((1 : Nat) : Int) = 1 from rfl, show ((4 : Nat) : Int) = 4 from rfl] at this
  rw [this, List.drop_succ_cons, List.drop_zero, List.take_of_length_le (by rw [dN]; exact Nat.le_refl _), wz _ _ (by omega)]
 unfold mV
 rw [g14, if_neg (by omega), Int.toNat_natCast]
 have h9 : eR (p ++ wrap c bn ++ r) (4 + bn.length) ((p ++ [80]).length + (bO (c :: aW bn.length 4)).length) (c :: aW bn.length 4) = .ok ((c :: aW bn.length 4) ++ (aW cr.toNat 4 ++ bn), (p ++ [80]).length + (bO (c :: aW bn.length 4)).length + (bO (aW cr.toNat 4 ++ bn)).length) := by
  have := B7 (aW cr.toNat 4 ++ bn) (p ++ [80] ++ bO (c :: aW bn.length 4)) r (c :: aW bn.length 4)
  rw [List.length_append (as := aW cr.toNat 4), dN, List.length_append (as := p ++ [80])] at this
  rw [hbb, hsp, sj, show p ++ [80] ++ (bO (c :: aW bn.length 4) ++ bO (aW cr.toNat 4 ++ bn)) ++ r = p ++ [80] ++ bO (c :: aW bn.length 4) ++ bO (aW cr.toNat 4 ++ bn) ++ r by simp]
  exact this
 rw [h9]
 simp only
 unfold pW
 have d9 : ((c :: aW bn.length 4) ++ (aW cr.toNat 4 ++ bn)).drop 9 = bn := by
  rw [← List.append_assoc, List.drop_left' (by simp [dN])]
 have t5 : ((c :: aW bn.length 4) ++ (aW cr.toNat 4 ++ bn)).take 5 = c :: aW bn.length 4 := List.take_left' (by simp [dN])
 have g54 : eV ((c :: aW bn.length 4) ++ (aW cr.toNat 4 ++ bn)) 5 4 = cr.toNat := by
  have := xX (l := (c :: aW bn.length 4) ++ (aW cr.toNat 4 ++ bn)) (a := 5) (k := 4) (by decide) (by simp [dN]; omega)
  rw [show ((5 : Nat) : Int) = 5 from rfl, show ((4 : Nat) : Int) = 4 from rfl] at this
  rw [this, List.drop_left' (by simp [dN]), List.take_left' (by rw [dN]), wz _ _ (by omega)]
 rw [d9, t5, g54]
 have hcc : (c :: aW bn.length 4) ++ bn = c :: (aW bn.length 4 ++ bn) := rfl
 rw [hcc, hcr, if_pos rfl]
 have hwl : (wrap c bn).length = 1 + (bO (c :: aW bn.length 4)).length + (bO (aW cr.toNat 4 ++ bn)).length := by
  rw [hw, hsp, sj]; simp only [List.length_cons, List.length_append]; omega
 congr 2
 rw [hwl]
 simp only [List.length_append, List.length_singleton]
 omega
theorem Md (f : List Int) : ∀ (L : List dz) (p r : List UInt8), (∀ q ∈ L, uf q ∧ q.lo ≤ f.getD q.j 0 ∧ f.getD q.j 0 ≤ q.hi ∧ q.hi < ((256 ^ q.w : Nat) : Int)) → jW (p ++ L.flatMap (fh f) ++ r) L p.length = L.map fun q => f.getD q.j 0
 | [], p, r, h => rfl
 | q :: L, p, r, h => by
  obtain ⟨h1, h2, h3, h4⟩ := h q (by simp)
  have hw := h1.w
  have hlo := h1.lo
  rw [jW, List.map_cons]
  have hb : p ++ (q :: L).flatMap (fh f) ++ r = (p ++ fh f q) ++ L.flatMap (fh f) ++ r := by rw [List.flatMap_cons]; simp
  have hl : (fh f q).length = q.w := dN _ _
  congr 1
  ·have := xX (l := p ++ (q :: L).flatMap (fh f) ++ r) (a := p.length) (k := q.w) (by omega) (by rw [hb]; simp [hl] <;> omega)
   rw [this, hb]
   have hd : ((p ++ fh f q ++ L.flatMap (fh f) ++ r).drop p.length).take q.w = fh f q := by
    rw [show p ++ fh f q ++ L.flatMap (fh f) ++ r = p ++ (fh f q ++ (L.flatMap (fh f) ++ r)) by simp, List.drop_left, List.take_left' hl]
   rw [hd]
   unfold fh
   rw [wz _ _ (by omega)]
   omega
  ·have := Md f L (p ++ fh f q) r (fun q' hq => h q' (by simp [hq]))
   rw [List.length_append, hl] at this
   rw [hb]; exact this
theorem Gs (k : Int) (f : List Int) (L : List dz) : fu k L (L.map fun q => f.getD q.j 0) = eC k f L := by
 unfold fu eC
 generalize (k :: List.replicate 10 0 : List Int) = g
 induction L generalizing g with
 | nil => rfl
 | cons q L ih => rw [List.map_cons, List.zip_cons_cons, List.foldl_cons, List.foldl_cons]; exact ih _
theorem Ho (f : List Int) (L : List dz) (h : ∀ q ∈ L, q.lo ≤ f.getD q.j 0 ∧ f.getD q.j 0 ≤ q.hi) : fT L (L.map fun q => f.getD q.j 0) = true := by
 unfold fT
 rw [List.all_eq_true]
 intro y hy
 have : y.2 = f.getD y.1.j 0 ∧ y.1 ∈ L := by
  clear h
  induction L with
  | nil => simp at hy
  | cons q L ih =>
   rw [List.map_cons, List.zip_cons_cons, List.mem_cons] at hy
   rcases hy with rfl | hy
   ·exact ⟨rfl, by simp⟩
   ·obtain ⟨a, b⟩ := ih hy
    exact ⟨a, by simp [b]⟩
 have := h y.1 this.2
 simp_all
theorem YW {x : RecM} (h : fO x) : iC x.kind (ek x) = .ok x := by
 unfold iC
 have hlen : (ek x).length = total (layout x.kind) + x.data.length := by unfold ek; rw [List.length_append, oZ]
 rw [if_neg h.ne, if_neg (by omega)]
 have h3 : ¬(x.kind ≠ 6 ∧ total (layout x.kind) < (ek x).length) := fun hh => by
  have := h.d6 hh.1; rw [this] at hlen; simp at hlen; omega
 have hd := h.data
 rw [if_neg h3, if_neg (by omega)]
 have htv : jW (ek x) (layout x.kind) 0 = (layout x.kind).map fun q => x.f.getD q.j 0 := by
  have := Md x.f (layout x.kind) [] x.data (fun q hq => ⟨lQ _ q hq, (h.all q hq).1, (h.all q hq).2, L4 _ q hq⟩)
  simpa [ek] using this
 rw [htv, if_pos (Ho _ _ h.all), Gs]
 have hf : eC x.kind x.f (layout x.kind) = x.f := h.bare.symm
 rw [hf]
 have hdr : (if x.kind = 6 then (ek x).drop (total (layout x.kind)) else []) = x.data := by
  split
  ·unfold ek; rw [List.drop_left' (oZ _ _)]
  ·rename_i h6; exact (h.d6 h6).symm
 rw [hdr]
theorem Xv {x : RecM} {p r : List UInt8} (h : fO x) : ∃ f, gd (p ++ bB x ++ r) p.length = .ok f ∧ found f = some ⟨p.length, (bB x).length, x⟩ ∧ f.len = (bB x).length ∧ 1 ≤ (bB x).length := by
 have hk := h.kind
 have hpl := sN h
 refine ⟨_, NG (by omega), ?_, rfl, by unfold bB wrap; simp⟩
 unfold found
 have : (((UInt8.ofNat x.kind.toNat).toNat : Nat) : Int) = x.kind := by
  rw [UInt8.toNat_ofNat', Nat.mod_eq_of_lt (by omega)]; omega
 simp only
 rw [this, YW h]
 rfl
def aQ (l : List RecM) : List UInt8 := l.flatMap bB
def dF : Nat → List RecM → List ey
 | _, [] => []
 | i, x :: l => ⟨i, (bB x).length, x⟩ :: dF (i + (bB x).length) l
theorem yL : ∀ (l : List RecM) (n : Nat) (p r : List UInt8), (∀ x ∈ l, fO x) → (aQ l).length ≤ n → ∃ m, n - (aQ l).length ≤ m ∧ (gr (p ++ aQ l ++ r) n p.length).filterMap found = dF p.length l ++ (gr (p ++ aQ l ++ r) m (p.length + (aQ l).length)).filterMap found
 | [], n, p, r, h, hn => ⟨n, by simp [aQ], by simp [aQ, dF]⟩
 | x :: l, n, p, r, h, hn => by
  have hb : p ++ aQ (x :: l) ++ r = p ++ bB x ++ (aQ l ++ r) := by unfold aQ; rw [List.flatMap_cons]; simp
  have hfl : (aQ (x :: l)).length = (bB x).length + (aQ l).length := by unfold aQ; rw [List.flatMap_cons, List.length_append]
  obtain ⟨f, h1, h2, h3, h4⟩ := Xv (p := p) (r := aQ l ++ r) (h x (by simp))
  obtain ⟨n, rfl⟩ : ∃ n', n = n' + 1 := ⟨n - 1, by omega⟩
  rw [gr, if_pos (by rw [hb]; simp; omega), hb, h1]
  simp only
  rw [List.filterMap_cons, h2, h3]
  obtain ⟨m, m1, m2⟩ := yL l n (p ++ bB x) r (fun y hy => h y (by simp [hy])) (by omega)
  rw [List.length_append] at m2
  rw [show p ++ bB x ++ (aQ l ++ r) = p ++ bB x ++ aQ l ++ r by simp, m2]
  refine ⟨m, by omega, ?_⟩
  rw [hfl, dF]
  simp only [List.cons_append]
  rw [Nat.add_assoc]
theorem BN (l : List RecM) (h : ∀ x ∈ l, fO x) : gB (aQ l) = dF 0 l := by
 obtain ⟨m, m1, m2⟩ := yL l (aQ l).length [] [] h (Nat.le_refl _)
 simp only [List.nil_append, List.append_nil, List.length_nil, Nat.zero_add] at m2
 unfold gB frames
 rw [m2, EZ m _ (Nat.le_refl _)]
 simp
end Go.Ph
end
section
set_option linter.all false
namespace Go.Ph
open S
theorem uJ {s : St} {q : Nat} {l : List UInt8} {bs : ByteArray} {d : Sl} {K : Int → HP} (hd : bz bf (s.w 0) (s.w q) l d) (hq0 : q ≠ 0)
  (hK : ∀ s', Step [q] s s' → s'.H.size = s.H.size → bz bf (s'.w 0) (s'.w q) (bs.data.toList.take (min bs.size l.length) ++ l.drop (min bs.size l.length)) d → (∀ a, d.a = some a → ∀ x i, ¬(x = a.block ∧ a.off ≤ i ∧ i < a.off + min bs.size l.length) → s'.c x i = s.c x i ∧ pk s'.H x i = pk s.H x i) → K (min bs.size l.length : Nat) s'.H) : oq d bs K s.H := by
 have hdl := hd.len
 have hc : min bs.size d.len = min bs.size l.length := by rw [hdl]
 unfold oq m8
 rw [hc]
 generalize hcc : min bs.size l.length = c at *
 obtain ⟨m, hm⟩ : ∃ m : List UInt8, m = bs.data.toList.take c := ⟨_, rfl⟩
 have hbl : bs.data.toList.length = bs.size := dw bs
 have hml : m.length = c := by rw [hm, List.length_take]; omega
 obtain ⟨new, hnew⟩ : ∃ new, new = dO (bs.extract 0 c) := ⟨_, rfl⟩
 have hnm : new = m.map fun x => Value.int .u8 x.toNat := by
  rw [hnew, hm]; unfold dO; rw [nr]; simp
 rw [← hnew]
 have n1 : new.length = c * 1 := by rw [hnm, List.length_map]; omega
 have n3 : ∀ v ∈ new, one v = true := by intro v hv; rw [hnm] at hv; simp at hv; obtain ⟨a, _, rfl⟩ := hv; rfl
 have n4 : ∀ (W : View) (b o : Nat), At W b o new → ∀ j x, m[j]? = some x → El bf (s.w 0) W x b (o + j * bf.n) := fun W b o h j x hj => by
  refine ⟨[.int .u8 x.toNat], rfl, fun i v hi => ?_⟩
  have e : i = 0 := by cases i with | zero => rfl | succ i => simp at hi
  subst e
  simp at hi; subst hi
  have := h j (.int .u8 x.toNat) (by rw [hnm, List.getElem?_map, hj]; rfl)
  simpa [bf] using this
 rw [← hm] at hK
 have htn : bf.n = 1 := rfl
 cases e : d.a with
 | none =>
  have h0 := hd.nil e
  have hcap := hd.cap
  have hl0 : l = [] := List.eq_nil_of_length_eq_zero (by omega)
  subst hl0
  have hc0 : c = 0 := by simp at hcc; omega
  subst hc0
  have hm0 : m = [] := List.eq_nil_of_length_eq_zero hml
  subst hm0
  exact hK s Step.refl rfl (by simpa using hd) (fun _ _ _ _ _ => ⟨rfl, rfl⟩)
 | some a =>
  obtain ⟨g1, g2⟩ := hd.at_ a e
  by_cases hl0 : l = []
  ·subst hl0
   have hc0 : c = 0 := by simp at hcc; omega
   have hnew : new = [] := List.eq_nil_of_length_eq_zero (by omega)
   have hm0 : m = [] := List.eq_nil_of_length_eq_zero (by omega)
   rw [hnew]
   subst hc0 hm0
   exact hK s Step.refl rfl (by simpa using hd) (fun _ _ _ _ _ => ⟨rfl, rfl⟩)
  obtain ⟨b, o, sp⟩ := a
  have g1 := g1 (by have := hd.cap; have := List.length_pos_iff.2 hl0; omega)
  simp at g1; subst g1
  simp only at g2 ⊢
  have hnl : new.length = c := by omega
  have hcells : ∀ j, j < new.length → ∃ v0, s.w q b (o + 0 + j) = some (.v v0) := fun j hj => by
   obtain ⟨ws, w1, w2⟩ := g2 j _ (List.getElem?_eq_getElem (by omega))
   have hwl := bf.len w1
   have := w2 0 _ (List.getElem?_eq_getElem (by omega))
   rw [htn, Nat.mul_one, Nat.add_zero] at this
   exact ⟨_, by rw [Nat.add_zero]; exact this⟩
  have hqlt : new.length ≠ 0 → q < 1152921504606846976 + 1152921504606846976 * s.H.size := fun h => by
   obtain ⟨v0, hv0⟩ := hcells 0 (by omega)
   rw [← (bY hv0).2]; exact s.wf _ _ (mq hv0)
  have hcl : c ≤ l.length := by omega
  by_cases hz : new.length = 0
  ·have h0 : new = [] := List.eq_nil_of_length_eq_zero hz
   have hc0 : c = 0 := by omega
   have hm0 : m = [] := List.eq_nil_of_length_eq_zero (by omega)
   rw [h0]
   simp only [aq]
   refine hK s Step.refl rfl ?_ (fun _ _ _ _ _ => ⟨rfl, rfl⟩)
   rw [hm0, hc0]; simpa using hd
  ·refine kJ (k := q) (k' := q) new hcells n3 (hqlt hz) hq0 fun s' h' => ?_
   have hst : Step [q] s s' := h'.step (q := q) (by simp) hq0 fun j hj => by
    obtain ⟨v, hv⟩ := hcells j hj
    exact (bY hv).2
   refine hK s' hst h'.sz ⟨by rw [List.length_append, List.length_drop]; omega, hd.cap, hd.nil, fun a ha => ?_⟩ (fun a ha x i hn => by
    rw [e] at ha; simp at ha; subst ha
    refine h'.old x i fun ⟨q1, q2, q3⟩ => hn ⟨q1, q2, ?_⟩
    simp only; omega)
   rw [e] at ha; simp at ha; subst ha
   refine ⟨fun _ => rfl, fun j y hj => ?_⟩
   simp only
   by_cases ej : j < c
   ·rw [List.getElem?_append_left (by omega)] at hj
    have := n4 (s'.w q) b o (by have := h'.here; rwa [Nat.add_zero] at this) j y hj
    exact this.mono hst.v0 (eE.refl _)
   ·rw [List.getElem?_append_right (by omega), List.getElem?_drop] at hj
    rw [show c + (j - m.length) = j by omega] at hj
    obtain ⟨ws, w1, w2⟩ := g2 j y hj
    refine ⟨ws, bf.mono hst.v0 w1, fun a v hav => ?_⟩
    have hu := w2 a v hav
    have := h'.old b (o + j * bf.n + a) (fun ⟨_, h1, h2⟩ => by rw [htn] at h2; omega)
    exact dP (this.2.trans (bY hu).1) (this.1.trans (bY hu).2)
theorem Wa {s : St} {x y : ByteArray} {K : ByteArray → HP} (hz : x.size + y.size ≤ 1000000000) (hK : ∀ s', Step [] s s' → K (x ++ y) s'.H) : kM ⟨x.size, y⟩ x K s.H := by
 unfold kM
 refine bZ fun s1 p1 n1 a1' => ?_
 have a1 : At (s1.w 0) p1 0 [.int .i64 (x.size : Nat), .string y] := a1'
 have e1 := n1.step
 have hz1 := e1.sz
 have hq0 : own s ≠ 0 := by unfold own; omega
 repeat (first|refine aj ?_|refine av a1 rfl ?_|refine aK a1 rfl ?_|refine aH a1 rfl ?_|refine aI a1 rfl ?_|refine aJ a1 rfl ?_|refine aC a1 rfl ?_)
 rw [aY (by omega) (by omega)]
 have hif : (if (x.size : Int) + (y.size : Int) > (x.size : Nat) then (x.size : Int) + (y.size : Int) else (x.size : Nat)) = ((x.size + y.size : Nat) : Int) := by split <;> omega
 simp only [hif]
 refine vz (t := bf) (z := (0 : UInt8)) (own s) (by unfold own; omega) rfl (by omega) (by omega) (by omega) fun s2 o e2 z2 l2 => ?_
 rw [Int.toNat_natCast] at l2
 have hol := l2.len
 have hoc := l2.cap
 rw [List.length_replicate] at hol
 refine uJ l2 hq0 fun s3 e3 z3 l3 hf3 => ?_
 have hmin : min x.size (List.replicate (x.size + y.size) (0 : UInt8)).length = x.size := by rw [List.length_replicate]; omega
 rw [hmin] at l3 hf3
 have ht : x.data.toList.take x.size = x.data.toList := List.take_of_length_le (by rw [dw]; exact Nat.le_refl _)
 rw [ht, List.drop_replicate, Nat.add_sub_cancel_left] at l3
 have a13 := (a1.mono e2.v0).mono e3.v0
 refine av (n := (x.size : Int)) a13 rfl ?_
 have es3 : Step [own s] s s3 := (e1.trans e2).n.trans e3
 have hll : (x.data.toList ++ List.replicate y.size (0 : UInt8)).length = x.size + y.size := by rw [List.length_append, dw, List.length_replicate]
 have fin : ∀ s' l, Step [own s] s3 s' → bz bf (s'.w 0) (s'.w (own s)) l o → l = x.data.toList ++ y.data.toList → ef o (fun t => K t) s'.H := fun s' l e hl hh => by
  refine k8 hl ?_
  have : (⟨l.toArray⟩ : ByteArray) = x ++ y := by rw [hh]; apply mM; simp
  rw [this]
  exact hK s' ((es3.trans e).loc)
 by_cases hy0 : y.size = 0
 ·have hye : y.data.toList = [] := List.eq_nil_of_length_eq_zero (by rw [dw]; exact hy0)
  refine ⟨⟨by omega, by omega, by omega, Int.le_refl _⟩, ?_⟩
  refine aH a13 rfl ?_
  have hsl : ∀ (aa : Option Addr) (cc : Nat), oq (⟨aa, (o.len : Int).toNat - (x.size : Int).toNat, cc⟩ : Sl) y (fun _ => ef o fun t27 => K t27) s3.H := fun aa cc => by
   unfold oq m8
   have h0 : min y.size ((o.len : Int).toNat - (x.size : Int).toNat) = 0 := by omega
   rw [h0]
   have hb0 : dO (y.extract 0 0) = [] := by unfold dO; rw [nr]; simp
   cases aa with
   | none => exact fin s3 _ Step.refl l3 (by rw [hy0, hye]; rfl)
   | some aa =>
    show aq aa 0 (dO (y.extract 0 0)) _ _
    rw [hb0]
    exact fin s3 _ Step.refl l3 (by rw [hy0, hye]; rfl)
  exact hsl _ _
 ·obtain ⟨b, off, ha⟩ := Ls.lt l3 (j := 0) (by omega)
  refine uk l3 ha (by omega) (by omega) (by omega) (by omega) (Int.le_refl _) (by omega) fun sub hsub hsc hsa => ?_
  have hsl : ((x.data.toList ++ List.replicate y.size (0 : UInt8)).take ((o.len : Nat) : Int).toNat).drop ((x.size : Nat) : Int).toNat = List.replicate y.size 0 := by
   rw [Int.toNat_natCast, Int.toNat_natCast, List.take_of_length_le (by omega), List.drop_left' (dw x)]
  rw [hsl] at hsub
  refine aH a13 rfl ?_
  refine uJ hsub hq0 fun s4 e4 z4 l4 hf4 => ?_
  have hmin2 : min y.size (List.replicate y.size (0 : UInt8)).length = y.size := by rw [List.length_replicate]; omega
  rw [hmin2] at l4 hf4
  have hdr : (List.replicate y.size (0 : UInt8)).drop y.size = [] := by simp
  rw [List.take_of_length_le (by rw [dw]; exact Nat.le_refl _), hdr, List.append_nil] at l4
  have hsa' : sub.a = some ⟨b, off + x.size * bf.n, none⟩ := by rw [hsa, Int.toNat_natCast]
  refine fin s4 _ e4 (zY (i := x.size) (c := y.size) l3 ha e4 l4 hsa' (by rw [hll, dw]) (by rw [dw]; exact Nat.le_refl _) (fun z j hn => hf4 _ hsa' z j (fun ⟨q1, q2, q3⟩ => hn ⟨q1, q2, by rw [show bf.n = 1 from rfl] at *; simp only at q3; omega⟩))) ?_
  rw [List.take_left' (dw x)]
end Go.Ph
end
section
set_option linter.all false
namespace Go.Ph
open S
namespace R
def cm (d : ah) (e : aR) : Int := match d.files[e.aO.toNat]? with | some f => f.now.size | none => 0
def free (d : ah) : Int := d.cap - (d.now.map (cm d)).sum
def ew (d : ah) (i : Nat) (f : dV) : ah := { d with files := d.files.set i f }
def append (d : ah) (n : ByteArray) (b : ByteArray) : ah × Int :=
 if (begin d).2 ≠ 0 then begin d else if find (begin d).1.now n < 0 then ((begin d).1, 7) else
 match (begin d).1.files[(find (begin d).1.now n).toNat]? with
 | none => ((begin d).1, 7)
 | some f => if free (begin d).1 < b.size then ((begin d).1, 10) else (ew (begin d).1 (find (begin d).1.now n).toNat ⟨f.now ++ b, f.sure, f.waits ++ [⟨f.now.size, b⟩]⟩, 0)
def sync (d : ah) (n : ByteArray) : ah × Int :=
 if (begin d).2 ≠ 0 then begin d else if find (begin d).1.now n < 0 then ((begin d).1, 7) else
 match (begin d).1.files[(find (begin d).1.now n).toNat]? with
 | none => ((begin d).1, 7)
 | some f => (ew (begin d).1 (find (begin d).1.now n).toNat ⟨f.now, f.now, []⟩, 0)
end R
theorem LA {N : Nat} {m : List (ByteArray × Int)} {l : List aR} (h : eS N m l) {x : ByteArray × Int} (hx : x ∈ m) : look m x.1 = some x.2 := by
 cases e : look m x.1 with
 | none => exact absurd rfl (qt e x hx)
 | some i =>
  have h1 := nU e
  have h2 := (h.mem x.1 x.2).1 hx
  have h3 := (h.mem x.1 i).1 h1
  have := congrArg (fun z : aR => z.aO) (h.good.inj h2 h3 rfl)
  simp only at this
  rw [this]
theorem Hs {l m : List Int} (h : l.Perm m) : l.sum = m.sum := by
 induction h with
 | nil => rfl
 | cons x _ ih => simp [ih]
 | swap x y l => simp only [List.sum_cons]; omega
 | trans _ _ ih1 ih2 => rw [ih1, ih2]
theorem G5 {v : bC} {d : ah} (h : dI v d) : V.free v = R.free d := by
 have hn := h.ns.1
 unfold V.free R.free
 rw [h.room.1]
 congr 1
 let g : ByteArray → Int := fun n => match look v.seen n with | some i => V.size v i | none => 0
 have e1 : (v.seen.map fun x => V.size v x.2) = (v.seen.map (·.1)).map g := by
  rw [List.map_map]
  apply List.map_congr_left
  intro x hx
  show V.size v x.2 = g x.1
  simp only [g, LA hn hx]
 have e2 : d.now.map (R.cm d) = (d.now.map (·.Name)).map g := by
  rw [List.map_map]
  apply List.map_congr_left
  intro e he
  have hm := (hn.mem e.Name e.aO).2 he
  have hr := hn.good.cQ e he
  have hl := LA hn hm
  show R.cm d e = g e.Name
  simp only at hl
  simp only [g, hl]
  unfold R.cm V.size
  have hlt : e.aO.toNat < v.nodes.length := by omega
  have hlt2 : e.aO.toNat < d.files.length := by rw [← h.nodes.1]; exact hlt
  have := h.cont e.aO.toNat _ _ (List.getElem?_eq_getElem hlt) (List.getElem?_eq_getElem hlt2) (.inl ⟨e.Name, by rw [Int.toNat_of_nonneg hr.1]; exact hm⟩)
  rw [List.getElem?_eq_getElem hlt, List.getElem?_eq_getElem hlt2]
  simp only
  rw [this.1]
 rw [e1, e2]
 have hp : (v.seen.map (·.1)).Perm (d.now.map (·.Name)) := by
  rw [← hn.names]; exact (List.mergeSort_perm _ _).symm
 exact Hs (hp.map g)
theorem abA {v : bC} {d : ah} (h : dI v d) {j : Nat} {x : cn} {n : ByteArray} (hx : v.nodes[j]? = some x) (hn : (n, (j : Int)) ∈ v.seen) : (x.seen.size : Int) + V.free v ≤ 4194304 := by
 have hr := h.room
 unfold V.free
 have hle : (x.seen.size : Int) ≤ (v.seen.map fun y => V.size v y.2).sum := by
  have h0 : ∀ y ∈ v.seen, 0 ≤ V.size v y.2 := fun y _ => (V.Gj (fun z hz => (h.sizes z hz).seen) y.2).1
  have hs : V.size v (j : Int) = x.seen.size := by unfold V.size; rw [Int.toNat_natCast, hx]
  generalize v.seen = m at *
  induction m with
  | nil => cases hn
  | cons y m ih =>
   rw [List.map_cons, List.sum_cons]
   have hm0 : 0 ≤ (m.map fun y => V.size v y.2).sum := by
    clear ih hn
    induction m with
    | nil => simp
    | cons z m ih =>
     rw [List.map_cons, List.sum_cons]
     have := h0 z (by simp)
     have := ih fun w hw => h0 w (by
      simp only [List.mem_cons] at hw ⊢
      rcases hw with hw | hw
      ·exact .inl hw
      ·exact .inr (.inr hw))
     omega
   rcases List.mem_cons.1 hn with rfl | hn
   ·simp only [hs]; omega
   ·have := ih hn fun w hw => h0 w (by simp [hw])
    have := h0 y (by simp)
    omega
 omega
theorem FY {v : bC} {d : ah} {j : Nat} {x x' : cn} {f f' : dV} (h : dI v d) (hx : v.nodes[j]? = some x) (hf : d.files[j]? = some f) (hs : tA x' f') (hfr : x'.fresh = x.fresh) (hok : kZ d.calls x') : dI { v with nodes := v.nodes.set j x' } (R.ew d j f') := by
 obtain ⟨g1, g2, g3, g4, g5, g6, g7, g8, g9, g10, g11, g12, g13, g14, g15⟩ := h
 have hjl := (List.getElem?_eq_some_iff.1 hx).1
 refine ⟨g1, g2, g3, g4, g5, g6, ⟨by simp [R.ew, g7.1], by simp only [R.ew, List.length_set]; exact g7.2⟩, g8, g9, g10, fun i hi => by simp only [R.ew, List.length_set]; exact g11 i hi, ?_, fun t ht => by simp only [List.length_set]; exact g13 t ht, ?_, ?_⟩
 ·intro i y hy
  by_cases e : j = i
  ·subst e
   simp only [List.getElem?_set_self hjl, Option.some.injEq] at hy
   subst hy
   rw [hfr]
   exact g12 j x hx
  ·simp only [List.getElem?_set_ne e] at hy
   exact g12 i y hy
 ·intro i y w hy hw hk
  by_cases e : j = i
  ·subst e
   simp only [List.getElem?_set_self hjl, Option.some.injEq] at hy
   simp only [R.ew, List.getElem?_set_self (show j < d.files.length by omega), Option.some.injEq] at hw
   subst hy hw
   exact hs
  ·simp only [List.getElem?_set_ne e] at hy
   simp only [R.ew, List.getElem?_set_ne e] at hw
   refine g14 i y w hy hw ?_
   rcases hk with hk | hk | ⟨z, hz, hz2⟩
   ·exact .inl hk
   ·exact .inr (.inl hk)
   ·simp only [List.getElem?_set_ne e] at hz
    exact .inr (.inr ⟨z, hz, hz2⟩)
 ·intro y hy
  rcases List.mem_or_eq_of_mem_set hy with h1 | rfl
  ·exact g15 y h1
  ·exact hok
theorem agz {k : Nat} {s : St} {b : Nat} {v : bC} {ps : List (Option Addr)} {j : Nat} {x : cn} {bs : ByteArray} {K : Int → HP} (h : dx k s b v ps) (hv : v.Ok) (hx : v.nodes[j]? = some x) (hnl : v.nodes.length ≤ 1000000000000) (hbs : bs.size ≤ 100000000) (hpl : x.cF.length ≤ 1000000000000) (hko : Ko k s)
  (h0 : V.free v < bs.size → ∀ s', Step [] s s' → dx k s' b v ps → K 10 s'.H)
  (h1 : ¬ V.free v < bs.size → ∀ s', Step (dk k) s s' → dx k s' b { v with nodes := v.nodes.set j { x with seen := x.seen ++ bs, cF := x.cF ++ [⟨x.seen.size, bs⟩] } } ps → K 0 s'.H) :
  tC (some ⟨b, 0, none⟩) (j : Int) ⟨x.seen.size, bs⟩ K s.H := by
 unfold tC
 have hxs := hv.sizes x (List.mem_of_getElem? hx)
 have hjl := (List.getElem?_eq_some_iff.1 hx).1
 refine bZ fun s1 p5 n1 a5' => ?_
 have e1 := n1.step
 have a5 : At (s1.w 0) p5 0 [.int .i64 (x.seen.size : Nat), .string bs] := a5'
 have hh := h.st e1 (by simp)
 obtain ⟨k0, ⟨n, m, ms, mu, g1, g2, g3, ⟨es, cl, g4⟩, g5⟩, g6⟩ := hh
 obtain ⟨p, hp, nd⟩ := g6.at_ j x hx
 obtain ⟨psl, na, nb⟩ := nd.at_
 repeat (first|refine aj ?_|refine av g1 rfl ?_|refine aK g1 rfl ?_|refine aH g1 rfl ?_|refine aI g1 rfl ?_|refine aJ g1 rfl ?_|refine aC g1 rfl ?_)
 have hnn := g2.ls.len
 have hpsl := g6.len
 refine bU g2.ls (by omega) (by omega) fun bx ox pp hpp hel => ?_
 have : pp = some ⟨p, 0, none⟩ := by rw [Int.toNat_natCast, hp] at hpp; exact (Option.some.inj hpp).symm
 subst this
 obtain ⟨vs, rfl, hat⟩ := hel
 refine dR hat rfl ?_
 unfold jb
 repeat (first|refine aj ?_|refine av a5 rfl ?_|refine aK a5 rfl ?_|refine aH a5 rfl ?_|refine aI a5 rfl ?_|refine aJ a5 rfl ?_|refine aC a5 rfl ?_)
 refine aH na rfl ?_
 refine Wa (by omega) fun s2 e2 => ?_
 have na2 := na.mono (e2.view (k := k + 10 + 2 * j) (by simp))
 refine aj ?_
 refine aH na2 rfl ?_
 have e12 := e1.trans e2
 have h2 := h.st e12 (by simp)
 refine Is h2.q hv.room hv.seen hv.names hv.sizes hnl (hko.mono e12) fun s3 e3 => ?_
 have na3 := na2.mono (e3.view (by simp))
 refine fD (aH na3 rfl rfl) ?_
 have e13 := e12.trans e3
 have hsz : (((x.seen ++ bs).size : Nat) : Int) - (x.seen.size : Nat) = bs.size := by rw [ByteArray.size_append]; omega
 rw [hsz, aY (by omega) (by omega)]
 have h3 := h.st e13 (by simp)
 refine aN (fun hfr => ?_) (fun hfr => ?_)
 ·exact h0 hfr s3 e13 h3
 have hk1 : k + 10 + 2 * j ≠ 0 := by omega
 refine aj ?_
 refine cP na3 (by simp) rfl hk1 (fun s4 e4 z4 a4 _ => ?_)
 refine aj ?_
 refine aC a4 rfl ?_
 have a54 := ((a5.mono e2.v0).mono e3.v0).mono e4.v0
 repeat (first|refine aj ?_|refine av a54 rfl ?_|refine aK a54 rfl ?_|refine aH a54 rfl ?_|refine aI a54 rfl ?_|refine aJ a54 rfl ?_|refine aC a54 rfl ?_)
 have hz13 := e13.sz
 refine dm 1 (by omega) fun s5 p43 n5 a43 => ?_
 have e5 := n5.step
 have a45 := a4.mono (e5.view (k := k + 10 + 2 * j) (by simp))
 refine fD (aC a45 rfl rfl) ?_
 have nb5 : bF EE (k + 10 + 2 * j + 1) s5 x.cF psl := (((nb.st e2 (by simp)).st e3 (by simp)).st e4 (by simp)).st e5 (by simp)
 have hz5 := e5.sz
 have hkoo := hko
 unfold Ko own at hkoo
 refine jl (kx := 1) nb5 (Ls.single (x := (⟨x.seen.size, bs⟩ : ny)) rfl a43) (fun s6 o6 e6 b6 => ?_) rfl rfl (by simp; omega) (by simp; omega) (by omega) (by omega)
 have a46 := a45.mono (e6.view (k := k + 10 + 2 * j) (by simp))
 refine aj ?_
 refine cP a46 (by simp) rfl hk1 (fun s7 e7 z7 a7 _ => ?_)
 have e37 : Step [k + 10 + 2 * j, k + 11 + 2 * j] s3 s7 := by
  have q1 : Step [k + 10 + 2 * j, k + 11 + 2 * j] s3 s5 := (e4.trans e5.n).mono (by simp)
  have q2 : Step [k + 10 + 2 * j, k + 11 + 2 * j] s5 s6 := e6.mono (by simp; omega)
  have q3 : Step [k + 10 + 2 * j, k + 11 + 2 * j] s6 s7 := e7.mono (by simp)
  exact (q1.trans q2).trans q3
 have hjb : 2 * j + 11 < 1125899906842624 := by omega
 have e37d : Step (dk k) s3 s7 := e37.mono (by intro y hy; simp at hy; rw [fk]; omega)
 refine h1 hfr s7 (e13.n.trans e37d) ?_
 obtain ⟨k0', ⟨n', m', ms', mu', q1, q2, q3, ⟨es', cl', q4⟩, q5⟩, q6⟩ := h3
 have c : ∀ i, i < 10 → k + i ∉ [k + 10 + 2 * j, k + 11 + 2 * j] := by intro i hi; simp; omega
 refine ⟨k0', ⟨n', m', ms', mu', q1.mono (e37.view (by simpa using c 0 (by decide))), q2.st e37 (c 1 (by decide)), q3.st e37 (c 2 (by decide)), ⟨es', cl', q4.st e37 (c 3 (by decide))⟩, q5.st e37 (c 4 (by decide))⟩, ?_⟩
 exact q6.bG hx hp e37 ⟨o6, a7, b6.st e7 (by simp)⟩
end Go.Ph
end
section
set_option linter.all false
namespace Go.Ph
open S
theorem there {v : bC} {d : ah} {n : ByteArray} {i : Int} (h : dI v d) (hl : look v.seen n = some i) : ∃ (j : Nat) (x : cn) (f : dV), i = j ∧ v.nodes[j]? = some x ∧ d.files[j]? = some f ∧ tA x f ∧ R.find d.now n = j ∧ (n, (j : Int)) ∈ v.seen := by
 obtain ⟨f1, f2, f3, f4⟩ := (h.ns.1.find n).1 i hl
 obtain ⟨j, rfl⟩ := Int.eq_ofNat_of_zero_le f2
 have hlt : j < v.nodes.length := by omega
 have hlt2 : j < d.files.length := by rw [← h.nodes.1]; exact hlt
 have hm := nU hl
 exact ⟨j, _, _, rfl, List.getElem?_eq_getElem hlt, List.getElem?_eq_getElem hlt2, h.cont j _ _ (List.getElem?_eq_getElem hlt) (List.getElem?_eq_getElem hlt2) (.inl ⟨n, hm⟩), f1, hm⟩
theorem F7 {v : bC} {n : ByteArray} : (look v.seen n = none ∧ (V.find v n).2 = 7) ∨ ∃ i, look v.seen n = some i ∧ V.find v n = (i, 0) := by
 unfold V.find
 cases e : look v.seen n with
 | none => exact .inl ⟨rfl, rfl⟩
 | some i => exact .inr ⟨i, rfl, rfl⟩
theorem abU {k : Nat} {s : St} {b : Nat} {d : ah} {n : ByteArray} {bs : List UInt8} {sl : Sl} {K : Int → HP} (h : DV k s b d) (hb : Ls bf (s.w 0) bs sl) (hbl : bs.length ≤ 100000000) (hc2 : d.calls + 2 < 1000000000000 - 1024) (hko : Ko k s)
  (hK : ∀ s', Step (dk k) s s' → DV k s' b (R.append d n (ba bs)).1 → K (R.append d n (ba bs)).2 s'.H) : tL (some ⟨b, 0, none⟩) n sl K s.H := by
 have hc : d.calls < 1000000000000 - 1024 := by omega
 obtain ⟨v, ps, hv, hs⟩ := h
 obtain ⟨b1, b2, b3, b4, b5, b6, b7, b8⟩ := nZ hs hc
 unfold tL
 refine Cp hv (hs.jz hc) fun s1 e1 h1 => ?_
 unfold R.append at hK
 have hfv : V.find v n = V.find (V.change v).1 n := by unfold V.find; rw [b4]
 by_cases hz : (V.change v).2 = 0
 case neg =>
  rw [if_neg hz, if_neg hz]
  rw [b2] at hz ⊢
  rw [if_pos hz] at hK
  refine bK (fun _ => hK s1 (e1.mono ia) ⟨_, ps, h1, b1⟩) (fun h0 => absurd h0 hz)
 rw [if_pos hz, if_pos hz, hfv]
 rw [b2] at hz
 rw [if_neg (by simpa using hz)] at hK
 rcases F7 (v := (V.change v).1) (n := n) with ⟨q1, q2⟩ | ⟨i, q1, q2⟩
 ·rw [q2]
  have := (b1.ns.1.find n).2 q1
  rw [if_pos (by omega)] at hK
  refine bK (fun _ => hK s1 (e1.mono ia) ⟨_, ps, h1, b1⟩) (fun h0 => absurd h0 (by decide))
 ·rw [q2]
  obtain ⟨j, x, f, rfl, hx, hf, hsm, hfd, hmem⟩ := there b1 q1
  rw [hfd, if_neg (by omega), Int.toNat_natCast, hf] at hK
  simp only at hK
  refine bK (fun h0 => absurd rfl h0) (fun _ => ?_)
  have hok := hs.jz hc
  have hnl : (V.change v).1.nodes.length ≤ 1000000000000 := by rw [b3]; exact hok.nodes
  obtain ⟨k0, ⟨nn, m, ms, mu, g1, g2, g3, ⟨es, cl, g4⟩, g5⟩, g6⟩ := h1
  have h1 : dx k s1 b (V.change v).1 ps := ⟨k0, ⟨nn, m, ms, mu, g1, g2, g3, ⟨es, cl, g4⟩, g5⟩, g6⟩
  obtain ⟨p, hp, nd⟩ := g6.at_ j x hx
  obtain ⟨psl, na, nb⟩ := nd.at_
  repeat (first|refine aj ?_|refine av g1 rfl ?_|refine aK g1 rfl ?_|refine aH g1 rfl ?_|refine aI g1 rfl ?_|refine aJ g1 rfl ?_|refine aC g1 rfl ?_)
  have hnn := g2.ls.len
  have hpsl := g6.len
  have hjl := (List.getElem?_eq_some_iff.1 hx).1
  refine bU g2.ls (by omega) (by omega) fun bx ox pp hpp hel => ?_
  have : pp = some ⟨p, 0, none⟩ := by rw [Int.toNat_natCast, hp] at hpp; exact (Option.some.inj hpp).symm
  subst this
  obtain ⟨vs, rfl, hat⟩ := hel
  refine dR hat rfl ?_
  refine aj ?_
  refine aH na rfl ?_
  refine k8 (Ls.st hb e1) ?_
  have hbs : (⟨bs.toArray⟩ : ByteArray) = ba bs := rfl
  rw [hbs]
  have hxo : kZ d.calls x := by rw [b3] at hx; exact hs.sizes x (List.mem_of_getElem? hx)
  have hxl := hxo.len
  have hvok1 : (V.change v).1.Ok := b1.jz (by
   have := hs.count; have := b8 hz; omega)
  refine agz h1 hvok1 hx hnl (by rw [iL]; exact hbl) (by omega) (hko.mono e1) ?_ ?_
  ·intro hfr s2 e2 h2
   rw [G5 b1] at hfr
   rw [if_pos hfr] at hK
   exact hK s2 ((e1.trans e2.n).mono ia) ⟨_, ps, h2, b1⟩
  ·intro hfr s2 e2 h2
   have hsf := abA b1 hx hmem
   rw [G5 b1] at hfr hsf
   rw [if_neg hfr] at hK
   have hcal := (b8 hz).2
   refine hK s2 ((e1.mono ia).trans e2) ⟨_, ps, h2, FY b1 hx hf ⟨by simp only [hsm.1], hsm.2.1, ?_⟩ rfl ⟨?_, hxo.sure, ?_, ?_⟩⟩
   ·simp only [List.map_append, hsm.2.2, List.map_cons, List.map_nil, pm, hsm.1]
   ·simp only [ByteArray.size_append]; omega
   ·intro q hq
    simp only [List.mem_append, List.mem_singleton] at hq
    rcases hq with hq | rfl
    ·exact hxo.cF q hq
    ·simp only; omega
   ·simp only [List.length_append, List.length_singleton]; omega
theorem adF {k : Nat} {s : St} {b : Nat} {d : ah} {n : ByteArray} {K : Int → HP} (h : DV k s b d) (hc2 : d.calls + 2 < 1000000000000 - 1024) (hko : Ko k s)
  (hK : ∀ s', Step (dk k) s s' → DV k s' b (R.sync d n).1 → K (R.sync d n).2 s'.H) : sW (some ⟨b, 0, none⟩) n K s.H := by
 have hc : d.calls < 1000000000000 - 1024 := by omega
 obtain ⟨v, ps, hv, hs⟩ := h
 obtain ⟨b1, b2, b3, b4, b5, b6, b7, b8⟩ := nZ hs hc
 unfold sW
 refine Cp hv (hs.jz hc) fun s1 e1 h1 => ?_
 unfold R.sync at hK
 have hfv : V.find v n = V.find (V.change v).1 n := by unfold V.find; rw [b4]
 by_cases hz : (V.change v).2 = 0
 case neg =>
  rw [if_neg hz, if_neg hz]
  rw [b2] at hz ⊢
  rw [if_pos hz] at hK
  refine bK (fun _ => hK s1 (e1.mono ia) ⟨_, ps, h1, b1⟩) (fun h0 => absurd h0 hz)
 rw [if_pos hz, if_pos hz, hfv]
 rw [b2] at hz
 rw [if_neg (by simpa using hz)] at hK
 rcases F7 (v := (V.change v).1) (n := n) with ⟨q1, q2⟩ | ⟨i, q1, q2⟩
 ·rw [q2]
  have := (b1.ns.1.find n).2 q1
  rw [if_pos (by omega)] at hK
  refine bK (fun _ => hK s1 (e1.mono ia) ⟨_, ps, h1, b1⟩) (fun h0 => absurd h0 (by decide))
 ·rw [q2]
  obtain ⟨j, x, f, rfl, hx, hf, hsm, hfd, hmem⟩ := there b1 q1
  rw [hfd, if_neg (by omega), Int.toNat_natCast, hf] at hK
  simp only at hK
  refine bK (fun h0 => absurd rfl h0) (fun _ => ?_)
  have hnl : (V.change v).1.nodes.length ≤ 1000000000000 := by rw [b3]; exact (hs.jz hc).nodes
  obtain ⟨k0, ⟨nn, m, ms, mu, g1, g2, g3, ⟨es, cl, g4⟩, g5⟩, g6⟩ := h1
  obtain ⟨p, hp, nd⟩ := g6.at_ j x hx
  obtain ⟨psl, na, nb⟩ := nd.at_
  repeat (first|refine aj ?_|refine av g1 rfl ?_|refine aK g1 rfl ?_|refine aH g1 rfl ?_|refine aI g1 rfl ?_|refine aJ g1 rfl ?_|refine aC g1 rfl ?_)
  have hnn := g2.ls.len
  have hpsl := g6.len
  have hjl := (List.getElem?_eq_some_iff.1 hx).1
  refine bU g2.ls (by omega) (by omega) fun bx ox pp hpp hel => ?_
  have : pp = some ⟨p, 0, none⟩ := by rw [Int.toNat_natCast, hp] at hpp; exact (Option.some.inj hpp).symm
  subst this
  obtain ⟨vs, rfl, hat⟩ := hel
  refine dR hat rfl ?_
  unfold nL
  refine aj ?_
  refine aH na rfl ?_
  have hk1 : k + 10 + 2 * j ≠ 0 := by omega
  refine aj ?_
  refine cP na (by simp) rfl hk1 (fun s2 e2 z2 a2 _ => ?_)
  refine aj ?_
  refine cP a2 (by simp) rfl hk1 (fun s3 e3 z3 a3 _ => ?_)
  have e13 : Step [k + 10 + 2 * j, k + 11 + 2 * j] s1 s3 := (e2.trans e3).mono (by simp)
  have e13d : Step (dk k) s1 s3 := e13.mono (by intro y hy; simp at hy; rw [fk]; omega)
  have c : ∀ i, i < 10 → k + i ∉ [k + 10 + 2 * j, k + 11 + 2 * j] := by intro i hi; simp; omega
  have hxo : kZ d.calls x := by rw [b3] at hx; exact hs.sizes x (List.mem_of_getElem? hx)
  have hcal := (b8 hz).2
  have hcc := hs.count
  have ndx : kg (k + 10 + 2 * j) s3 p ⟨x.seen, x.seen, [], x.fresh⟩ := ⟨⟨none, 0, 0⟩, a3, bF.nil⟩
  refine hK s3 ((e1.mono ia).trans e13d) ⟨{ (V.change v).1 with nodes := (V.change v).1.nodes.set j ⟨x.seen, x.seen, [], x.fresh⟩ }, ps, ⟨k0, ⟨nn, m, ms, mu, g1.mono (e13.view (by simpa using c 0 (by decide))), g2.st e13 (c 1 (by decide)), g3.st e13 (c 2 (by decide)), ⟨es, cl, g4.st e13 (c 3 (by decide))⟩, g5.st e13 (c 4 (by decide))⟩, g6.bG hx hp e13 ndx⟩, FY (x' := ⟨x.seen, x.seen, [], x.fresh⟩) (f' := ⟨f.now, f.now, []⟩) b1 hx hf ⟨hsm.1, hsm.1, rfl⟩ rfl ⟨hxo.seen, hxo.seen, by simp, ?_⟩⟩
  simp only [List.length_nil]
  omega
end Go.Ph
end
section
set_option linter.all false
namespace Go.Ph
open S
def R.create (d : ah) (n : ByteArray) : ah × Int :=
 if (R.begin d).2 ≠ 0 then R.begin d else if eF n = false then ((R.begin d).1, 3) else if 0 ≤ R.find (R.begin d).1.now n then ((R.begin d).1, 8)
 else if (R.begin d).1.now.length = 1024 then ((R.begin d).1, 6)
 else (R.cM { (R.begin d).1 with files := (R.begin d).1.files ++ [⟨⟨#[]⟩, ⟨#[]⟩, []⟩] } ⟨⟨#[]⟩, n, (R.begin d).1.files.length⟩, 0)
def pR : cn := ⟨⟨#[]⟩, ⟨#[]⟩, [], true⟩
theorem nq {n : ByteArray} (h : eF n = true) : n ≠ ⟨#[]⟩ := by
 rintro rfl
 simp [eF, ByteArray.size] at h
theorem Vd {v : bC} {d : ah} {n : ByteArray} (h : dI v d) (hc : (v.bP.length : Int) + 1 ≤ d.calls ∧ (v.nodes.length : Int) + 1 ≤ 1024 + d.calls) (hn : n ≠ ⟨#[]⟩) (hf : R.find d.now n < 0) (hl : d.now.length < 1024) :
  dI (V.cM { v with nodes := v.nodes ++ [pR] } ⟨v.nodes.length, n, true⟩) (R.cM { d with files := d.files ++ [⟨⟨#[]⟩, ⟨#[]⟩, []⟩] } ⟨⟨#[]⟩, n, d.files.length⟩) := by
 have hns := h.ns
 have hlook : look v.seen n = none := by
  cases e : look v.seen n with
  | none => rfl
  | some j => have := (hns.1.find n).1 j e; omega
 have hgive : V.eX v.seen ⟨v.nodes.length, n, true⟩ = gi v.seen n (v.nodes.length : Nat) := by
  unfold V.eX
  have : v.seen.filter (fun x => !decide (x.2 = ((v.nodes.length : Nat) : Int))) = v.seen := by
   rw [List.filter_eq_self]
   intro x hx
   have := hns.1.good.cQ _ ((hns.1.mem x.1 x.2).1 hx)
   simp only at this
   simp; omega
  simp only [this]
  simp [hn]
 have hdo : R.cX d.now ⟨⟨#[]⟩, n, d.files.length⟩ = R.put d.now ⟨n, v.nodes.length⟩ := by
  unfold R.cX
  rw [if_neg (by simp only; omega)]
  simp only
  rw [if_neg hn, h.nodes.1]
 have hNS : eS (v.nodes.length + 1) (V.eX v.seen ⟨v.nodes.length, n, true⟩) (R.cX d.now ⟨⟨#[]⟩, n, d.files.length⟩) := by
  rw [hgive, hdo]
  refine (hns.1.more (Nat.le_succ _)).set ⟨by omega, by omega⟩ fun e he => ?_
  have := hns.1.good.cQ e he
  omega
 have hll : (R.cX d.now ⟨⟨#[]⟩, n, d.files.length⟩).length ≤ 1024 := by
  rw [hdo]; have := HL d.now ⟨n, (v.nodes.length : Nat)⟩; omega
 obtain ⟨g1, g2, g3, g4, g5, g6, g7, g8, g9, g10, g11, g12, g13, g14, g15⟩ := h
 refine ⟨g1, g2, g3, g4, g5, g6, ⟨by simp [V.cM, R.cM, g7.1], by simp [V.cM, R.cM]; omega⟩, ⟨by simp [V.cM, R.cM, g8.1], by simp [V.cM, R.cM]; omega⟩, by simp [V.cM, ← g9], by simp [R.cM, ← g10], ?_, ?_, ?_, ?_, ?_⟩
 ·intro i hi
  simp only [V.cM, R.cM, List.length_append, List.length_singleton] at hi ⊢
  by_cases e : i ≤ v.bP.length
  ·rw [List.take_append_of_le_length e, List.take_append_of_le_length (by rw [← g8.1]; exact e)]
   exact ⟨(g11 i e).1.more (Nat.le_succ _), (g11 i e).2⟩
  ·have : i = v.bP.length + 1 := by omega
   subst this
   rw [List.take_of_length_le (by simp), List.take_of_length_le (by simp [g8.1]), List.foldl_append, List.foldl_append, ← g9, ← g10]
   exact ⟨hNS, hll⟩
 ·intro j x hx
  simp only [V.cM] at hx
  simp only [R.cM, List.mem_append, List.mem_singleton]
  by_cases e : j < v.nodes.length
  ·rw [List.getElem?_append_left e] at hx
   rw [g12 j x hx]
   constructor
   ·rintro ⟨t', h1, h2⟩; exact ⟨t', .inl h1, h2⟩
   ·rintro ⟨t', h1 | h1, h2⟩
    ·exact ⟨t', h1, h2⟩
    ·subst h1; simp only at h2; omega
  ·rw [List.getElem?_append_right (by omega)] at hx
   have hj := (List.getElem?_eq_some_iff.1 hx).1
   simp at hj
   have e0 : j - v.nodes.length = 0 := by omega
   rw [e0] at hx
   simp at hx
   subst hx
   constructor
   ·intro _; exact ⟨_, .inr rfl, by simp only; omega⟩
   ·intro _; rfl
 ·intro t ht
  simp only [R.cM, List.mem_append, List.mem_singleton] at ht
  simp only [V.cM, List.length_append, List.length_singleton]
  rcases ht with h1 | rfl
  ·have := g13 t h1; omega
  ·simp only; omega
 ·intro j x f hx hf hkn
  simp only [V.cM] at hx
  simp only [R.cM] at hf
  by_cases e : j < v.nodes.length
  ·rw [List.getElem?_append_left e] at hx
   rw [List.getElem?_append_left (by omega)] at hf
   refine g14 j x f hx hf ?_
   rcases hkn with ⟨m, hm⟩ | h1 | ⟨y, hy, hy2⟩
   ·simp only [V.cM] at hm
    rw [hgive] at hm
    unfold gi at hm
    rw [hlook] at hm
    simp at hm
    rcases hm with hm | hm
    ·exact .inl ⟨m, hm⟩
    ·omega
   ·exact .inr (.inl h1)
   ·simp only [V.cM] at hy
    rw [List.getElem?_append_left e] at hy
    exact .inr (.inr ⟨y, hy, hy2⟩)
  ·rw [List.getElem?_append_right (by omega)] at hx hf
   have hj := (List.getElem?_eq_some_iff.1 hx).1
   simp at hj
   have e0 : j - v.nodes.length = 0 := by omega
   have e1 : j - d.files.length = 0 := by omega
   rw [e0] at hx
   rw [e1] at hf
   simp at hx hf
   subst hx hf
   exact ⟨rfl, rfl, rfl⟩
 ·intro x hx
  simp only [V.cM, List.mem_append, List.mem_singleton] at hx
  rcases hx with hx | rfl
  ·exact g15 x hx
  ·exact ⟨by simp [pR, ByteArray.size], by simp [pR, ByteArray.size], by simp [pR], by simp [pR, R.cM]; omega⟩
theorem Nq {k : Nat} {s : St} {b : Nat} {d : ah} {n : ByteArray} {K : Int → HP} (h : DV k s b d) (hnz : n.size ≤ 9223372036854775807) (hc2 : d.calls + 2 < 1000000000000 - 1024) (hko : Ko k s)
  (hK : ∀ s', Step (dk k) s s' → DV k s' b (R.create d n).1 → K (R.create d n).2 s'.H) : pV (some ⟨b, 0, none⟩) n K s.H := by
 have hc : d.calls < 1000000000000 - 1024 := by omega
 obtain ⟨v, ps, hv, hs⟩ := h
 obtain ⟨b1, b2, b3, b4, b5, b6, b7, b8⟩ := nZ hs hc
 unfold pV
 unfold R.create at hK
 refine wL hv (hs.jz hc) fun s1 e1 h1 => ?_
 have e1d := e1.mono (ia (k := k))
 by_cases hz : (R.begin d).2 = 0
 case neg =>
  rw [b2]
  rw [if_pos hz] at hK
  exact bK (fun _ => hK s1 e1d ⟨_, ps, h1, b1⟩) (fun h0 => absurd h0 hz)
 rw [if_neg (by simpa using hz)] at hK
 rw [b2]
 refine bK (fun h0 => absurd hz h0) (fun _ => ?_)
 refine CX hnz ?_
 by_cases hnm : eF n = true
 case neg =>
  have hnf : eF n = false := by simpa using hnm
  rw [if_pos hnf] at hK
  rw [hnf]
  exact bH (hK s1 e1d ⟨_, ps, h1, b1⟩)
 rw [if_neg (by rw [hnm]; simp)] at hK
 rw [hnm]
 refine bt ?_
 have hv1 : dx k s1 b (V.change v).1 ps := h1
 obtain ⟨k0, ⟨nn, m, ms, mu, g1, g2, g3, ⟨es, cl, g4⟩, g5⟩, g6⟩ := h1
 refine aj ?_
 refine aJ g1 rfl ?_
 have hns := b1.ns
 have hcal := b8 hz
 have hbc := b1.count
 refine BO g4 (fun hn => ?_) (fun i hi => ?_)
 ·have hfd := (hns.1.find n).2 hn
  rw [if_neg (by omega)] at hK
  unfold xA
  refine bt ?_
  refine aj ?_
  refine aJ g1 rfl ?_
  refine ado g4 ?_
  have hlen := hns.1.len
  refine aN (fun h1024 => ?_) (fun h1024 => ?_)
  ·rw [if_pos (by omega)] at hK
   exact hK s1 e1d ⟨_, ps, hv1, b1⟩
  rw [if_neg (by omega)] at hK
  have hnl : (V.change v).1.nodes.length ≤ 1000000000000 := by rw [b3]; exact (hs.jz hc).nodes
  have hpsl := g6.len
  have hko1 := hko.mono e1
  have hkoo := hko1
  unfold Ko own at hkoo
  refine aj ?_
  refine aC g1 rfl ?_
  refine dm (k + 10 + 2 * (V.change v).1.nodes.length) (by omega) fun s2 p n2 a2 => ?_
  have e2 := n2.step
  have hz2 := e2.sz
  have hnn := g2.ls.len
  refine jv (some (af p)) (g2.st e2 (by simp)) rfl (fun s3 o3 e3 b3' => ?_) rfl rfl (by omega) (by omega) (by omega) (by omega)
  have e13 : Step [k + 1] s1 s3 := e2.n.trans e3
  have g13 := g1.mono (e13.view (k := k) (by simp))
  refine aj ?_
  refine cP g13 (by simp) rfl k0 (fun s4 e4 z4 a4 _ => ?_)
  have e14 : Step [k, k + 1] s1 s4 := (e13.mono (by simp)).trans (e4.mono (by simp))
  refine aj ?_
  refine aC a4 rfl ?_
  have ho3 := b3'.ls.len
  rw [List.length_append, List.length_singleton, hpsl] at ho3
  have hidx : ay (((o3.len : Nat) : Int) - 1) = (((V.change v).1.nodes.length : Nat) : Int) := by rw [aY (by omega) (by omega)]; omega
  rw [hidx]
  have e14d : Step (dk k) s1 s4 := e14.mono (by intro y hy; simp at hy; rw [fk]; omega)
  have vd4 : dx k s4 b { (V.change v).1 with nodes := (V.change v).1.nodes ++ [pR] } (ps ++ [some (af p)]) := by
   refine ⟨k0, ⟨o3, m, ms, mu, a4, b3'.st e4 (by simp), g3.st e14 (by simp), ⟨es, cl, g4.st e14 (by simp)⟩, g5.st e14 (by simp)⟩, ⟨by simp [hpsl], fun j x hx => ?_⟩⟩
   simp only at hx
   by_cases ej : j < (V.change v).1.nodes.length
   ·rw [List.getElem?_append_left ej] at hx
    obtain ⟨p', q1, q2⟩ := g6.at_ j x hx
    exact ⟨p', by rw [List.getElem?_append_left (by omega)]; exact q1, q2.st e14 (by simp; omega) (by simp; omega)⟩
   ·rw [List.getElem?_append_right (by omega)] at hx
    have hj := (List.getElem?_eq_some_iff.1 hx).1
    simp at hj
    have ej2 : j = (V.change v).1.nodes.length := by omega
    subst ej2
    simp at hx
    subst hx
    refine ⟨p, by rw [List.getElem?_append_right (by omega), hpsl]; simp, ⟨⟨none, 0, 0⟩, ?_, bF.nil⟩⟩
    exact (a2.mono (e3.view (by simp; omega))).mono (e4.view (by simp; omega))
  have hmv : (V.change v).1.bP.length ≤ 1000000000000 := by rw [b5]; exact (hs.jz hc).bP
  refine Du (mv := ⟨(V.change v).1.nodes.length, n, true⟩) vd4 hmv (hko1.mono e14) fun s5 e5 h5 => ?_
  refine hK s5 ((e1d.trans e14d).trans (e5.mono Cw)) ⟨_, _, h5, ?_⟩
  exact Vd b1 ⟨by rw [b5]; exact hcal.1, by have := hs.nodes; rw [b3]; omega⟩ (nq hnm) (by omega) (by have := hns.2; omega)
 ·have hfd := (hns.1.find n).1 i hi
  rw [if_pos (by omega)] at hK
  refine ⟨_, rfl, ?_⟩
  unfold xA
  exact bH (hK s1 e1d ⟨_, ps, hv1, b1⟩)
end Go.Ph
end
section
set_option linter.all false
namespace Go.Ph
open S
theorem R.LQ (d : ah) (n b : ByteArray) : (R.append d n b).1.calls ≤ d.calls + 1 := by
 have := R.kW d
 unfold R.append
 split
 ·exact this
 ·split
  ·exact this
  ·split
   ·exact this
   ·split
    ·exact this
    ·exact this
theorem R.AE (d : ah) (n : ByteArray) : (R.sync d n).1.calls ≤ d.calls + 1 := by
 have := R.kW d
 unfold R.sync
 split
 ·exact this
 ·split
  ·exact this
  ·split
   ·exact this
   ·exact this
theorem R.uT (d : ah) (n : ByteArray) : (R.create d n).1.calls ≤ d.calls + 1 := by
 have := R.kW d
 unfold R.create
 repeat (first | (split; exact this) | exact this)
def R.cZ (n b : ByteArray) (d : ah) : ah × Int := R.steps [fun d => R.append d n b, R.again fun d => R.sync d n] d
theorem zE {f g : ah → ah × Int} {c : Nat} (hf : ∀ d, (f d).1.calls ≤ d.calls + c) (hg : ∀ d, (g d).1.calls ≤ d.calls + c) (d : ah) : (R.steps [f, g] d).1.calls ≤ d.calls + 2 * c := by
 have h1 := hf d
 have h2 := hg (f d).1
 simp only [R.steps]
 split
 ·omega
 ·split
  ·omega
  ·simp only; omega
theorem R.nk (n b : ByteArray) (d : ah) : (R.cZ n b d).1.calls ≤ d.calls + 4 := by
 refine zE (c := 2) (fun d => by have := R.LQ d n b; omega) (fun d => ?_) d
 exact kj (c := 1) (fun d => R.AE d n) d
theorem Xd {C : Cx} {k : Nat} {s : St} {b : Nat} {d : ah} {n : ByteArray} {K : Int → HP} (h : DV k s b d) (hc : d.calls + 16 < 1000000000000 - 1024) (hko : Ko k s)
  (hK : ∀ s', Step (dk k) s s' → DV k s' b (R.again (fun d => R.sync d n) d).1 → K (R.again (fun d => R.sync d n) d).2 s'.H) : ur C (some ⟨b, 0, none⟩) n K s.H := by
 unfold ur
 refine bZ fun s1 b1 n1 a1 => ?_
 refine bZ fun s2 b2 n2 a2 => ?_
 have e02 := n1.step.trans n2.step
 have a12 := a1.mono n2.step.v0
 have h2 := h.st e02 (by simp)
 have ho2 := hko.mono e02
 intro f1 hf1
 refine pn (c := 3) (op := fun d => R.sync d n) ⟨fun s4 d4 K4 e4 h4 c4 hK4 => ?_, fun d => by have := R.AE d n; omega⟩ h2 (by omega) fun s' e' => hK s' (e02.n.trans e')
 refine hf1 _ _ _ ?_
 show wU (af b1) (af b2) (fun r => K4 (.int .i64 r)) s4.H
 unfold wU
 refine dR (a12.mono e4.v0) rfl ?_
 refine eW (a2.mono e4.v0) rfl ?_
 exact adF h4 (by omega) (ho2.mono e4) hK4
theorem An {C : Cx} {k : Nat} {s : St} {b : Nat} {d : ah} {n : ByteArray} {bs : List UInt8} {sl : Sl} {K : Int → HP} (h : DV k s b d) (hb : Ls bf (s.w 0) bs sl) (hbl : bs.length ≤ 100000000) (hc : d.calls + 1000 < 1000000000000 - 1024) (hko : Ko k s)
  (hK : ∀ s', Step (dk k) s s' → DV k s' b (R.cZ n (ba bs) d).1 → K (R.cZ n (ba bs) d).2 s'.H) : oh C (some ⟨b, 0, none⟩) n sl K s.H := by
 unfold oh
 refine bZ fun s1 b1 n1 a1 => ?_
 refine bZ fun s2 b2 n2 a2 => ?_
 refine bZ fun s3 b3 n3 a3 => ?_
 have e13 := n2.step.trans n3.step
 have a13 := a1.mono e13.v0
 have a23 := a2.mono n3.step.v0
 have e03 := n1.step.trans e13
 have h3 := h.st e03 (by simp)
 have ho3 := hko.mono e03
 have hb3 := Ls.st hb e03
 intro f1 hf1
 intro f2 hf2
 refine bZ fun s5 b5 n5 a5 => ?_
 have e5 := n5.step
 refine xp (c := 20) (ops := [fun d => R.append d n (ba bs), R.again fun d => R.sync d n]) (C2 a5) rfl (by simp) ?_ (h3.st e5 (by simp)) (by simp; omega) ?_
 ·intro i f op hi ho
  match i, hi, ho with
  | 0, hi, ho =>
   simp at hi ho; subst hi; subst ho
   refine ⟨fun s4 d4 K4 e4 h4 c4 hK4 => ?_, fun d => by have := R.LQ d n (ba bs); omega⟩
   refine hf1 _ _ _ ?_
   show wX (af b1) (af b2) (af b3) (fun r => K4 (.int .i64 r)) s4.H
   unfold wX
   refine dR ((a13.mono e5.v0).mono e4.v0) rfl ?_
   refine eW ((a23.mono e5.v0).mono e4.v0) rfl ?_
   refine kN (n := sl) ((a3.mono e5.v0).mono e4.v0) rfl ?_
   exact abU h4 (Ls.st (Ls.st hb3 e5) e4) hbl (by omega) ((ho3.mono e5).mono e4) hK4
  | 1, hi, ho =>
   simp at hi ho; subst hi; subst ho
   refine ⟨fun s4 d4 K4 e4 h4 c4 hK4 => ?_, fun d => by have := kj (c := 1) (fun d => R.AE d n) d; omega⟩
   refine hf2 _ _ _ ?_
   show xu C (af b1) (af b2) (fun r => K4 (.int .i64 r)) s4.H
   unfold xu
   refine dR ((a13.mono e5.v0).mono e4.v0) rfl ?_
   refine eW ((a23.mono e5.v0).mono e4.v0) rfl ?_
   exact Xd h4 (by omega) ((ho3.mono e5).mono e4) hK4
 ·exact fun s' e' => hK s' ((e03.trans e5).n.trans e')
def R.make (d : ah) (n b : ByteArray) : ah × Int :=
 if R.has d n = true then (d, 8) else if (R.create d n).2 ≠ 0 then R.create d n
 else if (R.steps [R.cZ n b, R.again R.cy] (R.create d n).1).2 ≠ 0 ∧ (R.steps [R.cZ n b, R.again R.cy] (R.create d n).1).2 ≠ 11
  then ((R.again (fun d => R.unlink d n) (R.steps [R.cZ n b, R.again R.cy] (R.create d n).1).1).1, (R.steps [R.cZ n b, R.again R.cy] (R.create d n).1).2)
  else R.steps [R.cZ n b, R.again R.cy] (R.create d n).1
theorem Rq {C : Cx} {k : Nat} {s : St} {b : Nat} {d : ah} {n : ByteArray} {bs : List UInt8} {sl : Sl} {K : Int → HP} (h : DV k s b d) (hb : Ls bf (s.w 0) bs sl) (hbl : bs.length ≤ 100000000) (hnz : n.size ≤ 9223372036854775807) (hc : d.calls + 12000 < 1000000000000 - 1024) (hko : Ko k s)
  (hK : ∀ s', Step (dk k) s s' → DV k s' b (R.make d n (ba bs)).1 → K (R.make d n (ba bs)).2 s'.H) : rO C (some ⟨b, 0, none⟩) n sl K s.H := by
 unfold rO
 refine bZ fun s1 b1 n1 a1 => ?_
 refine bZ fun s2 b2 n2 a2 => ?_
 refine bZ fun s3 b3 n3 a3 => ?_
 have e13 := n2.step.trans n3.step
 have a13 := a1.mono e13.v0
 have a23 := a2.mono n3.step.v0
 have e03 := n1.step.trans e13
 have h3 := h.st e03 (by simp)
 have ho3 := hko.mono e03
 have hb3 := Ls.st hb e03
 refine dR a13 rfl ?_
 refine eW a23 rfl ?_
 refine w9 h3 ?_
 unfold R.make at hK
 by_cases hh : R.has d n = true
 ·rw [if_pos hh] at hK
  rw [hh]
  exact bH (hK s3 e03.n h3)
 rw [if_neg hh] at hK
 rw [show R.has d n = false by simpa using hh]
 refine bt ?_
 refine dR a13 rfl ?_
 refine eW a23 rfl ?_
 refine Nq h3 hnz (by omega) ho3 fun s4 e4 h4 => ?_
 have hcc := R.uT d n
 refine bK (fun hne => ?_) (fun heq => ?_)
 ·rw [if_pos hne] at hK
  exact hK s4 (e03.n.trans e4) h4
 rw [if_neg (by simpa using heq)] at hK
 generalize (R.create d n).1 = d1 at *
 have a14 := a13.mono e4.v0
 have a24 := a23.mono e4.v0
 have a34 := a3.mono e4.v0
 have hb4 := Ls.st hb3 e4
 have ho4 := ho3.mono e4
 intro f1 hf1
 intro f2 hf2
 refine bZ fun s5 b5 n5 a5 => ?_
 have e5 := n5.step
 have a15 := a14.mono e5.v0
 have a25 := a24.mono e5.v0
 refine xp (c := 1300) (ops := [R.cZ n (ba bs), R.again R.cy]) (C2 a5) rfl (by simp) ?_ (h4.st e5 (by simp)) (by simp; omega) ?_
 ·intro i f op hi ho
  match i, hi, ho with
  | 0, hi, ho =>
   simp at hi ho; subst hi; subst ho
   refine ⟨fun s6 d6 K6 e6 h6 c6 hK6 => ?_, fun d => by have := R.nk n (ba bs) d; omega⟩
   refine hf1 _ _ _ ?_
   show vo C (af b1) (af b2) (af b3) (fun r => K6 (.int .i64 r)) s6.H
   unfold vo
   refine dR (a15.mono e6.v0) rfl ?_
   refine eW (a25.mono e6.v0) rfl ?_
   refine kN (n := sl) ((a34.mono e5.v0).mono e6.v0) rfl ?_
   exact An h6 (Ls.st (Ls.st hb4 e5) e6) hbl (by omega) ((ho4.mono e5).mono e6) hK6
  | 1, hi, ho =>
   simp at hi ho; subst hi; subst ho
   refine ⟨fun s6 d6 K6 e6 h6 c6 hK6 => ?_, fun d => by have := kj (c := 1) (fun d => R.jI d) d; omega⟩
   refine hf2 _ _ _ ?_
   show wW C (af b1) (fun r => K6 (.int .i64 r)) s6.H
   unfold wW
   refine dR (a15.mono e6.v0) rfl ?_
   intro f3 hf3
   refine pn (c := 1) ⟨fun s7 d7 K7 e7 h7 c7 hK7 => ?_, fun d => R.jI d⟩ h6 (by omega) hK6
   refine hf3 _ _ _ ?_
   show kG (some (af b)) (fun r => K7 (.int .i64 r)) s7.H
   exact wG h7 (by omega) (((ho4.mono e5).mono e6).mono e7) hK7
 ·intro s6 e6 h6
  have e06 : Step (dk k) s s6 := ((e03.n.trans e4).trans e5.n).trans e6
  have hsc : (R.steps [R.cZ n (ba bs), R.again R.cy] d1).1.calls ≤ d1.calls + 2 * 10 := zE (c := 10) (fun d => by have := R.nk n (ba bs) d; omega) (fun d => by have := kj (c := 1) (fun d => R.jI d) d; omega) d1
  generalize R.steps [R.cZ n (ba bs), R.again R.cy] d1 = r at *
  have j0 : ¬(r.2 ≠ 0 ∧ r.2 ≠ 11) → rW C b1 b2 r.2 false K s6.H := fun hn => by
   unfold rW
   rw [if_neg hn] at hK
   exact bt (hK s6 e06 h6)
  refine bK (fun hne => ?_) (fun heq => j0 (fun h => h.1 heq))
  by_cases h11 : r.2 = 11
  ·rw [decide_eq_true h11]
   exact j0 (fun h => h.2 h11)
  ·rw [decide_eq_false h11]
   rw [if_pos ⟨hne, h11⟩] at hK
   unfold rW
   refine bH ?_
   refine dR (a15.mono e6.v0) rfl ?_
   refine eW (a25.mono e6.v0) rfl ?_
   unfold qv
   refine bZ fun s7 b7 n7 a7 => ?_
   refine bZ fun s8 b8 n8 a8 => ?_
   have e68 := n7.step.trans n8.step
   have a78 := a7.mono n8.step.v0
   intro f4 hf4
   have ho6 := (ho4.mono e5).mono e6
   refine pn (c := 3) (op := fun d => R.unlink d n) ⟨fun s9 d9 K9 e9 h9 c9 hK9 => ?_, fun d => by have := R.jx d n; omega⟩ (h6.st e68 (by simp)) (by omega) ?_
   ·refine hf4 _ _ _ ?_
    show qM (af b7) (af b8) (fun r => K9 (.int .i64 r)) s9.H
    unfold qM
    refine dR (a78.mono e9.v0) rfl ?_
    refine eW (a8.mono e9.v0) rfl ?_
    exact sP h9 (by omega) ((ho6.mono e68).mono e9) hK9
   ·exact fun s' e' h' => hK s' ((e06.trans e68.n).trans e') h'
end Go.Ph
end
section
set_option linter.all false
namespace Go.Ph
open S
theorem F8 {α : Type} {t : Ty α} {s : St} {q b o i j : Nat} {l : List α} {sl : Sl} {x x' : α} {vs : List Value} {v : Value} {K : HP} (h : gW t q s l sl) (ha : sl.a = some ⟨b, o, none⟩) (hx : l[i]? = some x) (hR : ∀ V, t.R V x vs) (hR' : ∀ V, t.R V x' (vs.set j v)) (hu : ∀ V ws, t.R V x ws → ws = vs) (hj : j < vs.length) (hv : one v = true) (hq0 : q ≠ 0)
  (hK : ∀ s', Step [q] s s' → s'.H.size = s.H.size → gW t q s' (l.set i x') sl → K s'.H) : aq (Addr.add ⟨b, o + i * t.n, none⟩ j) 0 [v] K s.H := by
 have hi := (List.getElem?_eq_some_iff.1 hx).1
 have hvl := t.len (hR (s.w 0))
 have hall := (h.ls.at_ _ ha).2
 simp only at hall
 obtain ⟨ws, w1, w2⟩ := hall i x hx
 have hwv := hu _ _ w1
 subst hwv
 rw [dK]
 have hcell := w2 j _ (List.getElem?_eq_getElem hj)
 have hqlt : q < 1152921504606846976 + 1152921504606846976 * s.H.size := by rw [← (bY hcell).2]; exact s.wf _ _ (mq hcell)
 refine kJ (k := q) (k' := q) [v] (fun a ha' => by
  have e : a = 0 := by simp at ha'; exact ha'
  subst e
  exact ⟨_, by simpa using hcell⟩) (by simpa using hv) hqlt hq0 fun s' h' => ?_
 have hst : Step [q] s s' := h'.step (q := q) (by simp) hq0 fun a ha' => by
  have e : a = 0 := by simp at ha'; exact ha'
  subst e
  simpa using (bY hcell).2
 have hold : ∀ c, c ≠ o + i * t.n + j → s'.c b c = s.c b c ∧ pk s'.H b c = pk s.H b c := fun c hc => h'.old b c (fun ⟨_, h1, h2⟩ => by simp at h1 h2; omega)
 refine hK s' hst h'.sz ⟨⟨by simp [h.ls.len], h.ls.cap, h.ls.nil, fun a ha' => ?_⟩, fun a ha' c h1 h2 => ?_⟩
 ·rw [ha] at ha'
  simp at ha'; subst ha'
  refine ⟨fun _ => rfl, fun c y hy => ?_⟩
  simp only
  by_cases e : i = c
  ·subst e
   rw [List.getElem?_set_self hi] at hy
   simp at hy; subst hy
   refine ⟨_, hR' _, fun a u hau => ?_⟩
   by_cases ea : a = j
   ·subst ea
    rw [List.getElem?_set_self hj] at hau
    simp at hau; subst hau
    have := h'.here 0 v rfl
    simpa using this
   ·rw [List.getElem?_set_ne (fun h => ea h.symm)] at hau
    have hu' := w2 a u hau
    have := hold (o + i * t.n + a) (by omega)
    exact dP (this.2.trans (bY hu').1) (this.1.trans (bY hu').2)
  ·rw [List.getElem?_set_ne e] at hy
   obtain ⟨us, u1, u2⟩ := hall c y hy
   have hul := t.len u1
   refine ⟨us, t.mono hst.v0 u1, fun a u hau => ?_⟩
   have hlt := (List.getElem?_eq_some_iff.1 hau).1
   have hu' := u2 a u hau
   have := hold (o + c * t.n + a) (by
    rcases Nat.lt_or_gt_of_ne e with e1 | e1
    ·have : (i + 1) * t.n ≤ c * t.n := Nat.mul_le_mul_right _ e1
     rw [Nat.add_mul] at this; omega
    ·have : (c + 1) * t.n ≤ i * t.n := Nat.mul_le_mul_right _ e1
     rw [Nat.add_mul] at this; omega)
   exact dP (this.2.trans (bY hu').1) (this.1.trans (bY hu').2)
 ·rw [List.length_set] at h1
  obtain ⟨u, hu'⟩ := h.own a ha' c h1 h2
  rw [ha] at ha'
  simp at ha'; subst ha'
  refine ⟨u, ?_⟩
  simp only at hu' ⊢
  have hin : (i + 1) * t.n ≤ l.length * t.n := Nat.mul_le_mul_right _ hi
  rw [Nat.add_mul] at hin
  have := hold (o + c) (by omega)
  exact dP (this.2.trans (bY hu').1) (this.1.trans (bY hu').2)
theorem r9 {α : Type} {l : List α} {x : α} (h : l.getLast? = some x) : 0 < l.length ∧ l[l.length - 1]? = some x := by
 rw [List.getLast?_eq_getElem?] at h
 have := (List.getElem?_eq_some_iff.1 h).1
 exact ⟨by omega, h⟩
theorem vp {kb : Nat} {s : St} {p : Nat} {x : BoxM} {dp : Option Addr} {sl : Sl} {cs : List fK} {K : Option Addr → HP} (h : kT kb s p x dp sl cs) (hl : x.l.length ≤ 1048576)
  (h0 : x.l = [] → K none s.H) (h1 : ∀ m c b o, x.l.getLast? = some m → cs.getLast? = some c → sl.a = some ⟨b, o, none⟩ → At (s.w (kb + 1)) b (o + (x.l.length - 1) * 4) (fV c) → ku (s.w 0) m c → K (some ⟨b, o + (x.l.length - 1) * 4, none⟩) s.H) : kU (some ⟨p, 0, none⟩) K s.H := by
 unfold kU
 have hrow := h.row
 have hlen := h.ls.ls.len
 have hcl := h.all.len
 repeat (first|refine aj ?_|refine av hrow rfl ?_|refine aK hrow rfl ?_|refine aH hrow rfl ?_|refine aI hrow rfl ?_|refine aJ hrow rfl ?_|refine aC hrow rfl ?_)
 refine aN (fun hz => ?_) (fun hz => ?_)
 ·exact h0 (List.eq_nil_of_length_eq_zero (by omega))
 ·repeat (first|refine aj ?_|refine av hrow rfl ?_|refine aK hrow rfl ?_|refine aH hrow rfl ?_|refine aI hrow rfl ?_|refine aJ hrow rfl ?_|refine aC hrow rfl ?_)
  rw [aY (by omega) (by omega)]
  refine vA h.ls.ls (by omega) (by omega) fun b o c ha hc hel => ?_
  obtain ⟨vs, rfl, hat⟩ := hel
  have hidx : (((sl.len : Nat) : Int) - 1).toNat = x.l.length - 1 := by omega
  rw [hidx] at hc hat ⊢
  obtain ⟨m, hm⟩ : ∃ m, x.l[x.l.length - 1]? = some m := ⟨_, List.getElem?_eq_getElem (by omega)⟩
  refine h1 m c b o (by rw [List.getLast?_eq_getElem?]; exact hm) (by rw [List.getLast?_eq_getElem?, ← hcl]; exact hc) ha hat (h.all.all _ m c hm hc)
namespace P
def add (d : ah) (x : BoxM) (m : bM) (r : RecM) : ah × BoxM × Int :=
 if cj r ≠ 0 then (d, x, cj r) else
 if (R.cZ (aT x.user m.seq) (ba (bB r)) d).2 ≠ 0 then ((R.cZ (aT x.user m.seq) (ba (bB r)) d).1, x, (R.cZ (aT x.user m.seq) (ba (bB r)) d).2)
 else ((R.cZ (aT x.user m.seq) (ba (bB r)) d).1, { x with next := after x.next r, l := x.l.set (x.l.length - 1) { m with size := m.size + (bB r).length, l := m.l ++ [⟨m.size.toNat, (bB r).length, r⟩] } }, 0)
end P
theorem fO.ok {x : RecM} (h : fO x) (hl : x.f.length = 11) : wJ x := by
 refine ⟨hl, ?_, by have := h.data; omega⟩
 have hk := h.kind
 rw [h.bare]
 unfold jF
 rw [← Gs]
 exact Di _ _ _ (lQ _) (Ho _ _ h.all) (by
  intro v hv
  simp at hv
  rcases hv with rfl | rfl
  ·exact ⟨by show 0 ≤ x.kind; omega, by show x.kind ≤ _; omega⟩
  ·omega)
theorem pQ {x : RecM} (h : fO x) : (bB x).length ≤ 100000 ∧ 1 ≤ (bB x).length := by
 have hp := sN h
 unfold bB wrap
 rw [List.length_cons]
 have := uc (UInt8.ofNat x.kind.toNat :: (aW (ek x).length 4 ++ (aW (crc 0#32 (UInt8.ofNat x.kind.toNat :: (aW (ek x).length 4 ++ ek x))).toNat 4 ++ ek x)))
 simp only [List.length_cons, List.length_append, dN] at this
 omega
theorem LC {C : Cx} {kd kb : Nat} {s : St} {b p : Nat} {d : ah} {x : BoxM} {m : bM} {y : RecM} {r : aZ} {K : Int → HP} (h : DV kd s b d) (hb : dJ kb s p x (some ⟨b, 0, none⟩)) (hm : x.l.getLast? = some m) (hl : x.l.length ≤ 1048576) (hnx : 1 ≤ x.next) (hms : 0 ≤ m.size ∧ m.size ≤ 1000000000) (hml : m.l.length ≤ 1000000000) (hr : dM (s.w 0) y r) (hc : d.calls + 20000 < 1000000000000 - 1024) (hko : Ko kd s) (hkb : Kb kb kd s)
  (hK : ∀ s', Step (bN kd kb) s s' → DV kd s' b (P.add d x m y).1 → dJ kb s' p (P.add d x m y).2.1 (some ⟨b, 0, none⟩) → K (P.add d x m y).2.2 s'.H) : oH C (some ⟨p, 0, none⟩) r K s.H := by
 unfold oH
 have hclear := hkb.cl
 have hyl := hr.len
 refine bZ fun s1 p3 n1 a1' => ?_
 have e1 := n1.step
 have a1 : At (s1.w 0) p3 0 (bL y.f r.Data) := by rw [← hr.f]; exact a1'
 obtain ⟨sl, cs, bp⟩ := hb
 have bp1 := bp.st e1 (by simp) (by simp) (by simp)
 refine vp bp1 hl (fun h => by rw [h] at hm; simp at hm) fun m' c lb lo hm' hc' ha hat cv => ?_
 have : m' = m := by rw [hm] at hm'; exact (Option.some.inj hm').symm
 subst this
 obtain ⟨hlp, hidx⟩ := r9 hm
 refine fF a1 hyl fun r1 f1 d1 => ?_
 have ra1 : dM (s1.w 0) y r1 := ⟨f1, by rw [d1]; exact (hr.st e1).data⟩
 unfold P.add at hK
 refine Ab ra1 ?_ ?_
 ·intro hne s2 e2
  rw [if_pos hne] at hK
  have e12 := e1.trans e2
  refine aN (fun h0 => absurd h0 hne) (fun _ => ?_)
  unfold wm
  exact bK (fun _ => hK s2 e12.n (h.st e12 (by simp)) ⟨sl, cs, bp.st e12 (by simp) (by simp) (by simp)⟩) (fun h0 => absurd h0 hne)
 ·intro heq s2 o2 e2 l2
  rw [if_neg (by simpa using heq)] at hK
  have hck := iX heq
  have hfl := pQ hck
  have e12 := e1.trans e2
  refine aN (fun _ => ?_) (fun h0 => absurd rfl h0)
  have bp2 := bp1.st e2 (by simp) (by simp) (by simp)
  have hrow := bp2.row
  have hat2 := hat.mono (e2.view (k := kb + 1) (by simp))
  unfold fV at hat2
  repeat (first|refine aj ?_|refine av hrow rfl ?_|refine aK hrow rfl ?_|refine aH hrow rfl ?_|refine aI hrow rfl ?_|refine aJ hrow rfl ?_|refine aC hrow rfl ?_)
  refine av hat2 rfl ?_
  rw [cv.seq]
  refine lq fun s3 e3 => ?_
  have hrow3 := hrow.mono (e3.view (by simp))
  refine fD (aI hrow3 rfl rfl) ?_
  have e13 := e12.trans e3
  have e23 := e2.trans e3
  refine An (h.st e13 (by simp)) (Ls.st l2 e3) (by omega) (by omega) (hko.mono e13) fun s4 e4 v4 => ?_
  have hsc := R.nk (aT x.user m'.seq) (ba (bB y)) d
  have e04 : Step (bN kd kb) s s4 := e13.n.trans (e4.mono jK)
  have bp4 := (bp2.st e3 (by simp) (by simp) (by simp)).st e4 hclear.1 hclear.2.1 hclear.2.2
  generalize R.cZ (aT x.user m'.seq) (ba (bB y)) d = ar at *
  unfold wm
  refine bK (fun hne => ?_) (fun heq2 => ?_)
  ·rw [if_pos hne] at hK
   exact hK s4 e04 v4 ⟨sl, cs, bp4⟩
  ·rw [if_neg (by simpa using heq2)] at hK
   have hlen2 := l2.len
   obtain ⟨hclp, hcidx⟩ := r9 hc'
   have hcl := bp.all.len
   rw [← hcl] at hcidx
   have hat4 := (hat2.mono (e3.view (by simp))).mono (e4.view hclear.2.1)
   refine aj ?_
   refine aC (n := c.l) hat4 rfl ?_
   refine aj ?_
   refine av hat4 rfl ?_
   rw [cv.size]
   have a14 := (a1.mono e23.v0).mono e4.v0
   refine fF a14 hyl fun r2 f2 d2 => ?_
   have hz4 := e04.sz
   refine dm 1 (by omega) fun s5 p48 n5 a5 => ?_
   have e5 := n5.step
   have hat5 := hat4.mono (e5.view (by simp))
   refine fD (aC (n := c.l) hat5 rfl rfl) ?_
   have bp5 := bp4.st e5 (by simp) (by simp) (by simp)
   have bl5 := bp5.last m' c hm hc'
   have hms' : m'.size = ((m'.size.toNat : Nat) : Int) := by omega
   have e15 : Step (bN kd kb) s s5 := e04.trans e5.n
   have hz5 := e15.sz
   have hown := hkb.own
   unfold own at hown
   have hrow5 : gj.R (s5.w 0) ⟨m'.size.toNat, (bB y).length, y⟩ [.int .i64 m'.size, .int .i64 (o2.len : Nat), .int .i64 r2.Kind, .int .i64 r2.bR, .int .i64 r2.Seq, .int .i64 r2.Next, .int .i64 r2.bW, .int .i64 r2.bV, .int .i64 r2.Time, .int .i64 r2.Flags, .int .i64 r2.Body, .int .i64 r2.bQ, .int .i64 r2.Origin, .slice r2.Data.a r2.Data.len r2.Data.cap] := by
    rw [hlen2, hms']
    exact xx ⟨f2, by rw [d2]; exact Ls.st hr.data e15⟩
   refine jl (kx := 1) bl5 (Ls.single hrow5 a5) (fun s6 o6 e6 b6 => ?_) rfl rfl (by simp; omega) (by simp; omega) (by omega) (by omega)
   have ls6 : gW jB (kb + 1) s6 cs sl := bp5.ls.st e6 (by simp)
   refine aj ?_
   have hW : ∀ (z : fK) V ws, jB.R V z ws → ws = fV z := fun z V ws h => h
   refine F8 (x' := ({ c with l := o6 } : fK)) ls6 ha hcidx (fun V => rfl) (fun V => (rfl : _ = _)) (hW c) (by simp [fV]) rfl (by omega) fun s7 e7 z7 ls7 => ?_
   have hci7 : (cs.set (x.l.length - 1) { c with l := o6 })[x.l.length - 1]? = some { c with l := o6 } := List.getElem?_set_self (by omega)
   have el7 := (ls7.ls.at_ _ ha).2 _ _ hci7
   obtain ⟨ws7, hw7, hat7⟩ := el7
   have := hW _ _ _ hw7
   subst this
   simp only at hat7
   change At (s7.w (kb + 1)) lb (lo + (x.l.length - 1) * 4) (fV { c with l := o6 }) at hat7
   unfold fV at hat7
   refine aj ?_
   refine av hat7 rfl ?_
   simp only
   rw [cv.size, hlen2, aY (by omega) (by omega)]
   refine aj ?_
   refine F8 (x' := ({ c with l := o6, size := m'.size + ((bB y).length : Nat) } : fK)) ls7 ha hci7 (fun V => rfl) (fun V => (rfl : _ = _)) (hW _) (by simp [fV]) rfl (by omega) fun s8 e8 z8 ls8 => ?_
   have hrow8 := (((((hrow3.mono (e4.view hclear.1)).mono (e5.view (by simp))).mono (e6.view (by simp))).mono (e7.view (by simp))).mono (e8.view (k := kb) (by simp)))
   have e58 : Step (cG kb) s5 s8 := ((e6.mono Bb).trans (e7.mono tE)).trans (e8.mono tE)
   have a18 := (a14.mono e5.v0).mono e58.v0
   refine aj ?_
   refine av hrow8 rfl ?_
   refine fF a18 hyl fun r3 f3 d3 => ?_
   have e08 : Step (bN kd kb) s s8 := e15.trans (e58.mono tD)
   refine Bl (x := y) ⟨f3, by rw [d3]; exact Ls.st hr.data e08⟩ (hck.ok hyl) fun s9 e9 => ?_
   have hrow9 := hrow8.mono (e9.view (k := kb) (by simp))
   refine fD (av hrow9 rfl rfl) ?_
   refine aj ?_
   refine cP hrow9 (by simp) rfl bp.k0 (fun s10 e10 z10 a10 _ => ?_)
   have e510 : Step (cG kb) s5 s10 := (e58.trans e9.n).trans (e10.mono we)
   have hmx : (if max (max 1 (iZ y)) (iW y + 1) > x.next then max (max 1 (iZ y)) (iW y + 1) else x.next) = after x.next y := by
    unfold after
    split <;> omega
   rw [hmx] at a10
   have v10 : DV kd s10 b ar.1 := (v4.st e5 (by simp)).fQ e510 (by omega) hkb.clear
   refine hK s10 (e15.trans (e510.mono tD)) v10 ⟨sl, (cs.set (x.l.length - 1) { c with l := o6 }).set (x.l.length - 1) { c with l := o6, size := m'.size + ((bB y).length : Nat) }, bp.k0, a10, (ls8.st e9 (by simp)).st e10 (by simp), ?_, ?_⟩
   ·have b610 := Ls.st b6.ls (((e7.trans e8).trans e9.n).mono (S' := cG kb) tE |>.trans (e10.mono we))
    refine ⟨by simp [hcl], fun i a z hai hzi => ?_⟩
    simp only [List.set_set] at hzi
    by_cases ei : x.l.length - 1 = i
    ·subst ei
     rw [List.getElem?_set_self (by omega)] at hai
     rw [List.getElem?_set_self (by omega)] at hzi
     simp at hai hzi
     subst hai hzi
     exact ⟨cv.seq, rfl, cv.broken, b610⟩
    ·rw [List.getElem?_set_ne ei] at hai hzi
     exact (bp.all.all i a z hai hzi).mono (e15.trans (e510.mono tD)).v0
   ·intro a z hai hzi
    rw [List.getLast?_eq_getElem?] at hai hzi
    simp only [List.set_set, List.length_set] at hai hzi
    rw [List.getElem?_set_self (by omega)] at hai
    rw [← hcl, List.getElem?_set_self (by omega)] at hzi
    simp at hai hzi
    subst hai hzi
    exact (((b6.st e7 (by simp)).st e8 (by simp)).st e9 (by simp)).st e10 (by simp)
end Go.Ph
end
section
set_option linter.all false
namespace Go.Ph
open S
namespace P
def cW (x : BoxM) (seq base : Int) : RecM := ⟨[1, x.user, seq, x.next, base, 0, 0, 0, 0, 0, 0], []⟩
def fE (n : Int) : RecM := ⟨[5, 0, 0, n, 0, 0, 0, 0, 0, 0, 0], []⟩
def clean (m : bM) : Bool := match m.l.getLast? with | some f => decide (((f.at_ + f.len : Nat) : Int) = m.size) | none => false
def yp (m : bM) : Int := match m.l.getLast? with | some f => f.x.kind | none => 0
def fresh (d : ah) (x : BoxM) : ah × BoxM × Int :=
 if cj (cW x (bI x.l + 1) 0) ≠ 0 then (d, x, cj (cW x (bI x.l + 1) 0)) else
 if (R.make d (aT x.user (bI x.l + 1)) (ba (bB (cW x (bI x.l + 1) 0)))).2 ≠ 0 then ((R.make d (aT x.user (bI x.l + 1)) (ba (bB (cW x (bI x.l + 1) 0)))).1, x, (R.make d (aT x.user (bI x.l + 1)) (ba (bB (cW x (bI x.l + 1) 0)))).2)
 else ((R.make d (aT x.user (bI x.l + 1)) (ba (bB (cW x (bI x.l + 1) 0)))).1, { x with l := x.l ++ [⟨bI x.l + 1, (bB (cW x (bI x.l + 1) 0)).length, 0, [⟨0, (bB (cW x (bI x.l + 1) 0)).length, cW x (bI x.l + 1) 0⟩]⟩] }, 0)
def room (d : ah) (x : BoxM) : ah × BoxM × Int := match x.l.getLast? with
 | none => fresh d x
 | some m => if clean m = true ∧ m.size < x.bound then (d, x, 0)
  else if clean m = true ∧ yp m ≠ 5 then (if (add d x m (fE x.next)).2.2 ≠ 0 then add d x m (fE x.next) else fresh (add d x m (fE x.next)).1 (add d x m (fE x.next)).2.1)
  else fresh d x
end P
theorem KZ (u q : Int) : (aT u q).size ≤ 13 := by
 unfold aT
 split
 ·rw [iL, uL]; exact Nat.le_refl _
 ·show 0 ≤ 13; omega
theorem Mw {kb : Nat} {s : St} {p : Nat} {x : BoxM} {dp : Option Addr} {seq base : Int} {K : aZ → HP} (h : dJ kb s p x dp) (hko : kb ≠ own s)
  (hK : ∀ s' r, Step [] s s' → dM (s'.w 0) (P.cW x seq base) r → K r s'.H) : qP (some ⟨p, 0, none⟩) seq base K s.H := by
 unfold qP
 obtain ⟨sl, cs, hb⟩ := h
 refine dm (own s) (by unfold own; omega) fun s1 p6 n1 a1 => ?_
 have e1 := n1.step
 have hrow := hb.row.mono (e1.view (k := kb) (by simp))
 repeat (first|refine aj ?_|refine av hrow rfl ?_|refine aK hrow rfl ?_|refine aH hrow rfl ?_|refine aI hrow rfl ?_|refine aJ hrow rfl ?_|refine aC hrow rfl ?_)
 refine mR (r := ⟨1, x.user, seq, x.next, base, 0, 0, 0, 0, 0, 0, ⟨none, 0, 0⟩⟩) a1 rfl (by unfold own; omega) fun s2 e2 => ?_
 exact hK s2 _ ((e1.n.trans e2).loc) ⟨rfl, Ls.iO⟩
structure fq (N : Nat) (x : BoxM) : Prop where
 len : x.l.length ≤ 1000000
 bd : N ≤ 900000000
 next : 1 ≤ x.next
 all : ∀ c ∈ x.l, 1 ≤ c.seq ∧ c.seq ≤ 99999999 ∧ 0 ≤ c.size ∧ c.size ≤ N ∧ c.l.length ≤ N ∧ ∀ f ∈ c.l, f.at_ ≤ 1000000000 ∧ f.len ≤ 1000000000 ∧ f.x.f.length = 11
theorem fq.last {N : Nat} {x : BoxM} {m : bM} (h : fq N x) (hm : x.l.getLast? = some m) : 1 ≤ m.seq ∧ m.seq ≤ 99999999 ∧ 0 ≤ m.size ∧ m.size ≤ N ∧ m.l.length ≤ N ∧ ∀ f ∈ m.l, f.at_ ≤ 1000000000 ∧ f.len ≤ 1000000000 ∧ f.x.f.length = 11 := h.all m (List.mem_of_getLast? hm)
theorem tH {N : Nat} {x : BoxM} (h : fq N x) : 0 ≤ P.bI x.l ∧ P.bI x.l ≤ 99999999 := by
 unfold P.bI
 split
 ·rename_i c hc
  have := h.last hc
  omega
 ·omega
theorem DG {kb : Nat} {s : St} {p : Nat} {x : BoxM} {dp : Option Addr} {K : Int → HP} (h : dJ kb s p x dp) (hl : x.l.length ≤ 1048576) (hK : K (P.bI x.l) s.H) : jN (some ⟨p, 0, none⟩) K s.H := by
 unfold jN
 obtain ⟨sl, cs, hb⟩ := h
 unfold P.bI at hK
 refine vp hb hl (fun h0 => ?_) (fun m c b o hm hc ha hat cv => ?_)
 ·rw [h0] at hK
  exact hK
 ·rw [hm] at hK
  refine bH ?_
  unfold fV at hat
  refine aj ?_
  refine av hat rfl ?_
  rw [cv.seq]
  exact hK
theorem Lv (n : ByteArray) (d : ah) : (R.again (fun d => R.unlink d n) d).1.calls ≤ d.calls + 2 := kj (c := 1) (fun d => R.jx d n) d
theorem Ki (d : ah) (n b : ByteArray) : (R.make d n b).1.calls ≤ d.calls + 100 := by
 have h1 := R.uT d n
 have h2 : (R.steps [R.cZ n b, R.again R.cy] (R.create d n).1).1.calls ≤ (R.create d n).1.calls + 2 * 10 := zE (c := 10) (fun d => by have := R.nk n b d; omega) (fun d => by have := kj (c := 1) (fun d => R.jI d) d; omega) _
 have h3 := Lv n (R.steps [R.cZ n b, R.again R.cy] (R.create d n).1).1
 unfold R.make
 split
 ·simp only; omega
 ·split
  ·omega
  ·split
   ·simp only; omega
   ·omega
theorem Bo {N : Nat} {C : Cx} {kd kb : Nat} {s : St} {b p : Nat} {d : ah} {x : BoxM} {K : Int → HP} (h : DV kd s b d) (hb : dJ kb s p x (some ⟨b, 0, none⟩)) (hx : fq N x) (hc : d.calls + 20000 < 1000000000000 - 1024) (hko : Ko kd s) (hkb : Kb kb kd s)
  (hK : ∀ s', Step (bN kd kb) s s' → DV kd s' b (P.fresh d x).1 → dJ kb s' p (P.fresh d x).2.1 (some ⟨b, 0, none⟩) → K (P.fresh d x).2.2 s'.H) : w5 C (some ⟨p, 0, none⟩) K s.H := by
 unfold w5
 have hclear := hkb.cl
 have hxl := hx.len
 have hls := tH hx
 have hown := hkb.own
 refine DG hb (by omega) ?_
 rw [aY (by omega) (by omega)]
 unfold P.fresh at hK
 generalize P.bI x.l + 1 = seq at *
 refine Mw hb (by omega) fun s1 r0 e1 ra0 => ?_
 refine dQ rfl (by simp [one]) fun s2 p6 e2 a2' => ?_
 have e12 := e1.trans e2
 have a2 : At (s2.w 0) p6 0 (bL (P.cW x seq 0).f r0.Data) := by rw [← ra0.f]; exact a2'
 refine fF a2 rfl fun r1 f1 d1 => ?_
 have ra2 := ra0.st e2
 refine Ab (x := P.cW x seq 0) ⟨f1, by rw [d1]; exact ra2.data⟩ ?_ ?_
 ·intro hne s3 e3
  rw [if_pos hne] at hK
  have e13 := e12.trans e3
  refine aN (fun h0 => absurd h0 hne) (fun _ => ?_)
  unfold ya
  exact bK (fun _ => hK s3 e13.n (h.st e13 (by simp)) (hb.st e13 (by simp) (by simp) (by simp))) (fun h0 => absurd h0 hne)
 ·intro heq s3 o3 e3 l3
  rw [if_neg (by simpa using heq)] at hK
  have hck := iX heq
  have hfl := pQ hck
  have e13 := e12.trans e3
  refine aN (fun _ => ?_) (fun h0 => absurd rfl h0)
  obtain ⟨sl, cs, bp⟩ := hb
  have bp3 := bp.st e13 (by simp) (by simp) (by simp)
  have hrow := bp3.row
  repeat (first|refine aj ?_|refine av hrow rfl ?_|refine aK hrow rfl ?_|refine aH hrow rfl ?_|refine aI hrow rfl ?_|refine aJ hrow rfl ?_|refine aC hrow rfl ?_)
  refine lq fun s4 e4 => ?_
  have hrow4 := hrow.mono (e4.view (by simp))
  refine fD (aI hrow4 rfl rfl) ?_
  have e14 := e13.trans e4
  refine Rq (h.st e14 (by simp)) (Ls.st l3 e4) (by omega) (by have := KZ x.user seq; omega) (by omega) (hko.mono e14) fun s5 e5 v5 => ?_
  have e05 : Step (bN kd kb) s s5 := e14.n.trans (e5.mono jK)
  have bp5 := (bp3.st e4 (by simp) (by simp) (by simp)).st e5 hclear.1 hclear.2.1 hclear.2.2
  have hmc : (R.make d (aT x.user seq) (ba (bB (P.cW x seq 0)))).1.calls ≤ d.calls + 100 := Ki _ _ _
  generalize R.make d (aT x.user seq) (ba (bB (P.cW x seq 0))) = ar at *
  unfold ya
  refine bK (fun hne => ?_) (fun heq2 => ?_)
  ·rw [if_pos hne] at hK
   exact hK s5 e05 v5 ⟨sl, cs, bp5⟩
  ·rw [if_neg (by simpa using heq2)] at hK
   have hlen3 := l3.len
   have hrow5 := bp5.row
   repeat (first|refine aj ?_|refine av hrow5 rfl ?_|refine aK hrow5 rfl ?_|refine aH hrow5 rfl ?_|refine aI hrow5 rfl ?_|refine aJ hrow5 rfl ?_|refine aC hrow5 rfl ?_)
   have a25 := ((a2.mono e3.v0).mono e4.v0).mono e5.v0
   refine fF a25 rfl fun r2 f2 d2 => ?_
   refine bZ fun s6 p101 n6 a6 => ?_
   have e6 := n6.step
   have hrow6 := hrow5.mono (e6.view (by simp))
   refine fD (aC hrow6 rfl rfl) ?_
   refine dm 1 (by omega) fun s7 p103 n7 a7 => ?_
   have e7 := n7.step
   have hrow7 := hrow6.mono (e7.view (by simp))
   refine fD (aC hrow7 rfl rfl) ?_
   have e67 := e6.trans e7
   have bp7 := bp5.st e67 (by simp) (by simp) (by simp)
   have hz7 := (e05.trans e67.n).sz
   unfold own at hown
   have ra7 := (((ra2.st e3).st e4).st e5).st e6
   have hfrow : gj.R (s6.w 0) ⟨0, (bB (P.cW x seq 0)).length, P.cW x seq 0⟩ (#[Value.int .i64 0, .int .i64 (o3.len : Nat), .int .i64 r2.Kind, .int .i64 r2.bR, .int .i64 r2.Seq, .int .i64 r2.Next, .int .i64 r2.bW, .int .i64 r2.bV, .int .i64 r2.Time, .int .i64 r2.Flags, .int .i64 r2.Body, .int .i64 r2.bQ, .int .i64 r2.Origin, .slice r2.Data.a r2.Data.len r2.Data.cap] : Array Value).toList := by
    rw [hlen3]
    exact xx (a := 0) ⟨f2, by rw [d2]; exact ra7.data⟩
   have lf7 : Ls gj (s7.w 0) [⟨0, (bB (P.cW x seq 0)).length, P.cW x seq 0⟩] ⟨some (af p101), 1, 1⟩ := Ls.st (Ls.single hfrow a6) e7
   refine MU (kx := 1) (x := (⟨seq, (o3.len : Nat), 0, ⟨some (af p101), 1, 1⟩⟩ : fK)) bp7.ls (Ls.single (show jB.R _ _ (fV _) from rfl) a7) (fun s8 sl8 e8 w8 => ?_) rfl rfl (by have := bp.all.len; omega) (by have := bp.all.len; omega) (by omega) (by omega)
   have hrow8 := hrow7.mono (e8.view (k := kb) (by simp))
   refine aj ?_
   refine cP hrow8 (by simp) rfl bp.k0 (fun s9 e9 z9 a9 _ => ?_)
   have e79 : Step (cG kb) s7 s9 := (e8.mono tE).trans (e9.mono we)
   have e59 : Step (cG kb) s5 s9 := e67.n.trans e79
   refine hK s9 (e05.trans (e59.mono tD)) (v5.fQ e59 (by omega) hkb.clear) ⟨sl8, _, bp.k0, a9, w8.st e9 (by simp), ?_, ?_⟩
   ·refine gx.snoc (bp7.all.imp fun _ _ g => g.mono e79.v0) ⟨rfl, by show ((o3.len : Nat) : Int) = _; rw [hlen3], rfl, Ls.st lf7 e79⟩
   ·intro m c hm hc
    rw [List.getLast?_append, List.getLast?_singleton] at hm hc
    simp at hm hc
    subst hm hc
    exact ⟨Ls.st lf7 e79, fun a ha i h1 h2 => by simp [gj] at h1 h2; omega⟩
end Go.Ph
end
section
set_option linter.all false
namespace Go.Ph
open S
theorem EU {s : St} {q lb lo : Nat} {m : bM} {c : fK} {K : Bool → HP} (hat : At (s.w q) lb lo (fV c)) (cv : ku (s.w 0) m c) (hb : m.l.length ≤ 900000000 ∧ ∀ f ∈ m.l, f.at_ ≤ 1000000000 ∧ f.len ≤ 1000000000 ∧ f.x.f.length = 11) (hK : K (P.clean m) s.H) : pP (some ⟨lb, lo, none⟩) K s.H := by
 unfold pP
 unfold fV at hat
 have hlen := cv.l.len
 unfold P.clean at hK
 refine aj ?_
 refine aC (n := c.l) hat rfl ?_
 refine aN (fun hp => ?_) (fun hp => ?_)
 ·obtain ⟨f, hf⟩ : ∃ f, m.l[m.l.length - 1]? = some f := ⟨_, List.getElem?_eq_getElem (by omega)⟩
  have hgl : m.l.getLast? = some f := by rw [List.getLast?_eq_getElem?]; exact hf
  rw [hgl] at hK
  have hfb := hb.2 f (List.mem_of_getElem? hf)
  rw [aY (n := ((c.l.len : Nat) : Int) - 1) (by omega) (by omega)]
  have hi : (((c.l.len : Nat) : Int) - 1).toNat = m.l.length - 1 := by omega
  refine aj ?_
  refine aC (n := c.l) hat rfl ?_
  refine bU cv.l (by omega) (by omega) fun bx ox f1 hf1 hel => ?_
  rw [hi, hf] at hf1
  have := Option.some.inj hf1
  subst this
  obtain ⟨vs, ⟨sd, rfl, h11, hd⟩, hatf⟩ := hel
  refine av hatf rfl ?_
  refine aj ?_
  refine aC (n := c.l) hat rfl ?_
  refine bU cv.l (by omega) (by omega) fun bx2 ox2 f2 hf2 hel2 => ?_
  rw [hi, hf] at hf2
  have := Option.some.inj hf2
  subst this
  obtain ⟨vs, ⟨sd2, rfl, h112, hd2⟩, hatf2⟩ := hel2
  refine av (n := ((f.len : Nat) : Int)) hatf2 rfl ?_
  refine aj ?_
  refine av hat rfl ?_
  rw [aY (by omega) (by omega), cv.size]
  have : decide ((f.at_ : Int) + (f.len : Int) = m.size) = decide (((f.at_ + f.len : Nat) : Int) = m.size) := by rw [decide_eq_decide]; omega
  rw [this]
  exact hK
 ·have : m.l = [] := List.eq_nil_of_length_eq_zero (by omega)
  rw [this] at hK
  exact hK
theorem vn {N : Nat} {d : ah} {x : BoxM} {m : bM} {y : RecM} (h : fq N x) (hN : N + 100000 ≤ 900000000) (hm : x.l.getLast? = some m) (hy : y.f.length = 11) : fq (N + 100000) (P.add d x m y).2.1 ∧ (P.add d x m y).1.calls ≤ d.calls + 4 ∧ (P.add d x m y).2.1.user = x.user ∧ (P.add d x m y).2.1.bound = x.bound := by
 have hmm := h.last hm
 have hsc := R.nk (aT x.user m.seq) (ba (bB y)) d
 have same : fq (N + 100000) x := ⟨h.len, by omega, h.next, fun c hc => by have := h.all c hc; refine ⟨this.1, this.2.1, this.2.2.1, by omega, by omega, this.2.2.2.2.2⟩⟩
 unfold P.add
 split
 ·exact ⟨same, by simp only; omega, rfl, rfl⟩
 ·rename_i h0
  split
  ·exact ⟨same, by simp only; omega, rfl, rfl⟩
  ·have hck := iX (x := y) (by simpa using h0)
   have hfl := pQ hck
   refine ⟨⟨by simp only [List.length_set]; exact h.len, by omega, ?_, ?_⟩, by simp only; omega, rfl, rfl⟩
   ·have := h.next
    show 1 ≤ after x.next y
    unfold after; omega
   ·intro c hc
    rcases List.mem_or_eq_of_mem_set hc with h1 | rfl
    ·exact same.all c h1
    ·refine ⟨hmm.1, hmm.2.1, by simp only; omega, by simp only; omega, by simp only [List.length_append, List.length_singleton]; omega, ?_⟩
     intro f hf
     simp only [List.mem_append, List.mem_singleton] at hf
     rcases hf with hf | rfl
     ·exact hmm.2.2.2.2.2 f hf
     ·exact ⟨by simp only; omega, by simp only; omega, hy⟩
theorem aeg {N : Nat} {C : Cx} {kd kb : Nat} {s : St} {b p : Nat} {d : ah} {x : BoxM} {K : Int → HP} (h : DV kd s b d) (hb : dJ kb s p x (some ⟨b, 0, none⟩)) (hx : fq N x) (hN : N + 100000 ≤ 900000000) (hc : d.calls + 30000 < 1000000000000 - 1024) (hko : Ko kd s) (hkb : Kb kb kd s)
  (hK : ∀ s', Step (bN kd kb) s s' → DV kd s' b (P.room d x).1 → dJ kb s' p (P.room d x).2.1 (some ⟨b, 0, none⟩) → K (P.room d x).2.2 s'.H) : sF C (some ⟨p, 0, none⟩) K s.H := by
 unfold sF
 have hxl := hx.len
 have hbv := hb
 obtain ⟨sl, cs, bp⟩ := hb
 unfold P.room at hK
 refine vp bp (by omega) (fun h0 => ?_) (fun m c lb lo hm hc' ha hat cv => ?_)
 ·rw [h0] at hK
  refine bt ?_
  unfold mW
  refine bt (bt ?_)
  unfold ow
  refine bt ?_
  exact Bo h hbv hx (by omega) hko hkb hK
 ·rw [hm] at hK
  simp only at hK
  have hmm := hx.last hm
  have hbb : m.l.length ≤ 900000000 ∧ ∀ f ∈ m.l, f.at_ ≤ 1000000000 ∧ f.len ≤ 1000000000 ∧ f.x.f.length = 11 := ⟨by omega, hmm.2.2.2.2.2⟩
  refine bH ?_
  have hat' := hat
  unfold fV at hat'
  have j1 : ¬(P.clean m = true ∧ m.size < x.bound) → mW C (some ⟨p, 0, none⟩) (some ⟨lb, lo + (x.l.length - 1) * 4, none⟩) false K s.H := fun hn => by
   rw [if_neg hn] at hK
   unfold mW
   refine bt (bH ?_)
   refine EU hat cv hbb ?_
   have j2f : ¬(P.clean m = true ∧ P.yp m ≠ 5) → ow C (some ⟨p, 0, none⟩) false K s.H := fun hn2 => by
    rw [if_neg hn2] at hK
    unfold ow
    exact bt (Bo h hbv hx (by omega) hko hkb hK)
   refine js (fun hcl => ?_) (fun hcl => j2f (fun hh => by rw [hh.1] at hcl; cases hcl))
   refine aj ?_
   refine aC (n := c.l) hat' rfl ?_
   refine aj ?_
   refine aC (n := c.l) hat' rfl ?_
   have hlen := cv.l.len
   have hcl2 := hcl
   unfold P.clean at hcl2
   obtain ⟨f, hgl⟩ : ∃ f, m.l.getLast? = some f := by
    cases e : m.l.getLast? with
    | none => rw [e] at hcl2; cases hcl2
    | some f => exact ⟨f, rfl⟩
   obtain ⟨hpos, hf⟩ := r9 hgl
   rw [aY (by omega) (by omega)]
   refine bU cv.l (by omega) (by omega) fun bx ox f1 hf1 hel => ?_
   rw [show (((c.l.len : Nat) : Int) - 1).toNat = m.l.length - 1 by omega, hf] at hf1
   have := Option.some.inj hf1
   subst this
   obtain ⟨vs, ⟨sd, rfl, h11, hd⟩, hatf⟩ := hel
   refine UT (f := f) hatf (by omega) ?_
   have hlk : P.yp m = f.x.f.getD 0 0 := by unfold P.yp; rw [hgl]; rfl
   by_cases hk : f.x.f.getD 0 0 = 5
   ·rw [decide_eq_true hk]
    exact j2f (fun hh => hh.2 (hlk.trans hk))
   ·rw [decide_eq_false hk]
    rw [if_pos ⟨hcl, by rw [hlk]; exact hk⟩] at hK
    unfold ow
    refine bH ?_
    have hrow := bp.row
    refine aj ?_
    refine av hrow rfl ?_
    have hab := vn (d := d) (y := P.fE x.next) hx hN hm rfl
    refine LC (y := P.fE x.next) h hbv hm (by omega) hx.next ⟨by omega, by omega⟩ (by omega) ⟨rfl, Ls.iO⟩ (by omega) hko hkb fun s1 e1 v1 b1 => ?_
    generalize P.add d x m (P.fE x.next) = a at *
    refine bK (fun hne => ?_) (fun heq => ?_)
    ·rw [if_pos hne] at hK
     exact hK s1 e1 v1 b1
    ·rw [if_neg (by simpa using heq)] at hK
     have hab2 := hab.2.1
     exact Bo v1 b1 hab.1 (by omega) (hko.mono e1) (hkb.mono e1) fun s2 e2 => hK s2 (e1.trans e2)
  refine EU hat cv hbb ?_
  refine js (fun hcl => ?_) (fun hcl => j1 (fun hh => by rw [hh.1] at hcl; cases hcl))
  refine aj ?_
  refine av hat' rfl ?_
  have hrow := bp.row
  refine aj ?_
  refine av hrow rfl ?_
  rw [cv.size]
  by_cases hsb : m.size < x.bound
  ·rw [decide_eq_true hsb]
   rw [if_pos ⟨hcl, hsb⟩] at hK
   unfold mW
   exact bH (hK s Step.refl h hbv)
  ·rw [decide_eq_false hsb]
   exact j1 (fun hh => hsb hh.2)
end Go.Ph
end
section
set_option linter.all false
namespace Go.Ph
open S
def lg (r : fB) : List Value := [.int .i64 r.Seq, .int .i64 r.At, .int .i64 r.iw, .int .i64 r.iz, .int .i64 r.iJ, .int .i64 r.iM, .int .i64 r.ir, .int .i64 r.iu, .int .i64 r.iI, .int .i64 r.iE, .int .i64 r.iK, .int .i64 r.iG, .int .i64 r.iH, .slice r.cU.a r.cU.len r.cU.cap]
theorem IE {s : St} {q b : Nat} {vs : List Value} {r : fB} {K : fB → HP} (h : At (s.w q) b 0 vs) (hl : vs.length = 14) (hq : q ≠ 0)
  (hK : ∀ s', Step [q] s s' → K r s'.H) : aq (af b) 0 (lg r) (kF (af b) fun r => K r) s.H := by
 refine eZ q h (by rw [hl]; rfl) (by simp [one, lg]) hq (.inl rfl) fun s1 e1 z1 a1 _ => ?_
 unfold lg at a1
 unfold kF
 repeat (first|refine aj ?_|refine av a1 rfl ?_|refine aK a1 rfl ?_|refine aH a1 rfl ?_|refine aI a1 rfl ?_|refine aJ a1 rfl ?_|refine aC a1 rfl ?_)
 exact hK s1 e1
namespace P
def put (d : ah) (x : BoxM) (y : RecM) : ah × BoxM × Option fY × Int :=
 if bS y = false ∨ cj y ≠ 0 ∨ bI x.l = 99999999 then (d, x, none, 1)
 else if (room d x).2.2 ≠ 0 then ((room d x).1, (room d x).2.1, none, (room d x).2.2)
 else match (room d x).2.1.l.getLast? with
  | none => ((room d x).1, (room d x).2.1, none, 1)
  | some m => if (add (room d x).1 (room d x).2.1 m y).2.2 ≠ 0 then ((add (room d x).1 (room d x).2.1 m y).1, (add (room d x).1 (room d x).2.1 m y).2.1, none, (add (room d x).1 (room d x).2.1 m y).2.2)
   else ((add (room d x).1 (room d x).2.1 m y).1, (add (room d x).1 (room d x).2.1 m y).2.1, some ⟨m.seq, m.size.toNat, y⟩, 0)
end P
theorem Lx {N : Nat} {d : ah} {x : BoxM} (h : fq N x) (hl : x.l.length + 1 ≤ 1000000) (hN : N + 100000 ≤ 900000000) (hq : P.bI x.l < 99999999) : fq (N + 100000) (P.fresh d x).2.1 ∧ (P.fresh d x).1.calls ≤ d.calls + 100 ∧ (P.fresh d x).2.1.user = x.user ∧ (P.fresh d x).2.1.bound = x.bound ∧ ((P.fresh d x).2.2 = 0 → (P.fresh d x).2.1.l ≠ []) := by
 have hls := tH h
 have hmc := Ki d (aT x.user (P.bI x.l + 1)) (ba (bB (P.cW x (P.bI x.l + 1) 0)))
 have same : fq (N + 100000) x := ⟨h.len, by omega, h.next, fun c hc => by have := h.all c hc; refine ⟨this.1, this.2.1, this.2.2.1, by omega, by omega, this.2.2.2.2.2⟩⟩
 unfold P.fresh
 split
 ·rename_i hne
  exact ⟨same, by simp only; omega, rfl, rfl, fun h0 => absurd h0 hne⟩
 ·rename_i h0
  split
  ·rename_i hne
   exact ⟨same, by simp only; omega, rfl, rfl, fun h0 => absurd h0 hne⟩
  ·have hck := iX (x := P.cW x (P.bI x.l + 1) 0) (by simpa using h0)
   have hfl := pQ hck
   refine ⟨⟨by simp only [List.length_append, List.length_singleton]; exact hl, by omega, h.next, ?_⟩, by simp only; omega, rfl, rfl, fun _ => by simp⟩
   intro c hc
   simp only [List.mem_append, List.mem_singleton] at hc
   rcases hc with hc | rfl
   ·exact same.all c hc
   ·refine ⟨by simp only; omega, by simp only; omega, by simp only; omega, by simp only; omega, by simp only [List.length_singleton]; omega, ?_⟩
    intro f hf
    simp only [List.mem_singleton] at hf
    subst hf
    exact ⟨by simp only; omega, by simp only; omega, rfl⟩
set_option maxRecDepth 20000 in
theorem M8 {N : Nat} {d : ah} {x : BoxM} (h : fq N x) (hl : x.l.length + 1 ≤ 1000000) (hN : N + 200000 ≤ 900000000) (hq : P.bI x.l < 99999999) : fq (N + 200000) (P.room d x).2.1 ∧ (P.room d x).1.calls ≤ d.calls + 200 ∧ (P.room d x).2.1.user = x.user ∧ (P.room d x).2.1.bound = x.bound ∧ ((P.room d x).2.2 = 0 → (P.room d x).2.1.l ≠ []) := by
 have up : ∀ {x : BoxM} {M M' : Nat}, M ≤ M' → M' ≤ 900000000 → fq M x → fq M' x := fun hm hm' h => ⟨h.len, hm', h.next, fun c hc => by have := h.all c hc; refine ⟨this.1, this.2.1, this.2.2.1, by omega, by omega, this.2.2.2.2.2⟩⟩
 have fr := Lx (d := d) h hl (by omega) hq
 unfold P.room
 split
 ·exact ⟨up (by omega) hN fr.1, by omega, fr.2.2.1, fr.2.2.2⟩
 ·rename_i m hm
  split
  ·exact ⟨up (by omega) hN h, by simp only; omega, rfl, rfl, fun _ h0 => by simp only at h0; rw [h0] at hm; simp at hm⟩
  ·split
   ·have ab := vn (d := d) (y := P.fE x.next) h (by omega) hm rfl
    have hll : (P.add d x m (P.fE x.next)).2.1.l.length = x.l.length := by unfold P.add; split; rfl; split; rfl; simp
    have hls : P.bI (P.add d x m (P.fE x.next)).2.1.l = P.bI x.l := by
     unfold P.add
     split
     ·rfl
     ·split
      ·rfl
      ·unfold P.bI
       simp only
       obtain ⟨h1, h2⟩ := r9 hm
       rw [hm, List.getLast?_eq_getElem?, List.length_set, List.getElem?_set_self (by omega)]
    split
    ·rename_i hne
     refine ⟨up (by omega) hN ab.1, by omega, ab.2.2.1, ab.2.2.2, fun h0 => absurd h0 hne⟩
    ·have f2 := Lx (d := (P.add d x m (P.fE x.next)).1) ab.1 (by omega) (by omega) (by omega)
     exact ⟨up (by omega) hN f2.1, by omega, f2.2.2.1.trans ab.2.2.1, f2.2.2.2.1.trans ab.2.2.2, f2.2.2.2.2⟩
   ·exact ⟨up (by omega) hN fr.1, by omega, fr.2.2.1, fr.2.2.2⟩
structure L8 (V : View) (q : fY) (r : fB) : Prop where
 row : ∃ sl : Sl, lg r = .int .i64 q.seq :: .int .i64 q.at_ :: bL q.x.f sl ∧ Ls bf V q.x.data sl
theorem DA {kd : Nat} {s : St} (h : Ko kd s) : own s ∉ dk kd := by have := h.own (j := 0) (by decide); simpa using this
theorem aax {kd kb : Nat} {s : St} (h : Ko kd s) (hb : Kb kb kd s) : own s ∉ bN kd kb := by
 have h1 := DA h
 have h2 := hb.own
 unfold bN cG
 simp only [List.mem_append, List.mem_cons, List.not_mem_nil, or_false, not_or]
 exact ⟨h1, by omega, by omega, by omega⟩
set_option maxRecDepth 20000 in
theorem Le {N : Nat} {C : Cx} {kd kb : Nat} {s : St} {b p : Nat} {d : ah} {x : BoxM} {y : RecM} {r : aZ} {K : fB → Int → HP} (h : DV kd s b d) (hb : dJ kb s p x (some ⟨b, 0, none⟩)) (hx : fq N x) (hN : N + 300000 ≤ 900000000) (hl : x.l.length + 1 ≤ 1000000) (hr : dM (s.w 0) y r) (hc : d.calls + 40000 < 1000000000000 - 1024) (hko : Ko kd s) (hkb : Kb kb kd s)
  (hE : ∀ s' r, (P.put d x y).2.2.1 = none → Step (bN kd kb) s s' → DV kd s' b (P.put d x y).1 → dJ kb s' p (P.put d x y).2.1 (some ⟨b, 0, none⟩) → K r (P.put d x y).2.2.2 s'.H)
  (hO : ∀ s' r q, (P.put d x y).2.2.1 = some q → Step (bN kd kb) s s' → DV kd s' b (P.put d x y).1 → dJ kb s' p (P.put d x y).2.1 (some ⟨b, 0, none⟩) → L8 (s'.w 0) q r → K r 0 s'.H) : nT C (some ⟨p, 0, none⟩) r K s.H := by
 unfold nT
 have hyl := hr.len
 have hclear := hkb.cl
 have hos := aax hko hkb
 have hq0 : own s ≠ 0 := by unfold own; omega
 have hxl := hx.len
 refine bZ fun s1 p3 n1 a1' => ?_
 have e1 := n1.step
 have hz1 := e1.sz
 have a1 : At (s1.w 0) p3 0 (bL y.f r.Data) := by rw [← hr.f]; exact a1'
 refine dm (own s) (by unfold own; omega) fun s2 p4 n2 a2 => ?_
 have e2 := n2.step
 have e12 := e1.trans e2
 have a12 := a1.mono e2.v0
 have ra : ∀ {s' : St} {r2 : aZ} {S : List Nat}, Step S s s' → fieldsOf r2 = y.f → r2.Data = r.Data → dM (s'.w 0) y r2 := fun e f dd => ⟨f, by rw [dd]; exact Ls.st hr.data e⟩
 have fail : ∀ (s' : St) (e : Int), (P.put d x y).2.2.1 = none → (P.put d x y).2.2.2 = e → Step (own s :: bN kd kb) s s' → DV kd s' b (P.put d x y).1 → dJ kb s' p (P.put d x y).2.1 (some ⟨b, 0, none⟩) → (P.put d x y).1.calls + 10 < 1000000000000 - 1024 → At (s'.w (own s)) p4 0 (lg ⟨0, 0, 0, 0, 0, 0, 0, 0, 0, 0, 0, 0, 0, ⟨none, 0, 0⟩⟩) →
   aq (af p4) 0 (lg ⟨0, 0, 0, 0, 0, 0, 0, 0, 0, 0, 0, 0, 0, ⟨none, 0, 0⟩⟩) (kF (af p4) fun r => K r e) s'.H := fun s' e h1 h2 es v bx hcc a => by
  refine IE a rfl hq0 fun s3 e3 => ?_
  rw [← h2]
  refine hE s3 _ h1 ((es.trans (e3.mono (by simp))).loc) (v.fQ e3 (by omega) (fun z hz => by simp at hz; subst hz; exact DA hko)) (bx.st e3 ?_ ?_ ?_)
  ·have := hkb.own; simp; omega
  ·have := hkb.own; simp; omega
  ·have := hkb.own; simp; omega
 have bad : (bS y = false ∨ cj y ≠ 0 ∨ P.bI x.l = 99999999) → ∀ s', Step [] s s' → At (s'.w (own s)) p4 0 (lg ⟨0, 0, 0, 0, 0, 0, 0, 0, 0, 0, 0, 0, 0, ⟨none, 0, 0⟩⟩) → pF C (some ⟨p, 0, none⟩) p3 p4 true K s'.H := fun hh s' es a => by
  have hp : P.put d x y = (d, x, none, 1) := by unfold P.put; rw [if_pos hh]
  unfold pF
  refine bH ?_
  have := fail s' 1 (by rw [hp]) (by rw [hp]) es.n (by rw [hp]; exact h.st es (by simp)) (by rw [hp]; exact hb.st es (by simp) (by simp) (by simp)) (by rw [hp]; simp only; omega) a
  exact this
 refine fF a12 hyl fun r1 f1 d1 => ?_
 refine zM (ra e12 f1 d1) fun s3 e3 => ?_
 have e13 := e12.trans e3
 have a23 : At (s3.w (own s)) p4 0 (lg ⟨0, 0, 0, 0, 0, 0, 0, 0, 0, 0, 0, 0, 0, ⟨none, 0, 0⟩⟩) := At.mono a2 (e3.view (by simp))
 by_cases hk : bS y = true
 case neg => rw [show bS y = false by simpa using hk]; exact bH (bad (.inl (by simpa using hk)) s3 e13 a23)
 rw [hk]
 refine bt ?_
 refine fF (a12.mono e3.v0) hyl fun r2 f2 d2 => ?_
 refine yy (ra e13 f2 d2) fun s4 e4 => ?_
 have e14 := e13.trans e4
 have a24 := a23.mono (e4.view (k := own s) (by simp))
 refine bK (fun hne => bad (.inr (.inl hne)) s4 e14 a24) (fun heq => ?_)
 have hb4 := hb.st e14 (by simp) (by simp) (by simp)
 refine DG hb4 (by omega) ?_
 by_cases hlast : P.bI x.l = 99999999
 ·rw [decide_eq_true hlast]; exact bad (.inr (.inr hlast)) s4 e14 a24
 rw [decide_eq_false hlast]
 have hp : P.put d x y = P.put d x y := rfl
 conv at hp => rhs; unfold P.put
 rw [if_neg (by rw [hk]; simp; exact ⟨heq, hlast⟩)] at hp
 have hls := tH hx
 have rb := M8 (d := d) hx hl (by omega) (by omega)
 unfold pF
 refine bt ?_
 have hko4 := hko.mono e14
 have hkb4 := hkb.mono e14
 refine aeg (h.st e14 (by simp)) hb4 hx (by omega) (by omega) hko4 hkb4 fun s5 e5 v5 b5 => ?_
 have e05 : Step (own s :: bN kd kb) s s5 := e14.n.trans (e5.mono (by intro z hz; simp [hz]))
 have a25 := a24.mono (e5.view hos)
 have a15 := ((a12.mono e3.v0).mono e4.v0).mono e5.v0
 generalize P.room d x = rm at *
 refine aN (fun h0 => ?_) (fun h0 => ?_)
 ·rw [if_neg (by simpa using h0)] at hp
  obtain ⟨m, hm⟩ : ∃ m, rm.2.1.l.getLast? = some m := by
   cases e : rm.2.1.l.getLast? with
   | none => rw [List.getLast?_eq_none_iff] at e; exact absurd e (rb.2.2.2.2 h0)
   | some m => exact ⟨m, rfl⟩
  rw [hm] at hp
  simp only at hp
  have hmm := rb.1.last hm
  have hxl2 := rb.1.len
  refine fF a15 hyl fun r3 f3 d3 => ?_
  have hko5 := hko4.mono e5
  have hkb5 := hkb4.mono e5
  have hab := vn (d := rm.1) (y := y) rb.1 (by omega) hm hyl
  have hal : (P.add rm.1 rm.2.1 m y).2.2 = 0 → (P.add rm.1 rm.2.1 m y).2.1.l = rm.2.1.l.set (rm.2.1.l.length - 1) { m with size := m.size + (bB y).length, l := m.l ++ [⟨m.size.toNat, (bB y).length, y⟩] } := fun h0 => by
   unfold P.add at h0 ⊢
   by_cases c1 : cj y ≠ 0
   ·rw [if_pos c1] at h0; exact absurd h0 c1
   rw [if_neg c1] at h0 ⊢
   by_cases c2 : (R.cZ (aT rm.2.1.user m.seq) (ba (bB y)) rm.1).2 ≠ 0
   ·rw [if_pos c2] at h0; exact absurd h0 c2
   rw [if_neg c2]
  refine LC (y := y) v5 b5 hm (by omega) rb.1.next ⟨by omega, by omega⟩ (by omega) (ra e05 f3 d3) (by omega) hko5 hkb5 fun s6 e6 v6 b6 => ?_
  have e06 : Step (own s :: bN kd kb) s s6 := e05.trans (e6.mono (by intro z hz; simp [hz]))
  have a26 := a25.mono (e6.view hos)
  have a16 := a15.mono e6.v0
  generalize P.add rm.1 rm.2.1 m y = ad at *
  unfold xK
  refine bK (fun hne => ?_) (fun heq2 => ?_)
  ·rw [if_pos hne] at hp
   exact fail s6 ad.2.2 (by rw [hp]) (by rw [hp]) e06 (by rw [hp]; exact v6) (by rw [hp]; exact b6) (by rw [hp]; simp only; omega) a26
  ·rw [if_neg (by simpa using heq2)] at hp
   have hal' := hal heq2
   obtain ⟨hlp, hidx⟩ := r9 hm
   have b6' := b6
   obtain ⟨sl, cs, bp⟩ := b6
   have hgl : ad.2.1.l.getLast? = some { m with size := m.size + (bB y).length, l := m.l ++ [⟨m.size.toNat, (bB y).length, y⟩] } := by
    rw [hal', List.getLast?_eq_getElem?, List.length_set, List.getElem?_set_self (by omega)]
   refine vp bp (by rw [hal', List.length_set]; omega) (fun h0 => by rw [h0] at hgl; simp at hgl) (fun m' c lb lo hm' hc' ha hat cv => ?_)
   have : m' = { m with size := m.size + (bB y).length, l := m.l ++ [⟨m.size.toNat, (bB y).length, y⟩] } := by rw [hgl] at hm'; exact (Option.some.inj hm').symm
   subst this
   unfold fV at hat
   refine aj ?_
   refine av hat rfl ?_
   refine aj ?_
   refine aC (n := c.l) hat rfl ?_
   refine aj ?_
   refine aC (n := c.l) hat rfl ?_
   have hll := cv.l.len
   simp only [List.length_append, List.length_singleton] at hll
   rw [aY (by omega) (by omega)]
   refine bU cv.l (by omega) (by simp only [List.length_append, List.length_singleton]; omega) fun bx ox f hf hel => ?_
   have hff : f = ⟨m.size.toNat, (bB y).length, y⟩ := by
    rw [show (((c.l.len : Nat) : Int) - 1).toNat = m.l.length by omega, List.getElem?_append_right (Nat.le_refl _), Nat.sub_self] at hf
    simpa using hf.symm
   subst hff
   obtain ⟨vs, ⟨sd, rfl, h11, hd⟩, hatf⟩ := hel
   refine av hatf rfl ?_
   refine fF a16 hyl fun r4 f4 d4 => ?_
   rw [cv.seq]
   refine IE (r := ⟨m.seq, (m.size.toNat : Nat), r4.Kind, r4.bR, r4.Seq, r4.Next, r4.bW, r4.bV, r4.Time, r4.Flags, r4.Body, r4.bQ, r4.Origin, r4.Data⟩) a26 rfl hq0 fun s7 e7 => ?_
   have hkbo := hkb.own
   refine hO s7 _ ⟨m.seq, m.size.toNat, y⟩ (by rw [hp]) ((e06.trans (e7.mono (by simp))).loc) (by rw [hp]; exact v6.fQ e7 (by omega) (fun z hz => by simp at hz; subst hz; exact DA hko)) (by rw [hp]; exact b6'.st e7 (by simp; omega) (by simp; omega) (by simp; omega)) ⟨r.Data, ?_, Ls.st hr.data (e06.trans (e7.mono (by simp)))⟩
   show _ = _ :: _ :: bL y.f r.Data
   rw [← f4, ← d4]; rfl
 ·rw [if_pos h0] at hp
  unfold xK
  exact bK (fun _ => fail s5 rm.2.2 (by rw [hp]) (by rw [hp]) e05 (by rw [hp]; exact v5) (by rw [hp]; exact b5) (by rw [hp]; simp only; omega) a25) (fun hz => absurd hz h0)
end Go.Ph
end
section
set_option linter.all false
namespace Go.Ph
open S
theorem MZ {s : St} {q b o : Nat} {x : fY} {sl : Sl} {K : fB → HP} (h : At (s.w q) b o (.int .i64 x.seq :: .int .i64 x.at_ :: bL x.x.f sl)) (hf : x.x.f.length = 11) (hK : ∀ r : fB, lg r = .int .i64 x.seq :: .int .i64 x.at_ :: bL x.x.f sl → r.Seq = x.seq → r.At = x.at_ → K r s.H) : kF ⟨b, o, none⟩ K s.H := by
 obtain ⟨a, n, ⟨fl, dt⟩⟩ := x
 simp only at hf
 match fl, hf, h, hK with
 | [a0, a1, a2, a3, a4, a5, a6, a7, a8, a9, a10], _, h, hK =>
  unfold kF
  repeat (first|refine aj ?_|refine av h rfl ?_|refine aK h rfl ?_|refine aH h rfl ?_|refine aI h rfl ?_|refine aJ h rfl ?_|refine aC h rfl ?_)
  exact hK ⟨a, n, a0, a1, a2, a3, a4, a5, a6, a7, a8, a9, a10, sl⟩ rfl rfl rfl
def NQ (C : Cx) (s0 : St) (f : FV) (q : Int) (a : Int) : Prop := ∀ (s : St) (r : fB) (K : Value → HP), Step [] s0 s → (∀ s', Step [] s s' → K (.bool (decide (r.Seq = q ∧ r.At = a))) s'.H) → C.ap f [r.v] K s.H
theorem Wn {C : Cx} {s : St} {l : List fY} {sl : Sl} {f : FV} {q a : Int} {K : Bool → HP} (h : Ls mA (s.w 0) l sl) (hl : l.length ≤ 1000000000000) (hf : NQ C s f q a) (hK : ∀ s', Step [] s s' → K (l.any fun x => decide (x.seq = q ∧ (x.at_ : Int) = a)) s'.H) : sx C sl f K s.H := by
 unfold sx ym
 have hlen := h.len
 refine cD (fun i : Nat => [.int .i64 i]) (fun i s' => i ≤ l.length ∧ Step [] s s' ∧ (l.take i).any (fun x => decide (x.seq = q ∧ (x.at_ : Int) = a)) = false) (fun i _ => l.length - i) 0 rfl ⟨Nat.zero_le _, Step.refl, by simp⟩ ?_
 rintro i s1 ⟨hi, e1, hn⟩ G hG
 simp only [List.getD_cons_zero, List.getD_cons_succ, cI, cN, cK, cH, cJ, cO]
 refine aN (fun hlt => ?_) (fun hlt => ?_)
 ·refine bU (Ls.st h e1) (by omega) (by omega) fun bx ox x hx hel => ?_
  rw [Int.toNat_natCast] at hx
  obtain ⟨vs, ⟨sd, rfl, h11, hd⟩, hat⟩ := hel
  refine MZ hat h11 fun r hr h1 h2 => ?_
  refine hf s1 r _ e1 fun s2 e2 => ?_
  rw [h1, h2]
  simp only [List.getD_cons_zero, List.getD_cons_succ, cI, cN, cK, cH, cJ, cO]
  have htk := F3 hx hn
  refine aN (fun hc => ?_) (fun hc => ?_)
  ·rw [decide_eq_true (show (0 : Int) ≤ (i : Int) by omega)]
   have := hK s2 (e1.trans e2)
   rwa [any_true hx (by rw [decide_eq_true hc])] at this
  ·rw [aY (by omega) (by omega)]
   refine hG (i + 1) s2 ⟨by omega, e1.trans e2, ?_⟩ (by omega)
   rw [htk, decide_eq_false hc]
 ·have : i = l.length := by omega
  subst this
  rw [List.take_of_length_le (Nat.le_refl _)] at hn
  have := hK s1 e1
  rw [hn] at this
  exact this
def P.get (d : ah) (x : BoxM) (q : Int) (a : Nat) : Option RecM × Int :=
 if (R.text d (aT x.user q)).2 ≠ 0 then (none, (R.text d (aT x.user q)).2)
 else if ((P.places x.l).any fun z => decide (z.seq = q ∧ (z.at_ : Int) = a)) = false then (none, 7)
 else match gB ((R.text d (aT x.user q)).1.data.toList.drop a) with
  | [] => (none, 12)
  | f :: _ => if f.at_ ≠ 0 then (none, 12) else (some f.x, 0)
theorem Zl {C : Cx} {kd kb : Nat} {s : St} {b p : Nat} {d : ah} {x : BoxM} {z : fY} {r : fB} {K : aZ → Int → HP} (h : DV kd s b d) (hb : dJ kb s p x (some ⟨b, 0, none⟩)) (hx : qL x) (hr : L8 (s.w 0) z r) (hts : (R.text d (aT x.user z.seq)).1.size ≤ 4194304) (hko : Ko kd s) (hkb : Kb kb kd s)
  (hE : ∀ s' r, (P.get d x z.seq z.at_).1 = none → Step [] s s' → K r (P.get d x z.seq z.at_).2 s'.H)
  (hO : ∀ s' r y, (P.get d x z.seq z.at_).1 = some y → Step [] s s' → dM (s'.w 0) y r → K r 0 s'.H) : rH C (some ⟨p, 0, none⟩) r K s.H := by
 unfold rH
 have hq0 : own s ≠ 0 := by unfold own; omega
 have hkbo := hkb.own
 obtain ⟨rsl, hrr, hrd⟩ := hr.row
 refine bZ fun s1 p3 n1 a1' => ?_
 have e1 := n1.step
 have hz1 := e1.sz
 have a1 : At (s1.w 0) p3 0 (.int .i64 z.seq :: .int .i64 z.at_ :: bL z.x.f rsl) := by rw [← hrr]; exact a1'
 refine dm (own s) (by unfold own; omega) fun s2 p4 n2 a2 => ?_
 have e2 := n2.step
 have e12 := e1.trans e2
 have a12 := a1.mono e2.v0
 have hb2 := hb.st e12 (by simp) (by simp) (by simp)
 have hb2' := hb2
 obtain ⟨sl, cs, bp⟩ := hb2
 have hrow := bp.row
 repeat (first|refine aj ?_|refine av hrow rfl ?_|refine aK hrow rfl ?_|refine aH hrow rfl ?_|refine aI hrow rfl ?_|refine aJ hrow rfl ?_|refine aC hrow rfl ?_)
 refine av a12 rfl ?_
 refine lq fun s3 e3 => ?_
 have hrow3 := hrow.mono (e3.view (by simp))
 refine fD (aI hrow3 rfl rfl) ?_
 have e13 := e12.trans e3
 have fail : ∀ (s' : St) (e : Int), (P.get d x z.seq z.at_).1 = none → (P.get d x z.seq z.at_).2 = e → Step [own s] s s' → At (s'.w (own s)) p4 0 [.int .i64 0, .int .i64 0, .int .i64 0, .int .i64 0, .int .i64 0, .int .i64 0, .int .i64 0, .int .i64 0, .int .i64 0, .int .i64 0, .int .i64 0, .slice none 0 0] →
   aq (af p4) 0 [.int .i64 0, .int .i64 0, .int .i64 0, .int .i64 0, .int .i64 0, .int .i64 0, .int .i64 0, .int .i64 0, .int .i64 0, .int .i64 0, .int .i64 0, .slice none 0 0] (bq (af p4) fun r => K r e) s'.H := fun s' e h1 h2 es a => by
  refine mR (r := ⟨0, 0, 0, 0, 0, 0, 0, 0, 0, 0, 0, ⟨none, 0, 0⟩⟩) a rfl hq0 fun s3 e3 => ?_
  rw [← h2]
  exact hE s3 _ h1 ((es.trans e3).loc)
 have hg : P.get d x z.seq z.at_ = P.get d x z.seq z.at_ := rfl
 conv at hg => rhs; unfold P.get
 refine Fw (h.st e13 (by simp)) fun s4 o4 e4 l4 => ?_
 have e14 := e13.trans e4
 have a24 : At (s4.w (own s)) p4 0 [.int .i64 0, .int .i64 0, .int .i64 0, .int .i64 0, .int .i64 0, .int .i64 0, .int .i64 0, .int .i64 0, .int .i64 0, .int .i64 0, .int .i64 0, .slice none 0 0] := At.mono a2 ((e3.trans e4).view (by simp))
 have hts' : (R.text d (aT x.user z.seq)).1.data.toList.length ≤ 4194304 := by rw [dw]; exact hts
 generalize R.text d (aT x.user z.seq) = tx at *
 refine bK (fun hne => ?_) (fun heq => ?_)
 ·rw [if_pos hne] at hg
  exact fail s4 _ (by rw [hg]) (by rw [hg]) e14.n a24
 rw [if_neg (by simpa using heq)] at hg
 have hz4 := e14.sz
 refine yA (hb2'.st (e3.trans e4) (by simp) (by simp) (by simp)) hx (by unfold own at *; omega) fun s5 o5 e5 l5 => ?_
 have e15 := e14.trans e5
 intro f hf
 have hpl := zR x.l hx.cs.all
 have hxl := hx.len
 have a15 := ((a12.mono e3.v0).mono e4.v0).mono e5.v0
 refine Wn (q := z.seq) (a := z.at_) l5 (by omega) ?_ fun s6 e6 => ?_
 ·intro s7 r7 K7 e7 hk7
  refine hf _ _ _ ?_
  show xe r7 (af p3) (fun r => K7 (.bool r)) s7.H
  unfold xe
  refine bZ fun s8 p8 n8 a8 => ?_
  have a18 := (a15.mono e7.v0).mono n8.step.v0
  refine av a8 rfl ?_
  refine av a18 rfl ?_
  have hk8 := hk7 s8 n8.step
  refine aN (fun h1 => ?_) (fun h1 => ?_)
  ·refine av a8 rfl ?_
   refine av (n := (z.at_ : Int)) a18 rfl ?_
   have : decide (r7.Seq = z.seq ∧ r7.At = (z.at_ : Int)) = decide (r7.At = (z.at_ : Int)) := by rw [decide_eq_decide]; simp [h1]
   rwa [this] at hk8
  ·rwa [decide_eq_false (fun hh => h1 hh.1)] at hk8
 have e16 := e15.trans e6
 have a26 := (a24.mono (e5.view (k := own s) (by simp))).mono (e6.view (by simp))
 by_cases hany : ((P.places x.l).any fun y => decide (y.seq = z.seq ∧ (y.at_ : Int) = z.at_)) = true
 case neg =>
  have hanyf : ((P.places x.l).any fun y => decide (y.seq = z.seq ∧ (y.at_ : Int) = z.at_)) = false := by simpa using hany
  rw [hanyf]
  rw [if_pos hanyf] at hg
  exact bH (fail s6 7 (by rw [hg]) (by rw [hg]) e16.n a26)
 rw [hany]
 rw [if_neg (by rw [hany]; simp)] at hg
 refine bt ?_
 have a16 := a15.mono e6.v0
 refine av (n := (z.at_ : Int)) a16 rfl ?_
 have l6 := Ls.st (Ls.st l4 e5) e6
 have hl6 := l6.len
 have hc6 := l6.cap
 have hmn : (if ((o4.len : Nat) : Int) < (z.at_ : Int) then ((o4.len : Nat) : Int) else (z.at_ : Int)) = ((min z.at_ o4.len : Nat) : Int) := by split <;> omega
 rw [hmn]
 refine lY l6 (by omega) (by omega) (by omega) (by omega) (by omega) fun sub hsub _ => ?_
 have hdr : (tx.1.data.toList.take ((o4.len : Nat) : Int).toNat).drop ((min z.at_ o4.len : Nat) : Int).toNat = tx.1.data.toList.drop z.at_ := by
  rw [Int.toNat_natCast, Int.toNat_natCast, List.take_of_length_le (by omega)]
  by_cases hle : z.at_ ≤ o4.len
  ·rw [Nat.min_eq_left hle]
  ·rw [Nat.min_eq_right (by omega), List.drop_eq_nil_of_le (by omega), List.drop_eq_nil_of_le (by omega)]
 rw [hdr] at hsub
 have hz6 := e16.sz
 refine L6 (q := own s + 1) hsub (by rw [List.length_drop]; omega) (by unfold own; omega) (by unfold own; omega) fun s7 o7 e7 b7 => ?_
 have e07 : Step [own s, own s + 1] s s7 := e16.n.tr e7 (A := [])
 have a27 := a26.mono (e7.view (k := own s) (by simp))
 have hl7 := b7.ls.len
 have fail2 : ∀ (s' : St) (e : Int), (P.get d x z.seq z.at_).1 = none → (P.get d x z.seq z.at_).2 = e → s' = s7 → aq (af p4) 0 [.int .i64 0, .int .i64 0, .int .i64 0, .int .i64 0, .int .i64 0, .int .i64 0, .int .i64 0, .int .i64 0, .int .i64 0, .int .i64 0, .int .i64 0, .slice none 0 0] (bq (af p4) fun r => K r e) s'.H := fun s' e h1 h2 hs => by
  subst hs
  refine mR (r := ⟨0, 0, 0, 0, 0, 0, 0, 0, 0, 0, 0, ⟨none, 0, 0⟩⟩) a27 rfl hq0 fun s3 e3 => ?_
  rw [← h2]
  have q : Step [own s, own s + 1] s s3 := e07.tr e3
  exact hE s3 _ h1 (q.vD (Nat.le_refl _))
 cases hfs : gB (tx.1.data.toList.drop z.at_) with
 | nil =>
  rw [hfs] at hg hl7
  simp only at hg
  refine aN (fun _ => ?_) (fun h0 => absurd (by simpa using hl7) h0)
  unfold sR
  exact bH (fail2 s7 12 (by rw [hg]) (by rw [hg]) rfl)
 | cons f0 fr =>
  rw [hfs] at hg hl7 b7
  simp only at hg
  simp only [List.length_cons] at hl7
  refine aN (fun h0 => absurd h0 (by omega)) (fun _ => ?_)
  refine bU b7.ls (Int.le_refl _) (by simp only [List.length_cons]; omega) fun bx ox f1 hf1 hel => ?_
  have : f1 = f0 := by simpa using hf1.symm
  subst this
  obtain ⟨vs, ⟨sd, rfl, h11, hd⟩, hatf⟩ := hel
  refine av hatf rfl ?_
  by_cases hz0 : f1.at_ = 0
  ·rw [if_neg (by simpa using hz0)] at hg
   rw [decide_eq_true (show ((f1.at_ : Nat) : Int) = 0 by omega)]
   unfold sR
   refine bt ?_
   refine bU b7.ls (Int.le_refl _) (by simp only [List.length_cons]; omega) fun bx2 ox2 f2 hf2 hel2 => ?_
   have : f2 = f1 := by simpa using hf2.symm
   subst this
   obtain ⟨vs, ⟨sd2, rfl, h112, hd2⟩, hatf2⟩ := hel2
   refine vI (f := f2) hatf2 h112 fun r2 g2 dd2 => ?_
   refine mR a27 rfl hq0 fun s8 e8 => ?_
   have q : Step [own s, own s + 1] s s8 := e07.tr e8
   exact hO s8 r2 f2.x (by rw [hg]) (q.vD (Nat.le_refl _)) ⟨g2, by rw [dd2]; exact Ls.st hd2 e8⟩
  ·rw [if_pos hz0] at hg
   rw [decide_eq_false (show ¬ ((f1.at_ : Nat) : Int) = 0 by omega)]
   unfold sR
   exact bH (fail2 s7 12 (by rw [hg]) (by rw [hg]) rfl)
end Go.Ph
end
section
set_option linter.all false
namespace Go.Ph
open S
def d0 : ah := ⟨[], [], [], [], 1000, false, 0, -1, -1, 0⟩
def x0 : BoxM := ⟨7, 100, 1, []⟩
def y0 : RecM := ⟨[3, 0, 0, 0, 0, 3, 0, 0, 0, 0, 0], []⟩
theorem Hz : R.new [] 1000 = some d0 := rfl
theorem XT : aT 7 1 = (⟨#[99, 48, 48, 55, 45, 48, 48, 48, 48, 48, 48, 48, 49]⟩ : ByteArray) := by decide +kernel
theorem G6 : P.fe d0 7 100 = (d0, some x0, 0) := by rfl
def wh (c : bM) : Bool := decide (1 ≤ c.seq ∧ c.seq ≤ 99999999) && decide (0 ≤ c.size ∧ c.size ≤ 4194304) && decide (0 ≤ c.broken ∧ c.broken ≤ 4194304) && decide (c.l.length ≤ 4194304) &&
 c.l.all fun f => decide (f.at_ ≤ 4194304) && decide (f.len ≤ 4194304) && decide (f.x.f.length = 11) && (f.x.f.all fun v => decide (0 ≤ v ∧ v ≤ 9007199254740992)) && decide (f.x.data.length ≤ 4194304)
theorem ZA {c : bM} (h : wh c = true) : k9 c := by
 unfold wh at h
 simp only [Bool.and_eq_true, decide_eq_true_eq, List.all_eq_true] at h
 obtain ⟨⟨⟨⟨h1, h2⟩, h3⟩, h4⟩, h5⟩ := h
 refine ⟨h1, h2, h3, h4, fun f hf => ?_⟩
 obtain ⟨⟨⟨⟨g1, g2⟩, g3⟩, g4⟩, g5⟩ := h5 f hf
 exact ⟨g1, g2, g3, g4, g5⟩
theorem ZM {x : BoxM} (h : x.l.length ≤ 1) (hc : x.l.all wh = true) : qL x := by
 rw [List.all_eq_true] at hc
 refine ⟨⟨fun c hm => ZA (hc c hm), ?_⟩, by omega⟩
 match hx : x.l, h with
 | [], _ => exact List.Pairwise.nil
 | [c], _ => simp
def r0 : ah × BoxM × Option fY × Int := P.put d0 x0 y0
theorem ae7 : r0.2.2.2 = 0 ∧ (r0.2.2.1.map fun q => (q.seq, q.at_)) = some (1, 24) ∧ (r0.2.2.1.map fun q => (q.x.f, q.x.data)) = some (y0.f, y0.data) ∧ r0.2.1.next = 4 ∧ (P.places r0.2.1.l).length = 1 ∧ P.bI r0.2.1.l = 1 ∧ P.ig r0.2.1.l = 0 ∧ r0.2.1.user = 7 ∧ r0.1.calls ≤ 100 := by decide +kernel
theorem SL : r0.2.1.l.length ≤ 1 ∧ r0.2.1.l.all wh = true := by decide +kernel
theorem Td : ((P.get r0.1 r0.2.1 1 24).1.map fun z => z.f) = some y0.f ∧ (R.text r0.1 (aT 7 1)).1.size ≤ 4194304 := by decide +kernel
theorem Step.Fe {S : List Nat} {a b : St} (h : Step S a b) (hS : ∀ x ∈ S, own a ≤ x) : Step [] a b := by
 refine ⟨h.sz, fun b' i hb _ => h.old b' i hb (.inr fun hm => ?_), h.gS⟩
 have h1 := hS _ hm
 have h2 := a.wf b' i hb
 unfold own at h1
 omega
theorem Zd {C : Cx} {s : St} {K : Bool → HP} (hK : ∀ s', Step [] s s' → K true s'.H) : nM C K s.H := by
 unfold nM
 have hown : own s = 1152921504606846976 + 1152921504606846976 * s.H.size := rfl
 obtain ⟨kd, hkd⟩ : ∃ kd, kd = own s + 16 := ⟨_, rfl⟩
 obtain ⟨kb, hkb⟩ : ∃ kb, kb = own s + 4503599627370496 := ⟨_, rfl⟩
 have ko : Ko kd s := .inr ⟨by omega, by omega⟩
 have kk : Kb kb kd s := ⟨by omega, .inr ⟨by omega, by omega⟩, .inr (by omega)⟩
 have hloc : ∀ x ∈ bN kd kb, own s ≤ x := by
  intro x hx
  unfold bN cG at hx
  simp only [List.mem_append, fk, List.mem_cons, List.not_mem_nil, or_false] at hx
  omega
 refine Kt (k := kd) (files := []) Ls.iO (by omega) ko (by simp) (fun h => by rw [Hz] at h; cases h) (fun d hd s1 b e1 v1 => ?_)
 rw [Hz] at hd
 have := Option.some.inj hd
 subst this
 refine bt ?_
 refine lq fun s2 e2 => ?_
 rw [XT, decide_eq_true rfl]
 unfold DP
 refine bt ?_
 have e12 : Step (dk kd) s s2 := e1.trans e2.n
 have e02 : Step (bN kd kb) s s2 := e12.mono jK
 refine Dc (kb := kb) (v1.st e2 (by simp)) (by decide) (fun e he => by cases he) (ko.mono e12) (kk.mono e12) (fun s3 h0 => by rw [G6] at h0; cases h0) (fun s3 p x hx e3 v3 b3 => ?_)
 rw [G6] at hx v3
 have := congrArg Prod.fst hx
 have hxx := Option.some.inj this
 subst hxx
 refine bt ?_
 rw [decide_eq_true rfl]
 unfold zH
 refine bt ?_
 have e03 := e02.trans e3
 have ko3 := ko.mono e03
 have CV := kk.mono e03
 have hP0 := ae7
 have hB0 := SL
 have hG0 := Td
 unfold r0 at hP0 hB0 hG0
 refine Le (N := 0) (y := y0) v3 b3 ⟨by decide, by decide, by decide, fun c hc => by cases hc⟩ (by decide) (by decide) ⟨rfl, Ls.iO⟩ (by decide) ko3 CV ?_ ?_
 ·intro s4 r hn
  generalize P.put d0 x0 y0 = rr at *
  rw [hn] at hP0
  exact absurd hP0.2.1 (by simp)
 ·intro s4 r q hq e4 v4 b4 pl4
  generalize P.put d0 x0 y0 = rr at *
  obtain ⟨p1, p2, p3, p4, p5, p6, p7, p8, p9⟩ := hP0
  rw [hq] at p2 p3
  simp only [Option.map_some, Option.some.injEq, Prod.mk.injEq] at p2 p3
  have bo := ZM hB0.1 hB0.2
  have e04 := e03.trans e4
  obtain ⟨psl, prow, pdat⟩ := pl4.row
  refine dQ rfl (by simp [one]) fun s5 p4' e5 a5' => ?_
  have a5 : At (s5.w 0) p4' 0 (.int .i64 q.seq :: .int .i64 q.at_ :: bL q.x.f psl) := by rw [← prow]; exact a5'
  have q11 : q.x.f.length = 11 := by rw [p3.1]; rfl
  refine MZ a5 q11 fun r5 hr5 hs5 ha5 => ?_
  have e05 := e04.trans e5.n
  have ko5 := ko.mono e05
  have kk5 := kk.mono e05
  refine Zl (z := q) (v4.st e5 (by simp)) (b4.st e5 (by simp) (by simp) (by simp)) bo ⟨psl, hr5, Ls.st pdat e5⟩ (by rw [p8, p2.1]; exact hG0.2) ko5 kk5 ?_ ?_
  ·intro s6 r6 hn
   rw [p2.1, p2.2] at hn
   rw [hn] at hG0
   exact absurd hG0.1 (by simp)
  ·intro s6 r6 y6 hy6 e6 ra6
   rw [p2.1, p2.2] at hy6
   rw [hy6] at hG0
   have hyf := hG0.1
   simp only [Option.map_some, Option.some.injEq] at hyf
   refine dQ rfl (by simp [one]) fun s7 p6' e7 a7' => ?_
   have a7 : At (s7.w 0) p6' 0 (bL y6.f r6.Data) := by rw [← ra6.f]; exact a7'
   have e57 := e6.trans e7
   have a57 := a5.mono e57.v0
   have b7 := (b4.st e5 (by simp) (by simp) (by simp)).st e57 (by simp) (by simp) (by simp)
   refine aN (fun _ => ?_) (fun h => absurd rfl h)
   refine aN (fun _ => ?_) (fun h => absurd rfl h)
   refine av a7 (fZ (by rw [hyf]; decide)) ?_
   rw [hyf]
   refine aN (fun _ => ?_) (fun h => absurd rfl h)
   refine av a57 rfl ?_
   refine aN (fun _ => ?_) (fun h => absurd p2.1 h)
   refine av (n := (q.at_ : Int)) a57 rfl ?_
   refine aN (fun _ => ?_) (fun h => absurd (by omega) h)
   refine Bw b7 ?_
   refine aN (fun _ => ?_) (fun h => absurd p4 h)
   have kk7 := (kk5.mono e57).own
   refine yA b7 bo (by omega) fun s8 o8 e8 l8 => ?_
   have hl8 := l8.len
   refine aN (fun _ => ?_) (fun h => absurd (by omega) h)
   have b8 := b7.st e8 (by simp) (by simp) (by simp)
   refine Qw b8 bo.len ?_
   refine aN (fun _ => ?_) (fun h => absurd p6 h)
   refine IX b8 bo fun s9 e9 => ?_
   rw [decide_eq_true p7]
   exact hK s9 ((e05.trans (e57.trans (e8.trans e9)).n).Fe hloc)
end Go.Ph
end
section
set_option linter.all false
namespace Go.Ph
open S
theorem Nm.drop {d : ah} (h : Nm d) (n : ByteArray) : Nm (R.drop d n).1 := by
 have hu := h.unlink n
 have hg : ∀ d' : ah, Nm d' → Nm (R.again R.cy d').1 := fun d' hd e he => hd e (by rw [Ws] at he; exact he)
 unfold R.drop
 split
 ·exact h
 split
 ·exact hu
 ·exact hg _ hu
theorem Jc {l : List aR} {x e : aR} (h : e ∈ R.put l x) : e = x ∨ e ∈ l := by
 unfold R.put at h
 simp only [List.mem_append, List.mem_singleton] at h
 have hw : ∀ e ∈ R.bD l x.Name, e ∈ l := fun e he => (List.mem_filter.1 he).1
 rcases h with (h | h) | h
 ·exact .inr (hw e (List.mem_of_mem_take h))
 ·exact .inl h
 ·exact .inr (hw e (List.mem_of_mem_drop h))
end Go.Ph
end
section
set_option linter.all false
namespace Go.Ph
open S
def R.jY (x : ByteArray) (a : Nat) (y : ByteArray) : ByteArray := ⟨((x.data.toList ++ List.replicate (a - x.size) 0).take a ++ y.data.toList ++ x.data.toList.drop (a + y.size)).toArray⟩
theorem ZO {s : St} {x y : ByteArray} {a : Nat} {K : ByteArray → HP} (hx : x.size ≤ 1000000000) (hz : a + y.size ≤ 1000000000) (hy : 0 < y.size) (hK : ∀ s', Step [] s s' → K (R.jY x a y) s'.H) : kM ⟨a, y⟩ x K s.H := by
 unfold kM
 refine bZ fun s1 p1 n1 a1' => ?_
 have a1 : At (s1.w 0) p1 0 [.int .i64 (a : Nat), .string y] := a1'
 have e1 := n1.step
 have hz1 := e1.sz
 have hq0 : own s ≠ 0 := by unfold own; omega
 repeat (first|refine aj ?_|refine av a1 rfl ?_|refine aK a1 rfl ?_|refine aH a1 rfl ?_|refine aI a1 rfl ?_|refine aJ a1 rfl ?_|refine aC a1 rfl ?_)
 rw [aY (by omega) (by omega)]
 obtain ⟨N, hN⟩ : ∃ N, N = max x.size (a + y.size) := ⟨_, rfl⟩
 have hNx : x.size ≤ N ∧ a + y.size ≤ N ∧ N ≤ 1000000000 := by omega
 have hif : (if (a : Int) + (y.size : Int) > (x.size : Nat) then (a : Int) + (y.size : Int) else (x.size : Nat)) = ((N : Nat) : Int) := by split <;> omega
 simp only [hif]
 refine vz (t := bf) (z := (0 : UInt8)) (own s) (by unfold own; omega) rfl (by omega) (by omega) (by omega) fun s2 o e2 z2 l2 => ?_
 rw [Int.toNat_natCast] at l2
 have hol := l2.len
 have hoc := l2.cap
 rw [List.length_replicate] at hol
 refine uJ l2 hq0 fun s3 e3 z3 l3 hf3 => ?_
 have hmin : min x.size (List.replicate N (0 : UInt8)).length = x.size := by rw [List.length_replicate]; omega
 rw [hmin] at l3 hf3
 have ht : x.data.toList.take x.size = x.data.toList := List.take_of_length_le (by rw [dw]; exact Nat.le_refl _)
 rw [ht, List.drop_replicate] at l3
 have a13 := (a1.mono e2.v0).mono e3.v0
 refine av (n := (a : Int)) a13 rfl ?_
 have es3 : Step [own s] s s3 := (e1.trans e2).n.trans e3
 have hll : (x.data.toList ++ List.replicate (N - x.size) (0 : UInt8)).length = N := by rw [List.length_append, dw, List.length_replicate]; omega
 obtain ⟨b, off, ha⟩ := Ls.lt l3 (j := 0) (by omega)
 refine uk l3 ha (by omega) (by omega) (by omega) (by omega) (Int.le_refl _) (by omega) fun sub hsub hsc hsa => ?_
 rw [Int.toNat_natCast, Int.toNat_natCast, List.take_of_length_le (by omega)] at hsub
 refine aH a13 rfl ?_
 refine uJ hsub hq0 fun s4 e4 z4 l4 hf4 => ?_
 have hdl : ((x.data.toList ++ List.replicate (N - x.size) (0 : UInt8)).drop a).length = N - a := by rw [List.length_drop, hll]
 have hmin2 : min y.size ((x.data.toList ++ List.replicate (N - x.size) (0 : UInt8)).drop a).length = y.size := by rw [hdl]; omega
 rw [hmin2] at l4 hf4
 rw [List.take_of_length_le (by rw [dw]; exact Nat.le_refl _)] at l4
 have hsa' : sub.a = some ⟨b, off + a * bf.n, none⟩ := by rw [hsa, Int.toNat_natCast]
 have hpart := zY (i := a) (c := y.size) l3 ha e4 l4 hsa' (by rw [hll, List.length_append, dw, List.length_drop, hdl]; omega) (by rw [List.length_append, dw]; omega) (fun z j hn => hf4 _ hsa' z j (fun ⟨q1, q2, q3⟩ => hn ⟨q1, q2, by rw [show bf.n = 1 from rfl] at *; simp only at q3; omega⟩))
 refine k8 hpart ?_
 have hres : (⟨((x.data.toList ++ List.replicate (N - x.size) (0 : UInt8)).take a ++ (y.data.toList ++ ((x.data.toList ++ List.replicate (N - x.size) (0 : UInt8)).drop a).drop y.size)).toArray⟩ : ByteArray) = R.jY x a y := by
  unfold R.jY
  congr 2
  rw [List.append_assoc, List.drop_drop]
  congr 1
  ·by_cases h : a ≤ x.size
   ·rw [List.take_append_of_le_length (by rw [dw]; exact h), List.take_append_of_le_length (by rw [dw]; exact h)]
   ·rw [List.take_append, List.take_append, List.take_replicate, List.take_replicate, dw]
    congr 2
    omega
  ·congr 1
   rw [List.drop_append, List.drop_replicate, dw]
   by_cases h : a + y.size ≤ x.size
   ·have : N - x.size - (a + y.size - x.size) = 0 := by omega
    rw [this]; simp
   ·have h2 : N - x.size - (a + y.size - x.size) = 0 := by omega
    rw [h2]; simp
 rw [hres]
 exact hK s4 ((es3.trans e4).loc)
theorem Pz (x y : ByteArray) (a : Nat) : (R.jY x a y).size = max x.size (a + y.size) := by
 unfold R.jY
 show (List.toArray _).size = _
 have h1 := dw x
 have h2 := dw y
 simp only [List.size_toArray, List.length_append, List.length_take, List.length_replicate, List.length_drop, h1, h2]
 omega
def V.arm (n : Int) : Int := if n < 0 ∨ 4611686018427387904 ≤ n then -1 else n
def R.arm (n : Int) : Int := if n < 0 then -1 else n
theorem BC {s : St} {k b i : Nat} {vs : List Value} {v w : Value} {K : HP} (h : At (s.w k) b 0 vs) (hi : i + 1 < vs.length) (hv : one v = true) (hw : one w = true) (hk : k ≠ 0)
  (hK : ∀ s' : St, Step [k] s s' → s'.H.size = s.H.size → At (s'.w k) b 0 ((vs.set i v).set (i + 1) w) → lu b s s' → K s'.H) : aq (Addr.add ⟨b, 0, none⟩ i) 0 [v, w] K s.H := by
 have hsp : aq (Addr.add ⟨b, 0, none⟩ i) 0 [v, w] K = aq (Addr.add ⟨b, 0, none⟩ i) 0 [v] (aq (Addr.add ⟨b, 0, none⟩ (i + 1)) 0 [w] K) := by
  simp only [aq, dK]
  rw [show 0 + i + (0 + 1) = 0 + (i + 1) + 0 by omega]
 rw [hsp]
 refine cP h (by omega) hv hk fun s1 e1 z1 a1 o1 => ?_
 refine cP a1 (by simp; omega) hw hk fun s2 e2 z2 a2 o2 => ?_
 exact hK s2 (e1.trans e2) (z2.trans z1) a2 fun x j hx => ⟨(o2 x j hx).1.trans (o1 x j hx).1, (o2 x j hx).2.trans (o1 x j hx).2⟩
theorem Rn {s : St} {n c : Int} {K : oW → HP} (hc : c ≠ 0) (hK : ∀ s', Step [] s s' → K ⟨V.arm n, if V.arm n < 0 then 0 else c⟩ s'.H) : sK n c K s.H := by
 unfold sK
 have hq0 : own s ≠ 0 := by unfold own; omega
 refine dm (own s) (by unfold own; omega) fun s1 p n1 a1 => ?_
 have e1 := n1.step
 have j : ∀ t : Bool, (t = true → V.arm n = -1) → (t = false → V.arm n = n ∧ 0 ≤ n) → rD n c p t K s1.H := fun t h1 h2 => by
  unfold rD
  cases t
  ·refine bt ?_
   obtain ⟨h3, h4⟩ := h2 rfl
   refine eZ 0 a1 rfl (by simp [one]) hq0 (.inr rfl) fun s2 e2 z2 a2 _ => ?_
   unfold wI
   repeat (first|refine aj ?_|refine av a2 rfl ?_|refine aK a2 rfl ?_|refine aH a2 rfl ?_|refine aI a2 rfl ?_|refine aJ a2 rfl ?_|refine aC a2 rfl ?_)
   have := hK s2 ((e1.n.trans e2).loc)
   rw [h3, if_neg (by omega)] at this
   exact this
  ·refine bH ?_
   have h3 := h1 rfl
   refine eZ 0 a1 rfl (by simp [one]) hq0 (.inr rfl) fun s2 e2 z2 a2 _ => ?_
   unfold wI
   repeat (first|refine aj ?_|refine av a2 rfl ?_|refine aK a2 rfl ?_|refine aH a2 rfl ?_|refine aI a2 rfl ?_|refine aJ a2 rfl ?_|refine aC a2 rfl ?_)
   have := hK s2 ((e1.n.trans e2).loc)
   rw [h3, if_pos (by omega)] at this
   exact this
 refine aN (fun h1 => ?_) (fun h1 => ?_)
 ·exact j true (fun _ => by unfold V.arm; rw [if_pos (.inl h1)]) (fun h => by cases h)
 ·refine aN (fun h2 => ?_) (fun h2 => ?_)
  ·exact j true (fun _ => by unfold V.arm; rw [if_pos (.inr h2)]) (fun h => by cases h)
  ·have : decide (c = 0) = false := by simp [hc]
   rw [this]
   exact j false (fun h => by cases h) (fun _ => ⟨by unfold V.arm; rw [if_neg (by omega)], by omega⟩)
def V.br (v : bC) (n : Int) : bC := { v with cl := V.arm n, cc := if V.arm n < 0 then 0 else 11 }
def R.br (d : ah) (n : Int) : ah := { d with br := R.arm n }
theorem dI.br {v : bC} {d : ah} (h : dI v d) {n : Int} (hn : n < 9223372036854775808) : dI (V.br v n) (R.br d n) := by
 obtain ⟨g1, g2, g3, g4, g5, g6, g7, g8, g9, g10, g11, g12, g13, g14, g15⟩ := h
 refine ⟨g1, g2, g3, g4, g5, ?_, g7, g8, g9, g10, g11, g12, g13, g14, g15⟩
 have := g3.2
 simp only [V.br, R.br, V.arm, R.arm, kY]
 split <;> split <;> omega
theorem Hi {k : Nat} {s : St} {b : Nat} {d : ah} {n : Int} {K : HP} (h : DV k s b d) (hn : n < 9223372036854775808) (hko : Ko k s)
  (hK : ∀ s', Step [k] s s' → DV k s' b (R.br d n) → K s'.H) : kr (some ⟨b, 0, none⟩) n K s.H := by
 obtain ⟨v, ps, hv, hs⟩ := h
 unfold kr
 refine Rn (by decide) fun s1 e1 => ?_
 obtain ⟨k0, ⟨nn, m, ms, mu, h1, h2, h3, h4, h5⟩, h6⟩ := hv.st e1 (by simp)
 refine aj ?_
 refine BC h1 (by simp) rfl rfl k0 fun s2 e2 z2 a2 o2 => ?_
 simp only [List.set_cons_succ, List.set_cons_zero] at a2
 refine hK s2 (e1.n.trans e2) ⟨V.br v n, ps, ⟨k0, ⟨nn, m, ms, mu, a2, h2.st e2 (by simp), h3.st e2 (by simp), ?_, h5.st e2 (by simp)⟩, h6.st e2 fun j => by simp; omega⟩, hs.br hn⟩
 obtain ⟨es, cl, h4⟩ := h4
 exact ⟨es, cl, h4.st e2 (by simp)⟩
end Go.Ph
end
section
set_option linter.all false
namespace Go.Ph
open S
def V.kept (ks : List Int) (n : Nat) : Nat := match ks with | [] => 0 | k :: _ => min k.toNat n
theorem Wg {s : St} {q b : Nat} {ks : List Int} {sl : Sl} {pt : ny} {K : gE → HP} (ha : At (s.w q) b 0 [.slice sl.a sl.len sl.cap]) (hl : Ls (tI .i64) (s.w 0) ks sl) (hq0 : q ≠ 0) (hqo : q ≠ own s)
  (hb : pt.bytes.size ≤ 1000000000) (hks : ks.length ≤ 1000000000)
  (hK : ∀ s' sl', Step [q] s s' → At (s'.w q) b 0 [.slice sl'.a sl'.len sl'.cap] → Ls (tI .i64) (s'.w 0) ks.tail sl' → K ⟨pt.place, pt.bytes.extract 0 (V.kept ks pt.bytes.size)⟩ s'.H) : qx (some ⟨b, 0, none⟩) pt K s.H := by
 unfold qx
 have hown0 : own s ≠ 0 := by unfold own; omega
 refine bZ fun s1 p3 n1 a3' => ?_
 have a3 : At (s1.w 0) p3 0 [.int .i64 pt.place, .string pt.bytes] := a3'
 have e1 := n1.step
 have hz1 := e1.sz
 refine dm (own s) (by unfold own; omega) fun s2 p4 n2 a4' => ?_
 have a4 : At (s2.w (own s)) p4 0 [.int .i64 0, .string (⟨#[]⟩ : ByteArray)] := a4'
 have e2 := n2.step
 have e12 := e1.trans e2
 have b2 := ha.mono (e12.view (k := q) (by simp))
 have a32 := a3.mono e2.v0
 have l2 := hl.st e12
 have hlen := l2.len
 have hcap := l2.cap
 have j : ∀ (s' : St) (sl' : Sl) (n : Nat), Step [q] s2 s' → At (s'.w q) b 0 [.slice sl'.a sl'.len sl'.cap] → Ls (tI .i64) (s'.w 0) ks.tail sl' → n = V.kept ks pt.bytes.size → n ≤ pt.bytes.size → vR p3 p4 n K s'.H := fun s' sl' n es at' ls' hn hle => by
  unfold vR
  have a3s := a32.mono es.v0
  repeat (first|refine aj ?_|refine av a3s rfl ?_|refine aK a3s rfl ?_|refine aH a3s rfl ?_|refine aI a3s rfl ?_|refine aJ a3s rfl ?_|refine aC a3s rfl ?_)
  refine vv (by omega) ?_
  rw [Int.toNat_natCast]
  refine eZ 0 (a4.mono (es.view (by simpa using hqo.symm))) rfl (by simp [one]) hown0 (.inr rfl) fun s3 e3 z3 a33 _ => ?_
  unfold jb
  repeat (first|refine aj ?_|refine av a33 rfl ?_|refine aK a33 rfl ?_|refine aH a33 rfl ?_|refine aI a33 rfl ?_|refine aJ a33 rfl ?_|refine aC a33 rfl ?_)
  rw [hn]
  have est : Step [own s, q] s s3 := (e12.n.trans (es.mono (by simp))).trans (e3.mono (by simp))
  refine hK s3 sl' est.loc (at'.mono (e3.view (by simpa using hqo))) (ls'.st e3)
 refine aj ?_
 refine kN b2 rfl ?_
 rw [hlen]
 refine aN (fun hc => ?_) (fun hc => ?_)
 ·cases hks2 : ks with
  | nil => rw [hks2] at hc; simp at hc
  | cons k r =>
  refine aj ?_
  refine kN b2 rfl ?_
  refine bU l2 (by omega) (by omega) fun bx ox x hx hel => ?_
  obtain ⟨_, rfl, hat⟩ := hel
  have hxk : x = k := by rw [hks2] at hx; simpa using hx.symm
  subst hxk
  refine iQ hat rfl ?_
  refine aH a32 rfl ?_
  refine aj ?_
  refine kN b2 rfl ?_
  refine lY l2 (by omega) (by omega) (by omega) (by omega) (by omega) fun sl' hl' hcap' => ?_
  rw [List.take_of_length_le (by omega)] at hl'
  refine aj ?_
  refine eZ q b2 rfl (by simp [one]) hq0 (.inl rfl) fun s3 e3 z3 b3 _ => ?_
  have hn : (if ((pt.bytes.size : Nat) : Int) < (if (0 : Int) > x then 0 else x) then ((pt.bytes.size : Nat) : Int) else (if (0 : Int) > x then 0 else x)) = ((V.kept ks pt.bytes.size : Nat) : Int) := by
   rw [hks2]; simp only [V.kept]
   split <;> split <;> omega
  rw [hn]
  refine j s3 sl' _ e3 b3 ?_ rfl (by rw [hks2]; simp only [V.kept]; omega)
  have := Ls.st hl' e3
  simpa using this
 ·have h0 : ks = [] := List.eq_nil_of_length_eq_zero (by omega)
  have hk0 : V.kept ks pt.bytes.size = 0 := by rw [h0]; rfl
  refine j s2 sl 0 Step.refl b2 ?_ hk0.symm (Nat.zero_le _)
  rw [h0] at l2 ⊢
  exact l2
end Go.Ph
end
section
set_option linter.all false
namespace Go.Ph
open S
def V.fH (acc : ByteArray × List Int) (p : ny) : ByteArray × List Int :=
 (if V.kept acc.2 p.bytes.size = 0 then acc.1 else R.jY acc.1 p.place.toNat (p.bytes.extract 0 (V.kept acc.2 p.bytes.size)), acc.2.tail)
def V.cu (x : cn) (ks : List Int) : ByteArray × List Int := x.cF.foldl V.fH (x.sure, ks)
def V.dh (acc : List cn × List Int) (j : Nat) : List cn × List Int :=
 match acc.1[j]? with
 | some x => (acc.1.set j ⟨(V.cu x acc.2).1, (V.cu x acc.2).1, [], x.fresh⟩, (V.cu x acc.2).2)
 | none => acc
def V.eP (v : bC) (ks : List Int) : List cn := ((V.jc v v.nodes.length).foldl V.dh (v.nodes, ks)).1
def V.iV (v : bC) (turns : Int) : List (ByteArray × Int) := (v.bP.take turns.toNat).foldl V.eX v.sure
def V.en (v : bC) (turns : Int) (ks : List Int) : bC := { V.fix { v with nodes := V.eP v ks, seen := V.iV v turns } with off := false, fl := -1, fc := 0, cl := -1, cc := 0 }
structure kP (x : cn) : Prop where
 sure : x.sure.size ≤ 4194304
 cF : ∀ p ∈ x.cF, 0 ≤ p.place ∧ p.place + p.bytes.size ≤ 4194304
 len : x.cF.length ≤ 1000000000
theorem A3 (ks : List Int) (n : Nat) : V.kept ks n ≤ n := by unfold V.kept; split <;> omega
theorem Zh {acc : ByteArray × List Int} {p : ny} (h : acc.1.size ≤ 4194304) (hp : 0 ≤ p.place ∧ p.place + p.bytes.size ≤ 4194304) : (V.fH acc p).1.size ≤ 4194304 := by
 unfold V.fH
 have := A3 acc.2 p.bytes.size
 simp only
 split
 ·exact h
 ·rw [Pz, ByteArray.size_extract]; omega
theorem uA {x : cn} {ks : List Int} (hx : kP x) : ∀ i, ((x.cF.take i).foldl V.fH (x.sure, ks)).1.size ≤ 4194304
 | 0 => hx.sure
 | i + 1 => by
  rw [List.take_add_one]
  cases e : x.cF[i]? with
  | none => simpa using uA hx i
  | some p =>
   simp only [Option.toList, List.foldl_append, List.foldl_cons, List.foldl_nil]
   exact Zh (uA hx i) (hx.cF p (List.mem_of_getElem? e))
theorem vE {x : cn} {ks : List Int} {n : Nat} (hn : ks.length ≤ n) : ∀ i, ((x.cF.take i).foldl V.fH (x.sure, ks)).2.length ≤ n
 | 0 => hn
 | i + 1 => by
  rw [List.take_add_one]
  cases e : x.cF[i]? with
  | none => simpa using vE hn i
  | some p =>
   simp only [Option.toList, List.foldl_append, List.foldl_cons, List.foldl_nil, V.fH]
   have := vE (x := x) hn i
   rw [List.length_tail]; omega
theorem Qa {s : St} {q c p7 p : Nat} {x : cn} {ks : List Int} {slk : Sl} {u0 : Option Addr} {u1 : Int} {u2 : Sl} {u3 u4 : Int} {KK : Int → HP} {RR : List Value → HP} {K : HP} (ha : At (s.w q) p7 0 [.slice slk.a slk.len slk.cap]) (hl : Ls (tI .i64) (s.w 0) ks slk) (hkl : ks.length ≤ 1000000000)
  (nd : kg c s p x) (hx : kP x) (hq : q ≠ 0 ∧ q < own s) (hc0 : c ≠ 0) (hqc : q ≠ c ∧ q ≠ c + 1) (hco : c + 16 ≤ own s ∨ (own s + 16 ≤ c ∧ c + 16 ≤ own s + 1152921504606846976))
  (hK : ∀ s' slk', Step [q, c] s s' → At (s'.w q) p7 0 [.slice slk'.a slk'.len slk'.cap] → Ls (tI .i64) (s'.w 0) (V.cu x ks).2 slk' → kg c s' p ⟨(V.cu x ks).1, (V.cu x ks).1, [], x.fresh⟩ → K s'.H) :
  (nn (some ⟨p, 0, none⟩) fun t30 =>
   bE (t30.add 1) fun t32 =>
   nn (some ⟨p, 0, none⟩) fun t33 =>
   aq (t33.add 0) 0 [.string t32] (
   nn (some ⟨p, 0, none⟩) fun t36 =>
   aB (t36.add 2) fun t38 =>
   loop (σ := List Value) (fun R2 vs2 =>
   ak .i64 (vs2.getD 0 undef) fun t40 =>
   bif (decide ((t40 : Int) < (t38.len : Nat))) then (
   aL t38 2 t40 fun t42 =>
   jb t42 fun t43 =>
   az #[.int .i64 0, .string (⟨#[]⟩ : ByteArray)] fun t11 =>
   aq (af t11) 0 [.int .i64 t43.place, .string t43.bytes] (
   jb (af t11) fun t44 =>
   qx (some (af p7)) t44 fun t45 =>
   az #[.int .i64 0, .string (⟨#[]⟩ : ByteArray)] fun t12 =>
   aq (af t12) 0 [.int .i64 t45.place, .string t45.bytes] (
   bE ((af t12).add 1) fun t47 =>
   bif (!decide (t47 = (⟨#[]⟩ : ByteArray))) then (
   jb (af t12) fun t50 =>
   nn (some ⟨p, 0, none⟩) fun t52 =>
   bE (t52.add 0) fun t54 =>
   kM t50 t54 fun t55 =>
   nn (some ⟨p, 0, none⟩) fun t56 =>
   aq (t56.add 0) 0 [.string t55] (
   pN u0 u1 p7 (some ⟨p, 0, none⟩) u2 u3 u4 t38 (t38.len : Nat) t40 KK RR R2)) else
   pN u0 u1 p7 (some ⟨p, 0, none⟩) u2 u3 u4 t38 (t38.len : Nat) t40 KK RR R2))) else
   nL (some ⟨p, 0, none⟩) K) [.int .i64 0])) s.H := by
 obtain ⟨sl, q1, q2⟩ := nd
 have hpl := q2.ls.len
 refine aj (aH q1 rfl (aj ?_))
 refine cP q1 (by simp) rfl hc0 fun s1 e1 z1 a1' o1 => ?_
 simp only [List.set_cons_zero] at a1'
 refine aj (aC a1' rfl ?_)
 have hown1 : own s1 = own s := by unfold own; rw [z1]
 refine cD (ι := Nat × Sl) (fun y => [.int .i64 y.1]) (fun y s' => y.1 ≤ x.cF.length ∧ Step [q, c] s s' ∧ At (s'.w q) p7 0 [.slice y.2.a y.2.len y.2.cap] ∧ Ls (tI .i64) (s'.w 0) ((x.cF.take y.1).foldl V.fH (x.sure, ks)).2 y.2 ∧
  At (s'.w c) p 0 [.string ((x.cF.take y.1).foldl V.fH (x.sure, ks)).1, .string x.sure, .slice sl.a sl.len sl.cap, .bool x.fresh]) (fun y _ => x.cF.length - y.1) (0, slk) rfl
  ⟨Nat.zero_le _, e1.mono (by simp), ha.mono (e1.view (by simpa using hqc.1)), hl.st e1, a1'⟩ ?_
 rintro ⟨i, sk⟩ s2 ⟨hi, e2, b2, l2, n2⟩ G hG
 simp only at hi b2 l2 n2
 simp only [List.getD_cons_zero, List.getD_cons_succ, cI, cN, cK, cH, cJ, cO]
 rw [hpl]
 have hz2 := e2.sz
 have hxsz := uA (ks := ks) hx i
 have hkl2 := vE (x := x) hkl i
 have hfold : ∀ pt, x.cF[i]? = some pt → (x.cF.take (i + 1)).foldl V.fH (x.sure, ks) = V.fH ((x.cF.take i).foldl V.fH (x.sure, ks)) pt := fun pt hpt => by
  rw [List.take_add_one, hpt]; simp
 have hlen2 := hx.len
 have hqo2 : q ≠ own s2 := by unfold own at *; omega
 have hco2 : c + 16 ≤ own s2 ∨ (own s2 + 16 ≤ c ∧ c + 16 ≤ own s2 + 1152921504606846976) := by
  unfold own at *
  rcases Nat.lt_or_ge s.H.size s2.H.size with h2 | h2
  ·left; omega
  ·have : s2.H.size = s.H.size := by omega
   rw [this]; exact hco
 by_cases hlt : i < x.cF.length
 ·have hdec : decide (((i : Nat) : Int) < (x.cF.length : Nat)) = true := by simp; omega
  rw [hdec]
  refine bH ?_
  refine bU (q2.ls.st e2) (by omega) (by omega) fun bx ox pt hpt hel => ?_
  obtain ⟨_, rfl, hat⟩ := hel
  rw [Int.toNat_natCast] at hpt
  have hpb := hx.cF pt (List.mem_of_getElem? hpt)
  have hf := hfold pt hpt
  generalize (x.cF.take i).foldl V.fH (x.sure, ks) = acc at *
  unfold jb
  repeat (first|refine aj ?_|refine av hat rfl ?_|refine aK hat rfl ?_|refine aH hat rfl ?_|refine aI hat rfl ?_|refine aJ hat rfl ?_|refine aC hat rfl ?_)
  refine dm (own s2) (by unfold own; omega) fun s3 p11 n3 a3 => ?_
  have e3 := n3.step
  have hz3 := e3.sz
  have hown0 : own s2 ≠ 0 := by unfold own; omega
  refine eZ 0 a3 rfl (by simp [one]) hown0 (.inr rfl) fun s4 e4 z4 a4 _ => ?_
  repeat (first|refine aj ?_|refine av a4 rfl ?_|refine aK a4 rfl ?_|refine aH a4 rfl ?_|refine aI a4 rfl ?_|refine aJ a4 rfl ?_|refine aC a4 rfl ?_)
  have e24 : Step [own s2] s2 s4 := e3.n.trans e4
  have e24' : Step [] s2 s4 := e24.loc
  have hz4 := e24'.sz
  have b4 := b2.mono (e24'.view (by simp))
  refine Wg (pt := ⟨pt.place, pt.bytes⟩) b4 (l2.st e24') hq.1 (by unfold own at *; omega) (by simp only; omega) (by omega) fun s5 sk5 e5 b5 l5 => ?_
  have hz5 := e5.sz
  refine dm (own s5) (by unfold own; omega) fun s6 p12 n6 a6 => ?_
  have e6 := n6.step
  have hown5 : own s5 ≠ 0 := by unfold own; omega
  refine eZ 0 a6 rfl (by simp [one]) hown5 (.inr rfl) fun s7 e7 z7 a7 _ => ?_
  have e57 : Step [own s5] s5 s7 := e6.n.trans e7
  have e57' : Step [] s5 s7 := e57.loc
  refine aH a7 rfl ?_
  have e27 : Step [q] s2 s7 := (e24'.n.trans e5).trans e57'.n
  have hz7 := e27.sz
  have b7 := b5.mono (e57'.view (by simp))
  have l7 := l5.st e57'
  have n7 := n2.mono (e27.view (by simpa using hqc.1.symm))
  have hkle := A3 acc.2 pt.bytes.size
  have hexs : (pt.bytes.extract 0 (V.kept acc.2 pt.bytes.size)).size = V.kept acc.2 pt.bytes.size := by rw [ByteArray.size_extract]; omega
  have e02 : Step [q, c] s s7 := e2.trans (e27.mono (by simp))
  have fin : ∀ s8, Step [q, c] s7 s8 → At (s8.w q) p7 0 [.slice sk5.a sk5.len sk5.cap] → Ls (tI .i64) (s8.w 0) acc.2.tail sk5 → At (s8.w c) p 0 [.string (V.fH acc pt).1, .string x.sure, .slice sl.a sl.len sl.cap, .bool x.fresh] →
    pN u0 u1 p7 (some ⟨p, 0, none⟩) u2 u3 u4 sl (x.cF.length : Nat) i KK RR G s8.H := fun s8 e8 b8 l8 n8 => by
   unfold pN
   rw [aY (by omega) (by omega)]
   exact hG (i + 1, sk5) s8 ⟨by simp only; omega, e02.trans e8, b8, by simp only; rw [hf]; exact l8, by simp only; rw [hf]; exact n8⟩ (by simp only; omega)
  by_cases hz : V.kept acc.2 pt.bytes.size = 0
  ·have hd : decide (pt.bytes.extract 0 (V.kept acc.2 pt.bytes.size) = (⟨#[]⟩ : ByteArray)) = true := by rw [decide_eq_true_eq, uY, hexs]; exact hz
   rw [hd]
   refine bt (fin s7 Step.refl b7 l7 ?_)
   have : (V.fH acc pt).1 = acc.1 := by unfold V.fH; rw [if_pos hz]
   rw [this]; exact n7
  ·have hd : decide (pt.bytes.extract 0 (V.kept acc.2 pt.bytes.size) = (⟨#[]⟩ : ByteArray)) = false := by rw [decide_eq_false_iff_not, uY, hexs]; exact hz
   rw [hd]
   refine bH ?_
   repeat (first|refine aj ?_|refine av a7 rfl ?_|refine aK a7 rfl ?_|refine aH a7 rfl ?_|refine aI a7 rfl ?_|refine aJ a7 rfl ?_|refine aC a7 rfl ?_)
   refine aH n7 rfl ?_
   have hpn : pt.place = ((pt.place.toNat : Nat) : Int) := by omega
   rw [hpn]
   refine ZO (by omega) (by rw [hexs]; omega) (by rw [hexs]; omega) fun s8 e8 => ?_
   have n8 := n7.mono (e8.view (by simp))
   refine aj ?_
   refine cP n8 (by simp) rfl hc0 fun s9 e9 z9 n9 o9 => ?_
   simp only [List.set_cons_zero] at n9
   have e79 : Step [c] s7 s9 := e8.n.trans e9
   refine fin s9 (e79.mono (by simp)) (b7.mono (e79.view (by simpa using hqc.1))) (l7.st e79) ?_
   have : (V.fH acc pt).1 = R.jY acc.1 pt.place.toNat (pt.bytes.extract 0 (V.kept acc.2 pt.bytes.size)) := by unfold V.fH; rw [if_neg hz]
   rw [this]; exact n9
 ·have hdec : decide (((i : Nat) : Int) < (x.cF.length : Nat)) = false := by simp; omega
  rw [hdec]
  refine bt ?_
  have hi' : i = x.cF.length := by omega
  subst hi'
  rw [List.take_length] at l2 n2
  change At (s2.w c) p 0 [.string (V.cu x ks).1, .string x.sure, .slice sl.a sl.len sl.cap, .bool x.fresh] at n2
  unfold nL
  refine aj (aH n2 rfl (aj ?_))
  refine cP n2 (by simp) rfl hc0 fun s3 e3 z3 n3 o3 => ?_
  simp only [List.set_cons_succ, List.set_cons_zero] at n3
  refine aj ?_
  refine cP n3 (by simp) rfl hc0 fun s4 e4 z4 n4 o4 => ?_
  simp only [List.set_cons_succ, List.set_cons_zero] at n4
  have e24 : Step [c] s2 s4 := e3.trans e4
  exact hK s4 sk (e2.trans (e24.mono (by simp))) (b2.mono (e24.view (by simpa using hqc.1))) (l2.st e24) ⟨⟨none, 0, 0⟩, n4, bF.nil⟩
end Go.Ph
end

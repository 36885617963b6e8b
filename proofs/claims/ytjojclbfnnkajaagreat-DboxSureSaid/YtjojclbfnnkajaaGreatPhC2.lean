/- Parts of the proof that pigeonholelaw18.DboxSure returns true at every input and leaves the input as it was: what the words of the functions tell, part 2. -/
import Derived.Test.YtjojclbfnnkajaaGreatPhC1
section
set_option linter.all false
namespace Go.Ph
open S
/-- a box's colours are none of those that are yet to come, and none of the disk's -/
structure Kb (kb kd : Nat) (s : St) : Prop where
  k0 : kb ≠ 0
  own : kb + 16 ≤ Go.Ph.own s ∨ (Go.Ph.own s + 16 ≤ kb ∧ kb + 16 ≤ Go.Ph.own s + 1152921504606846976)
  dis : kb + 16 ≤ kd ∨ kd + 1125899906842624 ≤ kb
theorem Kb.mono {kb kd : Nat} {S : List Nat} {s s' : St} (h : Kb kb kd s) (e : Step S s s') : Kb kb kd s' := by
  refine ⟨h.k0, ?_, h.dis⟩
  have h1 := h.own
  have := e.sz
  unfold Go.Ph.own at *
  rcases Nat.lt_or_ge s.H.size s'.H.size with h2 | h2
  · left; omega
  · have : s'.H.size = s.H.size := by omega
    rw [this]; exact h1
def bkc (kb : Nat) : List Nat := [kb, kb + 1, kb + 2]
def sbk (kd kb : Nat) : List Nat := dk kd ++ bkc kb
theorem Kb.clear {kb kd : Nat} {s : St} (h : Kb kb kd s) : ∀ x ∈ bkc kb, x ∉ dk kd := by
  intro x hx
  have := h.dis
  simp [bkc] at hx
  rw [mem_dk]; omega
theorem Kb.cl {kb kd : Nat} {s : St} (h : Kb kb kd s) : kb ∉ dk kd ∧ kb + 1 ∉ dk kd ∧ kb + 2 ∉ dk kd := ⟨h.clear _ (by simp [bkc]), h.clear _ (by simp [bkc]), h.clear _ (by simp [bkc])⟩
theorem sb1 {kd kb : Nat} : ∀ x, x ∈ bkc kb → x ∈ sbk kd kb := by intro x hx; simp [sbk, hx]
theorem sb2 {kd kb : Nat} : ∀ x, x ∈ dk kd → x ∈ sbk kd kb := by intro x hx; simp [sbk, hx]
theorem sb0 {kd kb : Nat} : ∀ x, x ∈ [kb] → x ∈ sbk kd kb := by intro x hx; simp at hx; subst hx; simp [sbk, bkc]
theorem bk0 {kb : Nat} : ∀ x, x ∈ [kb] → x ∈ bkc kb := by intro x hx; simp at hx; subst hx; simp [bkc]
theorem bk1 {kb : Nat} : ∀ x, x ∈ [kb + 1] → x ∈ bkc kb := by intro x hx; simp at hx; subst hx; simp [bkc]
theorem bk2 {kb : Nat} : ∀ x, x ∈ [kb + 2] → x ∈ bkc kb := by intro x hx; simp at hx; subst hx; simp [bkc]
/-- the elder containers are dropped, and the next number is counted -/
theorem ddrops_ok {C : Cx} {kd kb : Nat} {s : St} {b p : Nat} {d : RDisk} {x : BoxM} {from_ : Int} {K : Option Addr → Int → HP} (h : DV kd s b d) (hb : BoxV kb s p x (some ⟨b, 0, none⟩)) (hx : x.next = 1) (hl : x.l.length ≤ 1024) (hc : ∀ c ∈ x.l, COk c) (hcl : d.calls + 4096 < 1000000) (hko : Ko kd s) (hkb : Kb kb kd s)
    (h0 : ∀ s', (P.drops x.user from_ d x.l).2.1 ≠ 0 → Step (sbk kd kb) s s' → DV kd s' b (P.drops x.user from_ d x.l).1 → K none (P.drops x.user from_ d x.l).2.1 s'.H)
    (h1 : ∀ s', (P.drops x.user from_ d x.l).2.1 = 0 → Step (sbk kd kb) s s' → DV kd s' b (P.drops x.user from_ d x.l).1 → BoxV kb s' p { x with next := P.next (P.drops x.user from_ d x.l).2.2, l := (P.drops x.user from_ d x.l).2.2 } (some ⟨b, 0, none⟩) → K (some (at0 p)) 0 s'.H) :
    loop (σ := List Value) (fun R2 vs2 => nn (some (at0 p)) fun t86 => ldL (t86.add 4) fun t88 => bif (decide ((0 : Int) < (t88.len : Nat))) then (nn (some (at0 p)) fun t93 => ldL (t93.add 4) fun t95 => ixL t95 4 0 fun t96 => ldI .i64 (t96.add 0) fun t98 => dbox_Open_j3 C (some ⟨b, 0, none⟩) x.user p from_ (decide ((t98 : Int) < from_)) K R2) else dbox_Open_j3 C (some ⟨b, 0, none⟩) x.user p from_ false K R2) [] s.H := by
  have hclear := hkb.cl
  refine loop_rule (ι := RDisk × List ContM) (fun _ => []) (fun y s' => Step (sbk kd kb) s s' ∧ DV kd s' b y.1 ∧ BoxV kb s' p { x with l := y.2 } (some ⟨b, 0, none⟩) ∧ P.drops x.user from_ d x.l = P.drops x.user from_ y.1 y.2 ∧ (∀ c ∈ y.2, COk c) ∧ y.2.length ≤ 1024 ∧ y.1.calls + 4 * y.2.length ≤ d.calls + 4096) (fun y _ => y.2.length) (d, x.l) rfl
    ⟨Step.refl, h, hb, rfl, hc, hl, by simp only; omega⟩ ?_
  rintro ⟨d1, l1⟩ s1 ⟨e1, v1, b1, hd1, c1, ll1, cc1⟩ G hG
  simp only at v1 b1 hd1 c1 ll1 cc1
  have last : ∀ (s' : St), s' = s1 → (∀ c, l1.head? = some c → ¬ c.seq < from_) → dbox_Open_j3 C (some ⟨b, 0, none⟩) x.user p from_ false K G s'.H := fun s' hs hh => by
    subst hs
    have hdd : P.drops x.user from_ d1 l1 = (d1, 0, l1) := by
      cases l1 with
      | nil => rfl
      | cons c cs => rw [P.drops, if_neg (hh c rfl)]
    rw [hdd] at hd1
    rw [hd1] at h1
    refine dnext_ok (x := { x with l := l1 }) b1 hx c1 ll1 fun s2 e2 b2 => ?_
    exact h1 s2 rfl (e1.trans (e2.mono sb0)) (v1.st2 e2 (by omega) (fun y hy => by simp at hy; subst hy; exact hclear.1)) b2
  obtain ⟨sl, cs, bb⟩ := b1
  have hrow := bb.row
  have hlw := bb.lw
  have hlen := hlw.len
  simp only at hrow hlw hlen
  repeat (first|refine nn_at ?_|refine ldI_at hrow rfl ?_|refine ldB_at hrow rfl ?_|refine ldS_at hrow rfl ?_|refine ldP_at hrow rfl ?_|refine ldM_at hrow rfl ?_|refine ldL_at hrow rfl ?_)
  refine bif_dec (fun hpos => ?_) (fun hpos => ?_)
  · repeat (first|refine nn_at ?_|refine ldI_at hrow rfl ?_|refine ldB_at hrow rfl ?_|refine ldS_at hrow rfl ?_|refine ldP_at hrow rfl ?_|refine ldM_at hrow rfl ?_|refine ldL_at hrow rfl ?_)
    obtain ⟨c, cs1, rfl⟩ : ∃ c cs1, l1 = c :: cs1 := by
      cases l1 with
      | nil => simp at hlen; omega
      | cons c cs1 => exact ⟨c, cs1, rfl⟩
    refine ixL_rule hlw (Int.le_refl _) (by simp <;> omega) fun bx ox c' hc' hel => ?_
    have : c' = c := by simpa using hc'.symm
    subst this
    obtain ⟨vs, ⟨scl, rfl, hcl'⟩, hat⟩ := hel
    refine ldI_at hat rfl ?_
    by_cases hlt : c'.seq < from_
    · rw [decide_eq_true hlt]
      unfold dbox_Open_j3
      refine bif_t ?_
      repeat (first|refine nn_at ?_|refine ldI_at hrow rfl ?_|refine ldB_at hrow rfl ?_|refine ldS_at hrow rfl ?_|refine ldP_at hrow rfl ?_|refine ldM_at hrow rfl ?_|refine ldL_at hrow rfl ?_)
      refine ixL_rule hlw (Int.le_refl _) (by simp <;> omega) fun bx2 ox2 c2 hc2 hel2 => ?_
      have : c2 = c' := by simpa using hc2.symm
      subst this
      obtain ⟨vs, ⟨scl2, rfl, hcl2⟩, hat2⟩ := hel2
      refine ldI_at hat2 rfl ?_
      refine CName_ok fun s2 e2 => ?_
      have hko1 := hko.mono e1
      refine Drop_ok (v1.st e2 (by simp)) (by omega) (hko1.mono e2) fun s3 e3 v3 => ?_
      have hdc := drop_calls d1 (cnameI x.user c2.seq)
      have e13 : Step (dk kd) s1 s3 := e2.n.trans e3
      have e03 : Step (sbk kd kb) s s3 := e1.trans (e13.mono sb2)
      rw [P.drops, if_pos hlt] at hd1
      refine bif_ndec (fun hne => ?_) (fun heq => ?_)
      · rw [if_pos hne] at hd1
        rw [hd1] at h0
        exact h0 s3 hne e03 v3
      · rw [if_neg (by simpa using heq)] at hd1
        have bb3 := bb.st e13 hclear.1 hclear.2.1 hclear.2.2
        have hrow3 := bb3.row
        simp only at hrow3
        repeat (first|refine nn_at ?_|refine ldI_at hrow3 rfl ?_|refine ldB_at hrow3 rfl ?_|refine ldS_at hrow3 rfl ?_|refine ldP_at hrow3 rfl ?_|refine ldM_at hrow3 rfl ?_|refine ldL_at hrow3 rfl ?_)
        have hcsl : cs.length = cs1.length + 1 := by have := bb3.all.len; simpa using this.symm
        refine slW_rule bb3.ls (by omega) (by decide) fun sl' hw' => ?_
        refine nn_at ?_
        refine fld_rule hrow3 (by simp) rfl bb3.k0 (fun s4 e4 z4 a4 _ => ?_)
        have e34 : Step (sbk kd kb) s3 s4 := e4.mono sb0
        refine hG ((R.drop d1 (cnameI x.user c2.seq)).1, cs1) s4 ⟨e03.trans e34, v3.st2 e4 (by omega) (fun y hy => by simp at hy; subst hy; exact hclear.1), ⟨sl', cs.drop 1, bb3.k0, a4, hw'.st e4 (by simp), ?_, ?_⟩, hd1, fun y hy => c1 y (by simp [hy]), by simp only [List.length_cons] at ll1; simp only; omega, by simp only [List.length_cons] at cc1; simp only; omega⟩ (by simp)
        · have := (bb3.all.drop 1).imp fun _ _ g => CvAt.mono g e4.v0
          simpa using this
        · intro m c hm hc'
          have hne : cs.drop 1 ≠ [] := by intro h; rw [h] at hc'; simp at hc'
          rw [getLast_drop hne] at hc'
          have hm' : (c2 :: cs1).getLast? = some m := by
            cases cs1 with
            | nil => simp at hm
            | cons a t => simpa using hm
          exact (bb3.last m c hm' hc').st e4 (by simp)
    · rw [decide_eq_false hlt]
      exact last s1 rfl fun c hc => by simp at hc; subst hc; exact hlt
  · refine last s1 rfl fun c hc => ?_
    cases l1 with
    | nil => cases hc
    | cons a t => simp at hlen; omega
theorem dOpen_ok {C : Cx} {kd kb : Nat} {s : St} {b : Nat} {d : RDisk} {u bound : Int} {K : Option Addr → Int → HP} (h : DV kd s b d) (hcl : d.calls < 100000) (hnm : Nm d) (hko : Ko kd s) (hkb : Kb kb kd s)
    (h0 : ∀ s', (P.openR d u bound).2.1 = none → Step (sbk kd kb) s s' → DV kd s' b (P.openR d u bound).1 → K none (P.openR d u bound).2.2 s'.H)
    (h1 : ∀ s' p x, (P.openR d u bound).2 = (some x, 0) → Step (sbk kd kb) s s' → DV kd s' b (P.openR d u bound).1 → BoxV kb s' p x (some ⟨b, 0, none⟩) → K (some (at0 p)) 0 s'.H) : dbox_Open C (some ⟨b, 0, none⟩) u bound K s.H := by
  unfold dbox_Open dbox_isUser
  have hclear := hkb.cl
  refine vDownD_ok h ?_
  refine bif_rule (fun hd => ?_) (fun hd => ?_)
  · have hop : P.openR d u bound = (d, none, 11) := by unfold P.openR; rw [if_pos hd]
    rw [hop] at h0
    exact h0 s rfl Step.refl h
  have bad : (¬(1 ≤ u ∧ u ≤ 999) ∨ bound < 1) → dbox_Open_j1 C (some ⟨b, 0, none⟩) u bound true K s.H := fun hb => by
    unfold dbox_Open_j1
    refine bif_t ?_
    have hop : P.openR d u bound = (d, none, 1) := by unfold P.openR; rw [if_neg (by rw [hd]; simp), if_pos hb]
    rw [hop] at h0
    exact h0 s rfl Step.refl h
  refine bif_dec (fun u1 => ?_) (fun u1 => bif_t (bad (.inl (fun h => u1 h.1))))
  by_cases u2 : u ≤ 999
  case neg => rw [decide_eq_false u2]; exact bif_t (bad (.inl (fun h => u2 h.2)))
  rw [decide_eq_true u2]
  refine bif_f ?_
  by_cases hb1 : bound < 1
  · rw [decide_eq_true hb1]; exact bad (.inr hb1)
  rw [decide_eq_false hb1]
  unfold dbox_Open_j1
  refine bif_f ?_
  have hop0 : P.openR d u bound = P.openR d u bound := rfl
  conv at hop0 => rhs; unfold P.openR
  rw [if_neg (by rw [hd]; simp), if_neg (by omega)] at hop0
  obtain ⟨u, rfl⟩ := Int.eq_ofNat_of_zero_le (show 0 ≤ u by omega)
  have hu : 1 ≤ u ∧ u ≤ 999 := by omega
  rw [Int.toNat_natCast] at hop0
  have hn1024 := h.inv.good.2
  refine front_ok (by omega) fun s1 e1 => ?_
  refine vTidy_ok (h.st e1 (by simp)) (by omega) hnm (hko.mono e1) fun s2 e2 v2 => ?_
  have e12 : Step (dk kd) s s2 := e1.n.trans e2
  have tc := tidy_calls (p := ba (front u)) hn1024
  have tn := hnm.tidy (ba (front u))
  have td := tidy_down (p := ba (front u)) hd
  generalize R.tidy d (ba (front u)) = r at *
  obtain ⟨d1, er⟩ := r
  simp only at hop0 v2 tc tn td
  have es2 : Step (sbk kd kb) s s2 := e12.mono sb2
  refine bif_ndec (fun hne => ?_) (fun heq => ?_)
  · rw [if_pos hne] at hop0
    rw [hop0] at h0
    exact h0 s2 rfl es2 v2
  rw [if_neg (by simpa using heq)] at hop0
  have hdn := td heq
  have hkb2 := hkb.mono e12
  have hko2 := hko.mono e12
  have hgood := v2.inv.good
  have hk0 := hkb.k0
  have hown2 := hkb2.own
  refine newc_k kb (by unfold own at hown2; omega) fun s3 p n3 a3 => ?_
  have e3 := n3.step
  refine vNamesD_ok (v2.st e3 (by simp)) (fun e he => by have := tn e he; omega) fun s4 r e4 l4 => ?_
  rw [hdn] at l4
  simp only [Bool.false_eq_true, if_false] at l4
  have e24 := e3.trans e4
  have v4 := v2.st e24 (by simp)
  have a4 := a3.mono (e4.view (k := kb) (by simp))
  have hko4 := hko2.mono e24
  have hkb4 := hkb2.mono e24
  have es4 : Step (sbk kd kb) s s4 := es2.trans e24.n
  have hlen := l4.len
  rw [List.length_map] at hlen
  refine loop_rule (ι := Nat × List ContM) (fun x => [.int .i64 x.1]) (fun x s' => x.1 ≤ d1.now.length ∧ Step (bkc kb) s4 s' ∧ BoxV kb s' p ⟨u, bound, 1, x.2⟩ (some ⟨b, 0, none⟩) ∧ x.2.length ≤ x.1 ∧ P.conts d1 u d1.now = (P.conts d1 u (d1.now.drop x.1)).map (x.2 ++ ·)) (fun x _ => d1.now.length - x.1) (0, []) rfl
    ⟨Nat.zero_le _, Step.refl, ⟨⟨none, 0, 0⟩, [], hk0, a4, BldW.nil, All2.nil, fun m c hm => by simp at hm⟩, Nat.le_refl _, by simp⟩ ?_
  rintro ⟨i, acc⟩ s5 ⟨hi, e5, b5, hal, hcn⟩ G hG
  simp only at hi b5 hal hcn
  have es5 : Step (sbk kd kb) s s5 := es4.trans (e5.mono sb1)
  have v5 : DV kd s5 b d1 := v4.st2 e5 (by omega) hkb.clear
  have hko5 := hko4.mono e5
  have hkb5 := hkb4.mono e5
  simp only [List.getD_cons_zero, List.getD_cons_succ, asI_v, asL_v, asS_v, asB_v, asM_v, asP_v]
  refine bif_dec (fun hlt => ?_) (fun hlt => ?_)
  · have hi' : i < d1.now.length := by omega
    obtain ⟨e, he⟩ : ∃ e, d1.now[i]? = some e := ⟨_, List.getElem?_eq_getElem hi'⟩
    have hem := List.mem_of_getElem? he
    refine ixL_rule (Ls.st l4 e5) (by omega) (by simp; omega) fun bx ox n hn hel => ?_
    have hne : n = e.Name := by
      rw [Int.toNat_natCast, List.getElem?_map, he] at hn
      exact (Option.some.inj hn).symm
    subst hne
    obtain ⟨vs, rfl, hat⟩ := hel
    refine ldS_at0 hat rfl ?_
    refine front_ok (by omega) fun s6 e6 => ?_
    refine pre_ok ?_
    have hcd := conts_drop (d := d1) (u := u) he
    have skip : ∀ s' acc', Step (bkc kb) s5 s' → BoxV kb s' p ⟨u, bound, 1, acc'⟩ (some ⟨b, 0, none⟩) → acc'.length ≤ i + 1 → P.conts d1 u d1.now = (P.conts d1 u (d1.now.drop (i + 1))).map (acc' ++ ·) → dbox_Open_j2 C (some ⟨b, 0, none⟩) u p r r.len i K G s'.H := fun s' acc' es hb' hl' hc' => by
      unfold dbox_Open_j2
      rw [w64_id (by omega) (by omega)]
      exact hG (i + 1, acc') s' ⟨hi', e5.trans es, hb', hl', hc'⟩ (by simp only; omega)
    rcases seqOf_cases (u := u) (n := e.Name) with ⟨q1, q2⟩ | ⟨q1, q2⟩
    · rw [q1]
      refine bif_t ?_
      rw [hcd, if_neg (by omega), if_pos (by omega)] at hcn
      exact skip s6 acc e6.n (b5.st e6 (by simp) (by simp) (by simp)) (by omega) hcn
    · rw [q1]
      refine bif_f ?_
      have hsp := pre_split q1
      have hnm1 := tn e hem
      have hnum : ∀ {K' : Int → HP}, (∀ s', Step [] s6 s' → K' (seqOf u e.Name) s'.H) → dbox_number u e.Name K' s6.H := fun {K'} hk => by
        rw [q2] at hk
        have := number_ok (s := s6) (r := e.Name.data.toList.drop 5) (K := K') hu (by rw [List.length_drop, ba_len]; omega) hk
        rwa [← hsp] at this
      refine hnum fun s7 e7 => ?_
      have e67 := e6.trans e7
      have b7 := b5.st e67 (by simp) (by simp) (by simp)
      have v7 := v5.st e67 (by simp)
      have es7 : Step (sbk kd kb) s s7 := es5.trans e67.n
      refine bif_dec (fun h0' => ?_) (fun h0' => ?_)
      · rw [hcd, if_pos h0'] at hcn
        simp only [Option.map_none] at hcn
        rw [hcn] at hop0
        simp only at hop0
        rw [hop0] at h0
        exact h0 s7 rfl es7 v7
      · have hnn : ¬ seqOf u e.Name < 0 := by rw [q2]; have := numberOf_nn (e.Name.data.toList.drop 5); omega
        rw [hcd, if_neg h0', if_neg hnn] at hcn
        obtain ⟨-, -, p3, p4, p5⟩ := seqOf_pos hu h0' hnn
        have hkb7 := hkb5.mono e67
        have ho7 := hkb7.own
        refine dread_ok (q := kb + 2) v7 hem hdn p3 (by omega) (by unfold own at ho7; omega) (by omega) fun s8 c e8 cv8 bc8 => ?_
        have e58 : Step (bkc kb) s5 s8 := e67.n.trans (e8.mono bk2)
        refine newc_sts rfl (by simp [one]) fun s9 p13 e9 a9 => ?_
        refine bif_ndec (fun h => absurd rfl h) (fun _ => ?_)
        obtain ⟨sl, cs, bb⟩ := b7
        have hrow8 := (bb.row.mono (e8.view (k := kb) (by simp))).mono (e9.view (by simp))
        simp only at hrow8
        refine nn_at ?_
        refine ldL_at hrow8 rfl ?_
        unfold ld_G_dbox_container
        repeat (first|refine nn_at ?_|refine ldI_at a9 rfl ?_|refine ldB_at a9 rfl ?_|refine ldS_at a9 rfl ?_|refine ldP_at a9 rfl ?_|refine ldM_at a9 rfl ?_|refine ldL_at a9 rfl ?_)
        have hz9 := (((e67.n.trans e8 : Step [kb + 2] s5 s8).trans e9.n) : Step [kb + 2] s5 s9).sz
        refine newc_k 1 (by omega) fun s10 p75 n10 a10 => ?_
        have e10 := n10.step
        have hrow10 := hrow8.mono (e10.view (by simp))
        refine held_rule (ldL_at hrow10 rfl rfl) ?_
        have hls10 : BldW tCV (kb + 1) s10 cs sl := ((bb.ls.st e8 (by simp)).st e9 (by simp)).st e10 (by simp)
        have hcsl : cs.length = acc.length := bb.all.len.symm
        have hz10 := e10.sz
        have ho5 := hkb5.own
        refine appW2_rule (kx := 1) (x := c) hls10 (Ls.single (show tCV.R _ c (cvRow c) from rfl) a10) (fun s11 sl11 e11 w11 => ?_) rfl rfl (by omega) (by omega) (by unfold own at ho5; omega) (by omega)
        have hrow11 := hrow10.mono (e11.view (k := kb) (by simp))
        refine nn_at ?_
        refine fld_rule hrow11 (by simp) rfl hk0 (fun s12 e12' z12 a12 _ => ?_)
        have e811 : Step (bkc kb) s8 s11 := (e9.n.trans e10.n).trans (e11.mono bk1)
        have e1112 : Step (bkc kb) s11 s12 := e12'.mono bk0
        have e512 : Step (bkc kb) s5 s12 := (e58.trans e811).trans e1112
        refine skip s12 (acc ++ [P.contOf (seqOf u e.Name) (P.dat d1 e)]) e512 ⟨sl11, cs ++ [c], hk0, a12, w11.st e12' (by simp), ?_, ?_⟩ (by simp; omega) ?_
        · refine All2.snoc ?_ (cv8.mono (e811.trans e1112).v0)
          exact bb.all.imp fun _ _ g => g.mono (((e8.mono bk2).trans e811).trans e1112).v0
        · intro m c' hm hc'
          rw [List.getLast?_append, List.getLast?_singleton] at hm hc'
          simp at hm hc'
          subst hm hc'
          exact (((bc8.st e9 (by simp)).st e10 (by simp)).st e11 (by simp)).st e12' (by simp)
        · rw [hcn, Option.map_map]
          congr 1
          funext l
          simp
  · have : i = d1.now.length := by omega
    subst this
    rw [List.drop_length] at hcn
    simp only [P.conts, Option.map_some, List.append_nil] at hcn
    rw [hcn] at hop0
    simp only at hop0
    obtain ⟨ck, clen, -⟩ := conts_ok hu d1.now acc (fun e he => (dat_text v2.inv he hdn).2.2) hgood.1.sorted hcn
    have hbv := b5
    obtain ⟨sl, cs, bb⟩ := b5
    have hrow := bb.row
    simp only at hrow
    repeat (first|refine nn_at ?_|refine ldI_at hrow rfl ?_|refine ldB_at hrow rfl ?_|refine ldS_at hrow rfl ?_|refine ldP_at hrow rfl ?_|refine ldM_at hrow rfl ?_|refine ldL_at hrow rfl ?_)
    have hlw := bb.lw
    refine dbase_ok (l := acc) hlw (by omega) ck.all fun s6 e6 => ?_
    have es6 : Step (sbk kd kb) s s6 := es5.trans e6.n
    refine ddrops_ok (x := ⟨u, bound, 1, acc⟩) (v5.st e6 (by simp)) (hbv.st e6 (by simp) (by simp) (by simp)) rfl (by simp only; omega) ck.all (by omega) (hko5.mono e6) (hkb5.mono e6) ?_ ?_
    · intro s7 hne e7 v7
      simp only at hne v7
      rw [if_pos hne] at hop0
      rw [hop0] at h0
      exact h0 s7 rfl (es6.trans e7) v7
    · intro s7 heq7 e7 v7 b7
      simp only at heq7 v7 b7
      rw [if_neg (by simpa using heq7)] at hop0
      rw [hop0] at h1
      exact h1 s7 p _ rfl (es6.trans e7) v7 b7
end Go.Ph
end
section
set_option linter.all false
namespace Go.Ph
open S
theorem unlinkAll_inv : ∀ (l : List ByteArray) {d : RDisk}, RInv d → d.calls + l.length < 1000000000000 - 1024 → RInv (R.unlinkAll d l).1
  | [], d, h, _ => h
  | n :: l, d, h, hc => by
    have := R.unlink_calls d n
    rw [R.unlinkAll]
    simp only [List.length_cons] at hc
    split
    · exact unlink_inv n h (by omega)
    · exact unlinkAll_inv l (unlink_inv n h (by omega)) (by omega)
theorem tidy_inv {d : RDisk} (p : ByteArray) (h : RInv d) (hc : d.calls + 1024 < 1000000000000 - 1024) : RInv (R.tidy d p).1 := by
  unfold R.tidy
  split
  · exact h
  · refine unlinkAll_inv _ h ?_
    have h1 := h.good.2
    have h2 : (R.tidies (d.now.map (·.Name)) p).length ≤ 1024 := Nat.le_trans (List.length_filter_le _ _) (by simp; omega)
    omega
/-- the document's box of colour k stands in block b -/
def BoxR (k : Nat) (s : St) (b : Nat) (x : BoxM) (dp : Option Addr) : Prop := ∃ sl : Sl, At (s.w k) b 0 [.pointer dp, .int .i64 x.user, .int .i64 x.bound, .int .i64 x.next, .slice sl.a sl.len sl.cap] ∧ Ls tCont (s.w 0) x.l sl
theorem BoxR.st {k : Nat} {s s' : St} {b : Nat} {x : BoxM} {dp : Option Addr} {S : List Nat} (h : BoxR k s b x dp) (hs : Step S s s') (h0 : k ∉ S) : BoxR k s' b x dp := by
  obtain ⟨sl, h1, h2⟩ := h
  exact ⟨sl, h1.mono (hs.view h0), Ls.st h2 hs⟩
end Go.Ph
end
section
set_option linter.all false
namespace Go.Ph
open S
end Go.Ph
end
section
set_option linter.all false
namespace Go.Ph
open S
structure BoxOk (x : BoxM) : Prop where
  cs : CsOk x.l
  len : x.l.length ≤ 1024
theorem drops_ok {u from_ : Int} : ∀ (l : List ContM) (d : RDisk), (P.drops u from_ d l).2.2 <:+ l
  | [], d => by simp [P.drops]
  | c :: cs, d => by
    rw [P.drops]
    split
    · split
      · exact List.nil_suffix
      · exact (drops_ok cs _).trans (List.suffix_cons _ _)
    · exact List.suffix_refl _
theorem openR_ok {d : RDisk} {u bound : Int} {x : BoxM} (h : RInv d) (hc : d.calls < 100000) (ho : (P.openR d u bound).2.1 = some x) : BoxOk x ∧ x.user = u ∧ x.bound = bound ∧ 1 ≤ u ∧ u ≤ 999 := by
  unfold P.openR at ho
  by_cases hd : d.down = true
  · rw [if_pos hd] at ho; cases ho
  rw [if_neg hd] at ho
  by_cases hb : ¬(1 ≤ u ∧ u ≤ 999) ∨ bound < 1
  · rw [if_pos hb] at ho; cases ho
  rw [if_neg hb] at ho
  have hi := tidy_inv (ba (front u.toNat)) h (by omega)
  have td := tidy_down (d := d) (p := ba (front u.toNat)) (by simpa using hd)
  generalize R.tidy d (ba (front u.toNat)) = r at *
  by_cases he : r.2 ≠ 0
  · rw [if_pos he] at ho; cases ho
  rw [if_neg he] at ho
  have hu : 1 ≤ u.toNat ∧ u.toNat ≤ 999 := by omega
  have hg := hi.good
  cases hcn : P.conts r.1 u.toNat r.1.now with
  | none => rw [hcn] at ho; cases ho
  | some l =>
    rw [hcn] at ho
    simp only at ho
    have hdn := td (by simpa using he)
    obtain ⟨ck, clen, -⟩ := conts_ok hu r.1.now l (fun e he => (dat_text hi he hdn).2.2) hg.1.sorted hcn
    have hs := drops_ok (u := u) (from_ := P.base l) l r.1
    split at ho
    · cases ho
    · simp only [Option.some.injEq] at ho
      subst ho
      refine ⟨⟨⟨fun c hc => ck.all c (hs.subset hc), ck.sorted.sublist hs.sublist⟩, ?_⟩, rfl, rfl, by omega, by omega⟩
      have := hs.length_le
      show (P.drops u (P.base l) r.1 l).2.2.length ≤ 1024
      omega
/-! places -/
structure PlaceM where
  seq : Int
  at_ : Nat
  x : RecM
def tPlace : Ty PlaceM := ⟨14, fun V x vs => ∃ sl : Sl, vs = .int .i64 x.seq :: .int .i64 x.at_ :: rowF x.x.f sl ∧ x.x.f.length = 11 ∧ Ls tBy V x.x.data sl, by rintro _ _ _ ⟨_, rfl, h, _⟩; simp [rowF, h], by rintro _ _ _ _ h ⟨sl, rfl, h0, h1⟩; exact ⟨sl, rfl, h0, h1.mono h h⟩, by
  rintro _ _ _ ⟨sl, rfl, _, _⟩ v hv
  simp only [List.mem_cons] at hv
  rcases hv with rfl | rfl | hv
  · rfl
  · rfl
  · exact rowF_one _ _ v hv⟩
def keptR (x : RecM) : Bool := decide (x.kind = 2) || decide (x.kind = 3) || decide (x.kind = 4)
namespace P
def placesF (q : Int) (l : List FoundM) : List PlaceM := (l.filter fun f => keptR f.x).map fun f => ⟨q, f.at_, f.x⟩
def places (l : List ContM) : List PlaceM := l.flatMap fun c => placesF c.seq c.l
def lastSeq (l : List ContM) : Int := match l.getLast? with | some c => c.seq | none => 0
def brok (l : List ContM) : Int := (l.map (·.broken)).sum
end P
theorem placesF_take {q : Int} {l : List FoundM} {j : Nat} {f : FoundM} (h : l[j]? = some f) : P.placesF q (l.take (j + 1)) = P.placesF q (l.take j) ++ (if keptR f.x = true then [⟨q, f.at_, f.x⟩] else []) := by
  unfold P.placesF
  rw [List.take_succ, h, List.filter_append, List.map_append]
  congr 1
  simp only [Option.toList_some, List.filter_cons, List.filter_nil]
  split <;> simp_all
theorem places_take {l : List ContM} {i : Nat} {c : ContM} (h : l[i]? = some c) : P.places (l.take (i + 1)) = P.places (l.take i) ++ P.placesF c.seq c.l := by
  unfold P.places
  rw [List.take_succ, h, List.flatMap_append]; simp
theorem placesF_len (q : Int) (l : List FoundM) : (P.placesF q l).length ≤ l.length := by
  unfold P.placesF; rw [List.length_map]; exact List.length_filter_le _ _
theorem places_len : ∀ (l : List ContM), (∀ c ∈ l, COk c) → (P.places l).length ≤ 4194304 * l.length
  | [], _ => by simp [P.places]
  | c :: l, h => by
    have h1 := places_len l fun x hx => h x (by simp [hx])
    have h2 := placesF_len c.seq c.l
    have h3 := (h c (by simp)).len
    unfold P.places at h1 ⊢
    rw [List.flatMap_cons, List.length_append, List.length_cons]
    omega
theorem kept_row {s : St} {x : RecM} {r : G_api_Rec} {K : Bool → HP} (h : RecAt (s.w 0) x r) (hK : ∀ s', Step [] s s' → K (keptR x) s'.H) :
    newc #[.int .i64 r.Kind, .int .i64 r.User, .int .i64 r.Seq, .int .i64 r.Next, .int .i64 r.Base, .int .i64 r.Uid, .int .i64 r.Time, .int .i64 r.Flags, .int .i64 r.Body, .int .i64 r.Size, .int .i64 r.Origin, .slice r.Data.a r.Data.len r.Data.cap] (fun t1 => ldI .i64 ((at0 t1).add 0) fun t4 => bif (decide ((t4 : Int) = 2)) then (K true) else ldI .i64 ((at0 t1).add 0) fun t8 => bif (decide ((t8 : Int) = 3)) then (K true) else ldI .i64 ((at0 t1).add 0) fun t13 => K (decide ((t13 : Int) = 4))) s.H := by
  have hxl := h.len
  refine newc_0 fun s1 p1 n1 a1' => ?_
  have a1 : At (s1.w 0) p1 0 (rowF x.f r.Data) := by rw [← h.f]; exact a1'
  have hK1 := hK s1 n1.step
  have e : keptR x = (decide (x.f.getD 0 0 = 2) || decide (x.f.getD 0 0 = 3) || decide (x.f.getD 0 0 = 4)) := rfl
  rw [e] at hK1
  refine ldI_at a1 (rowF_get (by omega)) ?_
  refine bif_dec (fun h2 => ?_) (fun h2 => ?_)
  · rw [decide_eq_true h2] at hK1; simpa using hK1
  refine ldI_at a1 (rowF_get (by omega)) ?_
  refine bif_dec (fun h3 => ?_) (fun h3 => ?_)
  · rw [decide_eq_true h3] at hK1; simpa using hK1
  refine ldI_at a1 (rowF_get (by omega)) ?_
  rw [decide_eq_false h2, decide_eq_false h3] at hK1
  simpa using hK1
theorem dkept_ok {s : St} {x : RecM} {r : G_api_Rec} {K : Bool → HP} (h : RecAt (s.w 0) x r) (hK : ∀ s', Step [] s s' → K (keptR x) s'.H) : dbox_kept r K s.H := kept_row h hK
theorem place_row {V : View} {x : RecM} {r : G_api_Rec} {q : Int} {a : Nat} (h : RecAt V x r) : tPlace.R V ⟨q, a, x⟩ [.int .i64 q, .int .i64 a, .int .i64 r.Kind, .int .i64 r.User, .int .i64 r.Seq, .int .i64 r.Next, .int .i64 r.Base, .int .i64 r.Uid, .int .i64 r.Time, .int .i64 r.Flags, .int .i64 r.Body, .int .i64 r.Size, .int .i64 r.Origin, .slice r.Data.a r.Data.len r.Data.cap] :=
  ⟨r.Data, by show _ = _ :: _ :: rowF x.f r.Data; rw [← h.f]; rfl, h.len, h.data⟩
theorem recAt_of {s s' : St} {f : FoundM} {r : G_api_Rec} {sd : Sl} {S : List Nat} (h1 : fieldsOf r = f.x.f) (h2 : r.Data = sd) (h3 : Ls tBy (s.w 0) f.x.data sd) (e : Step S s s') : RecAt (s'.w 0) f.x r := ⟨h1, by rw [h2]; exact Ls.st h3 e⟩
theorem dPlaces_ok {kb : Nat} {s : St} {p : Nat} {x : BoxM} {dp : Option Addr} {K : Sl → HP} (h : BoxV kb s p x dp) (hx : BoxOk x) (hko : kb + 1 ≠ own s) (hK : ∀ s' o, Step [] s s' → Ls tPlace (s'.w 0) (P.places x.l) o → K o s'.H) : dbox_Box_Places (some ⟨p, 0, none⟩) K s.H := by
  unfold dbox_Box_Places
  obtain ⟨sl, cs, hb⟩ := h
  have hrow := hb.row
  repeat (first|refine nn_at ?_|refine ldI_at hrow rfl ?_|refine ldB_at hrow rfl ?_|refine ldS_at hrow rfl ?_|refine ldP_at hrow rfl ?_|refine ldM_at hrow rfl ?_|refine ldL_at hrow rfl ?_)
  have hlw := hb.lw
  have hlen := hlw.len
  have hxl := hx.len
  have hall := hx.cs.all
  refine loop_rule (ι := Nat × Sl) (fun y => [.slice y.2.a y.2.len y.2.cap, .int .i64 y.1]) (fun y s' => y.1 ≤ x.l.length ∧ Step [own s] s s' ∧ Bld tPlace (own s) s' (P.places (x.l.take y.1)) y.2) (fun y _ => x.l.length - y.1) (0, ⟨none, 0, 0⟩) rfl ⟨Nat.zero_le _, Step.refl, Bld.nil⟩ ?_
  rintro ⟨i, o⟩ s1 ⟨hi, e1, b1⟩ G hG
  simp only at hi b1
  have hz1 := e1.sz
  simp only [List.getD_cons_zero, List.getD_cons_succ, asI_v, asL_v, asS_v, asB_v, asM_v, asP_v]
  refine bif_dec (fun hlt => ?_) (fun hlt => ?_)
  · refine ixL_rule (hlw.st e1 (by simpa using hko)) (by omega) (by omega) fun bx ox c hcx hel => ?_
    rw [Int.toNat_natCast] at hcx
    obtain ⟨vs, ⟨scl, rfl, hcl⟩, hat⟩ := hel
    have co := hall c (List.mem_of_getElem? hcx)
    unfold ld_G_dbox_container
    repeat (first|refine nn_at ?_|refine ldI_at hat rfl ?_|refine ldB_at hat rfl ?_|refine ldS_at hat rfl ?_|refine ldP_at hat rfl ?_|refine ldM_at hat rfl ?_|refine ldL_at hat rfl ?_)
    refine newc_sts rfl (by simp [one]) fun s2 p5 e2 a5 => ?_
    repeat (first|refine nn_at ?_|refine ldI_at a5 rfl ?_|refine ldB_at a5 rfl ?_|refine ldS_at a5 rfl ?_|refine ldP_at a5 rfl ?_|refine ldM_at a5 rfl ?_|refine ldL_at a5 rfl ?_)
    have hcl2 := Ls.st hcl e2
    have hll := hcl2.len
    have hcl0 := co.len
    have hpl := places_len (x.l.take i) fun c hc => hall c (List.mem_of_mem_take hc)
    rw [List.length_take] at hpl
    have hpt := places_take hcx
    have hp0 : P.places (x.l.take i) = P.places (x.l.take i) ++ P.placesF c.seq (c.l.take 0) := by simp [P.placesF]
    have b2 := b1.st e2 (by simp)
    rw [hp0] at b2
    have hz2 := e2.sz
    refine loop_rule (ι := Nat × Sl) (fun y => [.slice y.2.a y.2.len y.2.cap, .int .i64 y.1]) (fun y s' => y.1 ≤ c.l.length ∧ Step [own s] s2 s' ∧ Bld tPlace (own s) s' (P.places (x.l.take i) ++ P.placesF c.seq (c.l.take y.1)) y.2) (fun y _ => c.l.length - y.1) (0, o) rfl ⟨Nat.zero_le _, Step.refl, b2⟩ ?_
    rintro ⟨j, o3⟩ s3 ⟨hj, e3, b3⟩ G2 hG2
    simp only at hj b3
    have hz3 := e3.sz
    simp only [List.getD_cons_zero, List.getD_cons_succ, asI_v, asL_v, asS_v, asB_v, asM_v, asP_v]
    refine bif_dec (fun hlt2 => ?_) (fun hlt2 => ?_)
    · refine ixL_rule (Ls.st hcl2 e3) (by omega) (by omega) fun bx2 ox2 f hf hel2 => ?_
      rw [Int.toNat_natCast] at hf
      obtain ⟨vs, ⟨sd, rfl, hf11, hd⟩, hat2⟩ := hel2
      refine ldFound (f := f) hat2 hf11 fun r hr => ?_
      rw [hr]
      refine newc_sts (by rw [rowFd, List.length_cons, List.length_cons, rowF_len, hf11]; rfl) (fun v hv => tFound.one (V := s3.w 0) (x := f) ⟨sd, rfl, hf11, hd⟩ v hv) fun s4 p7 e4 a7 => ?_
      refine ldFr a7 hf11 fun r2 f2 d2 => ?_
      have ra4 : RecAt (s4.w 0) f.x r2 := recAt_of f2 d2 hd e4
      refine dkept_ok ra4 fun s5 e5 => ?_
      have hft := placesF_take (q := c.seq) hf
      have hpl2 := placesF_len c.seq (c.l.take j)
      rw [List.length_take] at hpl2
      have e35 := e4.trans e5
      have b5 := b3.st e35 (by simp)
      have hz5 := e35.sz
      refine bif_rule (fun hk => ?_) (fun hk => ?_)
      · have a75 := a7.mono e5.v0
        have a55 := ((a5.mono e3.v0).mono e4.v0).mono e5.v0
        refine ldI_at a55 rfl ?_
        refine ldI_at (n := (f.at_ : Int)) a75 rfl ?_
        refine ldFr a75 hf11 fun r3 f3 d3 => ?_
        rw [if_pos hk] at hft
        refine app1_rule (⟨c.seq, f.at_, f.x⟩ : PlaceM) b5 (place_row (recAt_of f3 d3 hd e35)) (fun s6 o6 e6 b6 => ?_) rfl rfl (by rw [List.length_append]; omega) (by rw [List.length_append]; omega) (by unfold own; omega) (by unfold own; omega)
        unfold dbox_Box_Places_j1
        rw [w64_id (by omega) (by omega)]
        refine hG2 (j + 1, o6) s6 ⟨by simp only; omega, e3.trans (e35.n.trans e6), ?_⟩ (by simp only; omega)
        rw [hft, ← List.append_assoc]; exact b6
      · rw [if_neg (by rw [hk]; simp), List.append_nil] at hft
        unfold dbox_Box_Places_j1
        rw [w64_id (by omega) (by omega)]
        refine hG2 (j + 1, o3) s5 ⟨by simp only; omega, e3.trans e35.n, ?_⟩ (by simp only; omega)
        rw [hft]; exact b5
    · have : j = c.l.length := by omega
      subst this
      rw [List.take_of_length_le (Nat.le_refl _)] at b3
      rw [w64_id (by omega) (by omega)]
      refine hG (i + 1, o3) s3 ⟨by simp only; omega, e1.trans (e2.n.trans e3), ?_⟩ (by simp only; omega)
      rw [hpt]; exact b3
  · have : i = x.l.length := by omega
    subst this
    rw [List.take_of_length_le (Nat.le_refl _)] at b1
    exact hK s1 o e1.loc b1.ls
theorem rSame_ok {s : St} {x y : RecM} {r r2 : G_api_Rec} {K : Bool → HP} (h : RecAt (s.w 0) x r) (h2 : RecAt (s.w 0) y r2) (hK : ∀ s', Step [] s s' → K (decide (x.f = y.f ∧ x.data = y.data)) s'.H) : rf14_Same r r2 K s.H := by
  unfold rf14_Same
  have hxl := h.len
  have hyl := h2.len
  refine newc_0 fun s1 p1 n1 a1' => ?_
  refine newc_0 fun s2 p2 n2 a2' => ?_
  have e12 := n1.step.trans n2.step
  have a1 : At (s2.w 0) p1 0 (rowF x.f r.Data) := by rw [← h.f]; exact a1'.mono n2.step.v0
  have a2 : At (s2.w 0) p2 0 (rowF y.f r2.Data) := by rw [← h2.f]; exact a2'
  have hK2 := hK s2 e12
  have g1 : ∀ {j : Nat} {K' : Int → HP}, j < 11 → K' (x.f.getD j 0) s2.H → ldI .i64 ((at0 p1).add j) K' s2.H := fun hj hk => ldI_at a1 (rowF_get (by omega)) hk
  have g2 : ∀ {j : Nat} {K' : Int → HP}, j < 11 → K' (y.f.getD j 0) s2.H → ldI .i64 ((at0 p2).add j) K' s2.H := fun hj hk => ldI_at a2 (rowF_get (by omega)) hk
  have bad : ∀ j, x.f.getD j 0 ≠ y.f.getD j 0 → K false s2.H := fun j hj => by
    rwa [decide_eq_false (fun hh => hj (by rw [hh.1]))] at hK2
  have badj : ∀ j, x.f.getD j 0 ≠ y.f.getD j 0 → rf14_Same_j1 p1 p2 true K s2.H := fun j hj => by
    unfold rf14_Same_j1; exact bif_t (bad j hj)
  have N : ∀ (j : Nat) {A B : HP}, j < 11 → (x.f.getD j 0 ≠ y.f.getD j 0 → A s2.H) → (x.f.getD j 0 = y.f.getD j 0 → B s2.H) → ldI .i64 ((at0 p1).add j) (fun t => ldI .i64 ((at0 p2).add j) fun u => bif (!decide ((t : Int) = u)) then A else B) s2.H := fun j A B hj hA hB => g1 hj (g2 hj (bif_ndec hA hB))
  have Y : ∀ (j : Nat) {A B : HP}, j < 11 → (x.f.getD j 0 = y.f.getD j 0 → A s2.H) → (x.f.getD j 0 ≠ y.f.getD j 0 → B s2.H) → ldI .i64 ((at0 p1).add j) (fun t => ldI .i64 ((at0 p2).add j) fun u => bif (decide ((t : Int) = u)) then A else B) s2.H := fun j A B hj hA hB => g1 hj (g2 hj (bif_dec hA hB))
  refine N 0 (by decide) (badj 0) fun q0 => ?_
  refine N 1 (by decide) (badj 1) fun q1 => ?_
  refine N 2 (by decide) (badj 2) fun q2 => ?_
  refine N 3 (by decide) (badj 3) fun q3 => ?_
  refine N 4 (by decide) (badj 4) fun q4 => ?_
  refine g1 (by decide) (g2 (by decide) ?_)
  by_cases q5 : x.f.getD 5 0 = y.f.getD 5 0
  case neg => rw [decide_eq_false q5]; exact badj 5 q5
  rw [decide_eq_true q5]
  unfold rf14_Same_j1
  refine bif_f ?_
  refine Y 6 (by decide) (fun q6 => ?_) (bad 6)
  refine Y 7 (by decide) (fun q7 => ?_) (bad 7)
  refine Y 8 (by decide) (fun q8 => ?_) (bad 8)
  refine Y 9 (by decide) (fun q9 => ?_) (bad 9)
  refine Y 10 (by decide) (fun q10 => ?_) (bad 10)
  refine ldL_at a1 (rowF_data hxl) ?_
  refine ldBy_rule (h.st e12).data ?_
  refine ldL_at a2 (rowF_data hyl) ?_
  refine ldBy_rule (h2.st e12).data ?_
  have hf : x.f = y.f := by
    apply List.ext_getElem (by omega)
    intro j h1 h2
    have q : x.f.getD j 0 = y.f.getD j 0 := by
      match j, (show j < 11 by omega) with
      | 0, _ => exact q0
      | 1, _ => exact q1
      | 2, _ => exact q2
      | 3, _ => exact q3
      | 4, _ => exact q4
      | 5, _ => exact q5
      | 6, _ => exact q6
      | 7, _ => exact q7
      | 8, _ => exact q8
      | 9, _ => exact q9
      | 10, _ => exact q10
    simpa [List.getD_eq_getElem?_getD, h1, h2] using q
  have hba : ((⟨x.data.toArray⟩ : ByteArray) = ⟨y.data.toArray⟩) ↔ x.data = y.data := ba_inj
  have : decide ((⟨x.data.toArray⟩ : ByteArray) = ⟨y.data.toArray⟩) = decide (x.f = y.f ∧ x.data = y.data) := by
    rw [decide_eq_decide, hba]; simp [hf]
  rw [this]
  exact hK2
theorem ldXr {s : St} {q b o : Nat} {x y : Value} {f : List Int} {sl : Sl} {K : G_api_Rec → HP} (h : At (s.w q) b o (x :: y :: rowF f sl)) (hf : f.length = 11) (hK : ∀ r, fieldsOf r = f → r.Data = sl → K r s.H) : ld_G_api_Rec ((⟨b, o, none⟩ : Addr).add 2) K s.H := by
  rw [add_at]
  exact ldRecO h.tail2 hf hK
theorem dLast_ok {kb : Nat} {s : St} {p : Nat} {x : BoxM} {dp : Option Addr} {K : Int → HP} (h : BoxV kb s p x dp) (hl : x.l.length ≤ 1024) (hK : K (P.lastSeq x.l) s.H) : dbox_Box_Last (some ⟨p, 0, none⟩) K s.H := by
  unfold dbox_Box_Last dbox_Box_last
  obtain ⟨sl, cs, hb⟩ := h
  have hrow := hb.row
  have hlw := hb.lw
  have hlen := hlw.len
  repeat (first|refine nn_at ?_|refine ldI_at hrow rfl ?_|refine ldB_at hrow rfl ?_|refine ldS_at hrow rfl ?_|refine ldP_at hrow rfl ?_|refine ldM_at hrow rfl ?_|refine ldL_at hrow rfl ?_)
  unfold P.lastSeq at hK
  refine bif_dec (fun h0 => ?_) (fun h0 => ?_)
  · have : x.l = [] := List.eq_nil_of_length_eq_zero (by omega)
    rw [this] at hK
    exact hK
  · repeat (first|refine nn_at ?_|refine ldI_at hrow rfl ?_|refine ldB_at hrow rfl ?_|refine ldS_at hrow rfl ?_|refine ldP_at hrow rfl ?_|refine ldM_at hrow rfl ?_|refine ldL_at hrow rfl ?_)
    rw [w64_id (by omega) (by omega)]
    refine ixL_rule hlw (by omega) (by omega) fun bx ox c hc hel => ?_
    obtain ⟨vs, ⟨scl, rfl, hcl⟩, hat⟩ := hel
    refine bif_t ?_
    refine nn_at ?_
    refine ldI_at hat rfl ?_
    have : x.l.getLast? = some c := by
      rw [List.getLast?_eq_getElem?, ← hc]; congr 1; omega
    rw [this] at hK
    exact hK
theorem brok_take {l : List ContM} {i : Nat} {c : ContM} (h : l[i]? = some c) : P.brok (l.take (i + 1)) = P.brok (l.take i) + c.broken := by
  unfold P.brok
  rw [List.take_succ, h, List.map_append, List.sum_append]; simp
theorem brok_bd : ∀ (l : List ContM), (∀ c ∈ l, COk c) → 0 ≤ P.brok l ∧ P.brok l ≤ 4194304 * l.length
  | [], _ => by simp [P.brok]
  | c :: l, h => by
    have h1 := brok_bd l fun x hx => h x (by simp [hx])
    have h2 := (h c (by simp)).broken
    unfold P.brok at h1 ⊢
    rw [List.map_cons, List.sum_cons, List.length_cons]
    omega
theorem dBroken_ok {kb : Nat} {s : St} {p : Nat} {x : BoxM} {dp : Option Addr} {K : Int → HP} (h : BoxV kb s p x dp) (hx : BoxOk x) (hK : ∀ s', Step [] s s' → K (P.brok x.l) s'.H) : dbox_Box_Broken (some ⟨p, 0, none⟩) K s.H := by
  unfold dbox_Box_Broken
  obtain ⟨sl, cs, hb⟩ := h
  have hrow := hb.row
  have hlw := hb.lw
  have hlen := hlw.len
  have hxl := hx.len
  repeat (first|refine nn_at ?_|refine ldI_at hrow rfl ?_|refine ldB_at hrow rfl ?_|refine ldS_at hrow rfl ?_|refine ldP_at hrow rfl ?_|refine ldM_at hrow rfl ?_|refine ldL_at hrow rfl ?_)
  refine loop_rule (fun i : Nat => [.int .i64 (P.brok (x.l.take i)), .int .i64 i]) (fun i s' => i ≤ x.l.length ∧ Step [] s s') (fun i _ => x.l.length - i) 0 rfl ⟨Nat.zero_le _, Step.refl⟩ ?_
  rintro i s1 ⟨hi, e1⟩ G hG
  simp only [List.getD_cons_zero, List.getD_cons_succ, asI_v, asL_v, asS_v, asB_v, asM_v, asP_v]
  refine bif_dec (fun hlt => ?_) (fun hlt => ?_)
  · refine ixL_rule (hlw.st e1 (by simp)) (by omega) (by omega) fun bx ox c hc hel => ?_
    rw [Int.toNat_natCast] at hc
    obtain ⟨vs, ⟨scl, rfl, hcl⟩, hat⟩ := hel
    unfold ld_G_dbox_container
    repeat (first|refine nn_at ?_|refine ldI_at hat rfl ?_|refine ldB_at hat rfl ?_|refine ldS_at hat rfl ?_|refine ldP_at hat rfl ?_|refine ldM_at hat rfl ?_|refine ldL_at hat rfl ?_)
    refine newc_sts rfl (by simp [one]) fun s2 p5 e2 a5 => ?_
    repeat (first|refine nn_at ?_|refine ldI_at a5 rfl ?_|refine ldB_at a5 rfl ?_|refine ldS_at a5 rfl ?_|refine ldP_at a5 rfl ?_|refine ldM_at a5 rfl ?_|refine ldL_at a5 rfl ?_)
    have hb := brok_bd (x.l.take (i + 1)) fun c hc => hx.cs.all c (List.mem_of_mem_take hc)
    have hbt := brok_take hc
    have hl1 : (x.l.take (i + 1)).length ≤ 1024 := by rw [List.length_take]; omega
    change G [.int .i64 (w64 (P.brok (List.take i x.l) + c.broken)), .int .i64 (w64 ((i : Int) + 1))] s2.H
    rw [w64_id (by omega) (by omega), w64_id (by omega) (by omega)]
    have := hG (i + 1) s2 ⟨by omega, e1.trans e2⟩ (by omega)
    rw [hbt] at this
    exact this
  · have : i = x.l.length := by omega
    subst this
    rw [List.take_of_length_le (Nat.le_refl _)]
    exact hK s1 e1
theorem dNext_ok {kb : Nat} {s : St} {p : Nat} {x : BoxM} {dp : Option Addr} {K : Int → HP} (h : BoxV kb s p x dp) (hK : K x.next s.H) : dbox_Box_Next (some ⟨p, 0, none⟩) K s.H := by
  unfold dbox_Box_Next
  obtain ⟨sl, cs, hb⟩ := h
  have hrow := hb.row
  repeat (first|refine nn_at ?_|refine ldI_at hrow rfl ?_|refine ldB_at hrow rfl ?_|refine ldS_at hrow rfl ?_|refine ldP_at hrow rfl ?_|refine ldM_at hrow rfl ?_|refine ldL_at hrow rfl ?_)
  exact hK
end Go.Ph
end
section
set_option linter.all false
namespace Go.Ph
open S
theorem putB_get (n : Nat) : ∀ (k i : Nat), i < k → (putB n k)[i]? = some (UInt8.ofNat (n / 256 ^ (k - 1 - i) % 256))
  | 0, i, h => by omega
  | k + 1, i, h => by
    rw [putB_front]
    cases i with
    | zero => simp
    | succ i =>
      rw [List.getElem?_cons_succ, putB_get n k i (by omega)]
      rw [show k + 1 - 1 - (i + 1) = k - 1 - i by omega]
theorem pow256 (j : Nat) : ((2 : Int) ^ (8 * j)) = ((256 ^ j : Nat) : Int) := by
  have h : (2 : Nat) ^ (8 * j) = 256 ^ j := Nat.pow_mul 2 8 j
  rw [← h, Int.natCast_pow]; rfl
theorem shr_byte {n j : Nat} (hn : n < 18446744073709551616) (hj : j ≤ 7) : wr .u8 (ishr .u64 n (wr .u64 ((8 * j : Nat) : Int))) = ((n / 256 ^ j % 256 : Nat) : Int) := by
  rw [wr_u64 (by omega) (by omega)]
  unfold ishr
  rw [Int.toNat_natCast]
  have hm : min (8 * j) (IntKind.bits .u64) = 8 * j := by show min (8 * j) 64 = _; omega
  rw [hm]
  rw [pow256, Int.fdiv_eq_ediv_of_nonneg _ (Int.natCast_nonneg _), ← Int.natCast_ediv]
  generalize n / 256 ^ j = m
  unfold wr IntKind.wrap
  simp [IntKind.bits, IntKind.signed]
theorem Put_ok {s : St} {n k : Nat} {K : Sl → Bool → HP} (hn : n < 256 ^ k) (hk : 1 ≤ k ∧ k ≤ 8)
    (hK : ∀ s' o, Step [] s s' → Ls tBy (s'.w 0) (putB n k) o → K o true s'.H) : octet_Put n k K s.H := by
  unfold octet_Put octet_good octet_room
  have hn8 : n < 18446744073709551616 := Nat.lt_of_lt_of_le hn (Nat.pow_le_pow_right (n := 256) (by decide) hk.2)
  refine bif_dec (fun _ => ?_) (fun h => absurd (by omega) h)
  rw [decide_eq_true (show (k : Int) ≤ 8 by omega)]
  refine bif_f ?_
  have hq0 : own s ≠ 0 := by unfold own; omega
  have main : octet_Put_j1 n k false K s.H := by
    unfold octet_Put_j1
    refine bif_f ?_
    refine mkSl_rule (t := tBy) (z := (0 : UInt8)) (own s) (by unfold own; omega) rfl (by omega) (by omega) (by omega) fun s1 o e1 z1 l1 => ?_
    rw [Int.toNat_natCast] at l1
    have hol : o.len = k := by rw [l1.len]; simp
    refine loop_rule (fun i : Nat => [.int .i64 i]) (fun i s' => i ≤ k ∧ Step [own s] s s' ∧ LsW tBy (s'.w 0) (s'.w (own s)) ((putB n k).take i ++ List.replicate (k - i) 0) o) (fun i _ => k - i) 0 rfl ⟨Nat.zero_le _, e1.n, l1⟩ ?_
    rintro i s2 ⟨hi, e2, l2⟩ G hG
    simp only [List.getD_cons_zero, List.getD_cons_succ, asI_v, asL_v, asS_v, asB_v, asM_v, asP_v]
    refine bif_dec (fun hlt => ?_) (fun hlt => ?_)
    · rw [w64_id (n := (k : Int) - 1) (by omega) (by omega), w64_id (n := (k : Int) - 1 - i) (by omega) (by omega), w64_id (n := 8 * ((k : Int) - 1 - i)) (by omega) (by omega)]
      have hj : 8 * ((k : Int) - 1 - i) = ((8 * (k - 1 - i) : Nat) : Int) := by omega
      rw [hj, shr_byte hn8 (by omega)]
      refine ⟨by rw [wr_u64 (by omega) (by omega)]; omega, ?_⟩
      have hll : ((putB n k).take i ++ List.replicate (k - i) (0 : UInt8)).length = k := by rw [List.length_append, List.length_take, putB_len, List.length_replicate]; omega
      refine ixLw_rule l2 (by omega) (by omega) fun b off x ha hx hel => ?_
      rw [Int.toNat_natCast]
      refine setL_rule (x := UInt8.ofNat (n / 256 ^ (k - 1 - i) % 256)) l2 ha (by omega) (by show [Value.int .u8 _] = [Value.int .u8 _]; rw [UInt8.toNat_ofNat', Nat.mod_eq_of_lt (Nat.mod_lt _ (by decide))]) hq0 (by decide) fun s3 e3 z3 l3 => ?_
      rw [w64_id (by omega) (by omega)]
      refine hG (i + 1) s3 ⟨by omega, e2.trans e3, ?_⟩ (by omega)
      have hs : ((putB n k).take i ++ List.replicate (k - i) (0 : UInt8)).set i (UInt8.ofNat (n / 256 ^ (k - 1 - i) % 256)) = (putB n k).take (i + 1) ++ List.replicate (k - (i + 1)) 0 := by
        have ht : ((putB n k).take i).length = i := by rw [List.length_take, putB_len]; omega
        rw [List.set_append_right _ _ (by omega), ht, Nat.sub_self, List.take_succ, putB_get n k i (by omega)]
        rw [show k - i = (k - (i + 1)) + 1 by omega, List.replicate_succ]
        simp
      rwa [hs] at l3
    · have : i = k := by omega
      subst this
      have ht : (putB n i).take i ++ List.replicate (i - i) (0 : UInt8) = putB n i := by
        rw [Nat.sub_self, List.replicate_zero, List.append_nil]
        exact List.take_of_length_le (by rw [putB_len]; exact Nat.le_refl _)
      rw [ht] at l2
      obtain ⟨s3, hs3, e3, v3⟩ := freeze s2 (own s)
      rw [← hs3]
      exact hK s3 o ((e2.trans e3).loc) (l2.mono e3.v0 v3)
  refine bif_dec (fun h8 => ?_) (fun h8 => ?_)
  · exact main
  · have hk7 : k ≤ 7 := by omega
    have hw : w64 (8 * (k : Int)) = ((8 * k : Nat) : Int) := by rw [w64_id (by omega) (by omega)]; omega
    rw [hw, wr_u64 (n := ((8 * k : Nat) : Int)) (by omega) (by omega)]
    refine ⟨by omega, ?_⟩
    have : ishr .u64 (n : Int) ((8 * k : Nat) : Int) = 0 := by
      unfold ishr
      rw [Int.toNat_natCast]
      have hm : min (8 * k) (IntKind.bits .u64) = 8 * k := by show min (8 * k) 64 = _; omega
      rw [hm]
      rw [pow256, Int.fdiv_eq_ediv_of_nonneg _ (Int.natCast_nonneg _), ← Int.natCast_ediv, Nat.div_eq_of_lt hn]; rfl
    rw [this]
    exact main
/-- what was put down -/
structure Snk (q q2 : Nat) (s : St) (b : Nat) (l : List UInt8) : Prop where
  k0 : q ≠ 0 ∧ q2 ≠ 0 ∧ q ≠ q2
  at_ : ∃ o : Sl, At (s.w q) b 0 [.slice o.a o.len o.cap] ∧ Bld tBy q2 s l o
theorem Snk.st {q q2 : Nat} {s s' : St} {b : Nat} {l : List UInt8} {S : List Nat} (h : Snk q q2 s b l) (hs : Step S s s') (h1 : q ∉ S) (h2 : q2 ∉ S) : Snk q q2 s' b l := by
  obtain ⟨k0, o, g1, g2⟩ := h
  exact ⟨k0, o, g1.mono (hs.view h1), g2.st hs h2⟩
theorem SinkRaw_ok {q q2 : Nat} {s : St} {b : Nat} {l m : List UInt8} {sl : Sl} {K : HP} (h : Snk q q2 s b l) (hm : Ls tBy (s.w 0) m sl) (hl : l.length + m.length ≤ 1000000000000) (hq2 : q2 < 2305843009213693952 + 1152921504606846976 * s.H.size)
    (hK : ∀ s', Step [q, q2] s s' → Snk q q2 s' b (l ++ m) → K s'.H) : octet_Sink_Raw (some ⟨b, 0, none⟩) sl K s.H := by
  unfold octet_Sink_Raw
  obtain ⟨k0, o, a, g⟩ := h
  refine nn_at ?_
  refine ldL_at a rfl ?_
  refine app_rule g hm (fun s1 o1 e1 b1 => ?_) rfl rfl (by omega) (by omega) hq2 k0.2.1
  refine nn_at ?_
  refine fld_rule (a.mono (e1.view (by simpa using k0.2.2))) (by simp) rfl k0.1 (fun s2 e2 z2 a2 _ => ?_)
  exact hK s2 (e1.tr e2) ⟨k0, o1, a2, b1.st e2 (by simpa using fun h => k0.2.2 h.symm)⟩
theorem SinkU_ok {q q2 : Nat} {s : St} {b : Nat} {l : List UInt8} {n k : Nat} {K : Bool → HP} (h : Snk q q2 s b l) (hn : n < 256 ^ k) (hk : 1 ≤ k ∧ k ≤ 8) (hl : l.length ≤ 1000000000) (hq2 : q2 < 2305843009213693952 + 1152921504606846976 * s.H.size)
    (hK : ∀ s', Step [q, q2] s s' → Snk q q2 s' b (l ++ putB n k) → K true s'.H) : octet_Sink_U (some ⟨b, 0, none⟩) n k K s.H := by
  unfold octet_Sink_U
  refine Put_ok hn hk fun s0 o0 e0 l0 => ?_
  have hz := e0.sz
  obtain ⟨k0, o, a, g⟩ := h.st e0 (by simp) (by simp)
  refine nn_at ?_
  refine ldL_at a rfl ?_
  refine app_rule g l0 (fun s1 o1 e1 b1 => ?_) rfl rfl (by rw [putB_len]; omega) (by rw [putB_len]; omega) (by omega) k0.2.1
  refine nn_at ?_
  refine fld_rule (a.mono (e1.view (by simpa using k0.2.2))) (by simp) rfl k0.1 (fun s2 e2 z2 a2 _ => ?_)
  exact hK s2 (e0.n.trans (Step.tr e1 e2)) ⟨k0, o1, a2, b1.st e2 (by simpa using fun h => k0.2.2 h.symm)⟩
theorem SinkBytes_ok {q q2 : Nat} {s : St} {b : Nat} {l : List UInt8} {K : Sl → HP} (h : Snk q q2 s b l) (hl : l.length ≤ 1000000000)
    (hK : ∀ s' o, Step [] s s' → Ls tBy (s'.w 0) l o → K o s'.H) : octet_Sink_Bytes (some ⟨b, 0, none⟩) K s.H := by
  unfold octet_Sink_Bytes
  obtain ⟨k0, o, a, g⟩ := h
  refine nn_at ?_
  refine ldL_at a rfl ?_
  exact bClone_ok g.ls (by omega) hK
theorem Veil_ok {s : St} {l : List UInt8} {sl : Sl} {K : Sl → HP} (h : Ls tBy (s.w 0) l sl) (hl : l.length ≤ 10000000000)
    (hK : ∀ s' o, Step [] s s' → Ls tBy (s'.w 0) (veil l) o → K o s'.H) : frame_Veil sl K s.H := by
  unfold frame_Veil
  have hlen := h.len
  refine loop_rule (ι := Nat × Sl) (fun x => [.slice x.2.a x.2.len x.2.cap, .int .i64 x.1]) (fun x s' => x.1 ≤ l.length ∧ Step [own s] s s' ∧ Bld tBy (own s) s' (veil (l.take x.1)) x.2) (fun x _ => l.length - x.1) (0, ⟨none, 0, 0⟩) rfl ⟨Nat.zero_le _, Step.refl, Bld.nil⟩ ?_
  rintro ⟨i, o⟩ s1 ⟨hi, e1, b1⟩ G hG
  simp only at hi b1
  simp only [List.getD_cons_zero, List.getD_cons_succ, asI_v, asL_v, asS_v, asB_v, asM_v, asP_v]
  have h1 := Ls.st h e1
  have hz1 := e1.sz
  refine bif_dec (fun hlt => ?_) (fun hlt => ?_)
  · have hvl := veil_len (l.take i)
    have htl : (l.take i).length ≤ i := by rw [List.length_take]; omega
    refine ixL_rule h1 (by omega) (by omega) fun bx ox x hx hel => ?_
    obtain ⟨vs, rfl, hat⟩ := hel
    have hG' := fun o' s' => hG (i + 1, o') s'
    simp only [veil_take (by simpa using hx)] at hG'
    have rest : ∀ s2 o2, Step [own s] s1 s2 → Bld tBy (own s) s2 (veil (l.take i) ++ veil1 x) o2 → frame_Veil_j2 o2 sl sl.len i K G s2.H := fun s2 o2 e2 b2 => by
      unfold frame_Veil_j2
      rw [w64_id (by omega) (by omega)]
      exact hG' o2 s2 ⟨by omega, e1.trans e2, b2⟩ (by omega)
    have vl : (x = 80 ∨ x = 81) → frame_Veil_j1 o x.toNat sl sl.len i true K G s1.H := fun hx => by
      unfold frame_Veil_j1
      refine bif_t ?_
      obtain ⟨y, hy1, hy2⟩ : ∃ y : UInt8, wr .u8 ((x.toNat : Int) - 80) = y.toNat ∧ veil1 x = [81, y] := by
        rcases hx with rfl | rfl
        · exact ⟨0, by decide, rfl⟩
        · exact ⟨1, by decide, rfl⟩
      rw [hy1]
      refine newc_0 fun s2 b n2 a2 => ?_
      have e2 := n2.step
      have hz2 := e2.sz
      refine app_rule (b1.st e2 (by simp)) (two_ls (c := 81) (d := y) a2) (fun s3 o3 e3 b3 => rest s3 o3 (e2.n.trans e3) (by rw [hy2]; exact b3)) rfl rfl (by simp; omega) (by simp; omega) (by unfold own; omega)
    refine ldI_at0 hat rfl ?_
    refine bif_dec (fun h2 => ?_) (fun h2 => ?_)
    · exact vl (.inl (u8_is (n := 80) h2))
    · have n80 : x ≠ 80 := fun h => h2 (by rw [h]; rfl)
      by_cases h3 : (x.toNat : Int) = 81
      · rw [decide_eq_true h3]
        exact vl (.inr (u8_is (n := 81) h3))
      · rw [decide_eq_false h3]
        have n81 : x ≠ 81 := fun h => h3 (by rw [h]; rfl)
        unfold frame_Veil_j1
        refine bif_f ?_
        have hv1 : veil1 x = [x] := by simp [veil1, n80, n81]
        rw [hv1] at rest
        refine app1_rule x b1 rfl (fun s2 o2 e2 b2 => rest s2 o2 e2 b2) rfl rfl (by omega) (by omega) (by unfold own; omega)
  · have : i = l.length := by omega
    subst this
    rw [List.take_of_length_le (Nat.le_refl _)] at b1
    exact hK s1 o e1.loc b1.ls
theorem Wrap_ok {s : St} {c : UInt8} {l : List UInt8} {sl : Sl} {K : Sl → Int → HP} (h : Ls tBy (s.w 0) l sl) (hl : l.length ≤ 65536)
    (hK : ∀ s' o, Step [] s s' → Ls tBy (s'.w 0) (wrap c l) o → K o 0 s'.H) : frame_Wrap c.toNat sl K s.H := by
  unfold frame_Wrap
  have hlen := h.len
  have hc := c.toNat_lt
  refine bif_dec (fun h1 => ?_) (fun h1 => ?_)
  · omega
  rw [decide_eq_false (by omega)]
  unfold frame_Wrap_j1
  refine bif_f ?_
  refine bif_dec (fun h2 => ?_) (fun h2 => ?_)
  · omega
  rw [wr_u64 (n := (c.toNat : Int)) (by omega) (by omega), wr_u64 (n := ((sl.len : Nat) : Int)) (by omega) (by omega)]
  unfold octet_NewSink
  have hown : own s = 1152921504606846976 + 1152921504606846976 * s.H.size := rfl
  refine newc_k (own s) (by omega) fun s1 p n1 a1 => ?_
  have e1 := n1.step
  have hz1 := e1.sz
  have k1 : Snk (own s) (own s + 1) s1 p [] := ⟨⟨by omega, by omega, by omega⟩, ⟨none, 0, 0⟩, a1, Bld.nil⟩
  have p1 : putB c.toNat 1 = [c] := by have := putB_be [c]; simpa [be] using this
  refine SinkU_ok (n := c.toNat) (k := 1) k1 (by omega) (by decide) (by simp) (by omega) fun s2 e2 k2 => ?_
  rw [p1] at k2
  have es2 : Step [own s, own s + 1] s s2 := e1.n.trans e2
  have hz2 := es2.sz
  refine SinkU_ok (n := sl.len) (k := 4) k2 (by omega) (by decide) (by simp) (by omega) fun s3 e3 k3 => ?_
  have es3 := es2.trans e3
  have hz3 := es3.sz
  rw [hlen] at k3
  refine SinkBytes_ok k3 (by simp [putB_len]) fun s4 o4 e4 l4 => ?_
  have es4 := es3.trans e4.n
  refine sum_ok l4 (Ls.st h es4) (by simp [putB_len]) (by omega) fun s5 e5 => ?_
  have k5 := k3.st (e4.trans e5) (by simp) (by simp)
  have es5 := es4.trans e5.n
  have hz5 := es5.sz
  have hcr : [] ++ [c] ++ putB l.length 4 ++ l = c :: (putB l.length 4 ++ l) := rfl
  rw [hcr]
  have hlt := (crc 0#32 (c :: (putB l.length 4 ++ l))).isLt
  have hwr : wrap c l = [80] ++ veil ([] ++ [c] ++ putB l.length 4 ++ (putB (crc 0#32 (c :: (putB l.length 4 ++ l))).toNat 4) ++ l) := by unfold wrap; simp
  generalize (crc 0#32 (c :: (putB l.length 4 ++ l))).toNat = cr at *
  rw [wr_u64 (n := (cr : Int)) (by omega) (by omega)]
  refine SinkU_ok (n := cr) (k := 4) k5 (by omega) (by decide) (by simp [putB_len]) (by omega) fun s6 e6 k6 => ?_
  have es6 := es5.trans e6
  have hz6 := es6.sz
  refine SinkRaw_ok k6 (Ls.st h es6) (by simp [putB_len]; omega) (by omega) fun s7 e7 k7 => ?_
  have es7 := es6.trans e7
  have hz7 := es7.sz
  refine newc_0 fun s8 pm n8 a8 => ?_
  have e8 := n8.step
  refine SinkBytes_ok (k7.st e8 (by simp) (by simp)) (by simp [putB_len]; omega) fun s9 o9 e9 l9 => ?_
  refine Veil_ok l9 (by simp [putB_len]; omega) fun s10 o10 e10 l10 => ?_
  have e910 := e9.trans e10
  have a10 := a8.mono e910.v0
  have es10 : Step [own s, own s + 1] s s10 := es7.trans (e8.trans e910).n
  have hz10 := es10.sz
  have hb : Bld tBy (own s) s10 [80] ⟨some (at0 pm), 1, 1⟩ := ⟨Ls.single rfl a10, fun a ha i h1 h2 => by simp [tBy] at h1 h2; omega⟩
  have hvl := veil_len ([] ++ [c] ++ putB l.length 4 ++ putB cr 4 ++ l)
  have hvl2 : ([] ++ [c] ++ putB l.length 4 ++ putB cr 4 ++ l).length ≤ 65545 := by simp [putB_len]; omega
  refine app_rule hb l10 (fun s11 o11 e11 b11 => ?_) rfl rfl (by rw [List.length_singleton]; omega) (by rw [List.length_singleton]; omega) (by omega) (by omega)
  have := b11.ls
  rw [← hwr] at this
  have es11 : Step [own s, own s + 1] s s11 := es10.tr e11
  exact hK s11 o11 (es11.loc2 (Nat.le_refl _)) this
end Go.Ph
end
section
set_option linter.all false
namespace Go.Ph
open S
theorem layout_w (k : Int) : ∀ p ∈ layout k, p.hi < ((256 ^ p.w : Nat) : Int) := by
  refine layout_cases k (P := fun l => ∀ p ∈ l, p.hi < ((256 ^ p.w : Nat) : Int)) ?_ ?_ ?_ ?_ ?_ ?_ ?_ <;> intros <;> (rename_i p hp; simp [pUid, pFlags, pBody, pNext] at hp <;> first | (rcases hp with rfl | rfl | rfl | rfl | rfl | rfl <;> decide) | (rcases hp with rfl | rfl | rfl | rfl <;> decide) | (rcases hp with rfl | rfl <;> decide) | (subst hp; decide))
def putP (f : List Int) (p : PartM) : List UInt8 := putB (f.getD p.j 0).toNat p.w
/-- a record's payload -/
def payloadR (x : RecM) : List UInt8 := (layout x.kind).flatMap (putP x.f) ++ x.data
def frameR (x : RecM) : List UInt8 := wrap (UInt8.ofNat x.kind.toNat) (payloadR x)
structure Chk (x : RecM) : Prop where
  ne : layout x.kind ≠ []
  kind : 1 ≤ x.kind ∧ x.kind ≤ 6
  all : ∀ p ∈ layout x.kind, p.lo ≤ x.f.getD p.j 0 ∧ x.f.getD p.j 0 ≤ p.hi
  data : x.data.length ≤ 32768
  bare : x.f = bareF x.f
  d6 : x.kind ≠ 6 → x.data = []
theorem check0 {x : RecM} (h : checkR x = 0) : Chk x := by
  unfold checkR at h
  by_cases h1 : layout x.kind = []
  · rw [if_pos h1] at h; cases h
  rw [if_neg h1] at h
  by_cases h2 : (layout x.kind).all (inBd x.f) = false
  · rw [if_pos h2] at h; cases h
  rw [if_neg h2] at h
  by_cases h3 : x.kind = 6 ∧ 32768 < x.data.length
  · rw [if_pos h3] at h; cases h
  rw [if_neg h3] at h
  by_cases h4 : bareR x = true
  · unfold bareR at h4
    rw [decide_eq_true_eq] at h4
    have h2' : (layout x.kind).all (inBd x.f) = true := by simpa using h2
    rw [List.all_eq_true] at h2'
    refine ⟨h1, ?_, fun p hp => ?_, ?_, h4.1, fun h6 => ?_⟩
    · rcases Classical.em (1 ≤ x.kind ∧ x.kind ≤ 6) with h | h
      · exact h
      · exact absurd (layout_nil.2 h) h1
    · have := h2' p hp
      unfold inBd at this
      simpa using this
    · by_cases h6 : x.kind = 6
      · omega
      · have := h4.2; rw [if_neg h6] at this; rw [this]; simp
    · have := h4.2; rw [if_neg h6] at this; exact this
  · rw [if_neg h4] at h; cases h
theorem flat_len (f : List Int) (L : List PartM) : (L.flatMap (putP f)).length = total L := by
  induction L with
  | nil => rfl
  | cons p L ih => rw [List.flatMap_cons, List.length_append, ih]; unfold putP; rw [putB_len]; simp [total]
theorem total_le (k : Int) : total (layout k) ≤ 29 := by
  refine layout_cases k (P := fun L => total L ≤ 29) ?_ ?_ ?_ ?_ ?_ ?_ ?_ <;> intros <;> decide
theorem payload_len {x : RecM} (h : Chk x) : (payloadR x).length ≤ 32797 := by
  unfold payloadR
  rw [List.length_append, flat_len]
  have := total_le x.kind
  have := h.data
  omega
theorem Payload_ok {s : St} {x : RecM} {r : G_api_Rec} {K : Sl → Int → HP} (h : RecAt (s.w 0) x r)
    (hE : checkR x ≠ 0 → ∀ s', Step [] s s' → K ⟨none, 0, 0⟩ (checkR x) s'.H) (hO : checkR x = 0 → ∀ s' o, Step [] s s' → Ls tBy (s'.w 0) (payloadR x) o → K o 0 s'.H) : record_Payload r K s.H := by
  unfold record_Payload
  have hxl := h.len
  refine newc_0 fun s1 p1 n1 a1' => ?_
  have e1 := n1.step
  have a1 : At (s1.w 0) p1 0 (rowF x.f r.Data) := by rw [← h.f]; exact a1'
  refine ldRec a1 hxl fun r1 f1 d1 => ?_
  refine Check_ok (x := x) ⟨f1, by rw [d1]; exact (h.st e1).data⟩ fun s2 e2 => ?_
  have e12 := e1.trans e2
  refine bif_ndec (fun hne => hE hne s2 e12) (fun heq => ?_)
  have hc := check0 heq
  have hO' := hO heq
  have hpl := payload_len hc
  unfold octet_NewSink
  have hown : own s = 1152921504606846976 + 1152921504606846976 * s.H.size := rfl
  have hz2 := e12.sz
  refine newc_k (own s) (by omega) fun s3 pS n3 a3 => ?_
  have e3 := n3.step
  have k3 : Snk (own s) (own s + 1) s3 pS [] := ⟨⟨by omega, by omega, by omega⟩, ⟨none, 0, 0⟩, a3, Bld.nil⟩
  have a13 := (a1.mono e2.v0).mono e3.v0
  refine parts_ok a13 hxl fun s4 o4 e4 l4 _ => ?_
  have k4 := k3.st e4 (by simp) (by simp)
  have a14 := a13.mono e4.v0
  have es4 : Step [own s, own s + 1] s s4 := (e12.trans (e3.trans e4)).n
  change Ls (tPart p1) (s4.w 0) (layout x.kind) o4 at l4
  have hLo := layout_ok x.kind
  have hLw := layout_w x.kind
  have hLL := layout_len x.kind
  have hall := hc.all
  have htot := total_le x.kind
  unfold payloadR at hO' hpl
  generalize layout x.kind = L at *
  have hlen := l4.len
  refine loop_rule (ι := Nat) (fun i => [.int .i64 i]) (fun i s' => i ≤ L.length ∧ Step [own s, own s + 1] s s' ∧ Step [own s, own s + 1] s4 s' ∧ Snk (own s) (own s + 1) s' pS ((L.take i).flatMap (putP x.f))) (fun i _ => L.length - i) 0 rfl ⟨Nat.zero_le _, es4, Step.refl, k4⟩ ?_
  rintro i s5 ⟨hi, e5, e45, k5⟩ G hG
  have hz5 := e5.sz
  have hfl := flat_len x.f (L.take i)
  have htl : total (L.take i) ≤ total L := by
    unfold total
    conv => rhs; rw [← List.take_append_drop i L]
    rw [List.map_append, List.sum_append]; omega
  have a15 := a14.mono e45.v0
  simp only [List.getD_cons_zero, List.getD_cons_succ, asI_v, asL_v, asS_v, asB_v, asM_v, asP_v]
  refine bif_dec (fun hlt => ?_) (fun hlt => ?_)
  · refine ixL_rule (Ls.st l4 e45) (by omega) (by omega) fun bx ox p hp hel => ?_
    rw [Int.toNat_natCast] at hp
    obtain ⟨vs, rfl, hat⟩ := hel
    unfold ld_G_record_part
    repeat (first|refine nn_at ?_|refine ldI_at hat rfl ?_|refine ldB_at hat rfl ?_|refine ldS_at hat rfl ?_|refine ldP_at hat rfl ?_|refine ldM_at hat rfl ?_|refine ldL_at hat rfl ?_)
    refine newc_sts rfl (by simp [one]) fun s6 p7 e6 a7 => ?_
    have hpm := List.mem_of_getElem? hp
    have hpo := hLo p hpm
    have hpb := hall p hpm
    have hpw := hLw p hpm
    have hj := hpo.j
    have hw := hpo.w
    have hlo := hpo.lo
    have hhi := hpo.hi
    refine ldP_at a7 rfl ?_
    refine nn_at ?_
    refine ldI_j (a15.mono e6.v0) (rowF_get (by omega)) ?_
    refine ldI_at a7 rfl ?_
    have hv : wr .u64 (x.f.getD p.j 0) = ((x.f.getD p.j 0).toNat : Int) := by rw [wr_u64 (by omega) (by omega)]; omega
    rw [hv]
    have hz6 := e6.sz
    refine SinkU_ok (k5.st e6 (by simp) (by simp)) (by omega) (by omega) (by omega) (by omega) fun s7 e7 k7 => ?_
    rw [w64_id (by omega) (by omega)]
    refine hG (i + 1) s7 ⟨by omega, e5.trans (e6.n.trans e7), e45.trans (e6.n.trans e7), ?_⟩ (by omega)
    have : (L.take (i + 1)).flatMap (putP x.f) = (L.take i).flatMap (putP x.f) ++ putP x.f p := by rw [List.take_succ, hp, List.flatMap_append]; simp
    rw [this]; exact k7
  · have : i = L.length := by omega
    subst this
    rw [List.take_of_length_le (Nat.le_refl _)] at k5 hfl
    refine ldL_at a15 (rowF_data hxl) ?_
    have hdl := hc.data
    refine SinkRaw_ok k5 (h.st e5).data (by omega) (by omega) fun s6 e6 k6 => ?_
    have es6 := e5.trans e6
    refine SinkBytes_ok k6 (by rw [List.length_append]; omega) fun s7 o7 e7 l7 => ?_
    exact hO' s7 o7 ((es6.trans e7.n).loc2 (Nat.le_refl _)) l7
theorem Frame_ok {s : St} {x : RecM} {r : G_api_Rec} {K : Sl → Int → HP} (h : RecAt (s.w 0) x r)
    (hE : checkR x ≠ 0 → ∀ s', Step [] s s' → K ⟨none, 0, 0⟩ (checkR x) s'.H) (hO : checkR x = 0 → ∀ s' o, Step [] s s' → Ls tBy (s'.w 0) (frameR x) o → K o 0 s'.H) : record_Frame r K s.H := by
  unfold record_Frame
  have hxl := h.len
  refine newc_0 fun s1 p1 n1 a1' => ?_
  have e1 := n1.step
  have a1 : At (s1.w 0) p1 0 (rowF x.f r.Data) := by rw [← h.f]; exact a1'
  refine ldRec a1 hxl fun r1 f1 d1 => ?_
  refine Payload_ok (x := x) ⟨f1, by rw [d1]; exact (h.st e1).data⟩ ?_ ?_
  · intro hne s2 e2
    exact bif_ndec (fun _ => hE hne s2 (e1.trans e2)) (fun h => absurd h hne)
  · intro heq s2 o2 e2 l2
    refine bif_ndec (fun h => absurd rfl h) (fun _ => ?_)
    have hc := check0 heq
    have hk := hc.kind
    have hpl := payload_len hc
    refine ldI_at (a1.mono e2.v0) (rowF_get (by omega)) ?_
    have hkk : x.f.getD 0 0 = ((UInt8.ofNat x.kind.toNat).toNat : Int) := by
      rw [UInt8.toNat_ofNat', Nat.mod_eq_of_lt (by omega)]
      show x.kind = _; omega
    rw [hkk]
    refine Wrap_ok l2 (by omega) fun s3 o3 e3 l3 => ?_
    exact hO heq s3 o3 ((e1.trans e2).trans e3) l3
/-! a frame is read as it was written -/
theorem rd_veil1 {p : List UInt8} {c : UInt8} {r : List UInt8} : rd (p ++ veil1 c ++ r) p.length = .ok (c, p.length + (veil1 c).length) := by
  have g : ∀ (v : List UInt8) (j : Nat) (y : UInt8), v[j]? = some y → (p ++ v ++ r)[p.length + j]? = some y := fun v j y h => by
    have hj := (List.getElem?_eq_some_iff.1 h).1
    rw [List.append_assoc, List.getElem?_append_right (by omega), Nat.add_sub_cancel_left, List.getElem?_append_left hj, h]
  by_cases h80 : c = 80
  · subst h80
    have hv : veil1 80 = [81, 0] := rfl
    rw [hv]
    unfold rd
    have g0 := g [81, 0] 0 81 rfl
    have g1 := g [81, 0] 1 0 rfl
    rw [Nat.add_zero] at g0
    rw [g0]; simp only [g1]; rfl
  by_cases h81 : c = 81
  · subst h81
    have hv : veil1 81 = [81, 1] := rfl
    rw [hv]
    unfold rd
    have g0 := g [81, 1] 0 81 rfl
    have g1 := g [81, 1] 1 1 rfl
    rw [Nat.add_zero] at g0
    rw [g0]; simp only [g1]; rfl
  have hv : veil1 c = [c] := by simp [veil1, h80, h81]
  rw [hv]
  unfold rd
  have g0 := g [c] 0 c rfl
  rw [Nat.add_zero] at g0
  rw [g0]
  simp [h80, h81]
theorem rdN_veil : ∀ (l p r out : List UInt8), rdN (p ++ veil l ++ r) l.length p.length out = .ok (out ++ l, p.length + (veil l).length)
  | [], p, r, out => by simp [rdN, veil]
  | c :: l, p, r, out => by
    have hb : p ++ veil (c :: l) ++ r = p ++ veil1 c ++ (veil l ++ r) := by rw [veil_cons]; simp
    rw [hb, List.length_cons, rdN, rd_veil1]
    simp only
    have := rdN_veil l (p ++ veil1 c) r (out ++ [c])
    rw [List.length_append] at this
    have hb2 : p ++ veil1 c ++ (veil l ++ r) = p ++ veil1 c ++ veil l ++ r := by simp
    rw [hb2, this, veil_cons]
    simp
    omega
theorem frameAt_wrap {c : UInt8} {pay p r : List UInt8} (hp : pay.length ≤ 65536) : frameAt (p ++ wrap c pay ++ r) p.length = .ok ⟨p.length, (wrap c pay).length, c.toNat, pay⟩ := by
  generalize hcr : crc 0#32 (c :: (putB pay.length 4 ++ pay)) = cr
  have hw : wrap c pay = 80 :: veil (c :: (putB pay.length 4 ++ (putB cr.toNat 4 ++ pay))) := by unfold wrap; rw [hcr]
  have hb0 : (p ++ wrap c pay ++ r)[p.length]? = some 80 := by
    rw [List.append_assoc, List.getElem?_append_right (Nat.le_refl _), Nat.sub_self, hw]; rfl
  have hlt := cr.isLt
  unfold frameAt
  rw [hb0]
  simp only [if_true]
  have hbb : p ++ wrap c pay ++ r = (p ++ [80]) ++ veil (c :: (putB pay.length 4 ++ (putB cr.toNat 4 ++ pay))) ++ r := by rw [hw]; simp
  have hsp : c :: (putB pay.length 4 ++ (putB cr.toNat 4 ++ pay)) = (c :: putB pay.length 4) ++ (putB cr.toNat 4 ++ pay) := by simp
  have h5 : rdN (p ++ wrap c pay ++ r) 5 (p.length + 1) [] = .ok (c :: putB pay.length 4, (p ++ [80]).length + (veil (c :: putB pay.length 4)).length) := by
    rw [hbb, hsp, veil_app]
    have := rdN_veil (c :: putB pay.length 4) (p ++ [80]) (veil (putB cr.toNat 4 ++ pay) ++ r) []
    simp only [List.length_cons, putB_len, List.nil_append, List.length_append, List.length_nil] at this ⊢
    rw [show p ++ [80] ++ (veil (c :: putB pay.length 4) ++ veil (putB cr.toNat 4 ++ pay)) ++ r = p ++ [80] ++ veil (c :: putB pay.length 4) ++ (veil (putB cr.toNat 4 ++ pay) ++ r) by simp]
    exact this
  rw [h5]
  simp only
  have g14 : getI (c :: putB pay.length 4) 1 4 = pay.length := by
    have := getI_take (l := c :: putB pay.length 4) (a := 1) (k := 4) (by decide) (by simp [putB_len])
    rw [show ((1 : Nat) : Int) = 1 from rfl, show ((4 : Nat) : Int) = 4 from rfl] at this
    rw [this, List.drop_succ_cons, List.drop_zero, List.take_of_length_le (by rw [putB_len]; exact Nat.le_refl _), be_putB _ _ (by omega)]
  unfold frame1
  rw [g14, if_neg (by omega), Int.toNat_natCast]
  have h9 : rdN (p ++ wrap c pay ++ r) (4 + pay.length) ((p ++ [80]).length + (veil (c :: putB pay.length 4)).length) (c :: putB pay.length 4) = .ok ((c :: putB pay.length 4) ++ (putB cr.toNat 4 ++ pay), (p ++ [80]).length + (veil (c :: putB pay.length 4)).length + (veil (putB cr.toNat 4 ++ pay)).length) := by
    have := rdN_veil (putB cr.toNat 4 ++ pay) (p ++ [80] ++ veil (c :: putB pay.length 4)) r (c :: putB pay.length 4)
    rw [List.length_append (as := putB cr.toNat 4), putB_len, List.length_append (as := p ++ [80])] at this
    rw [hbb, hsp, veil_app, show p ++ [80] ++ (veil (c :: putB pay.length 4) ++ veil (putB cr.toNat 4 ++ pay)) ++ r = p ++ [80] ++ veil (c :: putB pay.length 4) ++ veil (putB cr.toNat 4 ++ pay) ++ r by simp]
    exact this
  rw [h9]
  simp only
  unfold frame2
  have d9 : ((c :: putB pay.length 4) ++ (putB cr.toNat 4 ++ pay)).drop 9 = pay := by
    rw [← List.append_assoc, List.drop_left' (by simp [putB_len])]
  have t5 : ((c :: putB pay.length 4) ++ (putB cr.toNat 4 ++ pay)).take 5 = c :: putB pay.length 4 := List.take_left' (by simp [putB_len])
  have g54 : getI ((c :: putB pay.length 4) ++ (putB cr.toNat 4 ++ pay)) 5 4 = cr.toNat := by
    have := getI_take (l := (c :: putB pay.length 4) ++ (putB cr.toNat 4 ++ pay)) (a := 5) (k := 4) (by decide) (by simp [putB_len]; omega)
    rw [show ((5 : Nat) : Int) = 5 from rfl, show ((4 : Nat) : Int) = 4 from rfl] at this
    rw [this, List.drop_left' (by simp [putB_len]), List.take_left' (by rw [putB_len]), be_putB _ _ (by omega)]
  rw [d9, t5, g54]
  have hcc : (c :: putB pay.length 4) ++ pay = c :: (putB pay.length 4 ++ pay) := rfl
  rw [hcc, hcr, if_pos rfl]
  have hwl : (wrap c pay).length = 1 + (veil (c :: putB pay.length 4)).length + (veil (putB cr.toNat 4 ++ pay)).length := by
    rw [hw, hsp, veil_app]; simp only [List.length_cons, List.length_append]; omega
  congr 2
  rw [hwl]
  simp only [List.length_append, List.length_singleton]
  omega
/-- a record is read as it was written -/
theorem takeV_flat (f : List Int) : ∀ (L : List PartM) (p r : List UInt8), (∀ q ∈ L, PartOk q ∧ q.lo ≤ f.getD q.j 0 ∧ f.getD q.j 0 ≤ q.hi ∧ q.hi < ((256 ^ q.w : Nat) : Int)) → takeV (p ++ L.flatMap (putP f) ++ r) L p.length = L.map fun q => f.getD q.j 0
  | [], p, r, h => rfl
  | q :: L, p, r, h => by
    obtain ⟨h1, h2, h3, h4⟩ := h q (by simp)
    have hw := h1.w
    have hlo := h1.lo
    rw [takeV, List.map_cons]
    have hb : p ++ (q :: L).flatMap (putP f) ++ r = (p ++ putP f q) ++ L.flatMap (putP f) ++ r := by rw [List.flatMap_cons]; simp
    have hl : (putP f q).length = q.w := putB_len _ _
    congr 1
    · have := getI_take (l := p ++ (q :: L).flatMap (putP f) ++ r) (a := p.length) (k := q.w) (by omega) (by rw [hb]; simp [hl] <;> omega)
      rw [this, hb]
      have hd : ((p ++ putP f q ++ L.flatMap (putP f) ++ r).drop p.length).take q.w = putP f q := by
        rw [show p ++ putP f q ++ L.flatMap (putP f) ++ r = p ++ (putP f q ++ (L.flatMap (putP f) ++ r)) by simp, List.drop_left, List.take_left' hl]
      rw [hd]
      unfold putP
      rw [be_putB _ _ (by omega)]
      omega
    · have := takeV_flat f L (p ++ putP f q) r (fun q' hq => h q' (by simp [hq]))
      rw [List.length_append, hl] at this
      rw [hb]; exact this
theorem fill_bare (k : Int) (f : List Int) (L : List PartM) : fillF k L (L.map fun q => f.getD q.j 0) = bareN k f L := by
  unfold fillF bareN
  generalize (k :: List.replicate 10 0 : List Int) = g
  induction L generalizing g with
  | nil => rfl
  | cons q L ih => rw [List.map_cons, List.zip_cons_cons, List.foldl_cons, List.foldl_cons]; exact ih _
theorem okV_map (f : List Int) (L : List PartM) (h : ∀ q ∈ L, q.lo ≤ f.getD q.j 0 ∧ f.getD q.j 0 ≤ q.hi) : okV L (L.map fun q => f.getD q.j 0) = true := by
  unfold okV
  rw [List.all_eq_true]
  intro y hy
  have : y.2 = f.getD y.1.j 0 ∧ y.1 ∈ L := by
    clear h
    induction L with
    | nil => simp at hy
    | cons q L ih =>
      rw [List.map_cons, List.zip_cons_cons, List.mem_cons] at hy
      rcases hy with rfl | hy
      · exact ⟨rfl, by simp⟩
      · obtain ⟨a, b⟩ := ih hy
        exact ⟨a, by simp [b]⟩
  have := h y.1 this.2
  simp_all
theorem readR_payload {x : RecM} (h : Chk x) : readR x.kind (payloadR x) = .ok x := by
  unfold readR
  have hlen : (payloadR x).length = total (layout x.kind) + x.data.length := by unfold payloadR; rw [List.length_append, flat_len]
  rw [if_neg h.ne, if_neg (by omega)]
  have h3 : ¬(x.kind ≠ 6 ∧ total (layout x.kind) < (payloadR x).length) := fun hh => by
    have := h.d6 hh.1; rw [this] at hlen; simp at hlen; omega
  have hd := h.data
  rw [if_neg h3, if_neg (by omega)]
  have htv : takeV (payloadR x) (layout x.kind) 0 = (layout x.kind).map fun q => x.f.getD q.j 0 := by
    have := takeV_flat x.f (layout x.kind) [] x.data (fun q hq => ⟨layout_ok _ q hq, (h.all q hq).1, (h.all q hq).2, layout_w _ q hq⟩)
    simpa [payloadR] using this
  rw [htv, if_pos (okV_map _ _ h.all), fill_bare]
  have hf : bareN x.kind x.f (layout x.kind) = x.f := h.bare.symm
  rw [hf]
  have hdr : (if x.kind = 6 then (payloadR x).drop (total (layout x.kind)) else []) = x.data := by
    split
    · unfold payloadR; rw [List.drop_left' (flat_len _ _)]
    · rename_i h6; exact (h.d6 h6).symm
  rw [hdr]
theorem found_frame {x : RecM} {p r : List UInt8} (h : Chk x) : ∃ f, frameAt (p ++ frameR x ++ r) p.length = .ok f ∧ found f = some ⟨p.length, (frameR x).length, x⟩ ∧ f.len = (frameR x).length ∧ 1 ≤ (frameR x).length := by
  have hk := h.kind
  have hpl := payload_len h
  refine ⟨_, frameAt_wrap (by omega), ?_, rfl, by unfold frameR wrap; simp⟩
  unfold found
  have : (((UInt8.ofNat x.kind.toNat).toNat : Nat) : Int) = x.kind := by
    rw [UInt8.toNat_ofNat', Nat.mod_eq_of_lt (by omega)]; omega
  simp only
  rw [this, readR_payload h]
  rfl
/-- bytes that frames of records are -/
def framesR (l : List RecM) : List UInt8 := l.flatMap frameR
def foundsR : Nat → List RecM → List FoundM
  | _, [] => []
  | i, x :: l => ⟨i, (frameR x).length, x⟩ :: foundsR (i + (frameR x).length) l
theorem scanN_frames : ∀ (l : List RecM) (n : Nat) (p r : List UInt8), (∀ x ∈ l, Chk x) → (framesR l).length ≤ n → ∃ m, n - (framesR l).length ≤ m ∧ (scanN (p ++ framesR l ++ r) n p.length).filterMap found = foundsR p.length l ++ (scanN (p ++ framesR l ++ r) m (p.length + (framesR l).length)).filterMap found
  | [], n, p, r, h, hn => ⟨n, by simp [framesR], by simp [framesR, foundsR]⟩
  | x :: l, n, p, r, h, hn => by
    have hb : p ++ framesR (x :: l) ++ r = p ++ frameR x ++ (framesR l ++ r) := by unfold framesR; rw [List.flatMap_cons]; simp
    have hfl : (framesR (x :: l)).length = (frameR x).length + (framesR l).length := by unfold framesR; rw [List.flatMap_cons, List.length_append]
    obtain ⟨f, h1, h2, h3, h4⟩ := found_frame (p := p) (r := framesR l ++ r) (h x (by simp))
    obtain ⟨n, rfl⟩ : ∃ n', n = n' + 1 := ⟨n - 1, by omega⟩
    rw [scanN, if_pos (by rw [hb]; simp; omega), hb, h1]
    simp only
    rw [List.filterMap_cons, h2, h3]
    obtain ⟨m, m1, m2⟩ := scanN_frames l n (p ++ frameR x) r (fun y hy => h y (by simp [hy])) (by omega)
    rw [List.length_append] at m2
    rw [show p ++ frameR x ++ (framesR l ++ r) = p ++ frameR x ++ framesR l ++ r by simp, m2]
    refine ⟨m, by omega, ?_⟩
    rw [hfl, foundsR]
    simp only [List.cons_append]
    rw [Nat.add_assoc]
theorem founds_frames (l : List RecM) (h : ∀ x ∈ l, Chk x) : founds (framesR l) = foundsR 0 l := by
  obtain ⟨m, m1, m2⟩ := scanN_frames l (framesR l).length [] [] h (Nat.le_refl _)
  simp only [List.nil_append, List.append_nil, List.length_nil, Nat.zero_add] at m2
  unfold founds frames
  rw [m2, scanN_done m _ (Nat.le_refl _)]
  simp
end Go.Ph
end
section
set_option linter.all false
namespace Go.Ph
open S
/-- a text is copied into a row -/
theorem cpyS_rule {s : St} {q : Nat} {l : List UInt8} {bs : ByteArray} {d : Sl} {K : Int → HP} (hd : LsW tBy (s.w 0) (s.w q) l d) (hq0 : q ≠ 0)
    (hK : ∀ s', Step [q] s s' → s'.H.size = s.H.size → LsW tBy (s'.w 0) (s'.w q) (bs.data.toList.take (min bs.size l.length) ++ l.drop (min bs.size l.length)) d → (∀ a, d.a = some a → ∀ x i, ¬(x = a.block ∧ a.off ≤ i ∧ i < a.off + min bs.size l.length) → s'.c x i = s.c x i ∧ pk s'.H x i = pk s.H x i) → K (min bs.size l.length : Nat) s'.H) : cpyS d bs K s.H := by
  have hdl := hd.len
  have hc : min bs.size d.len = min bs.size l.length := by rw [hdl]
  unfold cpyS cpyC
  rw [hc]
  generalize hcc : min bs.size l.length = c at *
  obtain ⟨m, hm⟩ : ∃ m : List UInt8, m = bs.data.toList.take c := ⟨_, rfl⟩
  have hbl : bs.data.toList.length = bs.size := ba_len bs
  have hml : m.length = c := by rw [hm, List.length_take]; omega
  obtain ⟨new, hnew⟩ : ∃ new, new = bcells (bs.extract 0 c) := ⟨_, rfl⟩
  have hnm : new = m.map fun x => Value.int .u8 x.toNat := by
    rw [hnew, hm]; unfold bcells; rw [ext_list]; simp
  rw [← hnew]
  have n1 : new.length = c * 1 := by rw [hnm, List.length_map]; omega
  have n3 : ∀ v ∈ new, one v = true := by intro v hv; rw [hnm] at hv; simp at hv; obtain ⟨a, _, rfl⟩ := hv; rfl
  have n4 : ∀ (W : View) (b o : Nat), At W b o new → ∀ j x, m[j]? = some x → El tBy (s.w 0) W x b (o + j * tBy.n) := fun W b o h j x hj => by
    refine ⟨[.int .u8 x.toNat], rfl, fun i v hi => ?_⟩
    have e : i = 0 := by cases i with | zero => rfl | succ i => simp at hi
    subst e
    simp at hi; subst hi
    have := h j (.int .u8 x.toNat) (by rw [hnm, List.getElem?_map, hj]; rfl)
    simpa [tBy] using this
  rw [← hm] at hK
  have htn : tBy.n = 1 := rfl
  cases e : d.a with
  | none =>
    have h0 := hd.nil e
    have hcap := hd.cap
    have hl0 : l = [] := List.eq_nil_of_length_eq_zero (by omega)
    subst hl0
    have hc0 : c = 0 := by simp at hcc; omega
    subst hc0
    have hm0 : m = [] := List.eq_nil_of_length_eq_zero hml
    subst hm0
    exact hK s Step.refl rfl (by simpa using hd) (fun _ _ _ _ _ => ⟨rfl, rfl⟩)
  | some a =>
    obtain ⟨g1, g2⟩ := hd.at_ a e
    by_cases hl0 : l = []
    · subst hl0
      have hc0 : c = 0 := by simp at hcc; omega
      have hnew : new = [] := List.eq_nil_of_length_eq_zero (by omega)
      have hm0 : m = [] := List.eq_nil_of_length_eq_zero (by omega)
      rw [hnew]
      subst hc0 hm0
      exact hK s Step.refl rfl (by simpa using hd) (fun _ _ _ _ _ => ⟨rfl, rfl⟩)
    obtain ⟨b, o, sp⟩ := a
    have g1 := g1 (by have := hd.cap; have := List.length_pos_iff.2 hl0; omega)
    simp at g1; subst g1
    simp only at g2 ⊢
    have hnl : new.length = c := by omega
    have hcells : ∀ j, j < new.length → ∃ v0, s.w q b (o + 0 + j) = some (.v v0) := fun j hj => by
      obtain ⟨ws, w1, w2⟩ := g2 j _ (List.getElem?_eq_getElem (by omega))
      have hwl := tBy.len w1
      have := w2 0 _ (List.getElem?_eq_getElem (by omega))
      rw [htn, Nat.mul_one, Nat.add_zero] at this
      exact ⟨_, by rw [Nat.add_zero]; exact this⟩
    have hqlt : new.length ≠ 0 → q < 1152921504606846976 + 1152921504606846976 * s.H.size := fun h => by
      obtain ⟨v0, hv0⟩ := hcells 0 (by omega)
      rw [← (w_some hv0).2]; exact s.wf _ _ (w_lt hv0)
    have hcl : c ≤ l.length := by omega
    by_cases hz : new.length = 0
    · have h0 : new = [] := List.eq_nil_of_length_eq_zero hz
      have hc0 : c = 0 := by omega
      have hm0 : m = [] := List.eq_nil_of_length_eq_zero (by omega)
      rw [h0]
      simp only [sts]
      refine hK s Step.refl rfl ?_ (fun _ _ _ _ _ => ⟨rfl, rfl⟩)
      rw [hm0, hc0]; simpa using hd
    · refine sts_rule (k := q) (k' := q) new hcells n3 (hqlt hz) hq0 fun s' h' => ?_
      have hst : Step [q] s s' := h'.step (q := q) (by simp) hq0 fun j hj => by
        obtain ⟨v, hv⟩ := hcells j hj
        exact (w_some hv).2
      refine hK s' hst h'.sz ⟨by rw [List.length_append, List.length_drop]; omega, hd.cap, hd.nil, fun a ha => ?_⟩ (fun a ha x i hn => by
        rw [e] at ha; simp at ha; subst ha
        refine h'.old x i fun ⟨q1, q2, q3⟩ => hn ⟨q1, q2, ?_⟩
        simp only; omega)
      rw [e] at ha; simp at ha; subst ha
      refine ⟨fun _ => rfl, fun j y hj => ?_⟩
      simp only
      by_cases ej : j < c
      · rw [List.getElem?_append_left (by omega)] at hj
        have := n4 (s'.w q) b o (by have := h'.here; rwa [Nat.add_zero] at this) j y hj
        exact this.mono hst.v0 (VLe.refl _)
      · rw [List.getElem?_append_right (by omega), List.getElem?_drop] at hj
        rw [show c + (j - m.length) = j by omega] at hj
        obtain ⟨ws, w1, w2⟩ := g2 j y hj
        refine ⟨ws, tBy.mono hst.v0 w1, fun a v hav => ?_⟩
        have hu := w2 a v hav
        have := h'.old b (o + j * tBy.n + a) (fun ⟨_, h1, h2⟩ => by rw [htn] at h2; omega)
        exact w_mk (this.2.trans (w_some hu).1) (this.1.trans (w_some hu).2)
/-- bytes behind a text -/
theorem over_ok {s : St} {x y : ByteArray} {K : ByteArray → HP} (hz : x.size + y.size ≤ 1000000000) (hK : ∀ s', Step [] s s' → K (x ++ y) s'.H) : vdisk_patch_over ⟨x.size, y⟩ x K s.H := by
  unfold vdisk_patch_over
  refine newc_0 fun s1 p1 n1 a1' => ?_
  have a1 : At (s1.w 0) p1 0 [.int .i64 (x.size : Nat), .string y] := a1'
  have e1 := n1.step
  have hz1 := e1.sz
  have hq0 : own s ≠ 0 := by unfold own; omega
  repeat (first|refine nn_at ?_|refine ldI_at a1 rfl ?_|refine ldB_at a1 rfl ?_|refine ldS_at a1 rfl ?_|refine ldP_at a1 rfl ?_|refine ldM_at a1 rfl ?_|refine ldL_at a1 rfl ?_)
  rw [w64_id (by omega) (by omega)]
  have hif : (if (x.size : Int) + (y.size : Int) > (x.size : Nat) then (x.size : Int) + (y.size : Int) else (x.size : Nat)) = ((x.size + y.size : Nat) : Int) := by split <;> omega
  simp only [hif]
  refine mkSl_rule (t := tBy) (z := (0 : UInt8)) (own s) (by unfold own; omega) rfl (by omega) (by omega) (by omega) fun s2 o e2 z2 l2 => ?_
  rw [Int.toNat_natCast] at l2
  have hol := l2.len
  have hoc := l2.cap
  rw [List.length_replicate] at hol
  refine cpyS_rule l2 hq0 fun s3 e3 z3 l3 hf3 => ?_
  have hmin : min x.size (List.replicate (x.size + y.size) (0 : UInt8)).length = x.size := by rw [List.length_replicate]; omega
  rw [hmin] at l3 hf3
  have ht : x.data.toList.take x.size = x.data.toList := List.take_of_length_le (by rw [ba_len]; exact Nat.le_refl _)
  rw [ht, List.drop_replicate, Nat.add_sub_cancel_left] at l3
  have a13 := (a1.mono e2.v0).mono e3.v0
  refine ldI_at (n := (x.size : Int)) a13 rfl ?_
  have es3 : Step [own s] s s3 := (e1.trans e2).n.trans e3
  have hll : (x.data.toList ++ List.replicate y.size (0 : UInt8)).length = x.size + y.size := by rw [List.length_append, ba_len, List.length_replicate]
  have fin : ∀ s' l, Step [own s] s3 s' → LsW tBy (s'.w 0) (s'.w (own s)) l o → l = x.data.toList ++ y.data.toList → ldBy o (fun t => K t) s'.H := fun s' l e hl hh => by
    refine ldBy_rule hl ?_
    have : (⟨l.toArray⟩ : ByteArray) = x ++ y := by rw [hh]; apply ba_ext; simp
    rw [this]
    exact hK s' ((es3.trans e).loc)
  by_cases hy0 : y.size = 0
  · have hye : y.data.toList = [] := List.eq_nil_of_length_eq_zero (by rw [ba_len]; exact hy0)
    refine ⟨⟨by omega, by omega, by omega, Int.le_refl _⟩, ?_⟩
    refine ldS_at a13 rfl ?_
    have hsl : ∀ (aa : Option Addr) (cc : Nat), cpyS (⟨aa, (o.len : Int).toNat - (x.size : Int).toNat, cc⟩ : Sl) y (fun _ => ldBy o fun t27 => K t27) s3.H := fun aa cc => by
      unfold cpyS cpyC
      have h0 : min y.size ((o.len : Int).toNat - (x.size : Int).toNat) = 0 := by omega
      rw [h0]
      have hb0 : bcells (y.extract 0 0) = [] := by unfold bcells; rw [ext_list]; simp
      cases aa with
      | none => exact fin s3 _ Step.refl l3 (by rw [hy0, hye]; rfl)
      | some aa =>
        show sts aa 0 (bcells (y.extract 0 0)) _ _
        rw [hb0]
        exact fin s3 _ Step.refl l3 (by rw [hy0, hye]; rfl)
    exact hsl _ _
  · obtain ⟨b, off, ha⟩ := Ls.lt l3 (j := 0) (by omega)
    refine slLw_rule l3 ha (by omega) (by omega) (by omega) (by omega) (Int.le_refl _) (by omega) fun sub hsub hsc hsa => ?_
    have hsl : ((x.data.toList ++ List.replicate y.size (0 : UInt8)).take ((o.len : Nat) : Int).toNat).drop ((x.size : Nat) : Int).toNat = List.replicate y.size 0 := by
      rw [Int.toNat_natCast, Int.toNat_natCast, List.take_of_length_le (by omega), List.drop_left' (ba_len x)]
    rw [hsl] at hsub
    refine ldS_at a13 rfl ?_
    refine cpyS_rule hsub hq0 fun s4 e4 z4 l4 hf4 => ?_
    have hmin2 : min y.size (List.replicate y.size (0 : UInt8)).length = y.size := by rw [List.length_replicate]; omega
    rw [hmin2] at l4 hf4
    have hdr : (List.replicate y.size (0 : UInt8)).drop y.size = [] := by simp
    rw [List.take_of_length_le (by rw [ba_len]; exact Nat.le_refl _), hdr, List.append_nil] at l4
    have hsa' : sub.a = some ⟨b, off + x.size * tBy.n, none⟩ := by rw [hsa, Int.toNat_natCast]
    refine fin s4 _ e4 (part_rule (i := x.size) (c := y.size) l3 ha e4 l4 hsa' (by rw [hll, ba_len]) (by rw [ba_len]; exact Nat.le_refl _) (fun z j hn => hf4 _ hsa' z j (fun ⟨q1, q2, q3⟩ => hn ⟨q1, q2, by rw [show tBy.n = 1 from rfl] at *; simp only at q3; omega⟩))) ?_
    rw [List.take_left' (ba_len x)]
end Go.Ph
end
section
set_option linter.all false
namespace Go.Ph
open S
namespace R
def fsz (d : RDisk) (e : EntM) : Int := match d.files[e.File.toNat]? with | some f => f.now.size | none => 0
def free (d : RDisk) : Int := d.cap - (d.now.map (fsz d)).sum
def putF (d : RDisk) (i : Nat) (f : RFile) : RDisk := { d with files := d.files.set i f }
def append (d : RDisk) (n : ByteArray) (b : ByteArray) : RDisk × Int :=
  if (begin d).2 ≠ 0 then begin d else if find (begin d).1.now n < 0 then ((begin d).1, 7) else
  match (begin d).1.files[(find (begin d).1.now n).toNat]? with
  | none => ((begin d).1, 7)
  | some f => if free (begin d).1 < b.size then ((begin d).1, 10) else (putF (begin d).1 (find (begin d).1.now n).toNat ⟨f.now ++ b, f.sure, f.waits ++ [⟨f.now.size, b⟩]⟩, 0)
def sync (d : RDisk) (n : ByteArray) : RDisk × Int :=
  if (begin d).2 ≠ 0 then begin d else if find (begin d).1.now n < 0 then ((begin d).1, 7) else
  match (begin d).1.files[(find (begin d).1.now n).toNat]? with
  | none => ((begin d).1, 7)
  | some f => (putF (begin d).1 (find (begin d).1.now n).toNat ⟨f.now, f.now, []⟩, 0)
end R
theorem seen_look {N : Nat} {m : List (ByteArray × Int)} {l : List EntM} (h : NamesSim N m l) {x : ByteArray × Int} (hx : x ∈ m) : look m x.1 = some x.2 := by
  cases e : look m x.1 with
  | none => exact absurd rfl (look_none e x hx)
  | some i =>
    have h1 := look_mem e
    have h2 := (h.mem x.1 x.2).1 hx
    have h3 := (h.mem x.1 i).1 h1
    have := congrArg (fun z : EntM => z.File) (h.good.inj h2 h3 rfl)
    simp only at this
    rw [this]
theorem perm_sum {l m : List Int} (h : l.Perm m) : l.sum = m.sum := by
  induction h with
  | nil => rfl
  | cons x _ ih => simp [ih]
  | swap x y l => simp only [List.sum_cons]; omega
  | trans _ _ ih1 ih2 => rw [ih1, ih2]
theorem free_sim {v : VDisk} {d : RDisk} (h : Sim v d) : V.free v = R.free d := by
  have hn := h.ns.1
  unfold V.free R.free
  rw [h.room.1]
  congr 1
  let g : ByteArray → Int := fun n => match look v.seen n with | some i => V.size v i | none => 0
  have e1 : (v.seen.map fun x => V.size v x.2) = (v.seen.map (·.1)).map g := by
    rw [List.map_map]
    apply List.map_congr_left
    intro x hx
    show V.size v x.2 = g x.1
    simp only [g, seen_look hn hx]
  have e2 : d.now.map (R.fsz d) = (d.now.map (·.Name)).map g := by
    rw [List.map_map]
    apply List.map_congr_left
    intro e he
    have hm := (hn.mem e.Name e.File).2 he
    have hr := hn.good.rng e he
    have hl := seen_look hn hm
    show R.fsz d e = g e.Name
    simp only at hl
    simp only [g, hl]
    unfold R.fsz V.size
    have hlt : e.File.toNat < v.nodes.length := by omega
    have hlt2 : e.File.toNat < d.files.length := by rw [← h.nodes.1]; exact hlt
    have := h.cont e.File.toNat _ _ (List.getElem?_eq_getElem hlt) (List.getElem?_eq_getElem hlt2) (.inl ⟨e.Name, by rw [Int.toNat_of_nonneg hr.1]; exact hm⟩)
    rw [List.getElem?_eq_getElem hlt, List.getElem?_eq_getElem hlt2]
    simp only
    rw [this.1]
  rw [e1, e2]
  have hp : (v.seen.map (·.1)).Perm (d.now.map (·.Name)) := by
    rw [← hn.names]; exact (List.mergeSort_perm _ _).symm
  exact perm_sum (hp.map g)
theorem size_free {v : VDisk} {d : RDisk} (h : Sim v d) {j : Nat} {x : VNode} {n : ByteArray} (hx : v.nodes[j]? = some x) (hn : (n, (j : Int)) ∈ v.seen) : (x.seen.size : Int) + V.free v ≤ 4194304 := by
  have hr := h.room
  unfold V.free
  have hle : (x.seen.size : Int) ≤ (v.seen.map fun y => V.size v y.2).sum := by
    have h0 : ∀ y ∈ v.seen, 0 ≤ V.size v y.2 := fun y _ => (V.size_bd (fun z hz => (h.sizes z hz).seen) y.2).1
    have hs : V.size v (j : Int) = x.seen.size := by unfold V.size; rw [Int.toNat_natCast, hx]
    generalize v.seen = m at *
    induction m with
    | nil => cases hn
    | cons y m ih =>
      rw [List.map_cons, List.sum_cons]
      have hm0 : 0 ≤ (m.map fun y => V.size v y.2).sum := by
        clear ih hn
        induction m with
        | nil => simp
        | cons z m ih =>
          rw [List.map_cons, List.sum_cons]
          have := h0 z (by simp)
          have := ih fun w hw => h0 w (by
            simp only [List.mem_cons] at hw ⊢
            rcases hw with hw | hw
            · exact .inl hw
            · exact .inr (.inr hw))
          omega
      rcases List.mem_cons.1 hn with rfl | hn
      · simp only [hs]; omega
      · have := ih hn fun w hw => h0 w (by simp [hw])
        have := h0 y (by simp)
        omega
  omega
/-- a node and its file are changed alike -/
theorem put_sim {v : VDisk} {d : RDisk} {j : Nat} {x x' : VNode} {f f' : RFile} (h : Sim v d) (hx : v.nodes[j]? = some x) (hf : d.files[j]? = some f) (hs : SameF x' f') (hfr : x'.fresh = x.fresh) (hok : NodeOk d.calls x') : Sim { v with nodes := v.nodes.set j x' } (R.putF d j f') := by
  obtain ⟨g1, g2, g3, g4, g5, g6, g7, g8, g9, g10, g11, g12, g13, g14, g15⟩ := h
  have hjl := (List.getElem?_eq_some_iff.1 hx).1
  refine ⟨g1, g2, g3, g4, g5, g6, ⟨by simp [R.putF, g7.1], by simp only [R.putF, List.length_set]; exact g7.2⟩, g8, g9, g10, fun i hi => by simp only [R.putF, List.length_set]; exact g11 i hi, ?_, fun t ht => by simp only [List.length_set]; exact g13 t ht, ?_, ?_⟩
  · intro i y hy
    by_cases e : j = i
    · subst e
      simp only [List.getElem?_set_self hjl, Option.some.injEq] at hy
      subst hy
      rw [hfr]
      exact g12 j x hx
    · simp only [List.getElem?_set_ne e] at hy
      exact g12 i y hy
  · intro i y w hy hw hk
    by_cases e : j = i
    · subst e
      simp only [List.getElem?_set_self hjl, Option.some.injEq] at hy
      simp only [R.putF, List.getElem?_set_self (show j < d.files.length by omega), Option.some.injEq] at hw
      subst hy hw
      exact hs
    · simp only [List.getElem?_set_ne e] at hy
      simp only [R.putF, List.getElem?_set_ne e] at hw
      refine g14 i y w hy hw ?_
      rcases hk with hk | hk | ⟨z, hz, hz2⟩
      · exact .inl hk
      · exact .inr (.inl hk)
      · simp only [List.getElem?_set_ne e] at hz
        exact .inr (.inr ⟨z, hz, hz2⟩)
  · intro y hy
    rcases List.mem_or_eq_of_mem_set hy with h1 | rfl
    · exact g15 y h1
    · exact hok
theorem write_ok {k : Nat} {s : St} {b : Nat} {v : VDisk} {ps : List (Option Addr)} {j : Nat} {x : VNode} {bs : ByteArray} {K : Int → HP} (h : VDp k s b v ps) (hv : v.Ok) (hx : v.nodes[j]? = some x) (hnl : v.nodes.length ≤ 1000000000000) (hbs : bs.size ≤ 100000000) (hpl : x.patches.length ≤ 1000000000000) (hko : Ko k s)
    (h0 : V.free v < bs.size → ∀ s', Step [] s s' → VDp k s' b v ps → K 10 s'.H)
    (h1 : ¬ V.free v < bs.size → ∀ s', Step (dk k) s s' → VDp k s' b { v with nodes := v.nodes.set j { x with seen := x.seen ++ bs, patches := x.patches ++ [⟨x.seen.size, bs⟩] } } ps → K 0 s'.H) :
    vdisk_Disk_write (some ⟨b, 0, none⟩) (j : Int) ⟨x.seen.size, bs⟩ K s.H := by
  unfold vdisk_Disk_write
  have hxs := hv.sizes x (List.mem_of_getElem? hx)
  have hjl := (List.getElem?_eq_some_iff.1 hx).1
  refine newc_0 fun s1 p5 n1 a5' => ?_
  have e1 := n1.step
  have a5 : At (s1.w 0) p5 0 [.int .i64 (x.seen.size : Nat), .string bs] := a5'
  have hh := h.st e1 (by simp)
  obtain ⟨k0, ⟨n, m, ms, mu, g1, g2, g3, ⟨es, cl, g4⟩, g5⟩, g6⟩ := hh
  obtain ⟨p, hp, nd⟩ := g6.at_ j x hx
  obtain ⟨psl, na, nb⟩ := nd.at_
  repeat (first|refine nn_at ?_|refine ldI_at g1 rfl ?_|refine ldB_at g1 rfl ?_|refine ldS_at g1 rfl ?_|refine ldP_at g1 rfl ?_|refine ldM_at g1 rfl ?_|refine ldL_at g1 rfl ?_)
  have hnn := g2.ls.len
  have hpsl := g6.len
  refine ixL_rule g2.ls (by omega) (by omega) fun bx ox pp hpp hel => ?_
  have : pp = some ⟨p, 0, none⟩ := by rw [Int.toNat_natCast, hp] at hpp; exact (Option.some.inj hpp).symm
  subst this
  obtain ⟨vs, rfl, hat⟩ := hel
  refine ldP_at0 hat rfl ?_
  unfold ld_G_vdisk_patch
  repeat (first|refine nn_at ?_|refine ldI_at a5 rfl ?_|refine ldB_at a5 rfl ?_|refine ldS_at a5 rfl ?_|refine ldP_at a5 rfl ?_|refine ldM_at a5 rfl ?_|refine ldL_at a5 rfl ?_)
  refine ldS_at na rfl ?_
  refine over_ok (by omega) fun s2 e2 => ?_
  have na2 := na.mono (e2.view (k := k + 10 + 2 * j) (by simp))
  refine nn_at ?_
  refine ldS_at na2 rfl ?_
  have e12 := e1.trans e2
  have h2 := h.st e12 (by simp)
  refine free_ok h2.q hv.room hv.seen hv.names hv.sizes hnl (hko.mono e12) fun s3 e3 => ?_
  have na3 := na2.mono (e3.view (by simp))
  refine held_rule (ldS_at na3 rfl rfl) ?_
  have e13 := e12.trans e3
  have hsz : (((x.seen ++ bs).size : Nat) : Int) - (x.seen.size : Nat) = bs.size := by rw [ByteArray.size_append]; omega
  rw [hsz, w64_id (by omega) (by omega)]
  have h3 := h.st e13 (by simp)
  refine bif_dec (fun hfr => ?_) (fun hfr => ?_)
  · exact h0 hfr s3 e13 h3
  have hk1 : k + 10 + 2 * j ≠ 0 := by omega
  refine nn_at ?_
  refine fld_rule na3 (by simp) rfl hk1 (fun s4 e4 z4 a4 _ => ?_)
  refine nn_at ?_
  refine ldL_at a4 rfl ?_
  have a54 := ((a5.mono e2.v0).mono e3.v0).mono e4.v0
  repeat (first|refine nn_at ?_|refine ldI_at a54 rfl ?_|refine ldB_at a54 rfl ?_|refine ldS_at a54 rfl ?_|refine ldP_at a54 rfl ?_|refine ldM_at a54 rfl ?_|refine ldL_at a54 rfl ?_)
  have hz13 := e13.sz
  refine newc_k 1 (by omega) fun s5 p43 n5 a43 => ?_
  have e5 := n5.step
  have a45 := a4.mono (e5.view (k := k + 10 + 2 * j) (by simp))
  refine held_rule (ldL_at a45 rfl rfl) ?_
  have nb5 : Bld tPatch (k + 10 + 2 * j + 1) s5 x.patches psl := (((nb.st e2 (by simp)).st e3 (by simp)).st e4 (by simp)).st e5 (by simp)
  have hz5 := e5.sz
  have hkoo := hko
  unfold Ko own at hkoo
  refine app_rule (kx := 1) nb5 (Ls.single (x := (⟨x.seen.size, bs⟩ : PatchM)) rfl a43) (fun s6 o6 e6 b6 => ?_) rfl rfl (by simp; omega) (by simp; omega) (by omega) (by omega)
  have a46 := a45.mono (e6.view (k := k + 10 + 2 * j) (by simp))
  refine nn_at ?_
  refine fld_rule a46 (by simp) rfl hk1 (fun s7 e7 z7 a7 _ => ?_)
  have e37 : Step [k + 10 + 2 * j, k + 11 + 2 * j] s3 s7 := by
    have q1 : Step [k + 10 + 2 * j, k + 11 + 2 * j] s3 s5 := (e4.trans e5.n).mono (by simp)
    have q2 : Step [k + 10 + 2 * j, k + 11 + 2 * j] s5 s6 := e6.mono (by simp; omega)
    have q3 : Step [k + 10 + 2 * j, k + 11 + 2 * j] s6 s7 := e7.mono (by simp)
    exact (q1.trans q2).trans q3
  have hjb : 2 * j + 11 < 1125899906842624 := by omega
  have e37d : Step (dk k) s3 s7 := e37.mono (by intro y hy; simp at hy; rw [mem_dk]; omega)
  refine h1 hfr s7 (e13.n.trans e37d) ?_
  obtain ⟨k0', ⟨n', m', ms', mu', q1, q2, q3, ⟨es', cl', q4⟩, q5⟩, q6⟩ := h3
  have c : ∀ i, i < 10 → k + i ∉ [k + 10 + 2 * j, k + 11 + 2 * j] := by intro i hi; simp; omega
  refine ⟨k0', ⟨n', m', ms', mu', q1.mono (e37.view (by simpa using c 0 (by decide))), q2.st e37 (c 1 (by decide)), q3.st e37 (c 2 (by decide)), ⟨es', cl', q4.st e37 (c 3 (by decide))⟩, q5.st e37 (c 4 (by decide))⟩, ?_⟩
  exact q6.upd hx hp e37 ⟨o6, a7, b6.st e7 (by simp)⟩
end Go.Ph
end
section
set_option linter.all false
namespace Go.Ph
open S
/-- the file of a name that is there -/
theorem there {v : VDisk} {d : RDisk} {n : ByteArray} {i : Int} (h : Sim v d) (hl : look v.seen n = some i) : ∃ (j : Nat) (x : VNode) (f : RFile), i = j ∧ v.nodes[j]? = some x ∧ d.files[j]? = some f ∧ SameF x f ∧ R.find d.now n = j ∧ (n, (j : Int)) ∈ v.seen := by
  obtain ⟨f1, f2, f3, f4⟩ := (h.ns.1.find n).1 i hl
  obtain ⟨j, rfl⟩ := Int.eq_ofNat_of_zero_le f2
  have hlt : j < v.nodes.length := by omega
  have hlt2 : j < d.files.length := by rw [← h.nodes.1]; exact hlt
  have hm := look_mem hl
  exact ⟨j, _, _, rfl, List.getElem?_eq_getElem hlt, List.getElem?_eq_getElem hlt2, h.cont j _ _ (List.getElem?_eq_getElem hlt) (List.getElem?_eq_getElem hlt2) (.inl ⟨n, hm⟩), f1, hm⟩
theorem vfind_cases {v : VDisk} {n : ByteArray} : (look v.seen n = none ∧ (V.find v n).2 = 7) ∨ ∃ i, look v.seen n = some i ∧ V.find v n = (i, 0) := by
  unfold V.find
  cases e : look v.seen n with
  | none => exact .inl ⟨rfl, rfl⟩
  | some i => exact .inr ⟨i, rfl, rfl⟩
theorem vAppend_ok {k : Nat} {s : St} {b : Nat} {d : RDisk} {n : ByteArray} {bs : List UInt8} {sl : Sl} {K : Int → HP} (h : DV k s b d) (hb : Ls tBy (s.w 0) bs sl) (hbl : bs.length ≤ 100000000) (hc2 : d.calls + 2 < 1000000000000 - 1024) (hko : Ko k s)
    (hK : ∀ s', Step (dk k) s s' → DV k s' b (R.append d n (ba bs)).1 → K (R.append d n (ba bs)).2 s'.H) : vdisk_Disk_Append (some ⟨b, 0, none⟩) n sl K s.H := by
  have hc : d.calls < 1000000000000 - 1024 := by omega
  obtain ⟨v, ps, hv, hs⟩ := h
  obtain ⟨b1, b2, b3, b4, b5, b6, b7, b8⟩ := begin_sim hs hc
  unfold vdisk_Disk_Append
  refine touch_ok hv (hs.vok hc) fun s1 e1 h1 => ?_
  unfold R.append at hK
  have hfv : V.find v n = V.find (V.change v).1 n := by unfold V.find; rw [b4]
  by_cases hz : (V.change v).2 = 0
  case neg =>
    rw [if_neg hz, if_neg hz]
    rw [b2] at hz ⊢
    rw [if_pos hz] at hK
    refine bif_ndec (fun _ => hK s1 (e1.mono dk0) ⟨_, ps, h1, b1⟩) (fun h0 => absurd h0 hz)
  rw [if_pos hz, if_pos hz, hfv]
  rw [b2] at hz
  rw [if_neg (by simpa using hz)] at hK
  rcases vfind_cases (v := (V.change v).1) (n := n) with ⟨q1, q2⟩ | ⟨i, q1, q2⟩
  · rw [q2]
    have := (b1.ns.1.find n).2 q1
    rw [if_pos (by omega)] at hK
    refine bif_ndec (fun _ => hK s1 (e1.mono dk0) ⟨_, ps, h1, b1⟩) (fun h0 => absurd h0 (by decide))
  · rw [q2]
    obtain ⟨j, x, f, rfl, hx, hf, hsm, hfd, hmem⟩ := there b1 q1
    rw [hfd, if_neg (by omega), Int.toNat_natCast, hf] at hK
    simp only at hK
    refine bif_ndec (fun h0 => absurd rfl h0) (fun _ => ?_)
    have hok := hs.vok hc
    have hnl : (V.change v).1.nodes.length ≤ 1000000000000 := by rw [b3]; exact hok.nodes
    obtain ⟨k0, ⟨nn, m, ms, mu, g1, g2, g3, ⟨es, cl, g4⟩, g5⟩, g6⟩ := h1
    have h1 : VDp k s1 b (V.change v).1 ps := ⟨k0, ⟨nn, m, ms, mu, g1, g2, g3, ⟨es, cl, g4⟩, g5⟩, g6⟩
    obtain ⟨p, hp, nd⟩ := g6.at_ j x hx
    obtain ⟨psl, na, nb⟩ := nd.at_
    repeat (first|refine nn_at ?_|refine ldI_at g1 rfl ?_|refine ldB_at g1 rfl ?_|refine ldS_at g1 rfl ?_|refine ldP_at g1 rfl ?_|refine ldM_at g1 rfl ?_|refine ldL_at g1 rfl ?_)
    have hnn := g2.ls.len
    have hpsl := g6.len
    have hjl := (List.getElem?_eq_some_iff.1 hx).1
    refine ixL_rule g2.ls (by omega) (by omega) fun bx ox pp hpp hel => ?_
    have : pp = some ⟨p, 0, none⟩ := by rw [Int.toNat_natCast, hp] at hpp; exact (Option.some.inj hpp).symm
    subst this
    obtain ⟨vs, rfl, hat⟩ := hel
    refine ldP_at0 hat rfl ?_
    refine nn_at ?_
    refine ldS_at na rfl ?_
    refine ldBy_rule (Ls.st hb e1) ?_
    have hbs : (⟨bs.toArray⟩ : ByteArray) = ba bs := rfl
    rw [hbs]
    have hxo : NodeOk d.calls x := by rw [b3] at hx; exact hs.sizes x (List.mem_of_getElem? hx)
    have hxl := hxo.len
    have hvok1 : (V.change v).1.Ok := b1.vok (by
      have := hs.count; have := b8 hz; omega)
    refine write_ok h1 hvok1 hx hnl (by rw [ba_size]; exact hbl) (by omega) (hko.mono e1) ?_ ?_
    · intro hfr s2 e2 h2
      rw [free_sim b1] at hfr
      rw [if_pos hfr] at hK
      exact hK s2 ((e1.trans e2.n).mono dk0) ⟨_, ps, h2, b1⟩
    · intro hfr s2 e2 h2
      have hsf := size_free b1 hx hmem
      rw [free_sim b1] at hfr hsf
      rw [if_neg hfr] at hK
      have hcal := (b8 hz).2
      refine hK s2 ((e1.mono dk0).trans e2) ⟨_, ps, h2, put_sim b1 hx hf ⟨by simp only [hsm.1], hsm.2.1, ?_⟩ rfl ⟨?_, hxo.sure, ?_, ?_⟩⟩
      · simp only [List.map_append, hsm.2.2, List.map_cons, List.map_nil, pm, hsm.1]
      · simp only [ByteArray.size_append]; omega
      · intro q hq
        simp only [List.mem_append, List.mem_singleton] at hq
        rcases hq with hq | rfl
        · exact hxo.patches q hq
        · simp only; omega
      · simp only [List.length_append, List.length_singleton]; omega
theorem vSync_ok {k : Nat} {s : St} {b : Nat} {d : RDisk} {n : ByteArray} {K : Int → HP} (h : DV k s b d) (hc2 : d.calls + 2 < 1000000000000 - 1024) (hko : Ko k s)
    (hK : ∀ s', Step (dk k) s s' → DV k s' b (R.sync d n).1 → K (R.sync d n).2 s'.H) : vdisk_Disk_Sync (some ⟨b, 0, none⟩) n K s.H := by
  have hc : d.calls < 1000000000000 - 1024 := by omega
  obtain ⟨v, ps, hv, hs⟩ := h
  obtain ⟨b1, b2, b3, b4, b5, b6, b7, b8⟩ := begin_sim hs hc
  unfold vdisk_Disk_Sync
  refine touch_ok hv (hs.vok hc) fun s1 e1 h1 => ?_
  unfold R.sync at hK
  have hfv : V.find v n = V.find (V.change v).1 n := by unfold V.find; rw [b4]
  by_cases hz : (V.change v).2 = 0
  case neg =>
    rw [if_neg hz, if_neg hz]
    rw [b2] at hz ⊢
    rw [if_pos hz] at hK
    refine bif_ndec (fun _ => hK s1 (e1.mono dk0) ⟨_, ps, h1, b1⟩) (fun h0 => absurd h0 hz)
  rw [if_pos hz, if_pos hz, hfv]
  rw [b2] at hz
  rw [if_neg (by simpa using hz)] at hK
  rcases vfind_cases (v := (V.change v).1) (n := n) with ⟨q1, q2⟩ | ⟨i, q1, q2⟩
  · rw [q2]
    have := (b1.ns.1.find n).2 q1
    rw [if_pos (by omega)] at hK
    refine bif_ndec (fun _ => hK s1 (e1.mono dk0) ⟨_, ps, h1, b1⟩) (fun h0 => absurd h0 (by decide))
  · rw [q2]
    obtain ⟨j, x, f, rfl, hx, hf, hsm, hfd, hmem⟩ := there b1 q1
    rw [hfd, if_neg (by omega), Int.toNat_natCast, hf] at hK
    simp only at hK
    refine bif_ndec (fun h0 => absurd rfl h0) (fun _ => ?_)
    have hnl : (V.change v).1.nodes.length ≤ 1000000000000 := by rw [b3]; exact (hs.vok hc).nodes
    obtain ⟨k0, ⟨nn, m, ms, mu, g1, g2, g3, ⟨es, cl, g4⟩, g5⟩, g6⟩ := h1
    obtain ⟨p, hp, nd⟩ := g6.at_ j x hx
    obtain ⟨psl, na, nb⟩ := nd.at_
    repeat (first|refine nn_at ?_|refine ldI_at g1 rfl ?_|refine ldB_at g1 rfl ?_|refine ldS_at g1 rfl ?_|refine ldP_at g1 rfl ?_|refine ldM_at g1 rfl ?_|refine ldL_at g1 rfl ?_)
    have hnn := g2.ls.len
    have hpsl := g6.len
    have hjl := (List.getElem?_eq_some_iff.1 hx).1
    refine ixL_rule g2.ls (by omega) (by omega) fun bx ox pp hpp hel => ?_
    have : pp = some ⟨p, 0, none⟩ := by rw [Int.toNat_natCast, hp] at hpp; exact (Option.some.inj hpp).symm
    subst this
    obtain ⟨vs, rfl, hat⟩ := hel
    refine ldP_at0 hat rfl ?_
    unfold vdisk_node_settle
    refine nn_at ?_
    refine ldS_at na rfl ?_
    have hk1 : k + 10 + 2 * j ≠ 0 := by omega
    refine nn_at ?_
    refine fld_rule na (by simp) rfl hk1 (fun s2 e2 z2 a2 _ => ?_)
    refine nn_at ?_
    refine fld_rule a2 (by simp) rfl hk1 (fun s3 e3 z3 a3 _ => ?_)
    have e13 : Step [k + 10 + 2 * j, k + 11 + 2 * j] s1 s3 := (e2.trans e3).mono (by simp)
    have e13d : Step (dk k) s1 s3 := e13.mono (by intro y hy; simp at hy; rw [mem_dk]; omega)
    have c : ∀ i, i < 10 → k + i ∉ [k + 10 + 2 * j, k + 11 + 2 * j] := by intro i hi; simp; omega
    have hxo : NodeOk d.calls x := by rw [b3] at hx; exact hs.sizes x (List.mem_of_getElem? hx)
    have hcal := (b8 hz).2
    have hcc := hs.count
    have ndx : NodeAt (k + 10 + 2 * j) s3 p ⟨x.seen, x.seen, [], x.fresh⟩ := ⟨⟨none, 0, 0⟩, a3, Bld.nil⟩
    refine hK s3 ((e1.mono dk0).trans e13d) ⟨{ (V.change v).1 with nodes := (V.change v).1.nodes.set j ⟨x.seen, x.seen, [], x.fresh⟩ }, ps, ⟨k0, ⟨nn, m, ms, mu, g1.mono (e13.view (by simpa using c 0 (by decide))), g2.st e13 (c 1 (by decide)), g3.st e13 (c 2 (by decide)), ⟨es, cl, g4.st e13 (c 3 (by decide))⟩, g5.st e13 (c 4 (by decide))⟩, g6.upd hx hp e13 ndx⟩, put_sim (x' := ⟨x.seen, x.seen, [], x.fresh⟩) (f' := ⟨f.now, f.now, []⟩) b1 hx hf ⟨hsm.1, hsm.1, rfl⟩ rfl ⟨hxo.seen, hxo.seen, by simp, ?_⟩⟩
    simp only [List.length_nil]
    omega
end Go.Ph
end
section
set_option linter.all false
namespace Go.Ph
open S
def R.create (d : RDisk) (n : ByteArray) : RDisk × Int :=
  if (R.begin d).2 ≠ 0 then R.begin d else if nameOk n = false then ((R.begin d).1, 3) else if 0 ≤ R.find (R.begin d).1.now n then ((R.begin d).1, 8)
  else if (R.begin d).1.now.length = 1024 then ((R.begin d).1, 6)
  else (R.turn { (R.begin d).1 with files := (R.begin d).1.files ++ [⟨⟨#[]⟩, ⟨#[]⟩, []⟩] } ⟨⟨#[]⟩, n, (R.begin d).1.files.length⟩, 0)
def node0 : VNode := ⟨⟨#[]⟩, ⟨#[]⟩, [], true⟩
theorem nameOk_ne {n : ByteArray} (h : nameOk n = true) : n ≠ ⟨#[]⟩ := by
  rintro rfl
  simp [nameOk, ByteArray.size] at h
theorem create_sim {v : VDisk} {d : RDisk} {n : ByteArray} (h : Sim v d) (hc : (v.moves.length : Int) + 1 ≤ d.calls ∧ (v.nodes.length : Int) + 1 ≤ 1024 + d.calls) (hn : n ≠ ⟨#[]⟩) (hf : R.find d.now n < 0) (hl : d.now.length < 1024) :
    Sim (V.turn { v with nodes := v.nodes ++ [node0] } ⟨v.nodes.length, n, true⟩) (R.turn { d with files := d.files ++ [⟨⟨#[]⟩, ⟨#[]⟩, []⟩] } ⟨⟨#[]⟩, n, d.files.length⟩) := by
  have hns := h.ns
  have hlook : look v.seen n = none := by
    cases e : look v.seen n with
    | none => rfl
    | some j => have := (hns.1.find n).1 j e; omega
  have hgive : V.give v.seen ⟨v.nodes.length, n, true⟩ = mset v.seen n (v.nodes.length : Nat) := by
    unfold V.give
    have : v.seen.filter (fun x => !decide (x.2 = ((v.nodes.length : Nat) : Int))) = v.seen := by
      rw [List.filter_eq_self]
      intro x hx
      have := hns.1.good.rng _ ((hns.1.mem x.1 x.2).1 hx)
      simp only at this
      simp; omega
    simp only [this]
    simp [hn]
  have hdo : R.do_ d.now ⟨⟨#[]⟩, n, d.files.length⟩ = R.put d.now ⟨n, v.nodes.length⟩ := by
    unfold R.do_
    rw [if_neg (by simp only; omega)]
    simp only
    rw [if_neg hn, h.nodes.1]
  have hNS : NamesSim (v.nodes.length + 1) (V.give v.seen ⟨v.nodes.length, n, true⟩) (R.do_ d.now ⟨⟨#[]⟩, n, d.files.length⟩) := by
    rw [hgive, hdo]
    refine (hns.1.more (Nat.le_succ _)).set ⟨by omega, by omega⟩ fun e he => ?_
    have := hns.1.good.rng e he
    omega
  have hll : (R.do_ d.now ⟨⟨#[]⟩, n, d.files.length⟩).length ≤ 1024 := by
    rw [hdo]; have := put_len d.now ⟨n, (v.nodes.length : Nat)⟩; omega
  obtain ⟨g1, g2, g3, g4, g5, g6, g7, g8, g9, g10, g11, g12, g13, g14, g15⟩ := h
  refine ⟨g1, g2, g3, g4, g5, g6, ⟨by simp [V.turn, R.turn, g7.1], by simp [V.turn, R.turn]; omega⟩, ⟨by simp [V.turn, R.turn, g8.1], by simp [V.turn, R.turn]; omega⟩, by simp [V.turn, ← g9], by simp [R.turn, ← g10], ?_, ?_, ?_, ?_, ?_⟩
  · intro i hi
    simp only [V.turn, R.turn, List.length_append, List.length_singleton] at hi ⊢
    by_cases e : i ≤ v.moves.length
    · rw [List.take_append_of_le_length e, List.take_append_of_le_length (by rw [← g8.1]; exact e)]
      exact ⟨(g11 i e).1.more (Nat.le_succ _), (g11 i e).2⟩
    · have : i = v.moves.length + 1 := by omega
      subst this
      rw [List.take_of_length_le (by simp), List.take_of_length_le (by simp [g8.1]), List.foldl_append, List.foldl_append, ← g9, ← g10]
      exact ⟨hNS, hll⟩
  · intro j x hx
    simp only [V.turn] at hx
    simp only [R.turn, List.mem_append, List.mem_singleton]
    by_cases e : j < v.nodes.length
    · rw [List.getElem?_append_left e] at hx
      rw [g12 j x hx]
      constructor
      · rintro ⟨t', h1, h2⟩; exact ⟨t', .inl h1, h2⟩
      · rintro ⟨t', h1 | h1, h2⟩
        · exact ⟨t', h1, h2⟩
        · subst h1; simp only at h2; omega
    · rw [List.getElem?_append_right (by omega)] at hx
      have hj := (List.getElem?_eq_some_iff.1 hx).1
      simp at hj
      have e0 : j - v.nodes.length = 0 := by omega
      rw [e0] at hx
      simp at hx
      subst hx
      constructor
      · intro _; exact ⟨_, .inr rfl, by simp only; omega⟩
      · intro _; rfl
  · intro t ht
    simp only [R.turn, List.mem_append, List.mem_singleton] at ht
    simp only [V.turn, List.length_append, List.length_singleton]
    rcases ht with h1 | rfl
    · have := g13 t h1; omega
    · simp only; omega
  · intro j x f hx hf hkn
    simp only [V.turn] at hx
    simp only [R.turn] at hf
    by_cases e : j < v.nodes.length
    · rw [List.getElem?_append_left e] at hx
      rw [List.getElem?_append_left (by omega)] at hf
      refine g14 j x f hx hf ?_
      rcases hkn with ⟨m, hm⟩ | h1 | ⟨y, hy, hy2⟩
      · simp only [V.turn] at hm
        rw [hgive] at hm
        unfold mset at hm
        rw [hlook] at hm
        simp at hm
        rcases hm with hm | hm
        · exact .inl ⟨m, hm⟩
        · omega
      · exact .inr (.inl h1)
      · simp only [V.turn] at hy
        rw [List.getElem?_append_left e] at hy
        exact .inr (.inr ⟨y, hy, hy2⟩)
    · rw [List.getElem?_append_right (by omega)] at hx hf
      have hj := (List.getElem?_eq_some_iff.1 hx).1
      simp at hj
      have e0 : j - v.nodes.length = 0 := by omega
      have e1 : j - d.files.length = 0 := by omega
      rw [e0] at hx
      rw [e1] at hf
      simp at hx hf
      subst hx hf
      exact ⟨rfl, rfl, rfl⟩
  · intro x hx
    simp only [V.turn, List.mem_append, List.mem_singleton] at hx
    rcases hx with hx | rfl
    · exact g15 x hx
    · exact ⟨by simp [node0, ByteArray.size], by simp [node0, ByteArray.size], by simp [node0], by simp [node0, R.turn]; omega⟩
theorem vCreate_ok {k : Nat} {s : St} {b : Nat} {d : RDisk} {n : ByteArray} {K : Int → HP} (h : DV k s b d) (hnz : n.size ≤ 9223372036854775807) (hc2 : d.calls + 2 < 1000000000000 - 1024) (hko : Ko k s)
    (hK : ∀ s', Step (dk k) s s' → DV k s' b (R.create d n).1 → K (R.create d n).2 s'.H) : vdisk_Disk_Create (some ⟨b, 0, none⟩) n K s.H := by
  have hc : d.calls < 1000000000000 - 1024 := by omega
  obtain ⟨v, ps, hv, hs⟩ := h
  obtain ⟨b1, b2, b3, b4, b5, b6, b7, b8⟩ := begin_sim hs hc
  unfold vdisk_Disk_Create
  unfold R.create at hK
  refine change_ok hv (hs.vok hc) fun s1 e1 h1 => ?_
  have e1d := e1.mono (dk0 (k := k))
  by_cases hz : (R.begin d).2 = 0
  case neg =>
    rw [b2]
    rw [if_pos hz] at hK
    exact bif_ndec (fun _ => hK s1 e1d ⟨_, ps, h1, b1⟩) (fun h0 => absurd h0 hz)
  rw [if_neg (by simpa using hz)] at hK
  rw [b2]
  refine bif_ndec (fun h0 => absurd hz h0) (fun _ => ?_)
  refine named_ok hnz ?_
  by_cases hnm : nameOk n = true
  case neg =>
    have hnf : nameOk n = false := by simpa using hnm
    rw [if_pos hnf] at hK
    rw [hnf]
    exact bif_t (hK s1 e1d ⟨_, ps, h1, b1⟩)
  rw [if_neg (by rw [hnm]; simp)] at hK
  rw [hnm]
  refine bif_f ?_
  have hv1 : VDp k s1 b (V.change v).1 ps := h1
  obtain ⟨k0, ⟨nn, m, ms, mu, g1, g2, g3, ⟨es, cl, g4⟩, g5⟩, g6⟩ := h1
  refine nn_at ?_
  refine ldM_at g1 rfl ?_
  have hns := b1.ns
  have hcal := b8 hz
  have hbc := b1.count
  refine mget_rule g4 (fun hn => ?_) (fun i hi => ?_)
  · have hfd := (hns.1.find n).2 hn
    rw [if_neg (by omega)] at hK
    unfold vdisk_Disk_Create_j1
    refine bif_f ?_
    refine nn_at ?_
    refine ldM_at g1 rfl ?_
    refine mlen_rule g4 ?_
    have hlen := hns.1.len
    refine bif_dec (fun h1024 => ?_) (fun h1024 => ?_)
    · rw [if_pos (by omega)] at hK
      exact hK s1 e1d ⟨_, ps, hv1, b1⟩
    rw [if_neg (by omega)] at hK
    have hnl : (V.change v).1.nodes.length ≤ 1000000000000 := by rw [b3]; exact (hs.vok hc).nodes
    have hpsl := g6.len
    have hko1 := hko.mono e1
    have hkoo := hko1
    unfold Ko own at hkoo
    refine nn_at ?_
    refine ldL_at g1 rfl ?_
    refine newc_k (k + 10 + 2 * (V.change v).1.nodes.length) (by omega) fun s2 p n2 a2 => ?_
    have e2 := n2.step
    have hz2 := e2.sz
    have hnn := g2.ls.len
    refine app1_rule (some (at0 p)) (g2.st e2 (by simp)) rfl (fun s3 o3 e3 b3' => ?_) rfl rfl (by omega) (by omega) (by omega) (by omega)
    have e13 : Step [k + 1] s1 s3 := e2.n.trans e3
    have g13 := g1.mono (e13.view (k := k) (by simp))
    refine nn_at ?_
    refine fld_rule g13 (by simp) rfl k0 (fun s4 e4 z4 a4 _ => ?_)
    have e14 : Step [k, k + 1] s1 s4 := (e13.mono (by simp)).trans (e4.mono (by simp))
    refine nn_at ?_
    refine ldL_at a4 rfl ?_
    have ho3 := b3'.ls.len
    rw [List.length_append, List.length_singleton, hpsl] at ho3
    have hidx : w64 (((o3.len : Nat) : Int) - 1) = (((V.change v).1.nodes.length : Nat) : Int) := by rw [w64_id (by omega) (by omega)]; omega
    rw [hidx]
    have e14d : Step (dk k) s1 s4 := e14.mono (by intro y hy; simp at hy; rw [mem_dk]; omega)
    have vd4 : VDp k s4 b { (V.change v).1 with nodes := (V.change v).1.nodes ++ [node0] } (ps ++ [some (at0 p)]) := by
      refine ⟨k0, ⟨o3, m, ms, mu, a4, b3'.st e4 (by simp), g3.st e14 (by simp), ⟨es, cl, g4.st e14 (by simp)⟩, g5.st e14 (by simp)⟩, ⟨by simp [hpsl], fun j x hx => ?_⟩⟩
      simp only at hx
      by_cases ej : j < (V.change v).1.nodes.length
      · rw [List.getElem?_append_left ej] at hx
        obtain ⟨p', q1, q2⟩ := g6.at_ j x hx
        exact ⟨p', by rw [List.getElem?_append_left (by omega)]; exact q1, q2.st e14 (by simp; omega) (by simp; omega)⟩
      · rw [List.getElem?_append_right (by omega)] at hx
        have hj := (List.getElem?_eq_some_iff.1 hx).1
        simp at hj
        have ej2 : j = (V.change v).1.nodes.length := by omega
        subst ej2
        simp at hx
        subst hx
        refine ⟨p, by rw [List.getElem?_append_right (by omega), hpsl]; simp, ⟨⟨none, 0, 0⟩, ?_, Bld.nil⟩⟩
        exact (a2.mono (e3.view (by simp; omega))).mono (e4.view (by simp; omega))
    have hmv : (V.change v).1.moves.length ≤ 1000000000000 := by rw [b5]; exact (hs.vok hc).moves
    refine vturn_ok (mv := ⟨(V.change v).1.nodes.length, n, true⟩) vd4 hmv (hko1.mono e14) fun s5 e5 h5 => ?_
    refine hK s5 ((e1d.trans e14d).trans (e5.mono dk3)) ⟨_, _, h5, ?_⟩
    exact create_sim b1 ⟨by rw [b5]; exact hcal.1, by have := hs.nodes; rw [b3]; omega⟩ (nameOk_ne hnm) (by omega) (by have := hns.2; omega)
  · have hfd := (hns.1.find n).1 i hi
    rw [if_pos (by omega)] at hK
    refine ⟨_, rfl, ?_⟩
    unfold vdisk_Disk_Create_j1
    exact bif_t (hK s1 e1d ⟨_, ps, hv1, b1⟩)
end Go.Ph
end
section
set_option linter.all false
namespace Go.Ph
open S
theorem R.append_calls (d : RDisk) (n b : ByteArray) : (R.append d n b).1.calls ≤ d.calls + 1 := by
  have := R.begin_calls d
  unfold R.append
  split
  · exact this
  · split
    · exact this
    · split
      · exact this
      · split
        · exact this
        · exact this
theorem R.sync_calls (d : RDisk) (n : ByteArray) : (R.sync d n).1.calls ≤ d.calls + 1 := by
  have := R.begin_calls d
  unfold R.sync
  split
  · exact this
  · split
    · exact this
    · split
      · exact this
      · exact this
theorem R.create_calls (d : RDisk) (n : ByteArray) : (R.create d n).1.calls ≤ d.calls + 1 := by
  have := R.begin_calls d
  unfold R.create
  repeat (first | (split; exact this) | exact this)
def R.sAppend (n b : ByteArray) (d : RDisk) : RDisk × Int := R.steps [fun d => R.append d n b, R.again fun d => R.sync d n] d
theorem steps2_calls {f g : RDisk → RDisk × Int} {c : Nat} (hf : ∀ d, (f d).1.calls ≤ d.calls + c) (hg : ∀ d, (g d).1.calls ≤ d.calls + c) (d : RDisk) : (R.steps [f, g] d).1.calls ≤ d.calls + 2 * c := by
  have h1 := hf d
  have h2 := hg (f d).1
  simp only [R.steps]
  split
  · omega
  · split
    · omega
    · simp only; omega
theorem R.sAppend_calls (n b : ByteArray) (d : RDisk) : (R.sAppend n b d).1.calls ≤ d.calls + 4 := by
  refine steps2_calls (c := 2) (fun d => by have := R.append_calls d n b; omega) (fun d => ?_) d
  exact again_calls (c := 1) (fun d => R.sync_calls d n) d
theorem vsync_ok {C : Cx} {k : Nat} {s : St} {b : Nat} {d : RDisk} {n : ByteArray} {K : Int → HP} (h : DV k s b d) (hc : d.calls + 16 < 1000000000000 - 1024) (hko : Ko k s)
    (hK : ∀ s', Step (dk k) s s' → DV k s' b (R.again (fun d => R.sync d n) d).1 → K (R.again (fun d => R.sync d n) d).2 s'.H) : safe_sync C (some ⟨b, 0, none⟩) n K s.H := by
  unfold safe_sync
  refine newc_0 fun s1 b1 n1 a1 => ?_
  refine newc_0 fun s2 b2 n2 a2 => ?_
  have e02 := n1.step.trans n2.step
  have a12 := a1.mono n2.step.v0
  have h2 := h.st e02 (by simp)
  have ho2 := hko.mono e02
  intro f1 hf1
  refine again_ok (c := 3) (op := fun d => R.sync d n) ⟨fun s4 d4 K4 e4 h4 c4 hK4 => ?_, fun d => by have := R.sync_calls d n; omega⟩ h2 (by omega) fun s' e' => hK s' (e02.n.trans e')
  refine hf1 _ _ _ ?_
  show safe_sync_1 (at0 b1) (at0 b2) (fun r => K4 (.int .i64 r)) s4.H
  unfold safe_sync_1
  refine ldP_at0 (a12.mono e4.v0) rfl ?_
  refine ldS_at0 (a2.mono e4.v0) rfl ?_
  exact vSync_ok h4 (by omega) (ho2.mono e4) hK4
theorem sAppend_ok {C : Cx} {k : Nat} {s : St} {b : Nat} {d : RDisk} {n : ByteArray} {bs : List UInt8} {sl : Sl} {K : Int → HP} (h : DV k s b d) (hb : Ls tBy (s.w 0) bs sl) (hbl : bs.length ≤ 100000000) (hc : d.calls + 1000 < 1000000000000 - 1024) (hko : Ko k s)
    (hK : ∀ s', Step (dk k) s s' → DV k s' b (R.sAppend n (ba bs) d).1 → K (R.sAppend n (ba bs) d).2 s'.H) : safe_Append C (some ⟨b, 0, none⟩) n sl K s.H := by
  unfold safe_Append
  refine newc_0 fun s1 b1 n1 a1 => ?_
  refine newc_0 fun s2 b2 n2 a2 => ?_
  refine newc_0 fun s3 b3 n3 a3 => ?_
  have e13 := n2.step.trans n3.step
  have a13 := a1.mono e13.v0
  have a23 := a2.mono n3.step.v0
  have e03 := n1.step.trans e13
  have h3 := h.st e03 (by simp)
  have ho3 := hko.mono e03
  have hb3 := Ls.st hb e03
  intro f1 hf1
  intro f2 hf2
  refine newc_0 fun s5 b5 n5 a5 => ?_
  have e5 := n5.step
  refine steps_ok (c := 20) (ops := [fun d => R.append d n (ba bs), R.again fun d => R.sync d n]) (pair_ls a5) rfl (by simp) ?_ (h3.st e5 (by simp)) (by simp; omega) ?_
  · intro i f op hi ho
    match i, hi, ho with
    | 0, hi, ho =>
      simp at hi ho; subst hi; subst ho
      refine ⟨fun s4 d4 K4 e4 h4 c4 hK4 => ?_, fun d => by have := R.append_calls d n (ba bs); omega⟩
      refine hf1 _ _ _ ?_
      show safe_Append_1 (at0 b1) (at0 b2) (at0 b3) (fun r => K4 (.int .i64 r)) s4.H
      unfold safe_Append_1
      refine ldP_at0 ((a13.mono e5.v0).mono e4.v0) rfl ?_
      refine ldS_at0 ((a23.mono e5.v0).mono e4.v0) rfl ?_
      refine ldL_at0 (n := sl) ((a3.mono e5.v0).mono e4.v0) rfl ?_
      exact vAppend_ok h4 (Ls.st (Ls.st hb3 e5) e4) hbl (by omega) ((ho3.mono e5).mono e4) hK4
    | 1, hi, ho =>
      simp at hi ho; subst hi; subst ho
      refine ⟨fun s4 d4 K4 e4 h4 c4 hK4 => ?_, fun d => by have := again_calls (c := 1) (fun d => R.sync_calls d n) d; omega⟩
      refine hf2 _ _ _ ?_
      show safe_Append_2 C (at0 b1) (at0 b2) (fun r => K4 (.int .i64 r)) s4.H
      unfold safe_Append_2
      refine ldP_at0 ((a13.mono e5.v0).mono e4.v0) rfl ?_
      refine ldS_at0 ((a23.mono e5.v0).mono e4.v0) rfl ?_
      exact vsync_ok h4 (by omega) ((ho3.mono e5).mono e4) hK4
  · exact fun s' e' => hK s' ((e03.trans e5).n.trans e')
def R.make (d : RDisk) (n b : ByteArray) : RDisk × Int :=
  if R.has d n = true then (d, 8) else if (R.create d n).2 ≠ 0 then R.create d n
  else if (R.steps [R.sAppend n b, R.again R.syncDir] (R.create d n).1).2 ≠ 0 ∧ (R.steps [R.sAppend n b, R.again R.syncDir] (R.create d n).1).2 ≠ 11
    then ((R.again (fun d => R.unlink d n) (R.steps [R.sAppend n b, R.again R.syncDir] (R.create d n).1).1).1, (R.steps [R.sAppend n b, R.again R.syncDir] (R.create d n).1).2)
    else R.steps [R.sAppend n b, R.again R.syncDir] (R.create d n).1
theorem vMake_ok {C : Cx} {k : Nat} {s : St} {b : Nat} {d : RDisk} {n : ByteArray} {bs : List UInt8} {sl : Sl} {K : Int → HP} (h : DV k s b d) (hb : Ls tBy (s.w 0) bs sl) (hbl : bs.length ≤ 100000000) (hnz : n.size ≤ 9223372036854775807) (hc : d.calls + 12000 < 1000000000000 - 1024) (hko : Ko k s)
    (hK : ∀ s', Step (dk k) s s' → DV k s' b (R.make d n (ba bs)).1 → K (R.make d n (ba bs)).2 s'.H) : safe_Make C (some ⟨b, 0, none⟩) n sl K s.H := by
  unfold safe_Make
  refine newc_0 fun s1 b1 n1 a1 => ?_
  refine newc_0 fun s2 b2 n2 a2 => ?_
  refine newc_0 fun s3 b3 n3 a3 => ?_
  have e13 := n2.step.trans n3.step
  have a13 := a1.mono e13.v0
  have a23 := a2.mono n3.step.v0
  have e03 := n1.step.trans e13
  have h3 := h.st e03 (by simp)
  have ho3 := hko.mono e03
  have hb3 := Ls.st hb e03
  refine ldP_at0 a13 rfl ?_
  refine ldS_at0 a23 rfl ?_
  refine Has_ok h3 ?_
  unfold R.make at hK
  by_cases hh : R.has d n = true
  · rw [if_pos hh] at hK
    rw [hh]
    exact bif_t (hK s3 e03.n h3)
  rw [if_neg hh] at hK
  rw [show R.has d n = false by simpa using hh]
  refine bif_f ?_
  refine ldP_at0 a13 rfl ?_
  refine ldS_at0 a23 rfl ?_
  refine vCreate_ok h3 hnz (by omega) ho3 fun s4 e4 h4 => ?_
  have hcc := R.create_calls d n
  refine bif_ndec (fun hne => ?_) (fun heq => ?_)
  · rw [if_pos hne] at hK
    exact hK s4 (e03.n.trans e4) h4
  rw [if_neg (by simpa using heq)] at hK
  generalize (R.create d n).1 = d1 at *
  have a14 := a13.mono e4.v0
  have a24 := a23.mono e4.v0
  have a34 := a3.mono e4.v0
  have hb4 := Ls.st hb3 e4
  have ho4 := ho3.mono e4
  intro f1 hf1
  intro f2 hf2
  refine newc_0 fun s5 b5 n5 a5 => ?_
  have e5 := n5.step
  have a15 := a14.mono e5.v0
  have a25 := a24.mono e5.v0
  refine steps_ok (c := 1300) (ops := [R.sAppend n (ba bs), R.again R.syncDir]) (pair_ls a5) rfl (by simp) ?_ (h4.st e5 (by simp)) (by simp; omega) ?_
  · intro i f op hi ho
    match i, hi, ho with
    | 0, hi, ho =>
      simp at hi ho; subst hi; subst ho
      refine ⟨fun s6 d6 K6 e6 h6 c6 hK6 => ?_, fun d => by have := R.sAppend_calls n (ba bs) d; omega⟩
      refine hf1 _ _ _ ?_
      show safe_Make_1 C (at0 b1) (at0 b2) (at0 b3) (fun r => K6 (.int .i64 r)) s6.H
      unfold safe_Make_1
      refine ldP_at0 (a15.mono e6.v0) rfl ?_
      refine ldS_at0 (a25.mono e6.v0) rfl ?_
      refine ldL_at0 (n := sl) ((a34.mono e5.v0).mono e6.v0) rfl ?_
      exact sAppend_ok h6 (Ls.st (Ls.st hb4 e5) e6) hbl (by omega) ((ho4.mono e5).mono e6) hK6
    | 1, hi, ho =>
      simp at hi ho; subst hi; subst ho
      refine ⟨fun s6 d6 K6 e6 h6 c6 hK6 => ?_, fun d => by have := again_calls (c := 1) (fun d => R.syncDir_calls d) d; omega⟩
      refine hf2 _ _ _ ?_
      show safe_Make_2 C (at0 b1) (fun r => K6 (.int .i64 r)) s6.H
      unfold safe_Make_2
      refine ldP_at0 (a15.mono e6.v0) rfl ?_
      intro f3 hf3
      refine again_ok (c := 1) ⟨fun s7 d7 K7 e7 h7 c7 hK7 => ?_, fun d => R.syncDir_calls d⟩ h6 (by omega) hK6
      refine hf3 _ _ _ ?_
      show vdisk_Disk_SyncDir (some (at0 b)) (fun r => K7 (.int .i64 r)) s7.H
      exact vSyncDir_ok h7 (by omega) (((ho4.mono e5).mono e6).mono e7) hK7
  · intro s6 e6 h6
    have e06 : Step (dk k) s s6 := ((e03.n.trans e4).trans e5.n).trans e6
    have hsc : (R.steps [R.sAppend n (ba bs), R.again R.syncDir] d1).1.calls ≤ d1.calls + 2 * 10 := steps2_calls (c := 10) (fun d => by have := R.sAppend_calls n (ba bs) d; omega) (fun d => by have := again_calls (c := 1) (fun d => R.syncDir_calls d) d; omega) d1
    generalize R.steps [R.sAppend n (ba bs), R.again R.syncDir] d1 = r at *
    have j0 : ¬(r.2 ≠ 0 ∧ r.2 ≠ 11) → safe_Make_j1 C b1 b2 r.2 false K s6.H := fun hn => by
      unfold safe_Make_j1
      rw [if_neg hn] at hK
      exact bif_f (hK s6 e06 h6)
    refine bif_ndec (fun hne => ?_) (fun heq => j0 (fun h => h.1 heq))
    by_cases h11 : r.2 = 11
    · rw [decide_eq_true h11]
      exact j0 (fun h => h.2 h11)
    · rw [decide_eq_false h11]
      rw [if_pos ⟨hne, h11⟩] at hK
      unfold safe_Make_j1
      refine bif_t ?_
      refine ldP_at0 (a15.mono e6.v0) rfl ?_
      refine ldS_at0 (a25.mono e6.v0) rfl ?_
      unfold safe_unlink
      refine newc_0 fun s7 b7 n7 a7 => ?_
      refine newc_0 fun s8 b8 n8 a8 => ?_
      have e68 := n7.step.trans n8.step
      have a78 := a7.mono n8.step.v0
      intro f4 hf4
      have ho6 := (ho4.mono e5).mono e6
      refine again_ok (c := 3) (op := fun d => R.unlink d n) ⟨fun s9 d9 K9 e9 h9 c9 hK9 => ?_, fun d => by have := R.unlink_calls d n; omega⟩ (h6.st e68 (by simp)) (by omega) ?_
      · refine hf4 _ _ _ ?_
        show safe_unlink_1 (at0 b7) (at0 b8) (fun r => K9 (.int .i64 r)) s9.H
        unfold safe_unlink_1
        refine ldP_at0 (a78.mono e9.v0) rfl ?_
        refine ldS_at0 (a8.mono e9.v0) rfl ?_
        exact vUnlink_ok h9 (by omega) ((ho6.mono e68).mono e9) hK9
      · exact fun s' e' h' => hK s' ((e06.trans e68.n).trans e') h'
end Go.Ph
end
section
set_option linter.all false
namespace Go.Ph
open S
/-- a cell of an element is written -/
theorem fldW_rule {α : Type} {t : Ty α} {s : St} {q b o i j : Nat} {l : List α} {sl : Sl} {x x' : α} {vs : List Value} {v : Value} {K : HP} (h : BldW t q s l sl) (ha : sl.a = some ⟨b, o, none⟩) (hx : l[i]? = some x) (hR : ∀ V, t.R V x vs) (hR' : ∀ V, t.R V x' (vs.set j v)) (hu : ∀ V ws, t.R V x ws → ws = vs) (hj : j < vs.length) (hv : one v = true) (hq0 : q ≠ 0)
    (hK : ∀ s', Step [q] s s' → s'.H.size = s.H.size → BldW t q s' (l.set i x') sl → K s'.H) : sts (Addr.add ⟨b, o + i * t.n, none⟩ j) 0 [v] K s.H := by
  have hi := (List.getElem?_eq_some_iff.1 hx).1
  have hvl := t.len (hR (s.w 0))
  have hall := (h.ls.at_ _ ha).2
  simp only at hall
  obtain ⟨ws, w1, w2⟩ := hall i x hx
  have hwv := hu _ _ w1
  subst hwv
  rw [add_at]
  have hcell := w2 j _ (List.getElem?_eq_getElem hj)
  have hqlt : q < 1152921504606846976 + 1152921504606846976 * s.H.size := by rw [← (w_some hcell).2]; exact s.wf _ _ (w_lt hcell)
  refine sts_rule (k := q) (k' := q) [v] (fun a ha' => by
    have e : a = 0 := by simp at ha'; exact ha'
    subst e
    exact ⟨_, by simpa using hcell⟩) (by simpa using hv) hqlt hq0 fun s' h' => ?_
  have hst : Step [q] s s' := h'.step (q := q) (by simp) hq0 fun a ha' => by
    have e : a = 0 := by simp at ha'; exact ha'
    subst e
    simpa using (w_some hcell).2
  have hold : ∀ c, c ≠ o + i * t.n + j → s'.c b c = s.c b c ∧ pk s'.H b c = pk s.H b c := fun c hc => h'.old b c (fun ⟨_, h1, h2⟩ => by simp at h1 h2; omega)
  refine hK s' hst h'.sz ⟨⟨by simp [h.ls.len], h.ls.cap, h.ls.nil, fun a ha' => ?_⟩, fun a ha' c h1 h2 => ?_⟩
  · rw [ha] at ha'
    simp at ha'; subst ha'
    refine ⟨fun _ => rfl, fun c y hy => ?_⟩
    simp only
    by_cases e : i = c
    · subst e
      rw [List.getElem?_set_self hi] at hy
      simp at hy; subst hy
      refine ⟨_, hR' _, fun a u hau => ?_⟩
      by_cases ea : a = j
      · subst ea
        rw [List.getElem?_set_self hj] at hau
        simp at hau; subst hau
        have := h'.here 0 v rfl
        simpa using this
      · rw [List.getElem?_set_ne (fun h => ea h.symm)] at hau
        have hu' := w2 a u hau
        have := hold (o + i * t.n + a) (by omega)
        exact w_mk (this.2.trans (w_some hu').1) (this.1.trans (w_some hu').2)
    · rw [List.getElem?_set_ne e] at hy
      obtain ⟨us, u1, u2⟩ := hall c y hy
      have hul := t.len u1
      refine ⟨us, t.mono hst.v0 u1, fun a u hau => ?_⟩
      have hlt := (List.getElem?_eq_some_iff.1 hau).1
      have hu' := u2 a u hau
      have := hold (o + c * t.n + a) (by
        rcases Nat.lt_or_gt_of_ne e with e1 | e1
        · have : (i + 1) * t.n ≤ c * t.n := Nat.mul_le_mul_right _ e1
          rw [Nat.add_mul] at this; omega
        · have : (c + 1) * t.n ≤ i * t.n := Nat.mul_le_mul_right _ e1
          rw [Nat.add_mul] at this; omega)
      exact w_mk (this.2.trans (w_some hu').1) (this.1.trans (w_some hu').2)
  · rw [List.length_set] at h1
    obtain ⟨u, hu'⟩ := h.own a ha' c h1 h2
    rw [ha] at ha'
    simp at ha'; subst ha'
    refine ⟨u, ?_⟩
    simp only at hu' ⊢
    have hin : (i + 1) * t.n ≤ l.length * t.n := Nat.mul_le_mul_right _ hi
    rw [Nat.add_mul] at hin
    have := hold (o + c) (by omega)
    exact w_mk (this.2.trans (w_some hu').1) (this.1.trans (w_some hu').2)
theorem last_idx {α : Type} {l : List α} {x : α} (h : l.getLast? = some x) : 0 < l.length ∧ l[l.length - 1]? = some x := by
  rw [List.getLast?_eq_getElem?] at h
  have := (List.getElem?_eq_some_iff.1 h).1
  exact ⟨by omega, h⟩
theorem dlast_ok {kb : Nat} {s : St} {p : Nat} {x : BoxM} {dp : Option Addr} {sl : Sl} {cs : List G_dbox_container} {K : Option Addr → HP} (h : BoxP kb s p x dp sl cs) (hl : x.l.length ≤ 1048576)
    (h0 : x.l = [] → K none s.H) (h1 : ∀ m c b o, x.l.getLast? = some m → cs.getLast? = some c → sl.a = some ⟨b, o, none⟩ → At (s.w (kb + 1)) b (o + (x.l.length - 1) * 4) (cvRow c) → CvAt (s.w 0) m c → K (some ⟨b, o + (x.l.length - 1) * 4, none⟩) s.H) : dbox_Box_last (some ⟨p, 0, none⟩) K s.H := by
  unfold dbox_Box_last
  have hrow := h.row
  have hlen := h.ls.ls.len
  have hcl := h.all.len
  repeat (first|refine nn_at ?_|refine ldI_at hrow rfl ?_|refine ldB_at hrow rfl ?_|refine ldS_at hrow rfl ?_|refine ldP_at hrow rfl ?_|refine ldM_at hrow rfl ?_|refine ldL_at hrow rfl ?_)
  refine bif_dec (fun hz => ?_) (fun hz => ?_)
  · exact h0 (List.eq_nil_of_length_eq_zero (by omega))
  · repeat (first|refine nn_at ?_|refine ldI_at hrow rfl ?_|refine ldB_at hrow rfl ?_|refine ldS_at hrow rfl ?_|refine ldP_at hrow rfl ?_|refine ldM_at hrow rfl ?_|refine ldL_at hrow rfl ?_)
    rw [w64_id (by omega) (by omega)]
    refine ixLw_rule h.ls.ls (by omega) (by omega) fun b o c ha hc hel => ?_
    obtain ⟨vs, rfl, hat⟩ := hel
    have hidx : (((sl.len : Nat) : Int) - 1).toNat = x.l.length - 1 := by omega
    rw [hidx] at hc hat ⊢
    obtain ⟨m, hm⟩ : ∃ m, x.l[x.l.length - 1]? = some m := ⟨_, List.getElem?_eq_getElem (by omega)⟩
    refine h1 m c b o (by rw [List.getLast?_eq_getElem?]; exact hm) (by rw [List.getLast?_eq_getElem?, ← hcl]; exact hc) ha hat (h.all.all _ m c hm hc)
namespace P
/-- a record behind the last container's -/
def add (d : RDisk) (x : BoxM) (m : ContM) (r : RecM) : RDisk × BoxM × Int :=
  if checkR r ≠ 0 then (d, x, checkR r) else
  if (R.sAppend (cnameI x.user m.seq) (ba (frameR r)) d).2 ≠ 0 then ((R.sAppend (cnameI x.user m.seq) (ba (frameR r)) d).1, x, (R.sAppend (cnameI x.user m.seq) (ba (frameR r)) d).2)
  else ((R.sAppend (cnameI x.user m.seq) (ba (frameR r)) d).1, { x with next := after x.next r, l := x.l.set (x.l.length - 1) { m with size := m.size + (frameR r).length, l := m.l ++ [⟨m.size.toNat, (frameR r).length, r⟩] } }, 0)
end P
theorem Chk.ok {x : RecM} (h : Chk x) (hl : x.f.length = 11) : RecOk x := by
  refine ⟨hl, ?_, by have := h.data; omega⟩
  have hk := h.kind
  rw [h.bare]
  unfold bareF
  rw [← fill_bare]
  exact fill_small _ _ _ (layout_ok _) (okV_map _ _ h.all) (by
    intro v hv
    simp at hv
    rcases hv with rfl | rfl
    · exact ⟨by show 0 ≤ x.kind; omega, by show x.kind ≤ _; omega⟩
    · omega)
theorem frame_len {x : RecM} (h : Chk x) : (frameR x).length ≤ 100000 ∧ 1 ≤ (frameR x).length := by
  have hp := payload_len h
  unfold frameR wrap
  rw [List.length_cons]
  have := veil_len (UInt8.ofNat x.kind.toNat :: (putB (payloadR x).length 4 ++ (putB (crc 0#32 (UInt8.ofNat x.kind.toNat :: (putB (payloadR x).length 4 ++ payloadR x))).toNat 4 ++ payloadR x)))
  simp only [List.length_cons, List.length_append, putB_len] at this
  omega
theorem dadd_ok {C : Cx} {kd kb : Nat} {s : St} {b p : Nat} {d : RDisk} {x : BoxM} {m : ContM} {y : RecM} {r : G_api_Rec} {K : Int → HP} (h : DV kd s b d) (hb : BoxV kb s p x (some ⟨b, 0, none⟩)) (hm : x.l.getLast? = some m) (hl : x.l.length ≤ 1048576) (hnx : 1 ≤ x.next) (hms : 0 ≤ m.size ∧ m.size ≤ 1000000000) (hml : m.l.length ≤ 1000000000) (hr : RecAt (s.w 0) y r) (hc : d.calls + 20000 < 1000000000000 - 1024) (hko : Ko kd s) (hkb : Kb kb kd s)
    (hK : ∀ s', Step (sbk kd kb) s s' → DV kd s' b (P.add d x m y).1 → BoxV kb s' p (P.add d x m y).2.1 (some ⟨b, 0, none⟩) → K (P.add d x m y).2.2 s'.H) : dbox_Box_append C (some ⟨p, 0, none⟩) r K s.H := by
  unfold dbox_Box_append
  have hclear := hkb.cl
  have hyl := hr.len
  refine newc_0 fun s1 p3 n1 a1' => ?_
  have e1 := n1.step
  have a1 : At (s1.w 0) p3 0 (rowF y.f r.Data) := by rw [← hr.f]; exact a1'
  obtain ⟨sl, cs, bp⟩ := hb
  have bp1 := bp.st e1 (by simp) (by simp) (by simp)
  refine dlast_ok bp1 hl (fun h => by rw [h] at hm; simp at hm) fun m' c lb lo hm' hc' ha hat cv => ?_
  have : m' = m := by rw [hm] at hm'; exact (Option.some.inj hm').symm
  subst this
  obtain ⟨hlp, hidx⟩ := last_idx hm
  refine ldRec a1 hyl fun r1 f1 d1 => ?_
  have ra1 : RecAt (s1.w 0) y r1 := ⟨f1, by rw [d1]; exact (hr.st e1).data⟩
  unfold P.add at hK
  refine Frame_ok ra1 ?_ ?_
  · intro hne s2 e2
    rw [if_pos hne] at hK
    have e12 := e1.trans e2
    refine bif_dec (fun h0 => absurd h0 hne) (fun _ => ?_)
    unfold dbox_Box_append_j1
    exact bif_ndec (fun _ => hK s2 e12.n (h.st e12 (by simp)) ⟨sl, cs, bp.st e12 (by simp) (by simp) (by simp)⟩) (fun h0 => absurd h0 hne)
  · intro heq s2 o2 e2 l2
    rw [if_neg (by simpa using heq)] at hK
    have hck := check0 heq
    have hfl := frame_len hck
    have e12 := e1.trans e2
    refine bif_dec (fun _ => ?_) (fun h0 => absurd rfl h0)
    have bp2 := bp1.st e2 (by simp) (by simp) (by simp)
    have hrow := bp2.row
    have hat2 := hat.mono (e2.view (k := kb + 1) (by simp))
    unfold cvRow at hat2
    repeat (first|refine nn_at ?_|refine ldI_at hrow rfl ?_|refine ldB_at hrow rfl ?_|refine ldS_at hrow rfl ?_|refine ldP_at hrow rfl ?_|refine ldM_at hrow rfl ?_|refine ldL_at hrow rfl ?_)
    refine ldI_at hat2 rfl ?_
    rw [cv.seq]
    refine CName_ok fun s3 e3 => ?_
    have hrow3 := hrow.mono (e3.view (by simp))
    refine held_rule (ldP_at hrow3 rfl rfl) ?_
    have e13 := e12.trans e3
    have e23 := e2.trans e3
    refine sAppend_ok (h.st e13 (by simp)) (Ls.st l2 e3) (by omega) (by omega) (hko.mono e13) fun s4 e4 v4 => ?_
    have hsc := R.sAppend_calls (cnameI x.user m'.seq) (ba (frameR y)) d
    have e04 : Step (sbk kd kb) s s4 := e13.n.trans (e4.mono sb2)
    have bp4 := (bp2.st e3 (by simp) (by simp) (by simp)).st e4 hclear.1 hclear.2.1 hclear.2.2
    generalize R.sAppend (cnameI x.user m'.seq) (ba (frameR y)) d = ar at *
    unfold dbox_Box_append_j1
    refine bif_ndec (fun hne => ?_) (fun heq2 => ?_)
    · rw [if_pos hne] at hK
      exact hK s4 e04 v4 ⟨sl, cs, bp4⟩
    · rw [if_neg (by simpa using heq2)] at hK
      have hlen2 := l2.len
      obtain ⟨hclp, hcidx⟩ := last_idx hc'
      have hcl := bp.all.len
      rw [← hcl] at hcidx
      have hat4 := (hat2.mono (e3.view (by simp))).mono (e4.view hclear.2.1)
      refine nn_at ?_
      refine ldL_at (n := c.l) hat4 rfl ?_
      refine nn_at ?_
      refine ldI_at hat4 rfl ?_
      rw [cv.size]
      have a14 := (a1.mono e23.v0).mono e4.v0
      refine ldRec a14 hyl fun r2 f2 d2 => ?_
      have hz4 := e04.sz
      refine newc_k 1 (by omega) fun s5 p48 n5 a5 => ?_
      have e5 := n5.step
      have hat5 := hat4.mono (e5.view (by simp))
      refine held_rule (ldL_at (n := c.l) hat5 rfl rfl) ?_
      have bp5 := bp4.st e5 (by simp) (by simp) (by simp)
      have bl5 := bp5.last m' c hm hc'
      have hms' : m'.size = ((m'.size.toNat : Nat) : Int) := by omega
      have e15 : Step (sbk kd kb) s s5 := e04.trans e5.n
      have hz5 := e15.sz
      have hown := hkb.own
      unfold own at hown
      have hrow5 : tFound.R (s5.w 0) ⟨m'.size.toNat, (frameR y).length, y⟩ [.int .i64 m'.size, .int .i64 (o2.len : Nat), .int .i64 r2.Kind, .int .i64 r2.User, .int .i64 r2.Seq, .int .i64 r2.Next, .int .i64 r2.Base, .int .i64 r2.Uid, .int .i64 r2.Time, .int .i64 r2.Flags, .int .i64 r2.Body, .int .i64 r2.Size, .int .i64 r2.Origin, .slice r2.Data.a r2.Data.len r2.Data.cap] := by
        rw [hlen2, hms']
        exact found_row ⟨f2, by rw [d2]; exact Ls.st hr.data e15⟩
      refine app_rule (kx := 1) bl5 (Ls.single hrow5 a5) (fun s6 o6 e6 b6 => ?_) rfl rfl (by simp; omega) (by simp; omega) (by omega) (by omega)
      have ls6 : BldW tCV (kb + 1) s6 cs sl := bp5.ls.st e6 (by simp)
      refine nn_at ?_
      have hW : ∀ (z : G_dbox_container) V ws, tCV.R V z ws → ws = cvRow z := fun z V ws h => h
      refine fldW_rule (x' := ({ c with l := o6 } : G_dbox_container)) ls6 ha hcidx (fun V => rfl) (fun V => (rfl : _ = _)) (hW c) (by simp [cvRow]) rfl (by omega) fun s7 e7 z7 ls7 => ?_
      have hci7 : (cs.set (x.l.length - 1) { c with l := o6 })[x.l.length - 1]? = some { c with l := o6 } := List.getElem?_set_self (by omega)
      have el7 := (ls7.ls.at_ _ ha).2 _ _ hci7
      obtain ⟨ws7, hw7, hat7⟩ := el7
      have := hW _ _ _ hw7
      subst this
      simp only at hat7
      change At (s7.w (kb + 1)) lb (lo + (x.l.length - 1) * 4) (cvRow { c with l := o6 }) at hat7
      unfold cvRow at hat7
      refine nn_at ?_
      refine ldI_at hat7 rfl ?_
      simp only
      rw [cv.size, hlen2, w64_id (by omega) (by omega)]
      refine nn_at ?_
      refine fldW_rule (x' := ({ c with l := o6, size := m'.size + ((frameR y).length : Nat) } : G_dbox_container)) ls7 ha hci7 (fun V => rfl) (fun V => (rfl : _ = _)) (hW _) (by simp [cvRow]) rfl (by omega) fun s8 e8 z8 ls8 => ?_
      have hrow8 := (((((hrow3.mono (e4.view hclear.1)).mono (e5.view (by simp))).mono (e6.view (by simp))).mono (e7.view (by simp))).mono (e8.view (k := kb) (by simp)))
      have e58 : Step (bkc kb) s5 s8 := ((e6.mono bk2).trans (e7.mono bk1)).trans (e8.mono bk1)
      have a18 := (a14.mono e5.v0).mono e58.v0
      refine nn_at ?_
      refine ldI_at hrow8 rfl ?_
      refine ldRec a18 hyl fun r3 f3 d3 => ?_
      have e08 : Step (sbk kd kb) s s8 := e15.trans (e58.mono sb1)
      refine after_ok (x := y) ⟨f3, by rw [d3]; exact Ls.st hr.data e08⟩ (hck.ok hyl) fun s9 e9 => ?_
      have hrow9 := hrow8.mono (e9.view (k := kb) (by simp))
      refine held_rule (ldI_at hrow9 rfl rfl) ?_
      refine nn_at ?_
      refine fld_rule hrow9 (by simp) rfl bp.k0 (fun s10 e10 z10 a10 _ => ?_)
      have e510 : Step (bkc kb) s5 s10 := (e58.trans e9.n).trans (e10.mono bk0)
      have hmx : (if max (max 1 (recNext y)) (recUid y + 1) > x.next then max (max 1 (recNext y)) (recUid y + 1) else x.next) = after x.next y := by
        unfold after
        split <;> omega
      rw [hmx] at a10
      have v10 : DV kd s10 b ar.1 := (v4.st e5 (by simp)).st2 e510 (by omega) hkb.clear
      refine hK s10 (e15.trans (e510.mono sb1)) v10 ⟨sl, (cs.set (x.l.length - 1) { c with l := o6 }).set (x.l.length - 1) { c with l := o6, size := m'.size + ((frameR y).length : Nat) }, bp.k0, a10, (ls8.st e9 (by simp)).st e10 (by simp), ?_, ?_⟩
      · have b610 := Ls.st b6.ls (((e7.trans e8).trans e9.n).mono (S' := bkc kb) bk1 |>.trans (e10.mono bk0))
        refine ⟨by simp [hcl], fun i a z hai hzi => ?_⟩
        simp only [List.set_set] at hzi
        by_cases ei : x.l.length - 1 = i
        · subst ei
          rw [List.getElem?_set_self (by omega)] at hai
          rw [List.getElem?_set_self (by omega)] at hzi
          simp at hai hzi
          subst hai hzi
          exact ⟨cv.seq, rfl, cv.broken, b610⟩
        · rw [List.getElem?_set_ne ei] at hai hzi
          exact (bp.all.all i a z hai hzi).mono (e15.trans (e510.mono sb1)).v0
      · intro a z hai hzi
        rw [List.getLast?_eq_getElem?] at hai hzi
        simp only [List.set_set, List.length_set] at hai hzi
        rw [List.getElem?_set_self (by omega)] at hai
        rw [← hcl, List.getElem?_set_self (by omega)] at hzi
        simp at hai hzi
        subst hai hzi
        exact (((b6.st e7 (by simp)).st e8 (by simp)).st e9 (by simp)).st e10 (by simp)
end Go.Ph
end
section
set_option linter.all false
namespace Go.Ph
open S
namespace P
def headR (x : BoxM) (seq base : Int) : RecM := ⟨[1, x.user, seq, x.next, base, 0, 0, 0, 0, 0, 0], []⟩
def sealR (n : Int) : RecM := ⟨[5, 0, 0, n, 0, 0, 0, 0, 0, 0, 0], []⟩
def clean (m : ContM) : Bool := match m.l.getLast? with | some f => decide (((f.at_ + f.len : Nat) : Int) = m.size) | none => false
def lastKind (m : ContM) : Int := match m.l.getLast? with | some f => f.x.kind | none => 0
/-- a new container behind the last one -/
def fresh (d : RDisk) (x : BoxM) : RDisk × BoxM × Int :=
  if checkR (headR x (lastSeq x.l + 1) 0) ≠ 0 then (d, x, checkR (headR x (lastSeq x.l + 1) 0)) else
  if (R.make d (cnameI x.user (lastSeq x.l + 1)) (ba (frameR (headR x (lastSeq x.l + 1) 0)))).2 ≠ 0 then ((R.make d (cnameI x.user (lastSeq x.l + 1)) (ba (frameR (headR x (lastSeq x.l + 1) 0)))).1, x, (R.make d (cnameI x.user (lastSeq x.l + 1)) (ba (frameR (headR x (lastSeq x.l + 1) 0)))).2)
  else ((R.make d (cnameI x.user (lastSeq x.l + 1)) (ba (frameR (headR x (lastSeq x.l + 1) 0)))).1, { x with l := x.l ++ [⟨lastSeq x.l + 1, (frameR (headR x (lastSeq x.l + 1) 0)).length, 0, [⟨0, (frameR (headR x (lastSeq x.l + 1) 0)).length, headR x (lastSeq x.l + 1) 0⟩]⟩] }, 0)
def room (d : RDisk) (x : BoxM) : RDisk × BoxM × Int := match x.l.getLast? with
  | none => fresh d x
  | some m => if clean m = true ∧ m.size < x.bound then (d, x, 0)
    else if clean m = true ∧ lastKind m ≠ 5 then (if (add d x m (sealR x.next)).2.2 ≠ 0 then add d x m (sealR x.next) else fresh (add d x m (sealR x.next)).1 (add d x m (sealR x.next)).2.1)
    else fresh d x
end P
theorem cnameI_size (u q : Int) : (cnameI u q).size ≤ 13 := by
  unfold cnameI
  split
  · rw [ba_size, cname_len]; exact Nat.le_refl _
  · show 0 ≤ 13; omega
theorem dhead_ok {kb : Nat} {s : St} {p : Nat} {x : BoxM} {dp : Option Addr} {seq base : Int} {K : G_api_Rec → HP} (h : BoxV kb s p x dp) (hko : kb ≠ own s)
    (hK : ∀ s' r, Step [] s s' → RecAt (s'.w 0) (P.headR x seq base) r → K r s'.H) : dbox_Box_head (some ⟨p, 0, none⟩) seq base K s.H := by
  unfold dbox_Box_head
  obtain ⟨sl, cs, hb⟩ := h
  refine newc_k (own s) (by unfold own; omega) fun s1 p6 n1 a1 => ?_
  have e1 := n1.step
  have hrow := hb.row.mono (e1.view (k := kb) (by simp))
  repeat (first|refine nn_at ?_|refine ldI_at hrow rfl ?_|refine ldB_at hrow rfl ?_|refine ldS_at hrow rfl ?_|refine ldP_at hrow rfl ?_|refine ldM_at hrow rfl ?_|refine ldL_at hrow rfl ?_)
  refine recEnd (r := ⟨1, x.user, seq, x.next, base, 0, 0, 0, 0, 0, 0, ⟨none, 0, 0⟩⟩) a1 rfl (by unfold own; omega) fun s2 e2 => ?_
  exact hK s2 _ ((e1.n.trans e2).loc) ⟨rfl, Ls.nil_⟩
/-- the numbers of a box are small -/
structure BoxB (N : Nat) (x : BoxM) : Prop where
  len : x.l.length ≤ 1000000
  bd : N ≤ 900000000
  next : 1 ≤ x.next
  all : ∀ c ∈ x.l, 1 ≤ c.seq ∧ c.seq ≤ 99999999 ∧ 0 ≤ c.size ∧ c.size ≤ N ∧ c.l.length ≤ N ∧ ∀ f ∈ c.l, f.at_ ≤ 1000000000 ∧ f.len ≤ 1000000000 ∧ f.x.f.length = 11
theorem BoxB.last {N : Nat} {x : BoxM} {m : ContM} (h : BoxB N x) (hm : x.l.getLast? = some m) : 1 ≤ m.seq ∧ m.seq ≤ 99999999 ∧ 0 ≤ m.size ∧ m.size ≤ N ∧ m.l.length ≤ N ∧ ∀ f ∈ m.l, f.at_ ≤ 1000000000 ∧ f.len ≤ 1000000000 ∧ f.x.f.length = 11 := h.all m (List.mem_of_getLast? hm)
theorem lastSeq_bd {N : Nat} {x : BoxM} (h : BoxB N x) : 0 ≤ P.lastSeq x.l ∧ P.lastSeq x.l ≤ 99999999 := by
  unfold P.lastSeq
  split
  · rename_i c hc
    have := h.last hc
    omega
  · omega
theorem dLast_ok' {kb : Nat} {s : St} {p : Nat} {x : BoxM} {dp : Option Addr} {K : Int → HP} (h : BoxV kb s p x dp) (hl : x.l.length ≤ 1048576) (hK : K (P.lastSeq x.l) s.H) : dbox_Box_Last (some ⟨p, 0, none⟩) K s.H := by
  unfold dbox_Box_Last
  obtain ⟨sl, cs, hb⟩ := h
  unfold P.lastSeq at hK
  refine dlast_ok hb hl (fun h0 => ?_) (fun m c b o hm hc ha hat cv => ?_)
  · rw [h0] at hK
    exact hK
  · rw [hm] at hK
    refine bif_t ?_
    unfold cvRow at hat
    refine nn_at ?_
    refine ldI_at hat rfl ?_
    rw [cv.seq]
    exact hK
theorem again_unlink (n : ByteArray) (d : RDisk) : (R.again (fun d => R.unlink d n) d).1.calls ≤ d.calls + 2 := again_calls (c := 1) (fun d => R.unlink_calls d n) d
theorem make_calls (d : RDisk) (n b : ByteArray) : (R.make d n b).1.calls ≤ d.calls + 100 := by
  have h1 := R.create_calls d n
  have h2 : (R.steps [R.sAppend n b, R.again R.syncDir] (R.create d n).1).1.calls ≤ (R.create d n).1.calls + 2 * 10 := steps2_calls (c := 10) (fun d => by have := R.sAppend_calls n b d; omega) (fun d => by have := again_calls (c := 1) (fun d => R.syncDir_calls d) d; omega) _
  have h3 := again_unlink n (R.steps [R.sAppend n b, R.again R.syncDir] (R.create d n).1).1
  unfold R.make
  split
  · simp only; omega
  · split
    · omega
    · split
      · simp only; omega
      · omega
theorem dfresh_ok {N : Nat} {C : Cx} {kd kb : Nat} {s : St} {b p : Nat} {d : RDisk} {x : BoxM} {K : Int → HP} (h : DV kd s b d) (hb : BoxV kb s p x (some ⟨b, 0, none⟩)) (hx : BoxB N x) (hc : d.calls + 20000 < 1000000000000 - 1024) (hko : Ko kd s) (hkb : Kb kb kd s)
    (hK : ∀ s', Step (sbk kd kb) s s' → DV kd s' b (P.fresh d x).1 → BoxV kb s' p (P.fresh d x).2.1 (some ⟨b, 0, none⟩) → K (P.fresh d x).2.2 s'.H) : dbox_Box_room_j3 C (some ⟨p, 0, none⟩) K s.H := by
  unfold dbox_Box_room_j3
  have hclear := hkb.cl
  have hxl := hx.len
  have hls := lastSeq_bd hx
  have hown := hkb.own
  refine dLast_ok' hb (by omega) ?_
  rw [w64_id (by omega) (by omega)]
  unfold P.fresh at hK
  generalize P.lastSeq x.l + 1 = seq at *
  refine dhead_ok hb (by omega) fun s1 r0 e1 ra0 => ?_
  refine newc_sts rfl (by simp [one]) fun s2 p6 e2 a2' => ?_
  have e12 := e1.trans e2
  have a2 : At (s2.w 0) p6 0 (rowF (P.headR x seq 0).f r0.Data) := by rw [← ra0.f]; exact a2'
  refine ldRec a2 rfl fun r1 f1 d1 => ?_
  have ra2 := ra0.st e2
  refine Frame_ok (x := P.headR x seq 0) ⟨f1, by rw [d1]; exact ra2.data⟩ ?_ ?_
  · intro hne s3 e3
    rw [if_pos hne] at hK
    have e13 := e12.trans e3
    refine bif_dec (fun h0 => absurd h0 hne) (fun _ => ?_)
    unfold dbox_Box_room_j4
    exact bif_ndec (fun _ => hK s3 e13.n (h.st e13 (by simp)) (hb.st e13 (by simp) (by simp) (by simp))) (fun h0 => absurd h0 hne)
  · intro heq s3 o3 e3 l3
    rw [if_neg (by simpa using heq)] at hK
    have hck := check0 heq
    have hfl := frame_len hck
    have e13 := e12.trans e3
    refine bif_dec (fun _ => ?_) (fun h0 => absurd rfl h0)
    obtain ⟨sl, cs, bp⟩ := hb
    have bp3 := bp.st e13 (by simp) (by simp) (by simp)
    have hrow := bp3.row
    repeat (first|refine nn_at ?_|refine ldI_at hrow rfl ?_|refine ldB_at hrow rfl ?_|refine ldS_at hrow rfl ?_|refine ldP_at hrow rfl ?_|refine ldM_at hrow rfl ?_|refine ldL_at hrow rfl ?_)
    refine CName_ok fun s4 e4 => ?_
    have hrow4 := hrow.mono (e4.view (by simp))
    refine held_rule (ldP_at hrow4 rfl rfl) ?_
    have e14 := e13.trans e4
    refine vMake_ok (h.st e14 (by simp)) (Ls.st l3 e4) (by omega) (by have := cnameI_size x.user seq; omega) (by omega) (hko.mono e14) fun s5 e5 v5 => ?_
    have e05 : Step (sbk kd kb) s s5 := e14.n.trans (e5.mono sb2)
    have bp5 := (bp3.st e4 (by simp) (by simp) (by simp)).st e5 hclear.1 hclear.2.1 hclear.2.2
    have hmc : (R.make d (cnameI x.user seq) (ba (frameR (P.headR x seq 0)))).1.calls ≤ d.calls + 100 := make_calls _ _ _
    generalize R.make d (cnameI x.user seq) (ba (frameR (P.headR x seq 0))) = ar at *
    unfold dbox_Box_room_j4
    refine bif_ndec (fun hne => ?_) (fun heq2 => ?_)
    · rw [if_pos hne] at hK
      exact hK s5 e05 v5 ⟨sl, cs, bp5⟩
    · rw [if_neg (by simpa using heq2)] at hK
      have hlen3 := l3.len
      have hrow5 := bp5.row
      repeat (first|refine nn_at ?_|refine ldI_at hrow5 rfl ?_|refine ldB_at hrow5 rfl ?_|refine ldS_at hrow5 rfl ?_|refine ldP_at hrow5 rfl ?_|refine ldM_at hrow5 rfl ?_|refine ldL_at hrow5 rfl ?_)
      have a25 := ((a2.mono e3.v0).mono e4.v0).mono e5.v0
      refine ldRec a25 rfl fun r2 f2 d2 => ?_
      refine newc_0 fun s6 p101 n6 a6 => ?_
      have e6 := n6.step
      have hrow6 := hrow5.mono (e6.view (by simp))
      refine held_rule (ldL_at hrow6 rfl rfl) ?_
      refine newc_k 1 (by omega) fun s7 p103 n7 a7 => ?_
      have e7 := n7.step
      have hrow7 := hrow6.mono (e7.view (by simp))
      refine held_rule (ldL_at hrow7 rfl rfl) ?_
      have e67 := e6.trans e7
      have bp7 := bp5.st e67 (by simp) (by simp) (by simp)
      have hz7 := (e05.trans e67.n).sz
      unfold own at hown
      have ra7 := (((ra2.st e3).st e4).st e5).st e6
      have hfrow : tFound.R (s6.w 0) ⟨0, (frameR (P.headR x seq 0)).length, P.headR x seq 0⟩ (#[Value.int .i64 0, .int .i64 (o3.len : Nat), .int .i64 r2.Kind, .int .i64 r2.User, .int .i64 r2.Seq, .int .i64 r2.Next, .int .i64 r2.Base, .int .i64 r2.Uid, .int .i64 r2.Time, .int .i64 r2.Flags, .int .i64 r2.Body, .int .i64 r2.Size, .int .i64 r2.Origin, .slice r2.Data.a r2.Data.len r2.Data.cap] : Array Value).toList := by
        rw [hlen3]
        exact found_row (a := 0) ⟨f2, by rw [d2]; exact ra7.data⟩
      have lf7 : Ls tFound (s7.w 0) [⟨0, (frameR (P.headR x seq 0)).length, P.headR x seq 0⟩] ⟨some (at0 p101), 1, 1⟩ := Ls.st (Ls.single hfrow a6) e7
      refine appW2_rule (kx := 1) (x := (⟨seq, (o3.len : Nat), 0, ⟨some (at0 p101), 1, 1⟩⟩ : G_dbox_container)) bp7.ls (Ls.single (show tCV.R _ _ (cvRow _) from rfl) a7) (fun s8 sl8 e8 w8 => ?_) rfl rfl (by have := bp.all.len; omega) (by have := bp.all.len; omega) (by omega) (by omega)
      have hrow8 := hrow7.mono (e8.view (k := kb) (by simp))
      refine nn_at ?_
      refine fld_rule hrow8 (by simp) rfl bp.k0 (fun s9 e9 z9 a9 _ => ?_)
      have e79 : Step (bkc kb) s7 s9 := (e8.mono bk1).trans (e9.mono bk0)
      have e59 : Step (bkc kb) s5 s9 := e67.n.trans e79
      refine hK s9 (e05.trans (e59.mono sb1)) (v5.st2 e59 (by omega) hkb.clear) ⟨sl8, _, bp.k0, a9, w8.st e9 (by simp), ?_, ?_⟩
      · refine All2.snoc (bp7.all.imp fun _ _ g => g.mono e79.v0) ⟨rfl, by show ((o3.len : Nat) : Int) = _; rw [hlen3], rfl, Ls.st lf7 e79⟩
      · intro m c hm hc
        rw [List.getLast?_append, List.getLast?_singleton] at hm hc
        simp at hm hc
        subst hm hc
        exact ⟨Ls.st lf7 e79, fun a ha i h1 h2 => by simp [tFound] at h1 h2; omega⟩
end Go.Ph
end
section
set_option linter.all false
namespace Go.Ph
open S
theorem clean_ok {s : St} {q lb lo : Nat} {m : ContM} {c : G_dbox_container} {K : Bool → HP} (hat : At (s.w q) lb lo (cvRow c)) (cv : CvAt (s.w 0) m c) (hb : m.l.length ≤ 900000000 ∧ ∀ f ∈ m.l, f.at_ ≤ 1000000000 ∧ f.len ≤ 1000000000 ∧ f.x.f.length = 11) (hK : K (P.clean m) s.H) : dbox_container_clean (some ⟨lb, lo, none⟩) K s.H := by
  unfold dbox_container_clean
  unfold cvRow at hat
  have hlen := cv.l.len
  unfold P.clean at hK
  refine nn_at ?_
  refine ldL_at (n := c.l) hat rfl ?_
  refine bif_dec (fun hp => ?_) (fun hp => ?_)
  · obtain ⟨f, hf⟩ : ∃ f, m.l[m.l.length - 1]? = some f := ⟨_, List.getElem?_eq_getElem (by omega)⟩
    have hgl : m.l.getLast? = some f := by rw [List.getLast?_eq_getElem?]; exact hf
    rw [hgl] at hK
    have hfb := hb.2 f (List.mem_of_getElem? hf)
    rw [w64_id (n := ((c.l.len : Nat) : Int) - 1) (by omega) (by omega)]
    have hi : (((c.l.len : Nat) : Int) - 1).toNat = m.l.length - 1 := by omega
    refine nn_at ?_
    refine ldL_at (n := c.l) hat rfl ?_
    refine ixL_rule cv.l (by omega) (by omega) fun bx ox f1 hf1 hel => ?_
    rw [hi, hf] at hf1
    have := Option.some.inj hf1
    subst this
    obtain ⟨vs, ⟨sd, rfl, h11, hd⟩, hatf⟩ := hel
    refine ldI_at hatf rfl ?_
    refine nn_at ?_
    refine ldL_at (n := c.l) hat rfl ?_
    refine ixL_rule cv.l (by omega) (by omega) fun bx2 ox2 f2 hf2 hel2 => ?_
    rw [hi, hf] at hf2
    have := Option.some.inj hf2
    subst this
    obtain ⟨vs, ⟨sd2, rfl, h112, hd2⟩, hatf2⟩ := hel2
    refine ldI_at (n := ((f.len : Nat) : Int)) hatf2 rfl ?_
    refine nn_at ?_
    refine ldI_at hat rfl ?_
    rw [w64_id (by omega) (by omega), cv.size]
    have : decide ((f.at_ : Int) + (f.len : Int) = m.size) = decide (((f.at_ + f.len : Nat) : Int) = m.size) := by rw [decide_eq_decide]; omega
    rw [this]
    exact hK
  · have : m.l = [] := List.eq_nil_of_length_eq_zero (by omega)
    rw [this] at hK
    exact hK
theorem add_box {N : Nat} {d : RDisk} {x : BoxM} {m : ContM} {y : RecM} (h : BoxB N x) (hN : N + 100000 ≤ 900000000) (hm : x.l.getLast? = some m) (hy : y.f.length = 11) : BoxB (N + 100000) (P.add d x m y).2.1 ∧ (P.add d x m y).1.calls ≤ d.calls + 4 ∧ (P.add d x m y).2.1.user = x.user ∧ (P.add d x m y).2.1.bound = x.bound := by
  have hmm := h.last hm
  have hsc := R.sAppend_calls (cnameI x.user m.seq) (ba (frameR y)) d
  have same : BoxB (N + 100000) x := ⟨h.len, by omega, h.next, fun c hc => by have := h.all c hc; refine ⟨this.1, this.2.1, this.2.2.1, by omega, by omega, this.2.2.2.2.2⟩⟩
  unfold P.add
  split
  · exact ⟨same, by simp only; omega, rfl, rfl⟩
  · rename_i h0
    split
    · exact ⟨same, by simp only; omega, rfl, rfl⟩
    · have hck := check0 (x := y) (by simpa using h0)
      have hfl := frame_len hck
      refine ⟨⟨by simp only [List.length_set]; exact h.len, by omega, ?_, ?_⟩, by simp only; omega, rfl, rfl⟩
      · have := h.next
        show 1 ≤ after x.next y
        unfold after; omega
      · intro c hc
        rcases List.mem_or_eq_of_mem_set hc with h1 | rfl
        · exact same.all c h1
        · refine ⟨hmm.1, hmm.2.1, by simp only; omega, by simp only; omega, by simp only [List.length_append, List.length_singleton]; omega, ?_⟩
          intro f hf
          simp only [List.mem_append, List.mem_singleton] at hf
          rcases hf with hf | rfl
          · exact hmm.2.2.2.2.2 f hf
          · exact ⟨by simp only; omega, by simp only; omega, hy⟩
theorem droom_ok {N : Nat} {C : Cx} {kd kb : Nat} {s : St} {b p : Nat} {d : RDisk} {x : BoxM} {K : Int → HP} (h : DV kd s b d) (hb : BoxV kb s p x (some ⟨b, 0, none⟩)) (hx : BoxB N x) (hN : N + 100000 ≤ 900000000) (hc : d.calls + 30000 < 1000000000000 - 1024) (hko : Ko kd s) (hkb : Kb kb kd s)
    (hK : ∀ s', Step (sbk kd kb) s s' → DV kd s' b (P.room d x).1 → BoxV kb s' p (P.room d x).2.1 (some ⟨b, 0, none⟩) → K (P.room d x).2.2 s'.H) : dbox_Box_room C (some ⟨p, 0, none⟩) K s.H := by
  unfold dbox_Box_room
  have hxl := hx.len
  have hbv := hb
  obtain ⟨sl, cs, bp⟩ := hb
  unfold P.room at hK
  refine dlast_ok bp (by omega) (fun h0 => ?_) (fun m c lb lo hm hc' ha hat cv => ?_)
  · rw [h0] at hK
    refine bif_f ?_
    unfold dbox_Box_room_j1
    refine bif_f (bif_f ?_)
    unfold dbox_Box_room_j2
    refine bif_f ?_
    exact dfresh_ok h hbv hx (by omega) hko hkb hK
  · rw [hm] at hK
    simp only at hK
    have hmm := hx.last hm
    have hbb : m.l.length ≤ 900000000 ∧ ∀ f ∈ m.l, f.at_ ≤ 1000000000 ∧ f.len ≤ 1000000000 ∧ f.x.f.length = 11 := ⟨by omega, hmm.2.2.2.2.2⟩
    refine bif_t ?_
    have hat' := hat
    unfold cvRow at hat'
    have j1 : ¬(P.clean m = true ∧ m.size < x.bound) → dbox_Box_room_j1 C (some ⟨p, 0, none⟩) (some ⟨lb, lo + (x.l.length - 1) * 4, none⟩) false K s.H := fun hn => by
      rw [if_neg hn] at hK
      unfold dbox_Box_room_j1
      refine bif_f (bif_t ?_)
      refine clean_ok hat cv hbb ?_
      have j2f : ¬(P.clean m = true ∧ P.lastKind m ≠ 5) → dbox_Box_room_j2 C (some ⟨p, 0, none⟩) false K s.H := fun hn2 => by
        rw [if_neg hn2] at hK
        unfold dbox_Box_room_j2
        exact bif_f (dfresh_ok h hbv hx (by omega) hko hkb hK)
      refine bif_rule (fun hcl => ?_) (fun hcl => j2f (fun hh => by rw [hh.1] at hcl; cases hcl))
      refine nn_at ?_
      refine ldL_at (n := c.l) hat' rfl ?_
      refine nn_at ?_
      refine ldL_at (n := c.l) hat' rfl ?_
      have hlen := cv.l.len
      have hcl2 := hcl
      unfold P.clean at hcl2
      obtain ⟨f, hgl⟩ : ∃ f, m.l.getLast? = some f := by
        cases e : m.l.getLast? with
        | none => rw [e] at hcl2; cases hcl2
        | some f => exact ⟨f, rfl⟩
      obtain ⟨hpos, hf⟩ := last_idx hgl
      rw [w64_id (by omega) (by omega)]
      refine ixL_rule cv.l (by omega) (by omega) fun bx ox f1 hf1 hel => ?_
      rw [show (((c.l.len : Nat) : Int) - 1).toNat = m.l.length - 1 by omega, hf] at hf1
      have := Option.some.inj hf1
      subst this
      obtain ⟨vs, ⟨sd, rfl, h11, hd⟩, hatf⟩ := hel
      refine ldF2o (f := f) hatf (by omega) ?_
      have hlk : P.lastKind m = f.x.f.getD 0 0 := by unfold P.lastKind; rw [hgl]; rfl
      by_cases hk : f.x.f.getD 0 0 = 5
      · rw [decide_eq_true hk]
        exact j2f (fun hh => hh.2 (hlk.trans hk))
      · rw [decide_eq_false hk]
        rw [if_pos ⟨hcl, by rw [hlk]; exact hk⟩] at hK
        unfold dbox_Box_room_j2
        refine bif_t ?_
        have hrow := bp.row
        refine nn_at ?_
        refine ldI_at hrow rfl ?_
        have hab := add_box (d := d) (y := P.sealR x.next) hx hN hm rfl
        refine dadd_ok (y := P.sealR x.next) h hbv hm (by omega) hx.next ⟨by omega, by omega⟩ (by omega) ⟨rfl, Ls.nil_⟩ (by omega) hko hkb fun s1 e1 v1 b1 => ?_
        generalize P.add d x m (P.sealR x.next) = a at *
        refine bif_ndec (fun hne => ?_) (fun heq => ?_)
        · rw [if_pos hne] at hK
          exact hK s1 e1 v1 b1
        · rw [if_neg (by simpa using heq)] at hK
          have hab2 := hab.2.1
          exact dfresh_ok v1 b1 hab.1 (by omega) (hko.mono e1) (hkb.mono e1) fun s2 e2 => hK s2 (e1.trans e2)
    refine clean_ok hat cv hbb ?_
    refine bif_rule (fun hcl => ?_) (fun hcl => j1 (fun hh => by rw [hh.1] at hcl; cases hcl))
    refine nn_at ?_
    refine ldI_at hat' rfl ?_
    have hrow := bp.row
    refine nn_at ?_
    refine ldI_at hrow rfl ?_
    rw [cv.size]
    by_cases hsb : m.size < x.bound
    · rw [decide_eq_true hsb]
      rw [if_pos ⟨hcl, hsb⟩] at hK
      unfold dbox_Box_room_j1
      exact bif_t (hK s Step.refl h hbv)
    · rw [decide_eq_false hsb]
      exact j1 (fun hh => hsb hh.2)
end Go.Ph
end
section
set_option linter.all false
namespace Go.Ph
open S
def plRow (r : G_api_Place) : List Value := [.int .i64 r.Seq, .int .i64 r.At, .int .i64 r.Rec_Kind, .int .i64 r.Rec_User, .int .i64 r.Rec_Seq, .int .i64 r.Rec_Next, .int .i64 r.Rec_Base, .int .i64 r.Rec_Uid, .int .i64 r.Rec_Time, .int .i64 r.Rec_Flags, .int .i64 r.Rec_Body, .int .i64 r.Rec_Size, .int .i64 r.Rec_Origin, .slice r.Rec_Data.a r.Rec_Data.len r.Rec_Data.cap]
theorem plEnd_ {s : St} {q b : Nat} {vs : List Value} {r : G_api_Place} {K : G_api_Place → HP} (h : At (s.w q) b 0 vs) (hl : vs.length = 14) (hq : q ≠ 0)
    (hK : ∀ s', Step [q] s s' → K r s'.H) : sts (at0 b) 0 (plRow r) (ld_G_api_Place (at0 b) fun r => K r) s.H := by
  refine row_rule q h (by rw [hl]; rfl) (by simp [one, plRow]) hq (.inl rfl) fun s1 e1 z1 a1 _ => ?_
  unfold plRow at a1
  unfold ld_G_api_Place
  repeat (first|refine nn_at ?_|refine ldI_at a1 rfl ?_|refine ldB_at a1 rfl ?_|refine ldS_at a1 rfl ?_|refine ldP_at a1 rfl ?_|refine ldM_at a1 rfl ?_|refine ldL_at a1 rfl ?_)
  exact hK s1 e1
namespace P
def put (d : RDisk) (x : BoxM) (y : RecM) : RDisk × BoxM × Option PlaceM × Int :=
  if keptR y = false ∨ checkR y ≠ 0 ∨ lastSeq x.l = 99999999 then (d, x, none, 1)
  else if (room d x).2.2 ≠ 0 then ((room d x).1, (room d x).2.1, none, (room d x).2.2)
  else match (room d x).2.1.l.getLast? with
    | none => ((room d x).1, (room d x).2.1, none, 1)
    | some m => if (add (room d x).1 (room d x).2.1 m y).2.2 ≠ 0 then ((add (room d x).1 (room d x).2.1 m y).1, (add (room d x).1 (room d x).2.1 m y).2.1, none, (add (room d x).1 (room d x).2.1 m y).2.2)
      else ((add (room d x).1 (room d x).2.1 m y).1, (add (room d x).1 (room d x).2.1 m y).2.1, some ⟨m.seq, m.size.toNat, y⟩, 0)
end P
theorem fresh_box {N : Nat} {d : RDisk} {x : BoxM} (h : BoxB N x) (hl : x.l.length + 1 ≤ 1000000) (hN : N + 100000 ≤ 900000000) (hq : P.lastSeq x.l < 99999999) : BoxB (N + 100000) (P.fresh d x).2.1 ∧ (P.fresh d x).1.calls ≤ d.calls + 100 ∧ (P.fresh d x).2.1.user = x.user ∧ (P.fresh d x).2.1.bound = x.bound ∧ ((P.fresh d x).2.2 = 0 → (P.fresh d x).2.1.l ≠ []) := by
  have hls := lastSeq_bd h
  have hmc := make_calls d (cnameI x.user (P.lastSeq x.l + 1)) (ba (frameR (P.headR x (P.lastSeq x.l + 1) 0)))
  have same : BoxB (N + 100000) x := ⟨h.len, by omega, h.next, fun c hc => by have := h.all c hc; refine ⟨this.1, this.2.1, this.2.2.1, by omega, by omega, this.2.2.2.2.2⟩⟩
  unfold P.fresh
  split
  · rename_i hne
    exact ⟨same, by simp only; omega, rfl, rfl, fun h0 => absurd h0 hne⟩
  · rename_i h0
    split
    · rename_i hne
      exact ⟨same, by simp only; omega, rfl, rfl, fun h0 => absurd h0 hne⟩
    · have hck := check0 (x := P.headR x (P.lastSeq x.l + 1) 0) (by simpa using h0)
      have hfl := frame_len hck
      refine ⟨⟨by simp only [List.length_append, List.length_singleton]; exact hl, by omega, h.next, ?_⟩, by simp only; omega, rfl, rfl, fun _ => by simp⟩
      intro c hc
      simp only [List.mem_append, List.mem_singleton] at hc
      rcases hc with hc | rfl
      · exact same.all c hc
      · refine ⟨by simp only; omega, by simp only; omega, by simp only; omega, by simp only; omega, by simp only [List.length_singleton]; omega, ?_⟩
        intro f hf
        simp only [List.mem_singleton] at hf
        subst hf
        exact ⟨by simp only; omega, by simp only; omega, rfl⟩
set_option maxRecDepth 20000 in
theorem room_box {N : Nat} {d : RDisk} {x : BoxM} (h : BoxB N x) (hl : x.l.length + 1 ≤ 1000000) (hN : N + 200000 ≤ 900000000) (hq : P.lastSeq x.l < 99999999) : BoxB (N + 200000) (P.room d x).2.1 ∧ (P.room d x).1.calls ≤ d.calls + 200 ∧ (P.room d x).2.1.user = x.user ∧ (P.room d x).2.1.bound = x.bound ∧ ((P.room d x).2.2 = 0 → (P.room d x).2.1.l ≠ []) := by
  have up : ∀ {x : BoxM} {M M' : Nat}, M ≤ M' → M' ≤ 900000000 → BoxB M x → BoxB M' x := fun hm hm' h => ⟨h.len, hm', h.next, fun c hc => by have := h.all c hc; refine ⟨this.1, this.2.1, this.2.2.1, by omega, by omega, this.2.2.2.2.2⟩⟩
  have fr := fresh_box (d := d) h hl (by omega) hq
  unfold P.room
  split
  · exact ⟨up (by omega) hN fr.1, by omega, fr.2.2.1, fr.2.2.2⟩
  · rename_i m hm
    split
    · exact ⟨up (by omega) hN h, by simp only; omega, rfl, rfl, fun _ h0 => by simp only at h0; rw [h0] at hm; simp at hm⟩
    · split
      · have ab := add_box (d := d) (y := P.sealR x.next) h (by omega) hm rfl
        have hll : (P.add d x m (P.sealR x.next)).2.1.l.length = x.l.length := by unfold P.add; split; rfl; split; rfl; simp
        have hls : P.lastSeq (P.add d x m (P.sealR x.next)).2.1.l = P.lastSeq x.l := by
          unfold P.add
          split
          · rfl
          · split
            · rfl
            · unfold P.lastSeq
              simp only
              obtain ⟨h1, h2⟩ := last_idx hm
              rw [hm, List.getLast?_eq_getElem?, List.length_set, List.getElem?_set_self (by omega)]
        split
        · rename_i hne
          refine ⟨up (by omega) hN ab.1, by omega, ab.2.2.1, ab.2.2.2, fun h0 => absurd h0 hne⟩
        · have f2 := fresh_box (d := (P.add d x m (P.sealR x.next)).1) ab.1 (by omega) (by omega) (by omega)
          exact ⟨up (by omega) hN f2.1, by omega, f2.2.2.1.trans ab.2.2.1, f2.2.2.2.1.trans ab.2.2.2, f2.2.2.2.2⟩
      · exact ⟨up (by omega) hN fr.1, by omega, fr.2.2.1, fr.2.2.2⟩
structure PlAt (V : View) (q : PlaceM) (r : G_api_Place) : Prop where
  row : ∃ sl : Sl, plRow r = .int .i64 q.seq :: .int .i64 q.at_ :: rowF q.x.f sl ∧ Ls tBy V q.x.data sl
theorem own_dk {kd : Nat} {s : St} (h : Ko kd s) : own s ∉ dk kd := by have := h.own (j := 0) (by decide); simpa using this
theorem own_sbk {kd kb : Nat} {s : St} (h : Ko kd s) (hb : Kb kb kd s) : own s ∉ sbk kd kb := by
  have h1 := own_dk h
  have h2 := hb.own
  unfold sbk bkc
  simp only [List.mem_append, List.mem_cons, List.not_mem_nil, or_false, not_or]
  exact ⟨h1, by omega, by omega, by omega⟩
set_option maxRecDepth 20000 in
theorem dPut_ok {N : Nat} {C : Cx} {kd kb : Nat} {s : St} {b p : Nat} {d : RDisk} {x : BoxM} {y : RecM} {r : G_api_Rec} {K : G_api_Place → Int → HP} (h : DV kd s b d) (hb : BoxV kb s p x (some ⟨b, 0, none⟩)) (hx : BoxB N x) (hN : N + 300000 ≤ 900000000) (hl : x.l.length + 1 ≤ 1000000) (hr : RecAt (s.w 0) y r) (hc : d.calls + 40000 < 1000000000000 - 1024) (hko : Ko kd s) (hkb : Kb kb kd s)
    (hE : ∀ s' r, (P.put d x y).2.2.1 = none → Step (sbk kd kb) s s' → DV kd s' b (P.put d x y).1 → BoxV kb s' p (P.put d x y).2.1 (some ⟨b, 0, none⟩) → K r (P.put d x y).2.2.2 s'.H)
    (hO : ∀ s' r q, (P.put d x y).2.2.1 = some q → Step (sbk kd kb) s s' → DV kd s' b (P.put d x y).1 → BoxV kb s' p (P.put d x y).2.1 (some ⟨b, 0, none⟩) → PlAt (s'.w 0) q r → K r 0 s'.H) : dbox_Box_Put C (some ⟨p, 0, none⟩) r K s.H := by
  unfold dbox_Box_Put
  have hyl := hr.len
  have hclear := hkb.cl
  have hos := own_sbk hko hkb
  have hq0 : own s ≠ 0 := by unfold own; omega
  have hxl := hx.len
  refine newc_0 fun s1 p3 n1 a1' => ?_
  have e1 := n1.step
  have hz1 := e1.sz
  have a1 : At (s1.w 0) p3 0 (rowF y.f r.Data) := by rw [← hr.f]; exact a1'
  refine newc_k (own s) (by unfold own; omega) fun s2 p4 n2 a2 => ?_
  have e2 := n2.step
  have e12 := e1.trans e2
  have a12 := a1.mono e2.v0
  have ra : ∀ {s' : St} {r2 : G_api_Rec} {S : List Nat}, Step S s s' → fieldsOf r2 = y.f → r2.Data = r.Data → RecAt (s'.w 0) y r2 := fun e f dd => ⟨f, by rw [dd]; exact Ls.st hr.data e⟩
  have fail : ∀ (s' : St) (e : Int), (P.put d x y).2.2.1 = none → (P.put d x y).2.2.2 = e → Step (own s :: sbk kd kb) s s' → DV kd s' b (P.put d x y).1 → BoxV kb s' p (P.put d x y).2.1 (some ⟨b, 0, none⟩) → (P.put d x y).1.calls + 10 < 1000000000000 - 1024 → At (s'.w (own s)) p4 0 (plRow ⟨0, 0, 0, 0, 0, 0, 0, 0, 0, 0, 0, 0, 0, ⟨none, 0, 0⟩⟩) →
      sts (at0 p4) 0 (plRow ⟨0, 0, 0, 0, 0, 0, 0, 0, 0, 0, 0, 0, 0, ⟨none, 0, 0⟩⟩) (ld_G_api_Place (at0 p4) fun r => K r e) s'.H := fun s' e h1 h2 es v bx hcc a => by
    refine plEnd_ a rfl hq0 fun s3 e3 => ?_
    rw [← h2]
    refine hE s3 _ h1 ((es.trans (e3.mono (by simp))).loc) (v.st2 e3 (by omega) (fun z hz => by simp at hz; subst hz; exact own_dk hko)) (bx.st e3 ?_ ?_ ?_)
    · have := hkb.own; simp; omega
    · have := hkb.own; simp; omega
    · have := hkb.own; simp; omega
  have bad : (keptR y = false ∨ checkR y ≠ 0 ∨ P.lastSeq x.l = 99999999) → ∀ s', Step [] s s' → At (s'.w (own s)) p4 0 (plRow ⟨0, 0, 0, 0, 0, 0, 0, 0, 0, 0, 0, 0, 0, ⟨none, 0, 0⟩⟩) → dbox_Box_Put_j1 C (some ⟨p, 0, none⟩) p3 p4 true K s'.H := fun hh s' es a => by
    have hp : P.put d x y = (d, x, none, 1) := by unfold P.put; rw [if_pos hh]
    unfold dbox_Box_Put_j1
    refine bif_t ?_
    have := fail s' 1 (by rw [hp]) (by rw [hp]) es.n (by rw [hp]; exact h.st es (by simp)) (by rw [hp]; exact hb.st es (by simp) (by simp) (by simp)) (by rw [hp]; simp only; omega) a
    exact this
  refine ldRec a12 hyl fun r1 f1 d1 => ?_
  refine dkept_ok (ra e12 f1 d1) fun s3 e3 => ?_
  have e13 := e12.trans e3
  have a23 : At (s3.w (own s)) p4 0 (plRow ⟨0, 0, 0, 0, 0, 0, 0, 0, 0, 0, 0, 0, 0, ⟨none, 0, 0⟩⟩) := At.mono a2 (e3.view (by simp))
  by_cases hk : keptR y = true
  case neg => rw [show keptR y = false by simpa using hk]; exact bif_t (bad (.inl (by simpa using hk)) s3 e13 a23)
  rw [hk]
  refine bif_f ?_
  refine ldRec (a12.mono e3.v0) hyl fun r2 f2 d2 => ?_
  refine Check_ok (ra e13 f2 d2) fun s4 e4 => ?_
  have e14 := e13.trans e4
  have a24 := a23.mono (e4.view (k := own s) (by simp))
  refine bif_ndec (fun hne => bad (.inr (.inl hne)) s4 e14 a24) (fun heq => ?_)
  have hb4 := hb.st e14 (by simp) (by simp) (by simp)
  refine dLast_ok' hb4 (by omega) ?_
  by_cases hlast : P.lastSeq x.l = 99999999
  · rw [decide_eq_true hlast]; exact bad (.inr (.inr hlast)) s4 e14 a24
  rw [decide_eq_false hlast]
  have hp : P.put d x y = P.put d x y := rfl
  conv at hp => rhs; unfold P.put
  rw [if_neg (by rw [hk]; simp; exact ⟨heq, hlast⟩)] at hp
  have hls := lastSeq_bd hx
  have rb := room_box (d := d) hx hl (by omega) (by omega)
  unfold dbox_Box_Put_j1
  refine bif_f ?_
  have hko4 := hko.mono e14
  have hkb4 := hkb.mono e14
  refine droom_ok (h.st e14 (by simp)) hb4 hx (by omega) (by omega) hko4 hkb4 fun s5 e5 v5 b5 => ?_
  have e05 : Step (own s :: sbk kd kb) s s5 := e14.n.trans (e5.mono (by intro z hz; simp [hz]))
  have a25 := a24.mono (e5.view hos)
  have a15 := ((a12.mono e3.v0).mono e4.v0).mono e5.v0
  generalize P.room d x = rm at *
  refine bif_dec (fun h0 => ?_) (fun h0 => ?_)
  · rw [if_neg (by simpa using h0)] at hp
    obtain ⟨m, hm⟩ : ∃ m, rm.2.1.l.getLast? = some m := by
      cases e : rm.2.1.l.getLast? with
      | none => rw [List.getLast?_eq_none_iff] at e; exact absurd e (rb.2.2.2.2 h0)
      | some m => exact ⟨m, rfl⟩
    rw [hm] at hp
    simp only at hp
    have hmm := rb.1.last hm
    have hxl2 := rb.1.len
    refine ldRec a15 hyl fun r3 f3 d3 => ?_
    have hko5 := hko4.mono e5
    have hkb5 := hkb4.mono e5
    have hab := add_box (d := rm.1) (y := y) rb.1 (by omega) hm hyl
    have hal : (P.add rm.1 rm.2.1 m y).2.2 = 0 → (P.add rm.1 rm.2.1 m y).2.1.l = rm.2.1.l.set (rm.2.1.l.length - 1) { m with size := m.size + (frameR y).length, l := m.l ++ [⟨m.size.toNat, (frameR y).length, y⟩] } := fun h0 => by
      unfold P.add at h0 ⊢
      by_cases c1 : checkR y ≠ 0
      · rw [if_pos c1] at h0; exact absurd h0 c1
      rw [if_neg c1] at h0 ⊢
      by_cases c2 : (R.sAppend (cnameI rm.2.1.user m.seq) (ba (frameR y)) rm.1).2 ≠ 0
      · rw [if_pos c2] at h0; exact absurd h0 c2
      rw [if_neg c2]
    refine dadd_ok (y := y) v5 b5 hm (by omega) rb.1.next ⟨by omega, by omega⟩ (by omega) (ra e05 f3 d3) (by omega) hko5 hkb5 fun s6 e6 v6 b6 => ?_
    have e06 : Step (own s :: sbk kd kb) s s6 := e05.trans (e6.mono (by intro z hz; simp [hz]))
    have a26 := a25.mono (e6.view hos)
    have a16 := a15.mono e6.v0
    generalize P.add rm.1 rm.2.1 m y = ad at *
    unfold dbox_Box_Put_j2
    refine bif_ndec (fun hne => ?_) (fun heq2 => ?_)
    · rw [if_pos hne] at hp
      exact fail s6 ad.2.2 (by rw [hp]) (by rw [hp]) e06 (by rw [hp]; exact v6) (by rw [hp]; exact b6) (by rw [hp]; simp only; omega) a26
    · rw [if_neg (by simpa using heq2)] at hp
      have hal' := hal heq2
      obtain ⟨hlp, hidx⟩ := last_idx hm
      have b6' := b6
      obtain ⟨sl, cs, bp⟩ := b6
      have hgl : ad.2.1.l.getLast? = some { m with size := m.size + (frameR y).length, l := m.l ++ [⟨m.size.toNat, (frameR y).length, y⟩] } := by
        rw [hal', List.getLast?_eq_getElem?, List.length_set, List.getElem?_set_self (by omega)]
      refine dlast_ok bp (by rw [hal', List.length_set]; omega) (fun h0 => by rw [h0] at hgl; simp at hgl) (fun m' c lb lo hm' hc' ha hat cv => ?_)
      have : m' = { m with size := m.size + (frameR y).length, l := m.l ++ [⟨m.size.toNat, (frameR y).length, y⟩] } := by rw [hgl] at hm'; exact (Option.some.inj hm').symm
      subst this
      unfold cvRow at hat
      refine nn_at ?_
      refine ldI_at hat rfl ?_
      refine nn_at ?_
      refine ldL_at (n := c.l) hat rfl ?_
      refine nn_at ?_
      refine ldL_at (n := c.l) hat rfl ?_
      have hll := cv.l.len
      simp only [List.length_append, List.length_singleton] at hll
      rw [w64_id (by omega) (by omega)]
      refine ixL_rule cv.l (by omega) (by simp only [List.length_append, List.length_singleton]; omega) fun bx ox f hf hel => ?_
      have hff : f = ⟨m.size.toNat, (frameR y).length, y⟩ := by
        rw [show (((c.l.len : Nat) : Int) - 1).toNat = m.l.length by omega, List.getElem?_append_right (Nat.le_refl _), Nat.sub_self] at hf
        simpa using hf.symm
      subst hff
      obtain ⟨vs, ⟨sd, rfl, h11, hd⟩, hatf⟩ := hel
      refine ldI_at hatf rfl ?_
      refine ldRec a16 hyl fun r4 f4 d4 => ?_
      rw [cv.seq]
      refine plEnd_ (r := ⟨m.seq, (m.size.toNat : Nat), r4.Kind, r4.User, r4.Seq, r4.Next, r4.Base, r4.Uid, r4.Time, r4.Flags, r4.Body, r4.Size, r4.Origin, r4.Data⟩) a26 rfl hq0 fun s7 e7 => ?_
      have hkbo := hkb.own
      refine hO s7 _ ⟨m.seq, m.size.toNat, y⟩ (by rw [hp]) ((e06.trans (e7.mono (by simp))).loc) (by rw [hp]; exact v6.st2 e7 (by omega) (fun z hz => by simp at hz; subst hz; exact own_dk hko)) (by rw [hp]; exact b6'.st e7 (by simp; omega) (by simp; omega) (by simp; omega)) ⟨r.Data, ?_, Ls.st hr.data (e06.trans (e7.mono (by simp)))⟩
      show _ = _ :: _ :: rowF y.f r.Data
      rw [← f4, ← d4]; rfl
  · rw [if_pos h0] at hp
    unfold dbox_Box_Put_j2
    exact bif_ndec (fun _ => fail s5 rm.2.2 (by rw [hp]) (by rw [hp]) e05 (by rw [hp]; exact v5) (by rw [hp]; exact b5) (by rw [hp]; simp only; omega) a25) (fun hz => absurd hz h0)
end Go.Ph
end
section
set_option linter.all false
namespace Go.Ph
open S
theorem ldPlace {s : St} {q b o : Nat} {x : PlaceM} {sl : Sl} {K : G_api_Place → HP} (h : At (s.w q) b o (.int .i64 x.seq :: .int .i64 x.at_ :: rowF x.x.f sl)) (hf : x.x.f.length = 11) (hK : ∀ r : G_api_Place, plRow r = .int .i64 x.seq :: .int .i64 x.at_ :: rowF x.x.f sl → r.Seq = x.seq → r.At = x.at_ → K r s.H) : ld_G_api_Place ⟨b, o, none⟩ K s.H := by
  obtain ⟨a, n, ⟨fl, dt⟩⟩ := x
  simp only at hf
  match fl, hf, h, hK with
  | [a0, a1, a2, a3, a4, a5, a6, a7, a8, a9, a10], _, h, hK =>
    unfold ld_G_api_Place
    repeat (first|refine nn_at ?_|refine ldI_at h rfl ?_|refine ldB_at h rfl ?_|refine ldS_at h rfl ?_|refine ldP_at h rfl ?_|refine ldM_at h rfl ?_|refine ldL_at h rfl ?_)
    exact hK ⟨a, n, a0, a1, a2, a3, a4, a5, a6, a7, a8, a9, a10, sl⟩ rfl rfl rfl
/-- f tells of each place whether it stands there -/
def Tells (C : Cx) (s0 : St) (f : FV) (q : Int) (a : Int) : Prop := ∀ (s : St) (r : G_api_Place) (K : Value → HP), Step [] s0 s → (∀ s', Step [] s s' → K (.bool (decide (r.Seq = q ∧ r.At = a))) s'.H) → C.ap f [r.v] K s.H
theorem contains_ok {C : Cx} {s : St} {l : List PlaceM} {sl : Sl} {f : FV} {q a : Int} {K : Bool → HP} (h : Ls tPlace (s.w 0) l sl) (hl : l.length ≤ 1000000000000) (hf : Tells C s f q a) (hK : ∀ s', Step [] s s' → K (l.any fun x => decide (x.seq = q ∧ (x.at_ : Int) = a)) s'.H) : slices_ContainsFunc_api_Place_api_Place C sl f K s.H := by
  unfold slices_ContainsFunc_api_Place_api_Place slices_IndexFunc_api_Place_api_Place
  have hlen := h.len
  refine loop_rule (fun i : Nat => [.int .i64 i]) (fun i s' => i ≤ l.length ∧ Step [] s s' ∧ (l.take i).any (fun x => decide (x.seq = q ∧ (x.at_ : Int) = a)) = false) (fun i _ => l.length - i) 0 rfl ⟨Nat.zero_le _, Step.refl, by simp⟩ ?_
  rintro i s1 ⟨hi, e1, hn⟩ G hG
  simp only [List.getD_cons_zero, List.getD_cons_succ, asI_v, asL_v, asS_v, asB_v, asM_v, asP_v]
  refine bif_dec (fun hlt => ?_) (fun hlt => ?_)
  · refine ixL_rule (Ls.st h e1) (by omega) (by omega) fun bx ox x hx hel => ?_
    rw [Int.toNat_natCast] at hx
    obtain ⟨vs, ⟨sd, rfl, h11, hd⟩, hat⟩ := hel
    refine ldPlace hat h11 fun r hr h1 h2 => ?_
    refine hf s1 r _ e1 fun s2 e2 => ?_
    rw [h1, h2]
    simp only [List.getD_cons_zero, List.getD_cons_succ, asI_v, asL_v, asS_v, asB_v, asM_v, asP_v]
    have htk := any_take hx hn
    refine bif_dec (fun hc => ?_) (fun hc => ?_)
    · rw [decide_eq_true (show (0 : Int) ≤ (i : Int) by omega)]
      have := hK s2 (e1.trans e2)
      rwa [any_true hx (by rw [decide_eq_true hc])] at this
    · rw [w64_id (by omega) (by omega)]
      refine hG (i + 1) s2 ⟨by omega, e1.trans e2, ?_⟩ (by omega)
      rw [htk, decide_eq_false hc]
  · have : i = l.length := by omega
    subst this
    rw [List.take_of_length_le (Nat.le_refl _)] at hn
    have := hK s1 e1
    rw [hn] at this
    exact this
/-- the record that stands at a place -/
def P.get (d : RDisk) (x : BoxM) (q : Int) (a : Nat) : Option RecM × Int :=
  if (R.text d (cnameI x.user q)).2 ≠ 0 then (none, (R.text d (cnameI x.user q)).2)
  else if ((P.places x.l).any fun z => decide (z.seq = q ∧ (z.at_ : Int) = a)) = false then (none, 7)
  else match founds ((R.text d (cnameI x.user q)).1.data.toList.drop a) with
    | [] => (none, 12)
    | f :: _ => if f.at_ ≠ 0 then (none, 12) else (some f.x, 0)
theorem dGet_ok {C : Cx} {kd kb : Nat} {s : St} {b p : Nat} {d : RDisk} {x : BoxM} {z : PlaceM} {r : G_api_Place} {K : G_api_Rec → Int → HP} (h : DV kd s b d) (hb : BoxV kb s p x (some ⟨b, 0, none⟩)) (hx : BoxOk x) (hr : PlAt (s.w 0) z r) (hts : (R.text d (cnameI x.user z.seq)).1.size ≤ 4194304) (hko : Ko kd s) (hkb : Kb kb kd s)
    (hE : ∀ s' r, (P.get d x z.seq z.at_).1 = none → Step [] s s' → K r (P.get d x z.seq z.at_).2 s'.H)
    (hO : ∀ s' r y, (P.get d x z.seq z.at_).1 = some y → Step [] s s' → RecAt (s'.w 0) y r → K r 0 s'.H) : dbox_Box_Get C (some ⟨p, 0, none⟩) r K s.H := by
  unfold dbox_Box_Get
  have hq0 : own s ≠ 0 := by unfold own; omega
  have hkbo := hkb.own
  obtain ⟨rsl, hrr, hrd⟩ := hr.row
  refine newc_0 fun s1 p3 n1 a1' => ?_
  have e1 := n1.step
  have hz1 := e1.sz
  have a1 : At (s1.w 0) p3 0 (.int .i64 z.seq :: .int .i64 z.at_ :: rowF z.x.f rsl) := by rw [← hrr]; exact a1'
  refine newc_k (own s) (by unfold own; omega) fun s2 p4 n2 a2 => ?_
  have e2 := n2.step
  have e12 := e1.trans e2
  have a12 := a1.mono e2.v0
  have hb2 := hb.st e12 (by simp) (by simp) (by simp)
  have hb2' := hb2
  obtain ⟨sl, cs, bp⟩ := hb2
  have hrow := bp.row
  repeat (first|refine nn_at ?_|refine ldI_at hrow rfl ?_|refine ldB_at hrow rfl ?_|refine ldS_at hrow rfl ?_|refine ldP_at hrow rfl ?_|refine ldM_at hrow rfl ?_|refine ldL_at hrow rfl ?_)
  refine ldI_at a12 rfl ?_
  refine CName_ok fun s3 e3 => ?_
  have hrow3 := hrow.mono (e3.view (by simp))
  refine held_rule (ldP_at hrow3 rfl rfl) ?_
  have e13 := e12.trans e3
  have fail : ∀ (s' : St) (e : Int), (P.get d x z.seq z.at_).1 = none → (P.get d x z.seq z.at_).2 = e → Step [own s] s s' → At (s'.w (own s)) p4 0 [.int .i64 0, .int .i64 0, .int .i64 0, .int .i64 0, .int .i64 0, .int .i64 0, .int .i64 0, .int .i64 0, .int .i64 0, .int .i64 0, .int .i64 0, .slice none 0 0] →
      sts (at0 p4) 0 [.int .i64 0, .int .i64 0, .int .i64 0, .int .i64 0, .int .i64 0, .int .i64 0, .int .i64 0, .int .i64 0, .int .i64 0, .int .i64 0, .int .i64 0, .slice none 0 0] (ld_G_api_Rec (at0 p4) fun r => K r e) s'.H := fun s' e h1 h2 es a => by
    refine recEnd (r := ⟨0, 0, 0, 0, 0, 0, 0, 0, 0, 0, 0, ⟨none, 0, 0⟩⟩) a rfl hq0 fun s3 e3 => ?_
    rw [← h2]
    exact hE s3 _ h1 ((es.trans e3).loc)
  have hg : P.get d x z.seq z.at_ = P.get d x z.seq z.at_ := rfl
  conv at hg => rhs; unfold P.get
  refine vRead_ok (h.st e13 (by simp)) fun s4 o4 e4 l4 => ?_
  have e14 := e13.trans e4
  have a24 : At (s4.w (own s)) p4 0 [.int .i64 0, .int .i64 0, .int .i64 0, .int .i64 0, .int .i64 0, .int .i64 0, .int .i64 0, .int .i64 0, .int .i64 0, .int .i64 0, .int .i64 0, .slice none 0 0] := At.mono a2 ((e3.trans e4).view (by simp))
  have hts' : (R.text d (cnameI x.user z.seq)).1.data.toList.length ≤ 4194304 := by rw [ba_len]; exact hts
  generalize R.text d (cnameI x.user z.seq) = tx at *
  refine bif_ndec (fun hne => ?_) (fun heq => ?_)
  · rw [if_pos hne] at hg
    exact fail s4 _ (by rw [hg]) (by rw [hg]) e14.n a24
  rw [if_neg (by simpa using heq)] at hg
  have hz4 := e14.sz
  refine dPlaces_ok (hb2'.st (e3.trans e4) (by simp) (by simp) (by simp)) hx (by unfold own at *; omega) fun s5 o5 e5 l5 => ?_
  have e15 := e14.trans e5
  intro f hf
  have hpl := places_len x.l hx.cs.all
  have hxl := hx.len
  have a15 := ((a12.mono e3.v0).mono e4.v0).mono e5.v0
  refine contains_ok (q := z.seq) (a := z.at_) l5 (by omega) ?_ fun s6 e6 => ?_
  · intro s7 r7 K7 e7 hk7
    refine hf _ _ _ ?_
    show dbox_Box_Get_1 r7 (at0 p3) (fun r => K7 (.bool r)) s7.H
    unfold dbox_Box_Get_1
    refine newc_0 fun s8 p8 n8 a8 => ?_
    have a18 := (a15.mono e7.v0).mono n8.step.v0
    refine ldI_at a8 rfl ?_
    refine ldI_at a18 rfl ?_
    have hk8 := hk7 s8 n8.step
    refine bif_dec (fun h1 => ?_) (fun h1 => ?_)
    · refine ldI_at a8 rfl ?_
      refine ldI_at (n := (z.at_ : Int)) a18 rfl ?_
      have : decide (r7.Seq = z.seq ∧ r7.At = (z.at_ : Int)) = decide (r7.At = (z.at_ : Int)) := by rw [decide_eq_decide]; simp [h1]
      rwa [this] at hk8
    · rwa [decide_eq_false (fun hh => h1 hh.1)] at hk8
  have e16 := e15.trans e6
  have a26 := (a24.mono (e5.view (k := own s) (by simp))).mono (e6.view (by simp))
  by_cases hany : ((P.places x.l).any fun y => decide (y.seq = z.seq ∧ (y.at_ : Int) = z.at_)) = true
  case neg =>
    have hanyf : ((P.places x.l).any fun y => decide (y.seq = z.seq ∧ (y.at_ : Int) = z.at_)) = false := by simpa using hany
    rw [hanyf]
    rw [if_pos hanyf] at hg
    exact bif_t (fail s6 7 (by rw [hg]) (by rw [hg]) e16.n a26)
  rw [hany]
  rw [if_neg (by rw [hany]; simp)] at hg
  refine bif_f ?_
  have a16 := a15.mono e6.v0
  refine ldI_at (n := (z.at_ : Int)) a16 rfl ?_
  have l6 := Ls.st (Ls.st l4 e5) e6
  have hl6 := l6.len
  have hc6 := l6.cap
  have hmn : (if ((o4.len : Nat) : Int) < (z.at_ : Int) then ((o4.len : Nat) : Int) else (z.at_ : Int)) = ((min z.at_ o4.len : Nat) : Int) := by split <;> omega
  rw [hmn]
  refine slL_rule l6 (by omega) (by omega) (by omega) (by omega) (by omega) fun sub hsub _ => ?_
  have hdr : (tx.1.data.toList.take ((o4.len : Nat) : Int).toNat).drop ((min z.at_ o4.len : Nat) : Int).toNat = tx.1.data.toList.drop z.at_ := by
    rw [Int.toNat_natCast, Int.toNat_natCast, List.take_of_length_le (by omega)]
    by_cases hle : z.at_ ≤ o4.len
    · rw [Nat.min_eq_left hle]
    · rw [Nat.min_eq_right (by omega), List.drop_eq_nil_of_le (by omega), List.drop_eq_nil_of_le (by omega)]
  rw [hdr] at hsub
  have hz6 := e16.sz
  refine recScan_ok (q := own s + 1) hsub (by rw [List.length_drop]; omega) (by unfold own; omega) (by unfold own; omega) fun s7 o7 e7 b7 => ?_
  have e07 : Step [own s, own s + 1] s s7 := e16.n.tr e7 (A := [])
  have a27 := a26.mono (e7.view (k := own s) (by simp))
  have hl7 := b7.ls.len
  have fail2 : ∀ (s' : St) (e : Int), (P.get d x z.seq z.at_).1 = none → (P.get d x z.seq z.at_).2 = e → s' = s7 → sts (at0 p4) 0 [.int .i64 0, .int .i64 0, .int .i64 0, .int .i64 0, .int .i64 0, .int .i64 0, .int .i64 0, .int .i64 0, .int .i64 0, .int .i64 0, .int .i64 0, .slice none 0 0] (ld_G_api_Rec (at0 p4) fun r => K r e) s'.H := fun s' e h1 h2 hs => by
    subst hs
    refine recEnd (r := ⟨0, 0, 0, 0, 0, 0, 0, 0, 0, 0, 0, ⟨none, 0, 0⟩⟩) a27 rfl hq0 fun s3 e3 => ?_
    rw [← h2]
    have q : Step [own s, own s + 1] s s3 := e07.tr e3
    exact hE s3 _ h1 (q.loc2 (Nat.le_refl _))
  cases hfs : founds (tx.1.data.toList.drop z.at_) with
  | nil =>
    rw [hfs] at hg hl7
    simp only at hg
    refine bif_dec (fun _ => ?_) (fun h0 => absurd (by simpa using hl7) h0)
    unfold dbox_Box_Get_j1
    exact bif_t (fail2 s7 12 (by rw [hg]) (by rw [hg]) rfl)
  | cons f0 fr =>
    rw [hfs] at hg hl7 b7
    simp only at hg
    simp only [List.length_cons] at hl7
    refine bif_dec (fun h0 => absurd h0 (by omega)) (fun _ => ?_)
    refine ixL_rule b7.ls (Int.le_refl _) (by simp only [List.length_cons]; omega) fun bx ox f1 hf1 hel => ?_
    have : f1 = f0 := by simpa using hf1.symm
    subst this
    obtain ⟨vs, ⟨sd, rfl, h11, hd⟩, hatf⟩ := hel
    refine ldI_at hatf rfl ?_
    by_cases hz0 : f1.at_ = 0
    · rw [if_neg (by simpa using hz0)] at hg
      rw [decide_eq_true (show ((f1.at_ : Nat) : Int) = 0 by omega)]
      unfold dbox_Box_Get_j1
      refine bif_f ?_
      refine ixL_rule b7.ls (Int.le_refl _) (by simp only [List.length_cons]; omega) fun bx2 ox2 f2 hf2 hel2 => ?_
      have : f2 = f1 := by simpa using hf2.symm
      subst this
      obtain ⟨vs, ⟨sd2, rfl, h112, hd2⟩, hatf2⟩ := hel2
      refine ldFr (f := f2) hatf2 h112 fun r2 g2 dd2 => ?_
      refine recEnd a27 rfl hq0 fun s8 e8 => ?_
      have q : Step [own s, own s + 1] s s8 := e07.tr e8
      exact hO s8 r2 f2.x (by rw [hg]) (q.loc2 (Nat.le_refl _)) ⟨g2, by rw [dd2]; exact Ls.st hd2 e8⟩
    · rw [if_pos hz0] at hg
      rw [decide_eq_false (show ¬ ((f1.at_ : Nat) : Int) = 0 by omega)]
      unfold dbox_Box_Get_j1
      exact bif_t (fail2 s7 12 (by rw [hg]) (by rw [hg]) rfl)
end Go.Ph
end
section
set_option linter.all false
namespace Go.Ph
open S
def d0 : RDisk := ⟨[], [], [], [], 1000, false, 0, -1, -1, 0⟩
def x0 : BoxM := ⟨7, 100, 1, []⟩
def y0 : RecM := ⟨[3, 0, 0, 0, 0, 3, 0, 0, 0, 0, 0], []⟩
theorem new0 : R.new [] 1000 = some d0 := rfl
theorem name0 : cnameI 7 1 = (⟨#[99, 48, 48, 55, 45, 48, 48, 48, 48, 48, 48, 48, 49]⟩ : ByteArray) := by decide +kernel
theorem open0 : P.openR d0 7 100 = (d0, some x0, 0) := by rfl
/-- decided: a box is as boxes are -/
def cOkB (c : ContM) : Bool := decide (1 ≤ c.seq ∧ c.seq ≤ 99999999) && decide (0 ≤ c.size ∧ c.size ≤ 4194304) && decide (0 ≤ c.broken ∧ c.broken ≤ 4194304) && decide (c.l.length ≤ 4194304) &&
  c.l.all fun f => decide (f.at_ ≤ 4194304) && decide (f.len ≤ 4194304) && decide (f.x.f.length = 11) && (f.x.f.all fun v => decide (0 ≤ v ∧ v ≤ 9007199254740992)) && decide (f.x.data.length ≤ 4194304)
theorem cOkB_ok {c : ContM} (h : cOkB c = true) : COk c := by
  unfold cOkB at h
  simp only [Bool.and_eq_true, decide_eq_true_eq, List.all_eq_true] at h
  obtain ⟨⟨⟨⟨h1, h2⟩, h3⟩, h4⟩, h5⟩ := h
  refine ⟨h1, h2, h3, h4, fun f hf => ?_⟩
  obtain ⟨⟨⟨⟨g1, g2⟩, g3⟩, g4⟩, g5⟩ := h5 f hf
  exact ⟨g1, g2, g3, g4, g5⟩
theorem box_ok {x : BoxM} (h : x.l.length ≤ 1) (hc : x.l.all cOkB = true) : BoxOk x := by
  rw [List.all_eq_true] at hc
  refine ⟨⟨fun c hm => cOkB_ok (hc c hm), ?_⟩, by omega⟩
  match hx : x.l, h with
  | [], _ => exact List.Pairwise.nil
  | [c], _ => simp
def r0 : RDisk × BoxM × Option PlaceM × Int := P.put d0 x0 y0
theorem put0 : r0.2.2.2 = 0 ∧ (r0.2.2.1.map fun q => (q.seq, q.at_)) = some (1, 24) ∧ (r0.2.2.1.map fun q => (q.x.f, q.x.data)) = some (y0.f, y0.data) ∧ r0.2.1.next = 4 ∧ (P.places r0.2.1.l).length = 1 ∧ P.lastSeq r0.2.1.l = 1 ∧ P.brok r0.2.1.l = 0 ∧ r0.2.1.user = 7 ∧ r0.1.calls ≤ 100 := by decide +kernel
theorem box0 : r0.2.1.l.length ≤ 1 ∧ r0.2.1.l.all cOkB = true := by decide +kernel
theorem get0 : ((P.get r0.1 r0.2.1 1 24).1.map fun z => z.f) = some y0.f ∧ (R.text r0.1 (cnameI 7 1)).1.size ≤ 4194304 := by decide +kernel
theorem Step.locs {S : List Nat} {a b : St} (h : Step S a b) (hS : ∀ x ∈ S, own a ≤ x) : Step [] a b := by
  refine ⟨h.sz, fun b' i hb _ => h.old b' i hb (.inr fun hm => ?_), h.shp⟩
  have h1 := hS _ hm
  have h2 := a.wf b' i hb
  unfold own at h1
  omega
theorem awake_ok {C : Cx} {s : St} {K : Bool → HP} (hK : ∀ s', Step [] s s' → K true s'.H) : lw18_awake C K s.H := by
  unfold lw18_awake
  have hown : own s = 1152921504606846976 + 1152921504606846976 * s.H.size := rfl
  obtain ⟨kd, hkd⟩ : ∃ kd, kd = own s + 16 := ⟨_, rfl⟩
  obtain ⟨kb, hkb⟩ : ∃ kb, kb = own s + 4503599627370496 := ⟨_, rfl⟩
  have ko : Ko kd s := .inr ⟨by omega, by omega⟩
  have kk : Kb kb kd s := ⟨by omega, .inr ⟨by omega, by omega⟩, .inr (by omega)⟩
  have hloc : ∀ x ∈ sbk kd kb, own s ≤ x := by
    intro x hx
    unfold sbk bkc at hx
    simp only [List.mem_append, mem_dk, List.mem_cons, List.not_mem_nil, or_false] at hx
    omega
  refine vNew_ok (k := kd) (files := []) Ls.nil_ (by omega) ko (by simp) (fun h => by rw [new0] at h; cases h) (fun d hd s1 b e1 v1 => ?_)
  rw [new0] at hd
  have := Option.some.inj hd
  subst this
  refine bif_f ?_
  refine CName_ok fun s2 e2 => ?_
  rw [name0, decide_eq_true rfl]
  unfold lw18_awake_j1
  refine bif_f ?_
  have e12 : Step (dk kd) s s2 := e1.trans e2.n
  have e02 : Step (sbk kd kb) s s2 := e12.mono sb2
  refine dOpen_ok (kb := kb) (v1.st e2 (by simp)) (by decide) (fun e he => by cases he) (ko.mono e12) (kk.mono e12) (fun s3 h0 => by rw [open0] at h0; cases h0) (fun s3 p x hx e3 v3 b3 => ?_)
  rw [open0] at hx v3
  have := congrArg Prod.fst hx
  have hxx := Option.some.inj this
  subst hxx
  refine bif_f ?_
  rw [decide_eq_true rfl]
  unfold lw18_awake_j2
  refine bif_f ?_
  have e03 := e02.trans e3
  have ko3 := ko.mono e03
  have kk3 := kk.mono e03
  have hP0 := put0
  have hB0 := box0
  have hG0 := get0
  unfold r0 at hP0 hB0 hG0
  refine dPut_ok (N := 0) (y := y0) v3 b3 ⟨by decide, by decide, by decide, fun c hc => by cases hc⟩ (by decide) (by decide) ⟨rfl, Ls.nil_⟩ (by decide) ko3 kk3 ?_ ?_
  · intro s4 r hn
    generalize P.put d0 x0 y0 = rr at *
    rw [hn] at hP0
    exact absurd hP0.2.1 (by simp)
  · intro s4 r q hq e4 v4 b4 pl4
    generalize P.put d0 x0 y0 = rr at *
    obtain ⟨p1, p2, p3, p4, p5, p6, p7, p8, p9⟩ := hP0
    rw [hq] at p2 p3
    simp only [Option.map_some, Option.some.injEq, Prod.mk.injEq] at p2 p3
    have bo := box_ok hB0.1 hB0.2
    have e04 := e03.trans e4
    obtain ⟨psl, prow, pdat⟩ := pl4.row
    refine newc_sts rfl (by simp [one]) fun s5 p4' e5 a5' => ?_
    have a5 : At (s5.w 0) p4' 0 (.int .i64 q.seq :: .int .i64 q.at_ :: rowF q.x.f psl) := by rw [← prow]; exact a5'
    have q11 : q.x.f.length = 11 := by rw [p3.1]; rfl
    refine ldPlace a5 q11 fun r5 hr5 hs5 ha5 => ?_
    have e05 := e04.trans e5.n
    have ko5 := ko.mono e05
    have kk5 := kk.mono e05
    refine dGet_ok (z := q) (v4.st e5 (by simp)) (b4.st e5 (by simp) (by simp) (by simp)) bo ⟨psl, hr5, Ls.st pdat e5⟩ (by rw [p8, p2.1]; exact hG0.2) ko5 kk5 ?_ ?_
    · intro s6 r6 hn
      rw [p2.1, p2.2] at hn
      rw [hn] at hG0
      exact absurd hG0.1 (by simp)
    · intro s6 r6 y6 hy6 e6 ra6
      rw [p2.1, p2.2] at hy6
      rw [hy6] at hG0
      have hyf := hG0.1
      simp only [Option.map_some, Option.some.injEq] at hyf
      refine newc_sts rfl (by simp [one]) fun s7 p6' e7 a7' => ?_
      have a7 : At (s7.w 0) p6' 0 (rowF y6.f r6.Data) := by rw [← ra6.f]; exact a7'
      have e57 := e6.trans e7
      have a57 := a5.mono e57.v0
      have b7 := (b4.st e5 (by simp) (by simp) (by simp)).st e57 (by simp) (by simp) (by simp)
      refine bif_dec (fun _ => ?_) (fun h => absurd rfl h)
      refine bif_dec (fun _ => ?_) (fun h => absurd rfl h)
      refine ldI_at a7 (rowF_get (by rw [hyf]; decide)) ?_
      rw [hyf]
      refine bif_dec (fun _ => ?_) (fun h => absurd rfl h)
      refine ldI_at a57 rfl ?_
      refine bif_dec (fun _ => ?_) (fun h => absurd p2.1 h)
      refine ldI_at (n := (q.at_ : Int)) a57 rfl ?_
      refine bif_dec (fun _ => ?_) (fun h => absurd (by omega) h)
      refine dNext_ok b7 ?_
      refine bif_dec (fun _ => ?_) (fun h => absurd p4 h)
      have kk7 := (kk5.mono e57).own
      refine dPlaces_ok b7 bo (by omega) fun s8 o8 e8 l8 => ?_
      have hl8 := l8.len
      refine bif_dec (fun _ => ?_) (fun h => absurd (by omega) h)
      have b8 := b7.st e8 (by simp) (by simp) (by simp)
      refine dLast_ok b8 bo.len ?_
      refine bif_dec (fun _ => ?_) (fun h => absurd p6 h)
      refine dBroken_ok b8 bo fun s9 e9 => ?_
      rw [decide_eq_true p7]
      exact hK s9 ((e05.trans (e57.trans (e8.trans e9)).n).locs hloc)
end Go.Ph
end
section
set_option linter.all false
namespace Go.Ph
open S
theorem Nm.drop {d : RDisk} (h : Nm d) (n : ByteArray) : Nm (R.drop d n).1 := by
  have hu := h.unlink n
  have hg : ∀ d' : RDisk, Nm d' → Nm (R.again R.syncDir d').1 := fun d' hd e he => hd e (by rw [again_now] at he; exact he)
  unfold R.drop
  split
  · exact h
  split
  · exact hu
  · exact hg _ hu
theorem mem_put_ {l : List EntM} {x e : EntM} (h : e ∈ R.put l x) : e = x ∨ e ∈ l := by
  unfold R.put at h
  simp only [List.mem_append, List.mem_singleton] at h
  have hw : ∀ e ∈ R.without l x.Name, e ∈ l := fun e he => (List.mem_filter.1 he).1
  rcases h with (h | h) | h
  · exact .inr (hw e (List.mem_of_mem_take h))
  · exact .inl h
  · exact .inr (hw e (List.mem_of_mem_drop h))
end Go.Ph
end
section
set_option linter.all false
namespace Go.Ph
open S
/-- a text with another one from a place on -/
def R.over (x : ByteArray) (a : Nat) (y : ByteArray) : ByteArray := ⟨((x.data.toList ++ List.replicate (a - x.size) 0).take a ++ y.data.toList ++ x.data.toList.drop (a + y.size)).toArray⟩
theorem overG_ok {s : St} {x y : ByteArray} {a : Nat} {K : ByteArray → HP} (hx : x.size ≤ 1000000000) (hz : a + y.size ≤ 1000000000) (hy : 0 < y.size) (hK : ∀ s', Step [] s s' → K (R.over x a y) s'.H) : vdisk_patch_over ⟨a, y⟩ x K s.H := by
  unfold vdisk_patch_over
  refine newc_0 fun s1 p1 n1 a1' => ?_
  have a1 : At (s1.w 0) p1 0 [.int .i64 (a : Nat), .string y] := a1'
  have e1 := n1.step
  have hz1 := e1.sz
  have hq0 : own s ≠ 0 := by unfold own; omega
  repeat (first|refine nn_at ?_|refine ldI_at a1 rfl ?_|refine ldB_at a1 rfl ?_|refine ldS_at a1 rfl ?_|refine ldP_at a1 rfl ?_|refine ldM_at a1 rfl ?_|refine ldL_at a1 rfl ?_)
  rw [w64_id (by omega) (by omega)]
  obtain ⟨N, hN⟩ : ∃ N, N = max x.size (a + y.size) := ⟨_, rfl⟩
  have hNx : x.size ≤ N ∧ a + y.size ≤ N ∧ N ≤ 1000000000 := by omega
  have hif : (if (a : Int) + (y.size : Int) > (x.size : Nat) then (a : Int) + (y.size : Int) else (x.size : Nat)) = ((N : Nat) : Int) := by split <;> omega
  simp only [hif]
  refine mkSl_rule (t := tBy) (z := (0 : UInt8)) (own s) (by unfold own; omega) rfl (by omega) (by omega) (by omega) fun s2 o e2 z2 l2 => ?_
  rw [Int.toNat_natCast] at l2
  have hol := l2.len
  have hoc := l2.cap
  rw [List.length_replicate] at hol
  refine cpyS_rule l2 hq0 fun s3 e3 z3 l3 hf3 => ?_
  have hmin : min x.size (List.replicate N (0 : UInt8)).length = x.size := by rw [List.length_replicate]; omega
  rw [hmin] at l3 hf3
  have ht : x.data.toList.take x.size = x.data.toList := List.take_of_length_le (by rw [ba_len]; exact Nat.le_refl _)
  rw [ht, List.drop_replicate] at l3
  have a13 := (a1.mono e2.v0).mono e3.v0
  refine ldI_at (n := (a : Int)) a13 rfl ?_
  have es3 : Step [own s] s s3 := (e1.trans e2).n.trans e3
  have hll : (x.data.toList ++ List.replicate (N - x.size) (0 : UInt8)).length = N := by rw [List.length_append, ba_len, List.length_replicate]; omega
  obtain ⟨b, off, ha⟩ := Ls.lt l3 (j := 0) (by omega)
  refine slLw_rule l3 ha (by omega) (by omega) (by omega) (by omega) (Int.le_refl _) (by omega) fun sub hsub hsc hsa => ?_
  rw [Int.toNat_natCast, Int.toNat_natCast, List.take_of_length_le (by omega)] at hsub
  refine ldS_at a13 rfl ?_
  refine cpyS_rule hsub hq0 fun s4 e4 z4 l4 hf4 => ?_
  have hdl : ((x.data.toList ++ List.replicate (N - x.size) (0 : UInt8)).drop a).length = N - a := by rw [List.length_drop, hll]
  have hmin2 : min y.size ((x.data.toList ++ List.replicate (N - x.size) (0 : UInt8)).drop a).length = y.size := by rw [hdl]; omega
  rw [hmin2] at l4 hf4
  rw [List.take_of_length_le (by rw [ba_len]; exact Nat.le_refl _)] at l4
  have hsa' : sub.a = some ⟨b, off + a * tBy.n, none⟩ := by rw [hsa, Int.toNat_natCast]
  have hpart := part_rule (i := a) (c := y.size) l3 ha e4 l4 hsa' (by rw [hll, List.length_append, ba_len, List.length_drop, hdl]; omega) (by rw [List.length_append, ba_len]; omega) (fun z j hn => hf4 _ hsa' z j (fun ⟨q1, q2, q3⟩ => hn ⟨q1, q2, by rw [show tBy.n = 1 from rfl] at *; simp only at q3; omega⟩))
  refine ldBy_rule hpart ?_
  have hres : (⟨((x.data.toList ++ List.replicate (N - x.size) (0 : UInt8)).take a ++ (y.data.toList ++ ((x.data.toList ++ List.replicate (N - x.size) (0 : UInt8)).drop a).drop y.size)).toArray⟩ : ByteArray) = R.over x a y := by
    unfold R.over
    congr 2
    rw [List.append_assoc, List.drop_drop]
    congr 1
    · by_cases h : a ≤ x.size
      · rw [List.take_append_of_le_length (by rw [ba_len]; exact h), List.take_append_of_le_length (by rw [ba_len]; exact h)]
      · rw [List.take_append, List.take_append, List.take_replicate, List.take_replicate, ba_len]
        congr 2
        omega
    · congr 1
      rw [List.drop_append, List.drop_replicate, ba_len]
      by_cases h : a + y.size ≤ x.size
      · have : N - x.size - (a + y.size - x.size) = 0 := by omega
        rw [this]; simp
      · have h2 : N - x.size - (a + y.size - x.size) = 0 := by omega
        rw [h2]; simp
  rw [hres]
  exact hK s4 ((es3.trans e4).loc)
theorem over_size (x y : ByteArray) (a : Nat) : (R.over x a y).size = max x.size (a + y.size) := by
  unfold R.over
  show (List.toArray _).size = _
  have h1 := ba_len x
  have h2 := ba_len y
  simp only [List.size_toArray, List.length_append, List.length_take, List.length_replicate, List.length_drop, h1, h2]
  omega
/-- a trap behind so many calls -/
def V.arm (n : Int) : Int := if n < 0 ∨ 4611686018427387904 ≤ n then -1 else n
def R.arm (n : Int) : Int := if n < 0 then -1 else n
/-- two fields are written -/
theorem fld2_rule {s : St} {k b i : Nat} {vs : List Value} {v w : Value} {K : HP} (h : At (s.w k) b 0 vs) (hi : i + 1 < vs.length) (hv : one v = true) (hw : one w = true) (hk : k ≠ 0)
    (hK : ∀ s' : St, Step [k] s s' → s'.H.size = s.H.size → At (s'.w k) b 0 ((vs.set i v).set (i + 1) w) → Oth b s s' → K s'.H) : sts (Addr.add ⟨b, 0, none⟩ i) 0 [v, w] K s.H := by
  have hsp : sts (Addr.add ⟨b, 0, none⟩ i) 0 [v, w] K = sts (Addr.add ⟨b, 0, none⟩ i) 0 [v] (sts (Addr.add ⟨b, 0, none⟩ (i + 1)) 0 [w] K) := by
    simp only [sts, add_at]
    rw [show 0 + i + (0 + 1) = 0 + (i + 1) + 0 by omega]
  rw [hsp]
  refine fld_rule h (by omega) hv hk fun s1 e1 z1 a1 o1 => ?_
  refine fld_rule a1 (by simp; omega) hw hk fun s2 e2 z2 a2 o2 => ?_
  exact hK s2 (e1.trans e2) (z2.trans z1) a2 fun x j hx => ⟨(o2 x j hx).1.trans (o1 x j hx).1, (o2 x j hx).2.trans (o1 x j hx).2⟩
theorem set_ok {s : St} {n c : Int} {K : G_vdisk_trap → HP} (hc : c ≠ 0) (hK : ∀ s', Step [] s s' → K ⟨V.arm n, if V.arm n < 0 then 0 else c⟩ s'.H) : vdisk_set n c K s.H := by
  unfold vdisk_set
  have hq0 : own s ≠ 0 := by unfold own; omega
  refine newc_k (own s) (by unfold own; omega) fun s1 p n1 a1 => ?_
  have e1 := n1.step
  have j : ∀ t : Bool, (t = true → V.arm n = -1) → (t = false → V.arm n = n ∧ 0 ≤ n) → vdisk_set_j1 n c p t K s1.H := fun t h1 h2 => by
    unfold vdisk_set_j1
    cases t
    · refine bif_f ?_
      obtain ⟨h3, h4⟩ := h2 rfl
      refine row_rule 0 a1 rfl (by simp [one]) hq0 (.inr rfl) fun s2 e2 z2 a2 _ => ?_
      unfold ld_G_vdisk_trap
      repeat (first|refine nn_at ?_|refine ldI_at a2 rfl ?_|refine ldB_at a2 rfl ?_|refine ldS_at a2 rfl ?_|refine ldP_at a2 rfl ?_|refine ldM_at a2 rfl ?_|refine ldL_at a2 rfl ?_)
      have := hK s2 ((e1.n.trans e2).loc)
      rw [h3, if_neg (by omega)] at this
      exact this
    · refine bif_t ?_
      have h3 := h1 rfl
      refine row_rule 0 a1 rfl (by simp [one]) hq0 (.inr rfl) fun s2 e2 z2 a2 _ => ?_
      unfold ld_G_vdisk_trap
      repeat (first|refine nn_at ?_|refine ldI_at a2 rfl ?_|refine ldB_at a2 rfl ?_|refine ldS_at a2 rfl ?_|refine ldP_at a2 rfl ?_|refine ldM_at a2 rfl ?_|refine ldL_at a2 rfl ?_)
      have := hK s2 ((e1.n.trans e2).loc)
      rw [h3, if_pos (by omega)] at this
      exact this
  refine bif_dec (fun h1 => ?_) (fun h1 => ?_)
  · exact j true (fun _ => by unfold V.arm; rw [if_pos (.inl h1)]) (fun h => by cases h)
  · refine bif_dec (fun h2 => ?_) (fun h2 => ?_)
    · exact j true (fun _ => by unfold V.arm; rw [if_pos (.inr h2)]) (fun h => by cases h)
    · have : decide (c = 0) = false := by simp [hc]
      rw [this]
      exact j false (fun h => by cases h) (fun _ => ⟨by unfold V.arm; rw [if_neg (by omega)], by omega⟩)
def V.crash (v : VDisk) (n : Int) : VDisk := { v with cl := V.arm n, cc := if V.arm n < 0 then 0 else 11 }
def R.crash (d : RDisk) (n : Int) : RDisk := { d with crash := R.arm n }
theorem Sim.crash {v : VDisk} {d : RDisk} (h : Sim v d) {n : Int} (hn : n < 9223372036854775808) : Sim (V.crash v n) (R.crash d n) := by
  obtain ⟨g1, g2, g3, g4, g5, g6, g7, g8, g9, g10, g11, g12, g13, g14, g15⟩ := h
  refine ⟨g1, g2, g3, g4, g5, ?_, g7, g8, g9, g10, g11, g12, g13, g14, g15⟩
  have := g3.2
  simp only [V.crash, R.crash, V.arm, R.arm, TrapSim]
  split <;> split <;> omega
theorem vCrash_ok {k : Nat} {s : St} {b : Nat} {d : RDisk} {n : Int} {K : HP} (h : DV k s b d) (hn : n < 9223372036854775808) (hko : Ko k s)
    (hK : ∀ s', Step [k] s s' → DV k s' b (R.crash d n) → K s'.H) : vdisk_Disk_Crash (some ⟨b, 0, none⟩) n K s.H := by
  obtain ⟨v, ps, hv, hs⟩ := h
  unfold vdisk_Disk_Crash
  refine set_ok (by decide) fun s1 e1 => ?_
  obtain ⟨k0, ⟨nn, m, ms, mu, h1, h2, h3, h4, h5⟩, h6⟩ := hv.st e1 (by simp)
  refine nn_at ?_
  refine fld2_rule h1 (by simp) rfl rfl k0 fun s2 e2 z2 a2 o2 => ?_
  simp only [List.set_cons_succ, List.set_cons_zero] at a2
  refine hK s2 (e1.n.trans e2) ⟨V.crash v n, ps, ⟨k0, ⟨nn, m, ms, mu, a2, h2.st e2 (by simp), h3.st e2 (by simp), ?_, h5.st e2 (by simp)⟩, h6.st e2 fun j => by simp; omega⟩, hs.crash hn⟩
  obtain ⟨es, cl, h4⟩ := h4
  exact ⟨es, cl, h4.st e2 (by simp)⟩
end Go.Ph
end
section
set_option linter.all false
namespace Go.Ph
open S
def V.kept (ks : List Int) (n : Nat) : Nat := match ks with | [] => 0 | k :: _ => min k.toNat n
theorem next_ok {s : St} {q b : Nat} {ks : List Int} {sl : Sl} {pt : PatchM} {K : G_vdisk_patch → HP} (ha : At (s.w q) b 0 [.slice sl.a sl.len sl.cap]) (hl : Ls (tI .i64) (s.w 0) ks sl) (hq0 : q ≠ 0) (hqo : q ≠ own s)
    (hb : pt.bytes.size ≤ 1000000000) (hks : ks.length ≤ 1000000000)
    (hK : ∀ s' sl', Step [q] s s' → At (s'.w q) b 0 [.slice sl'.a sl'.len sl'.cap] → Ls (tI .i64) (s'.w 0) ks.tail sl' → K ⟨pt.place, pt.bytes.extract 0 (V.kept ks pt.bytes.size)⟩ s'.H) : vdisk_keepers_next (some ⟨b, 0, none⟩) pt K s.H := by
  unfold vdisk_keepers_next
  have hown0 : own s ≠ 0 := by unfold own; omega
  refine newc_0 fun s1 p3 n1 a3' => ?_
  have a3 : At (s1.w 0) p3 0 [.int .i64 pt.place, .string pt.bytes] := a3'
  have e1 := n1.step
  have hz1 := e1.sz
  refine newc_k (own s) (by unfold own; omega) fun s2 p4 n2 a4' => ?_
  have a4 : At (s2.w (own s)) p4 0 [.int .i64 0, .string (⟨#[]⟩ : ByteArray)] := a4'
  have e2 := n2.step
  have e12 := e1.trans e2
  have b2 := ha.mono (e12.view (k := q) (by simp))
  have a32 := a3.mono e2.v0
  have l2 := hl.st e12
  have hlen := l2.len
  have hcap := l2.cap
  have j : ∀ (s' : St) (sl' : Sl) (n : Nat), Step [q] s2 s' → At (s'.w q) b 0 [.slice sl'.a sl'.len sl'.cap] → Ls (tI .i64) (s'.w 0) ks.tail sl' → n = V.kept ks pt.bytes.size → n ≤ pt.bytes.size → vdisk_keepers_next_j1 p3 p4 n K s'.H := fun s' sl' n es at' ls' hn hle => by
    unfold vdisk_keepers_next_j1
    have a3s := a32.mono es.v0
    repeat (first|refine nn_at ?_|refine ldI_at a3s rfl ?_|refine ldB_at a3s rfl ?_|refine ldS_at a3s rfl ?_|refine ldP_at a3s rfl ?_|refine ldM_at a3s rfl ?_|refine ldL_at a3s rfl ?_)
    refine slS_rule (by omega) ?_
    rw [Int.toNat_natCast]
    refine row_rule 0 (a4.mono (es.view (by simpa using hqo.symm))) rfl (by simp [one]) hown0 (.inr rfl) fun s3 e3 z3 a33 _ => ?_
    unfold ld_G_vdisk_patch
    repeat (first|refine nn_at ?_|refine ldI_at a33 rfl ?_|refine ldB_at a33 rfl ?_|refine ldS_at a33 rfl ?_|refine ldP_at a33 rfl ?_|refine ldM_at a33 rfl ?_|refine ldL_at a33 rfl ?_)
    rw [hn]
    have est : Step [own s, q] s s3 := (e12.n.trans (es.mono (by simp))).trans (e3.mono (by simp))
    refine hK s3 sl' est.loc (at'.mono (e3.view (by simpa using hqo))) (ls'.st e3)
  refine nn_at ?_
  refine ldL_at0 b2 rfl ?_
  rw [hlen]
  refine bif_dec (fun hc => ?_) (fun hc => ?_)
  · cases hks2 : ks with
    | nil => rw [hks2] at hc; simp at hc
    | cons k r =>
    refine nn_at ?_
    refine ldL_at0 b2 rfl ?_
    refine ixL_rule l2 (by omega) (by omega) fun bx ox x hx hel => ?_
    obtain ⟨_, rfl, hat⟩ := hel
    have hxk : x = k := by rw [hks2] at hx; simpa using hx.symm
    subst hxk
    refine ldI_at0 hat rfl ?_
    refine ldS_at a32 rfl ?_
    refine nn_at ?_
    refine ldL_at0 b2 rfl ?_
    refine slL_rule l2 (by omega) (by omega) (by omega) (by omega) (by omega) fun sl' hl' hcap' => ?_
    rw [List.take_of_length_le (by omega)] at hl'
    refine nn_at ?_
    refine row_rule q b2 rfl (by simp [one]) hq0 (.inl rfl) fun s3 e3 z3 b3 _ => ?_
    have hn : (if ((pt.bytes.size : Nat) : Int) < (if (0 : Int) > x then 0 else x) then ((pt.bytes.size : Nat) : Int) else (if (0 : Int) > x then 0 else x)) = ((V.kept ks pt.bytes.size : Nat) : Int) := by
      rw [hks2]; simp only [V.kept]
      split <;> split <;> omega
    rw [hn]
    refine j s3 sl' _ e3 b3 ?_ rfl (by rw [hks2]; simp only [V.kept]; omega)
    have := Ls.st hl' e3
    simpa using this
  · have h0 : ks = [] := List.eq_nil_of_length_eq_zero (by omega)
    have hk0 : V.kept ks pt.bytes.size = 0 := by rw [h0]; rfl
    refine j s2 sl 0 Step.refl b2 ?_ hk0.symm (Nat.zero_le _)
    rw [h0] at l2 ⊢
    exact l2
end Go.Ph
end
section
set_option linter.all false
namespace Go.Ph
open S
/-- what is kept of a write -/
def V.bootP (acc : ByteArray × List Int) (p : PatchM) : ByteArray × List Int :=
  (if V.kept acc.2 p.bytes.size = 0 then acc.1 else R.over acc.1 p.place.toNat (p.bytes.extract 0 (V.kept acc.2 p.bytes.size)), acc.2.tail)
def V.bootX (x : VNode) (ks : List Int) : ByteArray × List Int := x.patches.foldl V.bootP (x.sure, ks)
def V.bootN (acc : List VNode × List Int) (j : Nat) : List VNode × List Int :=
  match acc.1[j]? with
  | some x => (acc.1.set j ⟨(V.bootX x acc.2).1, (V.bootX x acc.2).1, [], x.fresh⟩, (V.bootX x acc.2).2)
  | none => acc
def V.bootNs (v : VDisk) (ks : List Int) : List VNode := ((V.knownIdx v v.nodes.length).foldl V.bootN (v.nodes, ks)).1
def V.bootS (v : VDisk) (turns : Int) : List (ByteArray × Int) := (v.moves.take turns.toNat).foldl V.give v.sure
def V.boot (v : VDisk) (turns : Int) (ks : List Int) : VDisk := { V.fix { v with nodes := V.bootNs v ks, seen := V.bootS v turns } with off := false, fl := -1, fc := 0, cl := -1, cc := 0 }
structure NodeB (x : VNode) : Prop where
  sure : x.sure.size ≤ 4194304
  patches : ∀ p ∈ x.patches, 0 ≤ p.place ∧ p.place + p.bytes.size ≤ 4194304
  len : x.patches.length ≤ 1000000000
theorem kept_le (ks : List Int) (n : Nat) : V.kept ks n ≤ n := by unfold V.kept; split <;> omega
theorem bootP_size {acc : ByteArray × List Int} {p : PatchM} (h : acc.1.size ≤ 4194304) (hp : 0 ≤ p.place ∧ p.place + p.bytes.size ≤ 4194304) : (V.bootP acc p).1.size ≤ 4194304 := by
  unfold V.bootP
  have := kept_le acc.2 p.bytes.size
  simp only
  split
  · exact h
  · rw [over_size, ByteArray.size_extract]; omega
theorem bootX_take {x : VNode} {ks : List Int} (hx : NodeB x) : ∀ i, ((x.patches.take i).foldl V.bootP (x.sure, ks)).1.size ≤ 4194304
  | 0 => hx.sure
  | i + 1 => by
    rw [List.take_add_one]
    cases e : x.patches[i]? with
    | none => simpa using bootX_take hx i
    | some p =>
      simp only [Option.toList, List.foldl_append, List.foldl_cons, List.foldl_nil]
      exact bootP_size (bootX_take hx i) (hx.patches p (List.mem_of_getElem? e))
theorem ks_le {x : VNode} {ks : List Int} {n : Nat} (hn : ks.length ≤ n) : ∀ i, ((x.patches.take i).foldl V.bootP (x.sure, ks)).2.length ≤ n
  | 0 => hn
  | i + 1 => by
    rw [List.take_add_one]
    cases e : x.patches[i]? with
    | none => simpa using ks_le hn i
    | some p =>
      simp only [Option.toList, List.foldl_append, List.foldl_cons, List.foldl_nil, V.bootP]
      have := ks_le (x := x) hn i
      rw [List.length_tail]; omega
/-- one node -/
theorem bootX_ok {s : St} {q c p7 p : Nat} {x : VNode} {ks : List Int} {slk : Sl} {u0 : Option Addr} {u1 : Int} {u2 : Sl} {u3 u4 : Int} {KK : Int → HP} {RR : List Value → HP} {K : HP} (ha : At (s.w q) p7 0 [.slice slk.a slk.len slk.cap]) (hl : Ls (tI .i64) (s.w 0) ks slk) (hkl : ks.length ≤ 1000000000)
    (nd : NodeAt c s p x) (hx : NodeB x) (hq : q ≠ 0 ∧ q < own s) (hc0 : c ≠ 0) (hqc : q ≠ c ∧ q ≠ c + 1) (hco : c + 16 ≤ own s ∨ (own s + 16 ≤ c ∧ c + 16 ≤ own s + 1152921504606846976))
    (hK : ∀ s' slk', Step [q, c] s s' → At (s'.w q) p7 0 [.slice slk'.a slk'.len slk'.cap] → Ls (tI .i64) (s'.w 0) (V.bootX x ks).2 slk' → NodeAt c s' p ⟨(V.bootX x ks).1, (V.bootX x ks).1, [], x.fresh⟩ → K s'.H) :
    (nn (some ⟨p, 0, none⟩) fun t30 =>
      ldS (t30.add 1) fun t32 =>
      nn (some ⟨p, 0, none⟩) fun t33 =>
      sts (t33.add 0) 0 [.string t32] (
      nn (some ⟨p, 0, none⟩) fun t36 =>
      ldL (t36.add 2) fun t38 =>
      loop (σ := List Value) (fun R2 vs2 =>
      asI .i64 (vs2.getD 0 undef) fun t40 =>
      bif (decide ((t40 : Int) < (t38.len : Nat))) then (
      ixL t38 2 t40 fun t42 =>
      ld_G_vdisk_patch t42 fun t43 =>
      newc #[.int .i64 0, .string (⟨#[]⟩ : ByteArray)] fun t11 =>
      sts (at0 t11) 0 [.int .i64 t43.place, .string t43.bytes] (
      ld_G_vdisk_patch (at0 t11) fun t44 =>
      vdisk_keepers_next (some (at0 p7)) t44 fun t45 =>
      newc #[.int .i64 0, .string (⟨#[]⟩ : ByteArray)] fun t12 =>
      sts (at0 t12) 0 [.int .i64 t45.place, .string t45.bytes] (
      ldS ((at0 t12).add 1) fun t47 =>
      bif (!decide (t47 = (⟨#[]⟩ : ByteArray))) then (
      ld_G_vdisk_patch (at0 t12) fun t50 =>
      nn (some ⟨p, 0, none⟩) fun t52 =>
      ldS (t52.add 0) fun t54 =>
      vdisk_patch_over t50 t54 fun t55 =>
      nn (some ⟨p, 0, none⟩) fun t56 =>
      sts (t56.add 0) 0 [.string t55] (
      vdisk_Disk_Boot_j1 u0 u1 p7 (some ⟨p, 0, none⟩) u2 u3 u4 t38 (t38.len : Nat) t40 KK RR R2)) else
      vdisk_Disk_Boot_j1 u0 u1 p7 (some ⟨p, 0, none⟩) u2 u3 u4 t38 (t38.len : Nat) t40 KK RR R2))) else
      vdisk_node_settle (some ⟨p, 0, none⟩) K) [.int .i64 0])) s.H := by
  obtain ⟨sl, q1, q2⟩ := nd
  have hpl := q2.ls.len
  refine nn_at (ldS_at q1 rfl (nn_at ?_))
  refine fld_rule q1 (by simp) rfl hc0 fun s1 e1 z1 a1' o1 => ?_
  simp only [List.set_cons_zero] at a1'
  refine nn_at (ldL_at a1' rfl ?_)
  have hown1 : own s1 = own s := by unfold own; rw [z1]
  refine loop_rule (ι := Nat × Sl) (fun y => [.int .i64 y.1]) (fun y s' => y.1 ≤ x.patches.length ∧ Step [q, c] s s' ∧ At (s'.w q) p7 0 [.slice y.2.a y.2.len y.2.cap] ∧ Ls (tI .i64) (s'.w 0) ((x.patches.take y.1).foldl V.bootP (x.sure, ks)).2 y.2 ∧
    At (s'.w c) p 0 [.string ((x.patches.take y.1).foldl V.bootP (x.sure, ks)).1, .string x.sure, .slice sl.a sl.len sl.cap, .bool x.fresh]) (fun y _ => x.patches.length - y.1) (0, slk) rfl
    ⟨Nat.zero_le _, e1.mono (by simp), ha.mono (e1.view (by simpa using hqc.1)), hl.st e1, a1'⟩ ?_
  rintro ⟨i, sk⟩ s2 ⟨hi, e2, b2, l2, n2⟩ G hG
  simp only at hi b2 l2 n2
  simp only [List.getD_cons_zero, List.getD_cons_succ, asI_v, asL_v, asS_v, asB_v, asM_v, asP_v]
  rw [hpl]
  have hz2 := e2.sz
  have hxsz := bootX_take (ks := ks) hx i
  have hkl2 := ks_le (x := x) hkl i
  have hfold : ∀ pt, x.patches[i]? = some pt → (x.patches.take (i + 1)).foldl V.bootP (x.sure, ks) = V.bootP ((x.patches.take i).foldl V.bootP (x.sure, ks)) pt := fun pt hpt => by
    rw [List.take_add_one, hpt]; simp
  have hlen2 := hx.len
  have hqo2 : q ≠ own s2 := by unfold own at *; omega
  have hco2 : c + 16 ≤ own s2 ∨ (own s2 + 16 ≤ c ∧ c + 16 ≤ own s2 + 1152921504606846976) := by
    unfold own at *
    rcases Nat.lt_or_ge s.H.size s2.H.size with h2 | h2
    · left; omega
    · have : s2.H.size = s.H.size := by omega
      rw [this]; exact hco
  by_cases hlt : i < x.patches.length
  · have hdec : decide (((i : Nat) : Int) < (x.patches.length : Nat)) = true := by simp; omega
    rw [hdec]
    refine bif_t ?_
    refine ixL_rule (q2.ls.st e2) (by omega) (by omega) fun bx ox pt hpt hel => ?_
    obtain ⟨_, rfl, hat⟩ := hel
    rw [Int.toNat_natCast] at hpt
    have hpb := hx.patches pt (List.mem_of_getElem? hpt)
    have hf := hfold pt hpt
    generalize (x.patches.take i).foldl V.bootP (x.sure, ks) = acc at *
    unfold ld_G_vdisk_patch
    repeat (first|refine nn_at ?_|refine ldI_at hat rfl ?_|refine ldB_at hat rfl ?_|refine ldS_at hat rfl ?_|refine ldP_at hat rfl ?_|refine ldM_at hat rfl ?_|refine ldL_at hat rfl ?_)
    refine newc_k (own s2) (by unfold own; omega) fun s3 p11 n3 a3 => ?_
    have e3 := n3.step
    have hz3 := e3.sz
    have hown0 : own s2 ≠ 0 := by unfold own; omega
    refine row_rule 0 a3 rfl (by simp [one]) hown0 (.inr rfl) fun s4 e4 z4 a4 _ => ?_
    repeat (first|refine nn_at ?_|refine ldI_at a4 rfl ?_|refine ldB_at a4 rfl ?_|refine ldS_at a4 rfl ?_|refine ldP_at a4 rfl ?_|refine ldM_at a4 rfl ?_|refine ldL_at a4 rfl ?_)
    have e24 : Step [own s2] s2 s4 := e3.n.trans e4
    have e24' : Step [] s2 s4 := e24.loc
    have hz4 := e24'.sz
    have b4 := b2.mono (e24'.view (by simp))
    refine next_ok (pt := ⟨pt.place, pt.bytes⟩) b4 (l2.st e24') hq.1 (by unfold own at *; omega) (by simp only; omega) (by omega) fun s5 sk5 e5 b5 l5 => ?_
    have hz5 := e5.sz
    refine newc_k (own s5) (by unfold own; omega) fun s6 p12 n6 a6 => ?_
    have e6 := n6.step
    have hown5 : own s5 ≠ 0 := by unfold own; omega
    refine row_rule 0 a6 rfl (by simp [one]) hown5 (.inr rfl) fun s7 e7 z7 a7 _ => ?_
    have e57 : Step [own s5] s5 s7 := e6.n.trans e7
    have e57' : Step [] s5 s7 := e57.loc
    refine ldS_at a7 rfl ?_
    have e27 : Step [q] s2 s7 := (e24'.n.trans e5).trans e57'.n
    have hz7 := e27.sz
    have b7 := b5.mono (e57'.view (by simp))
    have l7 := l5.st e57'
    have n7 := n2.mono (e27.view (by simpa using hqc.1.symm))
    have hkle := kept_le acc.2 pt.bytes.size
    have hexs : (pt.bytes.extract 0 (V.kept acc.2 pt.bytes.size)).size = V.kept acc.2 pt.bytes.size := by rw [ByteArray.size_extract]; omega
    have e02 : Step [q, c] s s7 := e2.trans (e27.mono (by simp))
    have fin : ∀ s8, Step [q, c] s7 s8 → At (s8.w q) p7 0 [.slice sk5.a sk5.len sk5.cap] → Ls (tI .i64) (s8.w 0) acc.2.tail sk5 → At (s8.w c) p 0 [.string (V.bootP acc pt).1, .string x.sure, .slice sl.a sl.len sl.cap, .bool x.fresh] →
        vdisk_Disk_Boot_j1 u0 u1 p7 (some ⟨p, 0, none⟩) u2 u3 u4 sl (x.patches.length : Nat) i KK RR G s8.H := fun s8 e8 b8 l8 n8 => by
      unfold vdisk_Disk_Boot_j1
      rw [w64_id (by omega) (by omega)]
      exact hG (i + 1, sk5) s8 ⟨by simp only; omega, e02.trans e8, b8, by simp only; rw [hf]; exact l8, by simp only; rw [hf]; exact n8⟩ (by simp only; omega)
    by_cases hz : V.kept acc.2 pt.bytes.size = 0
    · have hd : decide (pt.bytes.extract 0 (V.kept acc.2 pt.bytes.size) = (⟨#[]⟩ : ByteArray)) = true := by rw [decide_eq_true_eq, ba_nil, hexs]; exact hz
      rw [hd]
      refine bif_f (fin s7 Step.refl b7 l7 ?_)
      have : (V.bootP acc pt).1 = acc.1 := by unfold V.bootP; rw [if_pos hz]
      rw [this]; exact n7
    · have hd : decide (pt.bytes.extract 0 (V.kept acc.2 pt.bytes.size) = (⟨#[]⟩ : ByteArray)) = false := by rw [decide_eq_false_iff_not, ba_nil, hexs]; exact hz
      rw [hd]
      refine bif_t ?_
      repeat (first|refine nn_at ?_|refine ldI_at a7 rfl ?_|refine ldB_at a7 rfl ?_|refine ldS_at a7 rfl ?_|refine ldP_at a7 rfl ?_|refine ldM_at a7 rfl ?_|refine ldL_at a7 rfl ?_)
      refine ldS_at n7 rfl ?_
      have hpn : pt.place = ((pt.place.toNat : Nat) : Int) := by omega
      rw [hpn]
      refine overG_ok (by omega) (by rw [hexs]; omega) (by rw [hexs]; omega) fun s8 e8 => ?_
      have n8 := n7.mono (e8.view (by simp))
      refine nn_at ?_
      refine fld_rule n8 (by simp) rfl hc0 fun s9 e9 z9 n9 o9 => ?_
      simp only [List.set_cons_zero] at n9
      have e79 : Step [c] s7 s9 := e8.n.trans e9
      refine fin s9 (e79.mono (by simp)) (b7.mono (e79.view (by simpa using hqc.1))) (l7.st e79) ?_
      have : (V.bootP acc pt).1 = R.over acc.1 pt.place.toNat (pt.bytes.extract 0 (V.kept acc.2 pt.bytes.size)) := by unfold V.bootP; rw [if_neg hz]
      rw [this]; exact n9
  · have hdec : decide (((i : Nat) : Int) < (x.patches.length : Nat)) = false := by simp; omega
    rw [hdec]
    refine bif_f ?_
    have hi' : i = x.patches.length := by omega
    subst hi'
    rw [List.take_length] at l2 n2
    change At (s2.w c) p 0 [.string (V.bootX x ks).1, .string x.sure, .slice sl.a sl.len sl.cap, .bool x.fresh] at n2
    unfold vdisk_node_settle
    refine nn_at (ldS_at n2 rfl (nn_at ?_))
    refine fld_rule n2 (by simp) rfl hc0 fun s3 e3 z3 n3 o3 => ?_
    simp only [List.set_cons_succ, List.set_cons_zero] at n3
    refine nn_at ?_
    refine fld_rule n3 (by simp) rfl hc0 fun s4 e4 z4 n4 o4 => ?_
    simp only [List.set_cons_succ, List.set_cons_zero] at n4
    have e24 : Step [c] s2 s4 := e3.trans e4
    exact hK s4 sk (e2.trans (e24.mono (by simp))) (b2.mono (e24.view (by simpa using hqc.1))) (l2.st e24) ⟨⟨none, 0, 0⟩, n4, Bld.nil⟩
end Go.Ph
end

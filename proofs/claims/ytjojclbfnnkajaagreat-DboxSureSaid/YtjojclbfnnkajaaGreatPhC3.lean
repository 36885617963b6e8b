/- Parts of the proof that pigeonholelaw18.DboxSure returns true at every input and leaves the input as it was: what the words of the functions tell, part 3. -/
import Derived.Test.YtjojclbfnnkajaaGreatPhC2
section
set_option linter.all false
namespace Go.Ph
open S
theorem Nodes.updS {k : Nat} {s s' : St} {l : List VNode} {ps : List (Option Addr)} {j p : Nat} {x x' : VNode} {S : List Nat} (h : Nodes k s l ps) (hj : l[j]? = some x) (hp : ps[j]? = some (some ⟨p, 0, none⟩)) (hs : Step S s s')
    (hS : ∀ i, i < l.length → i ≠ j → k + 10 + 2 * i ∉ S ∧ k + 10 + 2 * i + 1 ∉ S) (hx : NodeAt (k + 10 + 2 * j) s' p x') : Nodes k s' (l.set j x') ps :=
  ⟨by simp [h.len], fun i y hi => by
    by_cases e : j = i
    · subst e
      rw [List.getElem?_set_self (List.getElem?_eq_some_iff.1 hj).1] at hi
      simp at hi; subst hi
      exact ⟨p, hp, hx⟩
    · rw [List.getElem?_set_ne e] at hi
      obtain ⟨p', g1, g2⟩ := h.at_ i y hi
      have := hS i (List.getElem?_eq_some_iff.1 hi).1 (Ne.symm e)
      exact ⟨p', g1, g2.st hs this.1 this.2⟩⟩
theorem bootN_len (acc : List VNode × List Int) (j : Nat) : (V.bootN acc j).1.length = acc.1.length := by
  unfold V.bootN; split <;> simp
theorem bootNf_len : ∀ (l : List Nat) (acc : List VNode × List Int), (l.foldl V.bootN acc).1.length = acc.1.length
  | [], _ => rfl
  | j :: l, acc => by rw [List.foldl_cons, bootNf_len l, bootN_len]
theorem bootX_ks {x : VNode} {ks : List Int} {n : Nat} (hn : ks.length ≤ n) : (V.bootX x ks).2.length ≤ n := by
  have := ks_le (x := x) hn x.patches.length
  rw [List.take_length] at this
  exact this
theorem bootX_size {x : VNode} {ks : List Int} (hx : NodeB x) : (V.bootX x ks).1.size ≤ 4194304 := by
  have := bootX_take (ks := ks) hx x.patches.length
  rw [List.take_length] at this
  exact this
theorem bootN_ok {acc : List VNode × List Int} {j : Nat} {n : Nat} (h : (∀ x ∈ acc.1, NodeB x) ∧ acc.2.length ≤ n) : (∀ x ∈ (V.bootN acc j).1, NodeB x) ∧ (V.bootN acc j).2.length ≤ n := by
  unfold V.bootN
  split
  · rename_i x hx
    have hb := h.1 x (List.mem_of_getElem? hx)
    refine ⟨fun y hy => ?_, bootX_ks h.2⟩
    rcases List.mem_or_eq_of_mem_set hy with hy | rfl
    · exact h.1 y hy
    · exact ⟨bootX_size hb, by simp, by simp⟩
  · exact h
theorem bootNf_ok {n : Nat} : ∀ (l : List Nat) {acc : List VNode × List Int}, ((∀ x ∈ acc.1, NodeB x) ∧ acc.2.length ≤ n) → (∀ x ∈ (l.foldl V.bootN acc).1, NodeB x) ∧ (l.foldl V.bootN acc).2.length ≤ n
  | [], _, h => h
  | j :: l, acc, h => by rw [List.foldl_cons]; exact bootNf_ok l (bootN_ok h)
theorem vBootV_ok {k : Nat} {s : St} {b : Nat} {v : VDisk} {ps : List (Option Addr)} {turns : Int} {keep : List Int} {slk : Sl} {K : Int → HP} (h : VDp k s b v ps) (hoff : v.off = true) (hl : Ls (tI .i64) (s.w 0) keep slk) (hkl : keep.length ≤ 1000000000)
    (hn : v.nodes.length ≤ 1000000000) (hb : ∀ x ∈ v.nodes, NodeB x) (hmv : v.moves.length ≤ 1000000000) (hko : Ko k s) (hr : ∀ x ∈ v.seen, 0 ≤ x.2 ∧ x.2 < v.nodes.length) (hr' : ∀ x ∈ v.sure, 0 ≤ x.2 ∧ x.2 < v.nodes.length)
    (hK : ∀ s', Step (dk k) s s' → VDp k s' b (V.boot v turns keep) ps → K 0 s'.H) : vdisk_Disk_Boot (some ⟨b, 0, none⟩) turns slk K s.H := by
  have hown0 : own s ≠ 0 := by unfold own; omega
  have hnk : ∀ j, j < 1125899906842624 → k + j ≠ own s := fun j hj => by unfold Ko at hko; omega
  have hod : own s ∉ dk k := by rw [mem_dk]; intro hh; unfold Ko at hko; omega
  unfold vdisk_Disk_Boot
  obtain ⟨k0, ⟨n0, m0, ms0, mu0, h1, _⟩, _⟩ := id h
  refine nn_at (ldB_at h1 rfl ?_)
  rw [hoff]
  refine bif_f ?_
  refine newc_k (own s) (by unfold own; omega) fun s1 p7 n1 a1 => ?_
  have e1 := n1.step
  refine row_rule (own s) a1 rfl (by simp [one]) hown0 (.inl rfl) fun s2 e2 z2 a2 _ => ?_
  have e02 : Step [own s] s s2 := e1.n.trans e2
  have hz1 := n1.sz
  have hsd : ∀ x ∈ [own s], x ∉ dk k := fun x hx => by simp at hx; subst hx; exact hod
  have v2 := h.st2 e02 (by omega) hsd
  have hko2 := hko.mono e02
  refine known_ok v2 (by omega) hko2 hr hr' fun s3 kn e3 l3 => ?_
  have e03 : Step [own s] s s3 := e02.trans e3.n
  have hz3 : s.H.size + 1 ≤ s3.H.size := by have := e3.sz; omega
  have v3 := v2.st e3 (by simp)
  have a3 := a2.mono (e3.view (k := own s) (by simp))
  have hl3 := Ls.st hl e03
  have hko3 := hko.mono e03
  obtain ⟨L, hL⟩ : ∃ L, L = V.knownIdx v v.nodes.length := ⟨_, rfl⟩
  rw [← hL] at l3
  have hLlen : kn.len = L.length := by rw [l3.len, List.length_map]
  have hLb : ∀ j ∈ L, j < v.nodes.length := fun j hj => by rw [hL] at hj; unfold V.knownIdx at hj; exact List.mem_range.1 (List.mem_filter.1 hj).1
  have hLn : L.length ≤ v.nodes.length := by rw [hL]; unfold V.knownIdx; exact Nat.le_trans (List.length_filter_le _ _) (by simp)
  have e0d : ∀ {s' : St}, Step (own s :: dk k) s3 s' → Step (dk k) s s' := fun e => (e03.mono (by simp) |>.trans e : Step (own s :: dk k) s _).loc
  refine loop_rule (ι := Nat × Sl) (fun y => [.int .i64 y.1]) (fun y s' => y.1 ≤ L.length ∧ Step (own s :: dk k) s3 s' ∧ VDp k s' b { v with nodes := ((L.take y.1).foldl V.bootN (v.nodes, keep)).1 } ps ∧ At (s'.w (own s)) p7 0 [.slice y.2.a y.2.len y.2.cap] ∧
    Ls (tI .i64) (s'.w 0) ((L.take y.1).foldl V.bootN (v.nodes, keep)).2 y.2 ∧ Ls tP (s'.w 0) (L.map fun j => ps.getD j none) kn) (fun y _ => L.length - y.1) (0, slk) rfl
    ⟨Nat.zero_le _, Step.refl, by simpa using v3, a3, by simpa using hl3, l3⟩ ?_
  rintro ⟨i, sk⟩ s4 ⟨hi, e4, v4, b4, l4, q4⟩ G hG
  simp only at hi b4 l4 v4
  simp only [List.getD_cons_zero, List.getD_cons_succ, asI_v, asL_v, asS_v, asB_v, asM_v, asP_v]
  rw [hLlen]
  have hz4 := e4.sz
  have hok := bootNf_ok (n := 1000000000) (L.take i) (acc := (v.nodes, keep)) ⟨hb, hkl⟩
  have hlen := bootNf_len (L.take i) (v.nodes, keep)
  have hko4 := hko3.mono e4
  have hown4 : own s < own s4 := by unfold own; omega
  by_cases hlt : i < L.length
  · have hdec : decide (((i : Nat) : Int) < (L.length : Nat)) = true := by simp; omega
    rw [hdec]
    refine bif_t ?_
    refine ixL_rule q4 (by omega) (by rw [List.length_map]; omega) fun bx ox pp hpp hel => ?_
    obtain ⟨_, rfl, hat⟩ := hel
    rw [Int.toNat_natCast, List.getElem?_map, List.getElem?_eq_getElem hlt] at hpp
    obtain ⟨j, hj⟩ : ∃ j, j = L[i] := ⟨_, rfl⟩
    have hjn : j < v.nodes.length := hLb j (by rw [hj]; exact List.getElem_mem hlt)
    have htk : L.take (i + 1) = L.take i ++ [j] := by rw [hj, List.take_succ_eq_append_getElem hlt]
    have hfold : (L.take (i + 1)).foldl V.bootN (v.nodes, keep) = V.bootN ((L.take i).foldl V.bootN (v.nodes, keep)) j := by rw [htk]; simp
    generalize (L.take i).foldl V.bootN (v.nodes, keep) = acc at *
    simp only at hlen
    obtain ⟨k0', ⟨nn, mm, ms, mu, g1, g2, g3, ⟨es, cl, g4⟩, g5⟩, g6⟩ := v4
    simp only at g1 g2 g3 g4 g5 g6
    have hjx : acc.1[j]? = some (acc.1[j]'(by omega)) := List.getElem?_eq_getElem _
    obtain ⟨x, hx⟩ : ∃ x, x = acc.1[j]'(by omega) := ⟨_, rfl⟩
    rw [← hx] at hjx
    obtain ⟨p, hp, nd⟩ := g6.at_ j x hjx
    have hpe : pp = some ⟨p, 0, none⟩ := by
      rw [← hj] at hpp
      simp [List.getD_eq_getElem?_getD, hp] at hpp
      exact hpp.symm
    subst hpe
    refine ldP_at0 hat rfl ?_
    have hbx := hok.1 x (List.mem_of_getElem? hjx)
    refine bootX_ok b4 l4 hok.2 nd hbx ⟨hown0, hown4⟩ (by omega) (by have := hnk (10 + 2 * j) (by omega); have := hnk (11 + 2 * j) (by omega); omega) (by unfold Ko at hko4; omega) fun s5 sk5 e5 b5 l5 nd5 => ?_
    rw [w64_id (by omega) (by omega)]
    have hbn : V.bootN acc j = (acc.1.set j ⟨(V.bootX x acc.2).1, (V.bootX x acc.2).1, [], x.fresh⟩, (V.bootX x acc.2).2) := by
      unfold V.bootN; rw [hjx]
    have e5d : ∀ y, y ∈ [own s, k + 10 + 2 * j] → y ∈ own s :: dk k := fun y hy => by
      simp only [List.mem_cons, List.not_mem_nil, or_false] at hy
      rcases hy with rfl | rfl
      · simp
      · simp only [List.mem_cons, mem_dk]; right; omega
    have hk5 : ∀ c, c < 10 → k + c ∉ [own s, k + 10 + 2 * j] := fun c hc => by
      have := hnk c (by omega)
      simp only [List.mem_cons, List.not_mem_nil, or_false]
      omega
    refine hG (i + 1, sk5) s5 ⟨by simp only; omega, e4.trans (e5.mono e5d), ?_, b5, ?_, Ls.st q4 e5⟩ (by simp only; omega)
    · simp only
      rw [hfold, hbn]
      refine ⟨k0', ⟨nn, mm, ms, mu, g1.mono (e5.view (by simpa using hk5 0 (by omega))), g2.st e5 (hk5 1 (by omega)), g3.st e5 (hk5 2 (by omega)), ⟨es, cl, g4.st e5 (hk5 3 (by omega))⟩, g5.st e5 (hk5 4 (by omega))⟩, ?_⟩
      refine g6.updS hjx hp e5 (fun i' hi' hne => ?_) nd5
      have h1 := hnk (10 + 2 * i') (by omega)
      have h2 := hnk (11 + 2 * i') (by omega)
      simp only [List.mem_cons, List.not_mem_nil, or_false]
      omega
    · simp only
      rw [hfold, hbn]
      exact l5
  · have hdec : decide (((i : Nat) : Int) < (L.length : Nat)) = false := by simp; omega
    rw [hdec]
    refine bif_f ?_
    have hi' : i = L.length := by omega
    subst hi'
    rw [List.take_length] at v4
    have hNs : (L.foldl V.bootN (v.nodes, keep)).1 = V.bootNs v keep := by rw [hL]; rfl
    rw [hNs] at v4
    have hNl : (V.bootNs v keep).length = v.nodes.length := by rw [← hNs, bootNf_len]
    obtain ⟨k0', ⟨nn, mm, ms, mu, g1, g2, g3, ⟨es, cl, g4⟩, ⟨mr, es2, cl2, rfl, g5⟩⟩, g6⟩ := v4
    simp only at g1 g2 g3 g4 g5 g6
    refine nn_at (ldM_at g1 rfl ?_)
    refine Clone_ok (k' := k + 3) g5 (by unfold Ko own at hko4; omega) fun s5 mb e5 z5 m5 => ?_
    have g15 := g1.mono (e5.view (by simp))
    refine nn_at ?_
    refine fld_rule g15 (by simp) rfl k0' fun s6 e6 z6 g16 o6 => ?_
    simp only [List.set_cons_succ, List.set_cons_zero] at g16
    have e46 : Step [k] s4 s6 := e5.n.trans e6
    have e36 : Step (own s :: dk k) s3 s6 := e4.trans (e46.mono (by intro y hy; simp at hy; subst hy; simp [mem_dk]))
    refine nn_at (ldL_at g16 rfl ?_)
    have hml : mm.len = v.moves.length := g3.ls.len
    have v6 : VDp k s6 b { v with nodes := V.bootNs v keep, seen := (v.moves.take (min 0 turns.toNat)).foldl V.give v.sure } ps :=
      ⟨k0', ⟨nn, mm, mb, some mr, g16, g2.st e46 (by simp), g3.st e46 (by simp), ⟨es2, cl2, by simpa using m5.st e6 (by simp)⟩, ⟨mr, es2, cl2, rfl, g5.st e46 (by simp)⟩⟩, g6.st e46 (fun j => by simp; omega)⟩
    refine loop_rule (ι := Nat) (fun y => [.int .i64 y]) (fun y s' => y ≤ v.moves.length ∧ Step (own s :: dk k) s3 s' ∧ VDp k s' b { v with nodes := V.bootNs v keep, seen := (v.moves.take (min y turns.toNat)).foldl V.give v.sure } ps ∧ Ls tMove (s'.w 0) v.moves mm) (fun y _ => v.moves.length - y) 0 rfl
      ⟨Nat.zero_le _, e36, v6, Ls.st g3.ls e46⟩ ?_
    rintro y s7 ⟨hy, e7, v7, l7⟩ G3 hG3
    simp only [List.getD_cons_zero, List.getD_cons_succ, asI_v, asL_v, asS_v, asB_v, asM_v, asP_v]
    rw [hml]
    have hz7 := e7.sz
    by_cases hlt : y < v.moves.length
    · have hdec : decide (((y : Nat) : Int) < (v.moves.length : Nat)) = true := by simp; omega
      rw [hdec]
      refine bif_t ?_
      refine ixL_rule l7 (by omega) (by omega) fun bx ox mv hmvx hel => ?_
      obtain ⟨_, rfl, hat⟩ := hel
      rw [Int.toNat_natCast] at hmvx
      unfold ld_G_vdisk_move
      repeat (first|refine nn_at ?_|refine ldI_at hat rfl ?_|refine ldB_at hat rfl ?_|refine ldS_at hat rfl ?_|refine ldP_at hat rfl ?_|refine ldM_at hat rfl ?_|refine ldL_at hat rfl ?_)
      refine newc_k (own s7) (by unfold own; omega) fun s8 p14 n8 a8 => ?_
      have e8 := n8.step
      have hown7 : own s7 ≠ 0 := by unfold own; omega
      refine row_rule 0 a8 rfl (by simp [one]) hown7 (.inr rfl) fun s9 e9 z9 a9 _ => ?_
      have e79 : Step [own s7] s7 s9 := e8.n.trans e9
      have e79' : Step [] s7 s9 := e79.loc
      have v9 := v7.st e79' (by simp)
      have l9 := Ls.st l7 e79'
      have hz9 := e79'.sz
      have hko9 := (hko3.mono e7).mono e79'
      have nx : ∀ s', Step (own s :: dk k) s9 s' → VDp k s' b { v with nodes := V.bootNs v keep, seen := (v.moves.take (min (y + 1) turns.toNat)).foldl V.give v.sure } ps → vdisk_Disk_Boot_j2 (some ⟨b, 0, none⟩) turns mm (v.moves.length : Nat) y K G3 s'.H := fun s' e' v' => by
        unfold vdisk_Disk_Boot_j2
        rw [w64_id (by omega) (by omega)]
        exact hG3 (y + 1) s' ⟨by omega, (e7.trans e79'.n).trans e', v', Ls.st l9 e'⟩ (by omega)
      by_cases ht : (y : Int) < turns
      · rw [decide_eq_true ht]
        refine bif_t ?_
        have hm1 : min y turns.toNat = y := by omega
        have hm2 : min (y + 1) turns.toNat = y + 1 := by omega
        rw [hm1] at v9
        rw [hm2] at nx
        have htk : (v.moves.take (y + 1)).foldl V.give v.sure = V.give ((v.moves.take y).foldl V.give v.sure) mv := by
          rw [List.take_add_one, hmvx]; simp
        obtain ⟨k0', ⟨nn9, mm9, ms9, mu9, f1, f2, f3, ⟨es9, cl9, f4⟩, f5⟩, f6⟩ := v9
        simp only at f1 f2 f3 f4 f5 f6
        refine nn_at (ldM_at f1 rfl ?_)
        repeat (first|refine nn_at ?_|refine ldI_at a9 rfl ?_|refine ldB_at a9 rfl ?_|refine ldS_at a9 rfl ?_|refine ldP_at a9 rfl ?_|refine ldM_at a9 rfl ?_|refine ldL_at a9 rfl ?_)
        refine give_ok (mv := mv) f4 (by omega) (by unfold Ko at hko9; omega) fun s10 es10 cl10 e10 m10 => ?_
        refine nx s10 (e10.mono (by intro z hz; simp at hz; subst hz; simp [mem_dk])) ⟨k0', ⟨nn9, mm9, ms9, mu9, f1.mono (e10.view (by simp)), f2.st e10 (by simp), f3.st e10 (by simp), ⟨es10, cl10, by simp only; rw [htk]; exact m10⟩, f5.st e10 (by simp)⟩, f6.st e10 (fun j => by simp; omega)⟩
      · rw [decide_eq_false ht]
        refine bif_f (nx s9 Step.refl ?_)
        have hm : min (y + 1) turns.toNat = min y turns.toNat := by omega
        rw [hm]; exact v9
    · have hdec : decide (((y : Nat) : Int) < (v.moves.length : Nat)) = false := by simp; omega
      rw [hdec]
      refine bif_f ?_
      have hy' : y = v.moves.length := by omega
      have hS : (v.moves.take (min y turns.toNat)).foldl V.give v.sure = V.bootS v turns := by
        unfold V.bootS
        congr 1
        rw [hy']
        by_cases h : v.moves.length ≤ turns.toNat
        · rw [Nat.min_eq_left h, List.take_of_length_le (Nat.le_refl _), List.take_of_length_le h]
        · rw [Nat.min_eq_right (by omega)]
      rw [hS] at v7
      refine fix_ok v7 (by show (V.bootNs v keep).length ≤ _; omega) (hko3.mono e7) fun s8 e8 v8 => ?_
      obtain ⟨k0', ⟨nn9, mm9, ms9, mu9, f1, f2, f3, f4, f5⟩, f6⟩ := v8
      simp only [V.fix] at f1 f2 f3 f4 f5 f6
      refine nn_at ?_
      refine fld_rule f1 (by simp) rfl k0' fun s9 e9 z9 a9 o9 => ?_
      simp only [List.set_cons_succ, List.set_cons_zero] at a9
      refine nn_at ?_
      refine fld2_rule a9 (by simp) rfl rfl k0' fun s10 e10 z10 a10 o10 => ?_
      simp only [List.set_cons_succ, List.set_cons_zero] at a10
      refine nn_at ?_
      refine fld2_rule a10 (by simp) rfl rfl k0' fun s11 e11 z11 a11 o11 => ?_
      simp only [List.set_cons_succ, List.set_cons_zero] at a11
      have e811 : Step [k] s8 s11 := (e9.trans e10).trans e11
      have hkd : ∀ z, z ∈ [k] → z ∈ own s :: dk k := by intro z hz; simp at hz; subst hz; simp [mem_dk]
      refine hK s11 (e0d ((e7.trans (e8.mono (fun z hz => List.mem_cons_of_mem _ hz))).trans (e811.mono hkd))) ?_
      obtain ⟨es9, cl9, f4⟩ := f4
      exact ⟨k0', ⟨nn9, mm9, ms9, mu9, a11, f2.st e811 (by simp), f3.st e811 (by simp), ⟨es9, cl9, f4.st e811 (by simp)⟩, f5.st e811 (by simp)⟩, f6.st e811 (fun j => by simp; omega)⟩
end Go.Ph
end
section
set_option linter.all false
namespace Go.Ph
open S
namespace R
def bootP (acc : ByteArray × List Int) (p : WrM) : ByteArray × List Int :=
  (if V.kept acc.2 p.B.size = 0 then acc.1 else over acc.1 p.At.toNat (p.B.extract 0 (V.kept acc.2 p.B.size)), acc.2.tail)
def bootX (x : RFile) (ks : List Int) : ByteArray × List Int := x.waits.foldl bootP (x.sure, ks)
def bootN (d : RDisk) (acc : List RFile × List Int) (j : Nat) : List RFile × List Int :=
  match acc.1[j]? with
  | some x => if known d j then (acc.1.set j ⟨(bootX x acc.2).1, (bootX x acc.2).1, []⟩, (bootX x acc.2).2) else (acc.1.set j ⟨x.sure, x.sure, []⟩, acc.2)
  | none => acc
def bootNs (d : RDisk) (ks : List Int) : List RFile := ((List.range d.files.length).foldl (bootN d) (d.files, ks)).1
def bootS (d : RDisk) (turns : Int) : List EntM := (d.waits.take turns.toNat).foldl do_ d.sure
def boot (d : RDisk) (turns : Int) (ks : List Int) : RDisk := { d with files := bootNs d ks, now := bootS d turns, sure := bootS d turns, waits := [], down := false, fail := -1, crash := -1 }
end R
theorem bootX_same {x : VNode} {f : RFile} (h : SameF x f) (hp : ∀ p ∈ x.patches, 0 ≤ p.place) (ks : List Int) : V.bootX x ks = R.bootX f ks := by
  obtain ⟨h1, h2, h3⟩ := h
  unfold V.bootX R.bootX
  rw [← h3, h2]
  generalize (f.sure, ks) = acc
  induction x.patches generalizing acc with
  | nil => rfl
  | cons p l ih => simp only [List.map_cons, List.foldl_cons]; exact ih _
theorem rbootN_len (d : RDisk) (acc : List RFile × List Int) (j : Nat) : (R.bootN d acc j).1.length = acc.1.length := by
  unfold R.bootN; split
  · split <;> simp
  · rfl
theorem do_known {d : RDisk} {l : List EntM} {t : TurnM} (ht : t ∈ d.waits) (hl : ∀ e ∈ l, ∀ j : Nat, e.File = j → R.known d j = true) : ∀ e ∈ R.do_ l t, ∀ j : Nat, e.File = j → R.known d j = true := by
  have hw : ∀ n, ∀ e ∈ R.without l n, e ∈ l := fun n e he => (List.mem_filter.1 he).1
  intro e he j hj
  unfold R.do_ at he
  split at he
  · split at he
    · exact hl e he j hj
    · rename_i hf
      split at he
      · exact hl e (hw _ _ he) j hj
      · rcases mem_put_ he with rfl | he
        · simp only at hj
          unfold R.find at hj hf
          cases hx : l.find? (fun e => decide (e.Name = t.From)) with
          | none => rw [hx] at hf; simp at hf
          | some x => rw [hx] at hj; exact hl x (List.mem_of_find?_eq_some hx) j hj
        · exact hl e (hw _ _ he) j hj
  · split at he
    · exact hl e he j hj
    · rcases mem_put_ he with rfl | he
      · simp only at hj
        unfold R.known
        have : d.waits.any (fun e => decide (e.File = (j : Int))) = true := List.any_eq_true.2 ⟨t, ht, by simpa using hj⟩
        rw [this]; simp
      · exact hl e he j hj
theorem sure_known {d : RDisk} : ∀ i, ∀ e ∈ (d.waits.take i).foldl R.do_ d.sure, ∀ j : Nat, e.File = j → R.known d j = true
  | 0, e, he, j, hj => by
    have he : e ∈ d.sure := by simpa using he
    unfold R.known
    have : d.sure.any (fun e => decide (e.File = (j : Int))) = true := List.any_eq_true.2 ⟨e, he, by simpa using hj⟩
    rw [this]; simp
  | i + 1, e, he, j, hj => by
    rw [List.take_add_one] at he
    cases ht : d.waits[i]? with
    | none => rw [ht] at he; exact sure_known i e (by simpa using he) j hj
    | some t =>
      rw [ht] at he
      simp only [Option.toList, List.foldl_append, List.foldl_cons, List.foldl_nil] at he
      exact do_known (List.mem_of_getElem? ht) (sure_known i) e he j hj
theorem known_of {v : VDisk} {d : RDisk} (h : Sim v d) {j : Nat} (hlt : j < v.nodes.length) (hj2 : R.known d j = true) : Known v j := by
  have hx := List.getElem?_eq_getElem hlt
  have hn0 := (h.names 0 (Nat.zero_le _)).1
  simp only [List.take_zero, List.foldl_nil] at hn0
  simp only [R.known, Bool.or_eq_true, List.any_eq_true, decide_eq_true_eq] at hj2
  rcases hj2 with (⟨e, he, hee⟩ | ⟨e, he, hee⟩) | hfr
  · exact .inl ⟨e.Name, (h.ns.1.mem _ _).2 (by rw [← hee]; exact he)⟩
  · exact .inr (.inl ⟨e.Name, (hn0.mem _ _).2 (by rw [← hee]; exact he)⟩)
  · exact .inr (.inr ⟨_, hx, (h.fresh j _ hx).2 hfr⟩)
def V.bootI (v : VDisk) (acc : List VNode × List Int) (j : Nat) : List VNode × List Int := if V.kn v j = true then V.bootN acc j else acc
theorem bootNs_eq (v : VDisk) (ks : List Int) : V.bootNs v ks = ((List.range v.nodes.length).foldl (V.bootI v) (v.nodes, ks)).1 := by
  unfold V.bootNs V.knownIdx
  rw [List.foldl_filter]
  rfl
theorem bootI_len (v : VDisk) (acc : List VNode × List Int) (j : Nat) : (V.bootI v acc j).1.length = acc.1.length := by
  unfold V.bootI; split
  · exact bootN_len _ _
  · rfl
theorem nodeOk_b {c : Int} {x : VNode} (h : NodeOk c x) (hc : c ≤ 1000000000) : NodeB x := ⟨h.sure, h.patches, by have := h.len; omega⟩
theorem bootI_ok {v : VDisk} {c : Int} (hc : 0 ≤ c ∧ c ≤ 1000000000) {acc : List VNode × List Int} {j : Nat} (h : ∀ x ∈ acc.1, NodeOk c x) : ∀ x ∈ (V.bootI v acc j).1, NodeOk c x := by
  unfold V.bootI
  split
  · unfold V.bootN
    split
    · rename_i x hx
      have hb := bootX_size (ks := acc.2) (nodeOk_b (h x (List.mem_of_getElem? hx)) hc.2)
      intro y hy
      rcases List.mem_or_eq_of_mem_set hy with hy | rfl
      · exact h y hy
      · exact ⟨hb, hb, by simp, by simpa using hc.1⟩
    · exact h
  · exact h
/-- both go along -/
structure BootSim (v : VDisk) (d : RDisk) (i : Nat) (A : List VNode × List Int) (B : List RFile × List Int) : Prop where
  la : A.1.length = v.nodes.length
  lb : B.1.length = v.nodes.length
  ks : A.2 = B.2
  ok : ∀ x ∈ A.1, NodeOk d.calls x
  done : ∀ j, j < i → j < v.nodes.length → R.known d j = true → ∃ x f, A.1[j]? = some x ∧ B.1[j]? = some f ∧ x.seen = f.now ∧ x.sure = f.sure ∧ x.patches = [] ∧ f.waits = []
  todo : ∀ j, i ≤ j → A.1[j]? = v.nodes[j]? ∧ B.1[j]? = d.files[j]?
theorem bootSim {v : VDisk} {d : RDisk} (h : Sim v d) (hc : d.calls ≤ 1000000000) (ks : List Int) : ∀ i, i ≤ v.nodes.length → BootSim v d i ((List.range i).foldl (V.bootI v) (v.nodes, ks)) ((List.range i).foldl (R.bootN d) (d.files, ks))
  | 0, _ => ⟨rfl, h.nodes.1.symm, rfl, h.sizes, fun j hj => by omega, fun j _ => ⟨rfl, rfl⟩⟩
  | i + 1, hi => by
    have ih := bootSim h hc ks i (by omega)
    rw [List.range_succ, List.foldl_append, List.foldl_append]
    simp only [List.foldl_cons, List.foldl_nil]
    generalize (List.range i).foldl (V.bootI v) (v.nodes, ks) = A at *
    generalize (List.range i).foldl (R.bootN d) (d.files, ks) = B at *
    obtain ⟨h1, h2⟩ := ih.todo i (Nat.le_refl _)
    have hlt : i < v.nodes.length := by omega
    have hlt2 : i < d.files.length := by rw [← h.nodes.1]; exact hlt
    obtain ⟨x, hx⟩ : ∃ x, x = v.nodes[i] := ⟨_, rfl⟩
    obtain ⟨f, hf⟩ : ∃ f, f = d.files[i] := ⟨_, rfl⟩
    have hvx : v.nodes[i]? = some x := by rw [hx]; exact List.getElem?_eq_getElem hlt
    have hdf : d.files[i]? = some f := by rw [hf]; exact List.getElem?_eq_getElem hlt2
    have hax : A.1[i]? = some x := h1.trans hvx
    have hbf : B.1[i]? = some f := h2.trans hdf
    have hkn := kn_eq h i hlt
    have hok := bootI_ok (v := v) (j := i) ⟨h.count.2, hc⟩ ih.ok
    have hla := bootI_len v A i
    have hlb := rbootN_len d B i
    cases hk : R.known d i
    · have ea : V.bootI v A i = A := by unfold V.bootI; rw [hkn, hk]; rfl
      have eb : R.bootN d B i = (B.1.set i ⟨f.sure, f.sure, []⟩, B.2) := by unfold R.bootN; rw [hbf, hk]; rfl
      rw [ea] at hok hla ⊢
      rw [eb] at hlb ⊢
      refine ⟨ih.la, by rw [List.length_set]; exact ih.lb, ih.ks, hok, fun j hj hjn hjk => ?_, fun j hj => ?_⟩
      · have hne : i ≠ j := by rintro rfl; rw [hk] at hjk; cases hjk
        obtain ⟨x', f', g1, g2, g3⟩ := ih.done j (by omega) hjn hjk
        exact ⟨x', f', g1, by simp only; rw [List.getElem?_set_ne hne]; exact g2, g3⟩
      · have := ih.todo j (by omega)
        exact ⟨this.1, by simp only; rw [List.getElem?_set_ne (by omega)]; exact this.2⟩
    · have hsm := h.cont i x f hvx hdf (known_of h hlt hk)
      have hp : ∀ p ∈ x.patches, 0 ≤ p.place := fun p hp => ((h.sizes x (List.mem_of_getElem? hvx)).patches p hp).1
      have ea : V.bootI v A i = (A.1.set i ⟨(V.bootX x A.2).1, (V.bootX x A.2).1, [], x.fresh⟩, (V.bootX x A.2).2) := by unfold V.bootI V.bootN; rw [hkn, hk, hax]; rfl
      have eb : R.bootN d B i = (B.1.set i ⟨(R.bootX f B.2).1, (R.bootX f B.2).1, []⟩, (R.bootX f B.2).2) := by unfold R.bootN; rw [hbf, hk]; rfl
      have hX : V.bootX x A.2 = R.bootX f B.2 := by rw [← ih.ks]; exact bootX_same hsm hp _
      rw [ea] at hok hla ⊢
      rw [eb] at hlb ⊢
      refine ⟨by rw [List.length_set]; exact ih.la, by rw [List.length_set]; exact ih.lb, by simp only; rw [hX], hok, fun j hj hjn hjk => ?_, fun j hj => ?_⟩
      · by_cases hne : i = j
        · subst hne
          exact ⟨_, _, List.getElem?_set_self (by rw [ih.la]; exact hlt), List.getElem?_set_self (by rw [ih.lb]; exact hlt), by simp only; rw [hX], by simp only; rw [hX], rfl, rfl⟩
        · obtain ⟨x', f', g1, g2, g3⟩ := ih.done j (by omega) hjn hjk
          exact ⟨x', f', by simp only; rw [List.getElem?_set_ne hne]; exact g1, by simp only; rw [List.getElem?_set_ne hne]; exact g2, g3⟩
      · have := ih.todo j (by omega)
        exact ⟨by simp only; rw [List.getElem?_set_ne (by omega)]; exact this.1, by simp only; rw [List.getElem?_set_ne (by omega)]; exact this.2⟩
theorem Sim.boot {v : VDisk} {d : RDisk} (h : Sim v d) (hc : d.calls ≤ 1000000000) (turns : Int) (ks : List Int) : Sim (V.boot v turns ks) (R.boot d turns ks) := by
  have hB := bootSim h hc ks v.nodes.length (Nat.le_refl _)
  have eA : ((List.range v.nodes.length).foldl (V.bootI v) (v.nodes, ks)).1 = V.bootNs v ks := (bootNs_eq v ks).symm
  have eB : ((List.range v.nodes.length).foldl (R.bootN d) (d.files, ks)).1 = R.bootNs d ks := by rw [h.nodes.1]; rfl
  obtain ⟨la, lb, _, ok, dn, _⟩ := hB
  rw [eA] at la ok dn
  rw [eB] at lb dn
  have hnm := h.names (min turns.toNat v.moves.length) (by omega)
  have e1 : v.moves.take (min turns.toNat v.moves.length) = v.moves.take turns.toNat := by
    by_cases hle : turns.toNat ≤ v.moves.length
    · rw [Nat.min_eq_left hle]
    · rw [Nat.min_eq_right (by omega), List.take_of_length_le (Nat.le_refl _), List.take_of_length_le (by omega)]
  have e2 : d.waits.take (min turns.toNat v.moves.length) = d.waits.take turns.toNat := by
    have := h.mvl.1
    by_cases hle : turns.toNat ≤ v.moves.length
    · rw [Nat.min_eq_left hle]
    · rw [Nat.min_eq_right (by omega), List.take_of_length_le (by omega), List.take_of_length_le (by omega)]
  rw [e1, e2] at hnm
  have hc0 := h.count.2
  have hfix : (V.boot v turns ks).nodes = (V.bootNs v ks).map VNode.calm := rfl
  have hlenN : ((V.bootNs v ks).map VNode.calm).length = v.nodes.length := by rw [List.length_map, la]
  have t5 : TrapSim (-1) (-1) d.calls ∧ (-1 : Int) ≤ -1 ∧ (-1 : Int) < 9223372036854775808 ∧ (-1 : Int) ≤ -1 ∧ (-1 : Int) < 9223372036854775808 := ⟨.inl rfl, by decide, by decide, by decide, by decide⟩
  have t6 : (0 : Int) ≤ (-1 : Int) → (V.boot v turns ks).fc = (R.boot d turns ks).err := fun hh => absurd hh (by decide)
  have t7 : (([] : List MoveM).length : Int) ≤ d.calls := by simpa using hc0
  refine ⟨h.room, rfl, h.count, t5, t6, t5, ⟨?_, ?_⟩, ⟨rfl, t7⟩, rfl, rfl, ?_, ?_, (fun t ht => by cases ht), ?_, ?_⟩
  · rw [hfix, hlenN]; exact lb.symm
  · rw [hfix, hlenN]; exact h.nodes.2
  · intro i hi
    have : i = 0 := Nat.le_zero.1 hi
    subst this
    show NamesSim ((V.bootNs v ks).map VNode.calm).length _ _ ∧ _
    rw [hlenN]
    exact hnm
  · intro j x hx
    rw [hfix, List.getElem?_map, Option.map_eq_some_iff] at hx
    obtain ⟨y, _, rfl⟩ := hx
    constructor
    · intro hh; cases hh
    · rintro ⟨t, ht, _⟩; cases ht
  · intro j x f hx hf hkn
    rw [hfix, List.getElem?_map, Option.map_eq_some_iff] at hx
    obtain ⟨y, hy, rfl⟩ := hx
    have hjl : j < v.nodes.length := by rw [← la]; exact (List.getElem?_eq_some_iff.1 hy).1
    have hin : ∃ n, (n, (j : Int)) ∈ V.bootS v turns := by
      rcases hkn with ⟨n, hn⟩ | ⟨n, hn⟩ | ⟨x, hx, hfr⟩
      · exact ⟨n, hn⟩
      · exact ⟨n, hn⟩
      · rw [hfix, List.getElem?_map, Option.map_eq_some_iff] at hx
        obtain ⟨z, _, rfl⟩ := hx
        cases hfr
    obtain ⟨n, hn⟩ := hin
    have hre := (hnm.1.mem n j).1 hn
    have hrk := sure_known (d := d) turns.toNat _ hre j rfl
    obtain ⟨x', f', g1, g2, g3, g4, g5, g6⟩ := dn j hjl hjl hrk
    rw [hy] at g1
    have hf' : (R.bootNs d ks)[j]? = some f := hf
    rw [hf'] at g2
    cases g1
    cases g2
    refine ⟨g3, g4, ?_⟩
    show y.patches.map pm = f.waits
    rw [g5, g6]; rfl
  · intro x hx
    rw [hfix] at hx
    obtain ⟨y, hy, rfl⟩ := List.mem_map.1 hx
    have := ok y hy
    exact ⟨this.seen, this.sure, this.patches, this.len⟩
theorem vBoot_ok {k : Nat} {s : St} {b : Nat} {d : RDisk} {turns : Int} {keep : List Int} {slk : Sl} {K : Int → HP} (h : DV k s b d) (hd : d.down = true) (hl : Ls (tI .i64) (s.w 0) keep slk) (hkl : keep.length ≤ 1000000000) (hc : d.calls ≤ 100000000) (hko : Ko k s)
    (hK : ∀ s', Step (dk k) s s' → DV k s' b (R.boot d turns keep) → K 0 s'.H) : vdisk_Disk_Boot (some ⟨b, 0, none⟩) turns slk K s.H := by
  obtain ⟨v, ps, hv, hs⟩ := h
  have hn := hs.nodes
  have hm := hs.mvl
  have hn0 := (hs.names 0 (Nat.zero_le _)).1
  simp only [List.take_zero, List.foldl_nil] at hn0
  have hns := hs.ns.1
  refine vBootV_ok hv (by rw [hs.off]; exact hd) hl hkl (by omega) (fun x hx => nodeOk_b (hs.sizes x hx) (by omega)) (by omega) hko (fun x hx => hns.good.rng _ ((hns.mem x.1 x.2).1 hx)) (fun x hx => hn0.good.rng _ ((hn0.mem x.1 x.2).1 hx)) fun s' e v' => ?_
  exact hK s' e ⟨_, ps, v', hs.boot (by omega) turns keep⟩
end Go.Ph
end
section
set_option linter.all false
namespace Go.Ph
theorem veil_prefix : ∀ (a b t : List UInt8), veil a ++ t = veil b → ∃ c, b = a ++ c
  | [], b, t, h => ⟨b, rfl⟩
  | x :: a, [], t, h => by
    rw [veil_cons, veil_nil] at h
    have := congrArg List.length h
    have h1 := veil1_ne x
    simp at this
    exact absurd this.1 h1
  | x :: a, y :: b, t, h => by
    rw [veil_cons, veil_cons, List.append_assoc] at h
    obtain ⟨rfl, h2⟩ := veil1_inj x y _ _ h
    obtain ⟨c, rfl⟩ := veil_prefix a b t h2
    exact ⟨c, rfl⟩
theorem veil_80 (l : List UInt8) : (80 : UInt8) ∉ veil l := by
  intro h
  unfold veil at h
  obtain ⟨c, _, hc⟩ := List.mem_flatMap.1 h
  unfold veil1 at hc
  split at hc
  · simp at hc
  · split at hc
    · simp at hc
    · rename_i h1 h2
      simp at hc
      exact h1 hc.symm
theorem frameAt_inv {b : List UInt8} {i : Nat} {f : FrM} (h : frameAt b i = .ok f) : b[i]? = some 80 ∧ ∃ (all : List UInt8) (k2 : Nat), Got b i k2 all ∧ all.length = 9 + (getI (all.take 5) 1 4).toNat ∧ f.len = k2 - i := by
  unfold frameAt at h
  split at h
  · cases h
  · rename_i c hc
    have hi : i < b.length := by
      rcases Nat.lt_or_ge i b.length with h1 | h1
      · exact h1
      · rw [List.getElem?_eq_none h1] at hc; cases hc
    split at h
    · rename_i hc80
      split at h
      · cases h
      · rename_i x hx
        obtain ⟨out, k⟩ := x
        obtain ⟨g5, l5, -⟩ := Got.app (b := b) (i := i) (k := i + 1) (all := []) ⟨Nat.le_refl _, by omega, by simp [veil]⟩ hx
        unfold frame1 at h
        split at h
        · cases h
        · split at h
          · cases h
          · rename_i y hy
            obtain ⟨all, k2⟩ := y
            obtain ⟨g9, l9, t9⟩ := g5.app hy
            simp at l5
            simp only at l9
            refine ⟨by rw [hc, hc80], all, k2, g9, ?_, ?_⟩
            · rw [show all.take 5 = out by rw [← t9, l5]]
              omega
            · unfold frame2 at h
              split at h
              · cases h; rfl
              · cases h
    · cases h
theorem frameAt_cut {c : UInt8} {pay p : List UInt8} {k : Nat} (hp : pay.length ≤ 65536) (hk : k < (wrap c pay).length) {f : FrM} : frameAt (p ++ (wrap c pay).take k) p.length ≠ .ok f := by
  intro h
  obtain ⟨_, all, k2, g, hal, _⟩ := frameAt_inv h
  obtain ⟨A, hA⟩ : ∃ A, A = c :: (putB pay.length 4 ++ (putB (crc 0#32 (c :: (putB pay.length 4 ++ pay))).toNat 4 ++ pay)) := ⟨_, rfl⟩
  have hw : wrap c pay = 80 :: veil A := by rw [hA]; rfl
  rw [hw] at hk g
  have hlen := g.len
  have hle := g.le
  have hcut := g.cut
  rw [List.length_append] at hlen
  have hd : (p ++ (80 :: veil A).take k).drop (p.length + 1) = (veil A).take (k - 1) := by
    rw [List.drop_append, List.drop_eq_nil_of_le (by omega), Nat.add_sub_cancel_left, List.nil_append, List.drop_take]
    simp
  rw [hd, List.take_take] at hcut
  obtain ⟨m, hm⟩ : ∃ m, m = min (k2 - (p.length + 1)) (k - 1) := ⟨_, rfl⟩
  rw [← hm] at hcut
  obtain ⟨cc, hcc⟩ := veil_prefix all A ((veil A).drop m) (by rw [← hcut, List.take_append_drop])
  have hAl : A.length = 9 + pay.length := by rw [hA]; simp [putB_len]; omega
  have h5 : all.take 5 = A.take 5 := by
    rw [hcc, List.take_append_of_le_length (by omega)]
  have hA5 : A.take 5 = c :: putB pay.length 4 := by
    rw [hA, List.take_succ_cons, List.take_append_of_le_length (by rw [putB_len]; omega), List.take_of_length_le (by rw [putB_len]; omega)]
  have hg : getI (all.take 5) 1 4 = pay.length := by
    have e : getI (c :: putB pay.length 4) 1 4 = be (((c :: putB pay.length 4).drop 1).take 4) := getI_take (a := 1) (k := 4) (by omega) (by simp [putB_len])
    rw [h5, hA5, e]
    simp only [List.drop_succ_cons, List.drop_zero]
    rw [List.take_of_length_le (by rw [putB_len]; omega), be_putB _ _ (by omega)]
  rw [hg] at hal
  have hcl : cc = [] := by
    have := congrArg List.length hcc
    rw [List.length_append] at this
    exact List.eq_nil_of_length_eq_zero (by omega)
  rw [hcl, List.append_nil] at hcc
  rw [← hcc] at hcut
  have := congrArg List.length hcut
  rw [List.length_take] at this
  rw [List.length_cons] at hk
  have hv : (veil A).length ≤ k - 1 := by omega
  have hpos : 0 < (veil A).length := by
    rw [hA, veil_cons]
    have := veil1_ne c
    cases e : veil1 c with
    | nil => exact absurd e this
    | cons => simp
  omega
theorem scanN_no {b : List UInt8} : ∀ (n i : Nat), (∀ j f, i ≤ j → frameAt b j ≠ .ok f) → scanN b n i = []
  | 0, i, h => rfl
  | n + 1, i, h => by
    rw [scanN]
    split
    · split
      · exact scanN_no n (i + 1) fun j f hj => h j f (by omega)
      · rename_i f hf; exact absurd hf (h i f (Nat.le_refl _))
    · rfl
/-- behind whole frames one that is cut off: nothing more is found -/
theorem founds_cut (l : List RecM) (x : RecM) (k : Nat) (h : ∀ y ∈ l, Chk y) (hx : Chk x) (hk : k < (frameR x).length) : founds (framesR l ++ (frameR x).take k) = foundsR 0 l := by
  obtain ⟨m, m1, m2⟩ := scanN_frames l (framesR l ++ (frameR x).take k).length [] ((frameR x).take k) h (by rw [List.length_append]; omega)
  simp only [List.nil_append, List.length_nil, Nat.zero_add] at m2
  unfold founds frames
  rw [m2, scanN_no m _ ?_]
  · simp
  · intro j f hj hf
    have hpl := payload_len hx
    by_cases e : j = (framesR l).length
    · subst e
      exact frameAt_cut (by omega) hk hf
    · obtain ⟨h80, _⟩ := frameAt_inv hf
      rw [List.getElem?_append_right hj] at h80
      have hm := List.mem_of_getElem? h80
      have : (80 : UInt8) ∈ ((frameR x).take k).drop 1 := by
        refine List.mem_of_getElem? (i := j - (framesR l).length - 1) ?_
        rw [List.getElem?_drop, show 1 + (j - (framesR l).length - 1) = j - (framesR l).length by omega]
        exact h80
      rw [List.drop_take] at this
      have := List.mem_of_mem_take this
      unfold frameR wrap at this
      rw [List.drop_succ_cons, List.drop_zero] at this
      exact veil_80 _ this
end Go.Ph
end
section
set_option linter.all false
namespace Go.Ph
theorem low_isDig (n : Nat) : ∀ (i : Nat), ∀ c ∈ low n i, isDig c = true
  | 0, c, h => by cases h
  | i + 1, c, h => by
    unfold low at h
    rcases List.mem_cons.1 h with rfl | h
    · unfold isDig
      rw [digit_nat]
      simp; omega
    · exact low_isDig n i c h
theorem num_low (n : Nat) : ∀ i, num (low n i) = n % 10 ^ i
  | 0 => by simp [low, num, Nat.mod_one]
  | i + 1 => by
    rw [low, num_cons, num_low n i, low_len, digit_nat]
    have h1 : 48 + n / 10 ^ i % 10 - 48 = n / 10 ^ i % 10 := by omega
    rw [h1, Nat.pow_succ, Nat.mod_mul]
    rw [Nat.mul_comm, Nat.add_comm]
theorem cnameI_eq {u q : Nat} (hu : 1 ≤ u ∧ u ≤ 999) (hq : 1 ≤ q ∧ q ≤ 99999999) : cnameI u q = ba (cname u q) := by
  unfold cnameI
  rw [if_pos (by omega)]
  simp
theorem seqOf_name {u q : Nat} (hu : 1 ≤ u ∧ u ≤ 999) (hq : 1 ≤ q ∧ q ≤ 99999999) : seqOf u (cnameI u q) = q := by
  rw [cnameI_eq hu hq]
  unfold seqOf
  have hp : R.pre (ba (cname u q)) (ba (front u)) = true := by
    rw [pre_list, decide_eq_true_eq, ba_list, ba_list]
    exact ⟨low q 8, rfl⟩
  rw [if_pos hp, ba_size, cname_len, if_neg (by decide), ba_list]
  have hd : (cname u q).drop 5 = low q 8 := by
    unfold cname
    rw [← front_len u, List.drop_left]
  rw [hd]
  unfold numberOf
  rw [if_pos ⟨low_len q 8, by rw [List.all_eq_true]; exact low_isDig q 8⟩, num_low, Nat.mod_eq_of_lt (by omega)]
theorem name_inj {u i j : Nat} (hu : 1 ≤ u ∧ u ≤ 999) (hi : 1 ≤ i ∧ i ≤ 99999999) (hj : 1 ≤ j ∧ j ≤ 99999999) (h : cnameI u i = cnameI u j) : i = j := by
  have h1 := seqOf_name hu hi
  have h2 := seqOf_name hu hj
  rw [h] at h1
  omega
theorem slt_name {u i j : Nat} (hu : 1 ≤ u ∧ u ≤ 999) (hi : 1 ≤ i ∧ i ≤ 99999999) (hj : 1 ≤ j ∧ j ≤ 99999999) (h : i < j) : slt (cnameI u i) (cnameI u j) = true := by
  have h1 := seqOf_name hu hi
  have h2 := seqOf_name hu hj
  rcases slt_tri (cnameI u i) (cnameI u j) with h3 | h3 | h3
  · exact h3
  · have := name_inj hu hi hj h3; omega
  · have := seq_lt hu h3 (by omega) (by omega) (by omega) (by omega)
    omega
theorem name_size {u q : Nat} (hu : 1 ≤ u ∧ u ≤ 999) (hq : 1 ≤ q ∧ q ≤ 99999999) : (cnameI u q).size = 13 := by
  rw [cnameI_eq hu hq, ba_size, cname_len]
/-- a container's name isn't a new file's -/
theorem name_suf {u q : Nat} (hu : 1 ≤ u ∧ u ≤ 999) (hq : 1 ≤ q ∧ q ≤ 99999999) : R.suf (cnameI u q) R.dotN = false := by
  cases h : R.suf (cnameI u q) R.dotN
  · rfl
  · unfold R.suf at h
    simp only [Bool.and_eq_true, decide_eq_true_eq] at h
    obtain ⟨_, h⟩ := h
    rw [name_size hu hq] at h
    have h1 := congrArg (fun b : ByteArray => b.data.toList) h
    simp only [cnameI_eq hu hq] at h1
    have hz : R.dotN.size = 2 := rfl
    rw [hz, ByteArray.data_extract, Array.toList_extract] at h1
    have hm : (110 : UInt8) ∈ R.dotN.data.toList := by decide
    rw [← h1] at hm
    rw [ba_list] at hm
    have hm2 : (110 : UInt8) ∈ (cname u q).drop 11 := List.mem_of_mem_take (by simpa [List.extract_eq_take_drop] using hm)
    have hd : (cname u q).drop 11 = (low q 8).drop 6 := by
      unfold cname
      rw [show 11 = (front u).length + 6 by rw [front_len], ← List.drop_drop, List.drop_left]
    rw [hd] at hm2
    have := low_isDig q 8 _ (List.mem_of_mem_drop hm2)
    exact absurd this (by decide)
end Go.Ph
end
section
set_option linter.all false
namespace Go.Ph
/-- the names and what they have -/
def R.img (d : RDisk) : List (ByteArray × List UInt8) := d.now.map fun e => (e.Name, P.dat d e)
theorem boot_fold {d : RDisk} {ks : List Int} {i : Nat} {f : RFile} (hk : R.known d i = true) (hf : d.files[i]? = some f) : ∀ m, ∃ ks', ((List.range m).foldl (R.bootN d) (d.files, ks)).1[i]? = some (if i < m then ⟨(R.bootX f ks').1, (R.bootX f ks').1, []⟩ else f)
  | 0 => ⟨[], by simpa using hf⟩
  | m + 1 => by
    obtain ⟨ks', ih⟩ := boot_fold hk hf m
    rw [List.range_succ, List.foldl_append]
    simp only [List.foldl_cons, List.foldl_nil]
    generalize (List.range m).foldl (R.bootN d) (d.files, ks) = B at *
    unfold R.bootN
    by_cases e : m = i
    · subst e
      rw [if_neg (by omega)] at ih
      refine ⟨B.2, ?_⟩
      rw [ih, if_pos (by omega)]
      simp only [hk, if_true]
      exact List.getElem?_set_self (List.getElem?_eq_some_iff.1 ih).1
    · refine ⟨ks', ?_⟩
      have h1 : (if i < m + 1 then (⟨(R.bootX f ks').1, (R.bootX f ks').1, []⟩ : RFile) else f) = if i < m then ⟨(R.bootX f ks').1, (R.bootX f ks').1, []⟩ else f := by
        by_cases h : i < m
        · rw [if_pos h, if_pos (by omega)]
        · rw [if_neg h, if_neg (by omega)]
      rw [h1]
      split
      · split
        · simp only; rw [List.getElem?_set_ne e]; exact ih
        · simp only; rw [List.getElem?_set_ne e]; exact ih
      · exact ih
theorem boot_file {d : RDisk} (ks : List Int) {i : Nat} {f : RFile} (hk : R.known d i = true) (hf : d.files[i]? = some f) : ∃ ks', (R.bootNs d ks)[i]? = some ⟨(R.bootX f ks').1, (R.bootX f ks').1, []⟩ := by
  obtain ⟨ks', h⟩ := boot_fold (ks := ks) hk hf d.files.length
  rw [if_pos (List.getElem?_eq_some_iff.1 hf).1] at h
  exact ⟨ks', h⟩
theorem now_known {d : RDisk} {e : EntM} (he : e ∈ d.now) (h0 : 0 ≤ e.File) : R.known d e.File.toNat = true := by
  unfold R.known
  have : d.now.any (fun x => decide (x.File = ((e.File.toNat : Nat) : Int))) = true := List.any_eq_true.2 ⟨e, he, by simp; omega⟩
  rw [this]; rfl
/-- nothing waits -/
structure Calm (d : RDisk) : Prop where
  fail : d.fail < 0
  waits : d.waits = []
  sure : d.sure = d.now
  files : ∀ e ∈ d.now, 0 ≤ e.File ∧ ∃ f, d.files[e.File.toNat]? = some f ∧ f.sure = f.now ∧ f.waits = []
theorem Calm.boot {d : RDisk} (h : Calm d) (turns : Int) (ks : List Int) : R.img (R.boot d turns ks) = R.img d := by
  unfold R.img
  have hs : (R.boot d turns ks).now = d.now := by
    show R.bootS d turns = _
    unfold R.bootS
    rw [h.waits]; simp [h.sure]
  rw [hs]
  refine List.map_congr_left fun e he => ?_
  obtain ⟨h0, f, hf, h1, h2⟩ := h.files e he
  obtain ⟨ks', hb⟩ := boot_file ks (now_known he h0) hf
  have hx : (R.bootX f ks').1 = f.now := by unfold R.bootX; rw [h2]; exact h1
  unfold P.dat
  have : (R.boot d turns ks).files = R.bootNs d ks := rfl
  rw [this, hb, hf]
  simp only [hx]
/-- one file has an append that waits -/
structure Half (d : RDisk) (n : ByteArray) (old b : ByteArray) : Prop where
  fail : d.fail < 0
  waits : d.waits = []
  sure : d.sure = d.now
  names : ∀ e ∈ d.now, ∀ e' ∈ d.now, e.Name = e'.Name → e = e'
  files : ∀ e ∈ d.now, 0 ≤ e.File ∧ ∃ f, d.files[e.File.toNat]? = some f ∧ (e.Name ≠ n → f.sure = f.now ∧ f.waits = []) ∧ (e.Name = n → f.sure = old ∧ f.now = old ++ b ∧ f.waits = [⟨old.size, b⟩])
theorem over_end (x y : ByteArray) (k : Nat) : (R.over x x.size (y.extract 0 k)).data.toList = x.data.toList ++ y.data.toList.take k := by
  unfold R.over
  simp only [Nat.sub_self, List.replicate_zero, List.append_nil]
  have h1 := ba_len x
  rw [List.take_of_length_le (by omega), List.drop_eq_nil_of_le (by omega), List.append_nil, ext_list]
  simp
theorem bootX_one {old b nw : ByteArray} (ks : List Int) : ∃ k, k ≤ b.size ∧ (R.bootX ⟨nw, old, [⟨old.size, b⟩]⟩ ks).1.data.toList = old.data.toList ++ b.data.toList.take k := by
  unfold R.bootX R.bootP
  simp only [List.foldl_cons, List.foldl_nil]
  have hk := kept_le ks b.size
  by_cases h : V.kept ks b.size = 0
  · rw [if_pos h]; exact ⟨0, Nat.zero_le _, by simp⟩
  · rw [if_neg h]
    exact ⟨V.kept ks b.size, hk, by simp only [Int.toNat_natCast]; exact over_end _ _ _⟩
/-- what the disk before it holds, with the bytes of one name turned -/
def R.turnImg (l : List (ByteArray × List UInt8)) (n : ByteArray) (b : List UInt8) : List (ByteArray × List UInt8) := l.map fun x => if x.1 = n then (n, b) else x
theorem Half.boot {d : RDisk} {n old b : ByteArray} (h : Half d n old b) (turns : Int) (ks : List Int) : ∃ k, k ≤ b.size ∧ R.img (R.boot d turns ks) = R.turnImg (R.img d) n (old.data.toList ++ b.data.toList.take k) := by
  have hs : (R.boot d turns ks).now = d.now := by
    show R.bootS d turns = _
    unfold R.bootS
    rw [h.waits]; simp [h.sure]
  have hfb : (R.boot d turns ks).files = R.bootNs d ks := rfl
  have other : ∀ e ∈ d.now, e.Name ≠ n → P.dat (R.boot d turns ks) e = P.dat d e := fun e he hne => by
    obtain ⟨h0, f, hf, h1, _⟩ := h.files e he
    obtain ⟨h1, h2⟩ := h1 hne
    obtain ⟨ks', hb⟩ := boot_file ks (now_known he h0) hf
    have hx : (R.bootX f ks').1 = f.now := by unfold R.bootX; rw [h2]; exact h1
    unfold P.dat
    rw [hfb, hb, hf]
    simp only [hx]
  by_cases hex : ∃ e ∈ d.now, e.Name = n
  · obtain ⟨e, he, hen⟩ := hex
    obtain ⟨h0, f, hf, _, h1⟩ := h.files e he
    obtain ⟨h1, h2, h3⟩ := h1 hen
    obtain ⟨ks', hb⟩ := boot_file ks (now_known he h0) hf
    have hfe : f = ⟨f.now, old, [⟨old.size, b⟩]⟩ := by cases f; simp only at h1 h3; subst h1; subst h3; rfl
    obtain ⟨k, hk, hx⟩ := bootX_one (old := old) (b := b) (nw := f.now) ks'
    rw [← hfe] at hx
    refine ⟨k, hk, ?_⟩
    unfold R.img R.turnImg
    rw [hs, List.map_map]
    refine List.map_congr_left fun e' he' => ?_
    simp only [Function.comp]
    by_cases hn' : e'.Name = n
    · rw [if_pos hn']
      have hd : P.dat (R.boot d turns ks) e' = old.data.toList ++ b.data.toList.take k := by
        have : e' = e := h.names e' he' e he (hn'.trans hen.symm)
        subst this
        unfold P.dat
        rw [hfb, hb]
        exact hx
      rw [hd, hn']
    · rw [if_neg hn', other e' he' hn']
  · refine ⟨0, Nat.zero_le _, ?_⟩
    unfold R.img R.turnImg
    rw [hs, List.map_map]
    refine List.map_congr_left fun e' he' => ?_
    have hne : e'.Name ≠ n := fun h => hex ⟨e', he', h⟩
    simp only [Function.comp]
    rw [if_neg hne, other e' he' hne]
end Go.Ph
end
section
set_option linter.all false
namespace Go.Ph
abbrev Img := ByteArray → Option (List UInt8)
def upd (m : Img) (n : ByteArray) (v : Option (List UInt8)) : Img := fun x => if x = n then v else m x
def imgOf (l : List EntM) (c : Nat → List UInt8) : Img := fun n => if R.find l n < 0 then none else some (c (R.find l n).toNat)
def imgDo (c : Nat → List UInt8) (m : Img) (t : TurnM) : Img :=
  if t.File < 0 then (match m t.From with
    | none => m
    | some b => if t.To = ⟨#[]⟩ then upd m t.From none else upd (upd m t.From none) t.To (some b))
  else if t.To = ⟨#[]⟩ then m else upd m t.To (some (c t.File.toNat))
theorem upd_same {m : Img} {n : ByteArray} {v : Option (List UInt8)} (h : m n = v) : upd m n v = m := by
  funext x; unfold upd; split
  · rename_i e; rw [e, h]
  · rfl
theorem upd_at (m : Img) (n : ByteArray) (v : Option (List UInt8)) : upd m n v n = v := by unfold upd; rw [if_pos rfl]
theorem upd_ne (m : Img) {n x : ByteArray} (v : Option (List UInt8)) (h : x ≠ n) : upd m n v x = m x := by unfold upd; rw [if_neg h]
theorem find_cases (l : List EntM) (n : ByteArray) : (R.find l n = -1 ∧ ∀ e ∈ l, e.Name ≠ n) ∨ ∃ e ∈ l, e.Name = n ∧ R.find l n = e.File := by
  unfold R.find
  cases h : l.find? (fun e => decide (e.Name = n)) with
  | none =>
    refine .inl ⟨rfl, fun e he => ?_⟩
    have := List.find?_eq_none.1 h e he
    simpa using this
  | some e =>
    refine .inr ⟨e, List.mem_of_find?_eq_some h, ?_, rfl⟩
    have := List.find?_some h
    simpa using this
theorem find_without (l : List EntM) (a n : ByteArray) : R.find (R.without l a) n = if n = a then -1 else R.find l n := by
  unfold R.find R.without
  rw [List.find?_filter]
  by_cases h : n = a
  · subst h
    rw [if_pos rfl]
    have : l.find? (fun e => decide (¬(!decide (e.Name = n)) = false ∧ decide (e.Name = n) = true)) = none := by
      rw [List.find?_eq_none]; intro x _; simp
    simp at this ⊢
    split
    · rename_i e he
      have := List.find?_some he
      simp at this
    · rfl
  · rw [if_neg h]
    congr 1
    congr 1
    funext e
    by_cases h2 : e.Name = n
    · have : e.Name ≠ a := fun h3 => h (h2.symm.trans h3)
      simp [h2, h]
    · simp [h2]
theorem find_put (l : List EntM) (x : EntM) (n : ByteArray) : R.find (R.put l x) n = if n = x.Name then x.File else R.find l n := by
  have hw := find_without l x.Name n
  by_cases h : n = x.Name
  · rw [if_pos h]
    subst h
    have hnw : ∀ e ∈ R.without l x.Name, e.Name ≠ x.Name := fun e he => (mem_without.1 he).2
    unfold R.put R.find
    rw [List.append_assoc, List.find?_append, List.find?_append]
    have h1 : ((R.without l x.Name).take (R.insAt (R.without l x.Name) x.Name (R.without l x.Name).length)).find? (fun e => decide (e.Name = x.Name)) = none := by
      rw [List.find?_eq_none]; intro e he; simpa using hnw e (List.mem_of_mem_take he)
    rw [h1]
    simp
  · rw [if_neg h] at hw ⊢
    rw [← hw]
    unfold R.put R.find
    rw [List.append_assoc, List.find?_append, List.find?_append]
    have h1 : [x].find? (fun e => decide (e.Name = n)) = none := by
      rw [List.find?_eq_none]; intro e he; simp at he; subst he; simpa using fun h2 => h h2.symm
    rw [h1, Option.none_or, ← List.find?_append, List.take_append_drop]
theorem imgOf_do (l : List EntM) (c : Nat → List UInt8) (t : TurnM) : imgOf (R.do_ l t) c = imgDo c (imgOf l c) t := by
  unfold R.do_ imgDo
  by_cases h0 : t.File < 0
  · rw [if_pos h0, if_pos h0]
    by_cases h1 : R.find l t.From < 0
    · have : imgOf l c t.From = none := by unfold imgOf; rw [if_pos h1]
      rw [if_pos h1, this]
    · have : imgOf l c t.From = some (c (R.find l t.From).toNat) := by unfold imgOf; rw [if_neg h1]
      rw [if_neg h1, this]
      simp only
      by_cases h2 : t.To = ⟨#[]⟩
      · rw [if_pos h2, if_pos h2]
        funext n
        unfold imgOf upd
        rw [find_without]
        by_cases h3 : n = t.From
        · rw [if_pos h3, if_pos h3]; rfl
        · rw [if_neg h3, if_neg h3]
      · rw [if_neg h2, if_neg h2]
        funext n
        unfold imgOf upd
        rw [find_put, find_without]
        by_cases h3 : n = t.To
        · rw [if_pos h3, if_pos h3, if_neg h1]
        · rw [if_neg h3, if_neg h3]
          by_cases h4 : n = t.From
          · rw [if_pos h4, if_pos h4]; rfl
          · rw [if_neg h4, if_neg h4]
  · rw [if_neg h0, if_neg h0]
    by_cases h2 : t.To = ⟨#[]⟩
    · rw [if_pos h2, if_pos h2]
    · rw [if_neg h2, if_neg h2]
      funext n
      unfold imgOf upd
      rw [find_put]
      by_cases h3 : n = t.To
      · rw [if_pos h3, if_pos h3, if_neg h0]
      · rw [if_neg h3, if_neg h3]
theorem imgOf_dos (c : Nat → List UInt8) : ∀ (W : List TurnM) (l : List EntM), imgOf (W.foldl R.do_ l) c = W.foldl (imgDo c) (imgOf l c)
  | [], l => rfl
  | t :: W, l => by rw [List.foldl_cons, List.foldl_cons, imgOf_dos c W, imgOf_do]
def cdat (d : RDisk) (i : Nat) : List UInt8 := match d.files[i]? with | some f => f.now.data.toList | none => []
/-- nothing waits: the disk holds an image -/
structure Steady (d : RDisk) (m : Img) : Prop where
  good : Good d.files.length d.now
  fail : d.fail < 0
  waits : d.waits = []
  sure : d.sure = d.now
  calm : ∀ e ∈ d.now, ∃ f, d.files[e.File.toNat]? = some f ∧ f.sure = f.now ∧ f.waits = []
  img : imgOf d.now (cdat d) = m
/-- what each file may hold behind a Boot -/
def Choice (d : RDisk) (c : Nat → List UInt8) : Prop := ∀ i f, d.files[i]? = some f → ∃ ks, c i = (R.bootX f ks).1.data.toList
/-- all names that may be behind a Boot are good -/
def GoodW (d : RDisk) : Prop := ∀ j, Good d.files.length ((d.waits.take j).foldl R.do_ d.sure)
theorem imgOf_congr {l : List EntM} {c c' : Nat → List UInt8} (h : ∀ e ∈ l, c e.File.toNat = c' e.File.toNat) : imgOf l c = imgOf l c' := by
  funext n
  unfold imgOf
  rcases find_cases l n with ⟨h1, _⟩ | ⟨e, he, _, h1⟩
  · rw [h1]; rfl
  · rw [h1, h e he]
open Classical in
theorem boot_steady {d : RDisk} (hg : GoodW d) (turns : Int) (ks : List Int) : ∃ c j, Choice d c ∧ Steady (R.boot d turns ks) ((d.waits.take j).foldl (imgDo c) (imgOf d.sure c)) := by
  have hlen : (R.bootNs d ks).length = d.files.length := by
    unfold R.bootNs
    suffices ∀ (l : List Nat) (acc : List RFile × List Int), (l.foldl (R.bootN d) acc).1.length = acc.1.length from this _ _
    intro l
    induction l with
    | nil => intro acc; rfl
    | cons j l ih => intro acc; rw [List.foldl_cons, ih, rbootN_len]
  have hk : ∀ e ∈ R.bootS d turns, R.known d e.File.toNat = true := fun e he => sure_known _ e he e.File.toNat (by have := (hg turns.toNat).rng e he; omega)
  have hgo := hg turns.toNat
  obtain ⟨c, hc⟩ : ∃ c : Nat → List UInt8, c = fun i => if R.known d i = true then (match (R.bootNs d ks)[i]? with | some f => f.now.data.toList | none => []) else (match d.files[i]? with | some f => (R.bootX f []).1.data.toList | none => []) := ⟨_, rfl⟩
  refine ⟨c, turns.toNat, ?_, ?_⟩
  · intro i f hf
    rw [hc]
    simp only
    by_cases h : R.known d i = true
    · rw [if_pos h]
      obtain ⟨ks', hb⟩ := boot_file ks h hf
      exact ⟨ks', by rw [hb]⟩
    · rw [if_neg h, hf]
      exact ⟨[], rfl⟩
  · rw [← imgOf_dos]
    refine ⟨?_, ?_, rfl, rfl, ?_, ?_⟩
    · show Good (R.bootNs d ks).length (R.bootS d turns)
      rw [hlen]; exact hgo
    · show (-1 : Int) < 0
      decide
    · intro e he
      have hr := hgo.rng e he
      obtain ⟨ks', hb⟩ := boot_file ks (hk e he) (List.getElem?_eq_getElem (l := d.files) (i := e.File.toNat) (by omega))
      exact ⟨_, hb, rfl, rfl⟩
    · refine imgOf_congr fun e he => ?_
      rw [hc]
      simp only
      rw [if_pos (hk e he)]
      rfl
/-- the power is gone; what may be there behind a Boot -/
structure Fate (d : RDisk) (O : Img → Prop) : Prop where
  down : d.down = true
  boot : ∀ turns ks, ∃ m, O m ∧ Steady (R.boot d turns ks) m
theorem Fate.imp {d : RDisk} {O O' : Img → Prop} (h : Fate d O) (hi : ∀ m, O m → O' m) : Fate d O' :=
  ⟨h.down, fun t k => by obtain ⟨m, h1, h2⟩ := h.boot t k; exact ⟨m, hi m h1, h2⟩⟩
theorem Fate.mk' {d : RDisk} {O : Img → Prop} (hd : d.down = true) (hg : GoodW d) (h : ∀ c j, Choice d c → O ((d.waits.take j).foldl (imgDo c) (imgOf d.sure c))) : Fate d O :=
  ⟨hd, fun t k => by obtain ⟨c, j, h1, h2⟩ := boot_steady hg t k; exact ⟨_, h c j h1, h2⟩⟩
/-- all but the counts is the same -/
structure SameD (d d' : RDisk) : Prop where
  files : d'.files = d.files
  now : d'.now = d.now
  sure : d'.sure = d.sure
  waits : d'.waits = d.waits
  cap : d'.cap = d.cap
  fail : d.fail < 0 → d'.fail < 0
theorem begin_cases {d : RDisk} (hd : d.down = false) (hf : d.fail < 0) : SameD d (R.begin d).1 ∧ (((R.begin d).2 = 11 ∧ (R.begin d).1.down = true) ∨ ((R.begin d).2 = 0 ∧ (R.begin d).1.down = false)) := by
  unfold R.begin
  rw [if_neg (by simp [hd])]
  simp only
  have h1 : ¬(0 ≤ d.fail) := by omega
  by_cases h : d.crash = 0
  · rw [if_pos h, if_neg h1]
    exact ⟨⟨rfl, rfl, rfl, rfl, rfl, fun h => h⟩, .inl ⟨rfl, rfl⟩⟩
  · rw [if_neg h, if_neg (by omega), if_neg h1]
    exact ⟨⟨rfl, rfl, rfl, rfl, rfl, fun h => h⟩, .inr ⟨rfl, hd⟩⟩
theorem SameD.cdat {d d' : RDisk} (h : SameD d d') : cdat d' = cdat d := by funext i; unfold Go.Ph.cdat; rw [h.files]
theorem SameD.steady {d d' : RDisk} {m : Img} (h : SameD d d') (hs : Steady d m) : Steady d' m :=
  ⟨by rw [h.files, h.now]; exact hs.good, h.fail hs.fail, by rw [h.waits]; exact hs.waits, by rw [h.sure, h.now]; exact hs.sure, by rw [h.files, h.now]; exact hs.calm, by rw [h.now, h.cdat]; exact hs.img⟩
theorem SameD.goodW {d d' : RDisk} (h : SameD d d') (hg : GoodW d) : GoodW d' := fun j => by rw [h.files, h.waits, h.sure]; exact hg j
theorem SameD.choice {d d' : RDisk} {c : Nat → List UInt8} (h : SameD d d') (hc : Choice d' c) : Choice d c := fun i f hf => hc i f (by rw [h.files]; exact hf)
theorem bootX_calm {f : RFile} (h1 : f.sure = f.now) (h2 : f.waits = []) (ks : List Int) : (R.bootX f ks).1 = f.now := by
  unfold R.bootX; rw [h2]; exact h1
theorem Steady.goodW {d : RDisk} {m : Img} (h : Steady d m) : GoodW d := fun j => by rw [h.waits, h.sure]; simpa using h.good
theorem Steady.choice {d : RDisk} {m : Img} (h : Steady d m) {c : Nat → List UInt8} (hc : Choice d c) : ∀ e ∈ d.now, c e.File.toNat = cdat d e.File.toNat := fun e he => by
  obtain ⟨f, hf, h1, h2⟩ := h.calm e he
  obtain ⟨ks, hk⟩ := hc _ f hf
  rw [hk, bootX_calm h1 h2]
  unfold cdat
  rw [hf]
/-- a steady disk whose power goes -/
theorem Steady.fate {d : RDisk} {m : Img} (h : Steady d m) (hd : d.down = true) : Fate d (fun m' => m' = m) :=
  Fate.mk' hd h.goodW fun c j hc => by
    rw [h.waits, List.take_nil, List.foldl_nil, h.sure, imgOf_congr (h.choice hc)]
    exact h.img
/-- the file of a name -/
theorem Steady.file {d : RDisk} {m : Img} (h : Steady d m) {n : ByteArray} {b : List UInt8} (hn : m n = some b) : ∃ i f, R.find d.now n = ((i : Nat) : Int) ∧ d.files[i]? = some f ∧ f.now.data.toList = b ∧ f.sure = f.now ∧ f.waits = [] ∧ (⟨n, i⟩ : EntM) ∈ d.now := by
  rw [← h.img] at hn
  unfold imgOf at hn
  rcases find_cases d.now n with ⟨h1, _⟩ | ⟨e, he, hen, h1⟩
  · rw [h1] at hn; simp at hn
  · have hr := h.good.rng e he
    rw [h1, if_neg (by omega)] at hn
    obtain ⟨f, hf, h2, h3⟩ := h.calm e he
    have := Option.some.inj hn
    unfold cdat at this
    rw [hf] at this
    refine ⟨e.File.toNat, f, by omega, hf, this, h2, h3, ?_⟩
    rw [Int.toNat_of_nonneg hr.1, ← hen]
    exact he
theorem Steady.none {d : RDisk} {m : Img} (h : Steady d m) {n : ByteArray} : m n = none ↔ R.find d.now n < 0 := by
  rw [← h.img]
  unfold imgOf
  split
  · rename_i h1; exact ⟨fun _ => h1, fun _ => rfl⟩
  · rename_i h1; exact ⟨fun h2 => by (cases h2), fun h2 => absurd h2 h1⟩
end Go.Ph
end
section
set_option linter.all false
namespace Go.Ph
theorem begin_off {d : RDisk} (hd : d.down = true) : R.begin d = (d, 11) := by unfold R.begin; rw [if_pos hd]
/-- room for bytes and for files -/
structure Rm (d : RDisk) (s : Int) (k : Nat) : Prop where
  free : s ≤ R.free d
  files : d.now.length + k ≤ 1024
theorem SameD.fsz {d d' : RDisk} (h : SameD d d') : R.fsz d' = R.fsz d := by funext e; unfold R.fsz; rw [h.files]
theorem SameD.free {d d' : RDisk} (h : SameD d d') : R.free d' = R.free d := by unfold R.free; rw [h.cap, h.now, h.fsz]
theorem SameD.rm {d d' : RDisk} {s : Int} {k : Nat} (h : SameD d d') (hr : Rm d s k) : Rm d' s k := ⟨by rw [h.free]; exact hr.free, by rw [h.now]; exact hr.files⟩
theorem Rm.le {d : RDisk} {s s' : Int} {k k' : Nat} (h : Rm d s k) (hs : s' ≤ s) (hk : k' ≤ k) : Rm d s' k' := ⟨by have := h.free; omega, by have := h.files; omega⟩
theorem fsz_nn (d : RDisk) (e : EntM) : 0 ≤ R.fsz d e := by unfold R.fsz; split <;> omega
theorem sum_sub (d : RDisk) (p : EntM → Bool) : ∀ (l : List EntM), ((l.filter p).map (R.fsz d)).sum ≤ (l.map (R.fsz d)).sum
  | [] => by simp
  | e :: l => by
    have h1 := sum_sub d p l
    have h2 := fsz_nn d e
    rw [List.filter_cons]
    split
    · simp; omega
    · simp; omega
theorem sum_put (d : RDisk) (l : List EntM) (x : EntM) : ((R.put l x).map (R.fsz d)).sum ≤ R.fsz d x + (l.map (R.fsz d)).sum := by
  rw [perm_sum ((put_perm l x).map _)]
  have := sum_sub d (fun e => !decide (e.Name = x.Name)) l
  simp only [List.map_cons, List.sum_cons]
  unfold R.without
  omega
theorem sum_bump {d d' : RDisk} {i : Nat} {z : Int} (hz : 0 ≤ z) (h : ∀ e : EntM, R.fsz d' e = if e.File.toNat = i then R.fsz d e + z else R.fsz d e) : ∀ (l : List EntM), (l.map (·.File)).Nodup → (∀ e ∈ l, 0 ≤ e.File) → (l.map (R.fsz d')).sum ≤ (l.map (R.fsz d)).sum + z
  | [], _, _ => by simp; exact hz
  | e :: l, hn, hp => by
    rw [List.map_cons, List.nodup_cons] at hn
    simp only [List.map_cons, List.sum_cons]
    have h0 := hp e (by simp)
    by_cases hi : e.File.toNat = i
    · have : l.map (R.fsz d') = l.map (R.fsz d) := List.map_congr_left fun x hx => by
        rw [h, if_neg ?_]
        intro hxi
        have := hp x (by simp [hx])
        have hxe : x.File = e.File := by omega
        exact hn.1 (by rw [← hxe]; exact List.mem_map_of_mem hx)
      rw [this, h, if_pos hi]; omega
    · have := sum_bump hz h l hn.2 fun x hx => hp x (by simp [hx])
      rw [h, if_neg hi]; omega
theorem Good.more {N N' : Nat} {l : List EntM} (h : Good N l) (hN : N ≤ N') : Good N' l := ⟨h.sorted, h.files, fun e he => by have := h.rng e he; omega⟩
theorem Good.file_inj {N : Nat} {l : List EntM} (h : Good N l) {x y : EntM} (hx : x ∈ l) (hy : y ∈ l) (he : x.File = y.File) : x = y := by
  have := h.files
  induction l with
  | nil => cases hx
  | cons z l ih =>
    rw [List.map_cons, List.nodup_cons] at this
    have hg : Good N l := ⟨(List.pairwise_cons.1 h.sorted).2, this.2, fun e he => h.rng e (by simp [he])⟩
    rcases List.mem_cons.1 hx with rfl | hx' <;> rcases List.mem_cons.1 hy with rfl | hy'
    · rfl
    · exact absurd (he ▸ List.mem_map_of_mem (f := (·.File)) hy') this.1
    · exact absurd (he ▸ List.mem_map_of_mem (f := (·.File)) hx') this.1
    · exact ih hg hx' hy' this.2
theorem Good.do {N : Nat} {l : List EntM} (h : Good N l) (t : TurnM) (hN : t.File < N) (hf : 0 ≤ t.File → ∀ e ∈ l, e.Name ≠ t.To → e.File ≠ t.File) : Good N (R.do_ l t) := by
  unfold R.do_
  split
  · split
    · exact h
    · rename_i h1
      split
      · exact h.without _
      · rcases find_cases l t.From with ⟨h2, _⟩ | ⟨e, he, hen, h2⟩
        · rw [h2] at h1; exact absurd (by decide) h1
        · refine (h.without _).put _ ?_ ?_
          · simp only; rw [h2]; exact h.rng e he
          · intro e' he' _ hff
            simp only at hff
            rw [h2] at hff
            have h3 := mem_without.1 he'
            have := h.file_inj h3.1 he hff
            exact h3.2 (by rw [this, hen])
  · rename_i h0
    split
    · exact h
    · exact h.put _ ⟨by simp only; omega, by simp only; omega⟩ fun e he hne => hf (by omega) e he hne
theorem do_len (l : List EntM) (t : TurnM) : (R.do_ l t).length ≤ l.length + 1 := by
  have hw : ∀ (l : List EntM) n, (R.without l n).length ≤ l.length := fun l n => List.length_filter_le _ _
  have hp : ∀ (l : List EntM) x, (R.put l x).length ≤ l.length + 1 := fun l x => by rw [(put_perm l x).length_eq, List.length_cons]; have := hw l x.Name; omega
  unfold R.do_
  split
  · split
    · omega
    · split
      · have := hw l t.From; omega
      · have := hw l t.From; have := hp (R.without l t.From) ⟨t.To, R.find l t.From⟩; omega
  · split
    · omega
    · exact hp l _
/-! bytes behind a file's that is there -/
structure Half2 (d : RDisk) (m : Img) (n : ByteArray) (old b : List UInt8) : Prop where
  good : Good d.files.length d.now
  fail : d.fail < 0
  waits : d.waits = []
  sure : d.sure = d.now
  calm : ∀ e ∈ d.now, e.Name ≠ n → ∃ f, d.files[e.File.toNat]? = some f ∧ f.sure = f.now ∧ f.waits = []
  file : ∃ i o w, R.find d.now n = ((i : Nat) : Int) ∧ (⟨n, i⟩ : EntM) ∈ d.now ∧ d.files[i]? = some ⟨w, o, [⟨o.size, ⟨b.toArray⟩⟩]⟩ ∧ o.data.toList = old ∧ w.data.toList = old ++ b
  img : imgOf d.now (cdat d) = upd m n (some (old ++ b))
theorem SameD.half {d d' : RDisk} {m : Img} {n : ByteArray} {old b : List UInt8} (h : SameD d d') (hs : Half2 d m n old b) : Half2 d' m n old b :=
  ⟨by rw [h.files, h.now]; exact hs.good, h.fail hs.fail, by rw [h.waits]; exact hs.waits, by rw [h.sure, h.now]; exact hs.sure, by rw [h.files, h.now]; exact hs.calm, by rw [h.files, h.now]; exact hs.file, by rw [h.now, h.cdat]; exact hs.img⟩
theorem Half2.fate {d : RDisk} {m : Img} {n : ByteArray} {old b : List UInt8} (h : Half2 d m n old b) (hd : d.down = true) : Fate d (fun m' => ∃ k, m' = upd m n (some (old ++ b.take k))) := by
  refine Fate.mk' hd (fun j => by rw [h.waits, h.sure]; simpa using h.good) fun c j hc => ?_
  rw [h.waits, List.take_nil, List.foldl_nil, h.sure]
  obtain ⟨i, o, w, hfi, hm, hf, ho, hw⟩ := h.file
  obtain ⟨ks, hk⟩ := hc i _ hf
  obtain ⟨k, _, hk2⟩ := bootX_one (old := o) (b := ⟨b.toArray⟩) (nw := w) ks
  refine ⟨k, ?_⟩
  funext x
  have hix := congrFun h.img x
  by_cases hx : x = n
  · subst hx
    rw [upd_at]
    unfold imgOf
    rw [hfi, if_neg (by omega), Int.toNat_natCast, hk, hk2, ho]
  · rw [upd_ne _ _ hx] at hix ⊢
    rw [← hix]
    unfold imgOf
    rcases find_cases d.now x with ⟨h1, _⟩ | ⟨e, he, hen, h1⟩
    · rw [h1]; rfl
    · rw [h1]
      obtain ⟨f, g1, g2, g3⟩ := h.calm e he (by rw [hen]; exact hx)
      obtain ⟨ks', hk'⟩ := hc _ f g1
      rw [hk', bootX_calm g2 g3]
      unfold cdat
      rw [g1]
theorem append_mid {d : RDisk} {m : Img} {n : ByteArray} {old b : List UInt8} {s : Int} {k : Nat} (h : Steady d m) (hd : d.down = false) (hn : m n = some old) (hr : Rm d s k) (hb : b.length ≤ s) :
    ((R.append d n ⟨b.toArray⟩).2 = 11 ∧ Fate (R.append d n ⟨b.toArray⟩).1 (fun m' => m' = m)) ∨ ((R.append d n ⟨b.toArray⟩).2 = 0 ∧ (R.append d n ⟨b.toArray⟩).1.down = false ∧ Half2 (R.append d n ⟨b.toArray⟩).1 m n old b ∧ Rm (R.append d n ⟨b.toArray⟩).1 (s - b.length) k) := by
  obtain ⟨sd, hc⟩ := begin_cases hd h.fail
  have h1 := sd.steady h
  unfold R.append
  rcases hc with ⟨hc, hdn⟩ | ⟨hc, hup⟩
  · rw [if_pos (by rw [hc]; decide)]
    exact .inl ⟨hc, h1.fate hdn⟩
  · rw [if_neg (by rw [hc]; decide)]
    obtain ⟨i, f, hfi, hf, hfd, hs, hw, hm⟩ := h1.file hn
    have r1 := sd.rm hr
    generalize (R.begin d).1 = d1 at *
    rw [hfi, if_neg (by omega), Int.toNat_natCast, hf]
    simp only
    have hbs : (⟨b.toArray⟩ : ByteArray).size = b.length := by simp [ByteArray.size]
    rw [if_neg (by have := r1.free; omega)]
    refine .inr ⟨rfl, hup, ⟨?_, h1.fail, h1.waits, h1.sure, ?_, ⟨i, f.sure, f.now ++ ⟨b.toArray⟩, hfi, hm, ?_, ?_, ?_⟩, ?_⟩, ⟨?_, r1.files⟩⟩
    · show Good (d1.files.set i _).length d1.now
      rw [List.length_set]; exact h1.good
    · intro e he hne
      obtain ⟨g, g1, g2, g3⟩ := h1.calm e he
      refine ⟨g, ?_, g2, g3⟩
      show (d1.files.set i _)[e.File.toNat]? = some g
      rw [List.getElem?_set_ne ?_]
      · exact g1
      · intro hi
        have hr := h1.good.rng e he
        have := h1.good.file_inj he hm (by simp only; omega)
        exact hne (by rw [this])
    · show (d1.files.set i _)[i]? = _
      rw [List.getElem?_set_self (List.getElem?_eq_some_iff.1 hf).1, hw, hs]
      rfl
    · rw [hs, hfd]
    · simp [hfd]
    · funext x
      have hix := congrFun h1.img x
      show imgOf d1.now (cdat (R.putF d1 i _)) x = _
      have hcd : ∀ j, cdat (R.putF d1 i ⟨f.now ++ ⟨b.toArray⟩, f.sure, f.waits ++ [⟨f.now.size, ⟨b.toArray⟩⟩]⟩) j = if j = i then old ++ b else cdat d1 j := fun j => by
        unfold cdat R.putF
        simp only
        by_cases hj : j = i
        · subst hj
          rw [if_pos rfl, List.getElem?_set_self (List.getElem?_eq_some_iff.1 hf).1]
          simp [hfd]
        · rw [if_neg hj, List.getElem?_set_ne (fun h => hj h.symm)]
      by_cases hx : x = n
      · subst hx
        rw [upd_at]
        unfold imgOf
        rw [hfi, if_neg (by omega), Int.toNat_natCast, hcd, if_pos rfl]
      · rw [upd_ne _ _ hx, ← hix]
        unfold imgOf
        rcases find_cases d1.now x with ⟨g1, _⟩ | ⟨e, he, hen, g1⟩
        · rw [g1]; rfl
        · have hr := h1.good.rng e he
          rw [g1, if_neg (by omega), if_neg (by omega), hcd, if_neg ?_]
          intro hi
          have := h1.good.file_inj he hm (by simp only; omega)
          exact hx (by rw [← hen, this])
    · show s - b.length ≤ d1.cap - (d1.now.map (R.fsz (R.putF d1 i _))).sum
      have := sum_bump (d := d1) (d' := R.putF d1 i ⟨f.now ++ ⟨b.toArray⟩, f.sure, f.waits ++ [⟨f.now.size, ⟨b.toArray⟩⟩]⟩) (i := i) (z := b.length) (by omega) (fun e => by
        unfold R.fsz R.putF
        simp only
        by_cases hi : e.File.toNat = i
        · rw [hi, if_pos rfl, List.getElem?_set_self (List.getElem?_eq_some_iff.1 hf).1, hf]
          simp only [ByteArray.size_append, hbs]
          omega
        · rw [if_neg hi, List.getElem?_set_ne (fun h => hi h.symm)]) d1.now h1.good.files (fun e he => (h1.good.rng e he).1)
      have hfr := r1.free
      unfold R.free at hfr
      omega
theorem sync_half {d : RDisk} {m : Img} {n : ByteArray} {old b : List UInt8} {s : Int} {k : Nat} (h : Half2 d m n old b) (hd : d.down = false) (hr : Rm d s k) :
    ((R.sync d n).2 = 11 ∧ Fate (R.sync d n).1 (fun m' => ∃ k, m' = upd m n (some (old ++ b.take k)))) ∨ ((R.sync d n).2 = 0 ∧ (R.sync d n).1.down = false ∧ Steady (R.sync d n).1 (upd m n (some (old ++ b))) ∧ Rm (R.sync d n).1 s k) := by
  obtain ⟨sd, hc⟩ := begin_cases hd h.fail
  have h1 := sd.half h
  unfold R.sync
  rcases hc with ⟨hc, hdn⟩ | ⟨hc, hup⟩
  · rw [if_pos (by rw [hc]; decide)]
    exact .inl ⟨hc, h1.fate hdn⟩
  · rw [if_neg (by rw [hc]; decide)]
    have r1 := sd.rm hr
    generalize (R.begin d).1 = d1 at *
    obtain ⟨i, o, w, hfi, hm, hf, ho, hw⟩ := h1.file
    rw [hfi, if_neg (by omega), Int.toNat_natCast, hf]
    simp only
    have hgz : ∀ e, R.fsz (R.putF d1 i ⟨w, w, []⟩) e = R.fsz d1 e := fun e => by
      unfold R.fsz R.putF
      simp only
      by_cases hi : e.File.toNat = i
      · rw [hi, List.getElem?_set_self (List.getElem?_eq_some_iff.1 hf).1, hf]
      · rw [List.getElem?_set_ne (fun h => hi h.symm)]
    refine .inr ⟨trivial, hup, ⟨?_, h1.fail, h1.waits, h1.sure, ?_, ?_⟩, ?_, r1.files⟩
    · show Good (d1.files.set i _).length d1.now
      rw [List.length_set]; exact h1.good
    · intro e he
      show ∃ g, (d1.files.set i _)[e.File.toNat]? = some g ∧ _
      by_cases hi : e.File.toNat = i
      · exact ⟨⟨w, w, []⟩, by rw [hi, List.getElem?_set_self (List.getElem?_eq_some_iff.1 hf).1], rfl, rfl⟩
      · rw [List.getElem?_set_ne (fun h => hi h.symm)]
        refine h1.calm e he fun hen => hi ?_
        have := h1.good.inj he hm hen
        rw [this]; simp
    · rw [← h1.img]
      refine imgOf_congr fun e _ => ?_
      unfold cdat R.putF
      simp only
      by_cases hi : e.File.toNat = i
      · rw [hi, List.getElem?_set_self (List.getElem?_eq_some_iff.1 hf).1, hf]
      · rw [List.getElem?_set_ne (fun h => hi h.symm)]
    · show s ≤ d1.cap - (d1.now.map (R.fsz (R.putF d1 i _))).sum
      have : d1.now.map (R.fsz (R.putF d1 i ⟨w, w, []⟩)) = d1.now.map (R.fsz d1) := List.map_congr_left fun e _ => hgz e
      rw [this]
      exact r1.free
theorem again_ok11 {op : RDisk → RDisk × Int} {d : RDisk} (h : (op d).2 = 0 ∨ (op d).2 = 11) : R.again op d = op d := by
  unfold R.again R.bad
  rcases h with h | h <;> rw [h] <;> rfl
/-- bytes put behind a file's for sure -/
theorem sAppend_fate {d : RDisk} {m : Img} {n : ByteArray} {old b : List UInt8} {s : Int} {k : Nat} (h : Steady d m) (hd : d.down = false) (hn : m n = some old) (hr : Rm d s k) (hb : b.length ≤ s) :
    ((R.sAppend n ⟨b.toArray⟩ d).2 = 11 ∧ Fate (R.sAppend n ⟨b.toArray⟩ d).1 (fun m' => ∃ k, m' = upd m n (some (old ++ b.take k)))) ∨ ((R.sAppend n ⟨b.toArray⟩ d).2 = 0 ∧ (R.sAppend n ⟨b.toArray⟩ d).1.down = false ∧ Steady (R.sAppend n ⟨b.toArray⟩ d).1 (upd m n (some (old ++ b))) ∧ Rm (R.sAppend n ⟨b.toArray⟩ d).1 (s - b.length) k) := by
  unfold R.sAppend R.steps
  rcases append_mid h hd hn hr hb with ⟨h1, h2⟩ | ⟨h1, h2, h3, h4⟩
  · rw [if_pos (by rw [h1]; decide)]
    exact .inl ⟨h1, h2.imp fun m' e => ⟨0, by rw [e, List.take_zero, List.append_nil, upd_same hn]⟩⟩
  · rw [if_neg (by rw [h1]; decide)]
    have h5 := sync_half h3 h2 h4
    unfold R.steps
    rw [again_ok11 (op := fun d => R.sync d n) (by rcases h5 with ⟨h, _⟩ | ⟨h, _⟩; exact .inr h; exact .inl h)]
    rcases h5 with ⟨g1, g2⟩ | ⟨g1, g2, g3, g4⟩
    · rw [if_pos (by rw [g1]; decide)]
      exact .inl ⟨g1, g2⟩
    · rw [if_neg (by rw [g1]; decide)]
      exact .inr ⟨rfl, g2, g3, g4⟩
end Go.Ph
end
section
set_option linter.all false
namespace Go.Ph
/-- a file that nobody else has, and turns of names that wait -/
structure Priv (d : RDisk) (m : Img) (base : List EntM) (i : Nat) (f : RFile) (W : List TurnM) : Prop where
  fail : d.fail < 0
  waits : d.waits = W
  sure : d.sure = base
  now : d.now = W.foldl R.do_ base
  good : GoodW d
  file : d.files[i]? = some f
  sep : ∀ e ∈ base, e.File.toNat ≠ i
  calm : ∀ e ∈ base, ∃ g, d.files[e.File.toNat]? = some g ∧ g.sure = g.now ∧ g.waits = []
  tf : ∀ t ∈ W, t.File < 0 ∨ t.File = i
  img : imgOf base (cdat d) = m
def fin (W : List TurnM) (m : Img) (b : List UInt8) : Img := W.foldl (imgDo fun _ => b) m
theorem fin_eq {c : Nat → List UInt8} {i : Nat} : ∀ (W : List TurnM) (m : Img), (∀ t ∈ W, t.File < 0 ∨ t.File = i) → W.foldl (imgDo c) m = fin W m (c i)
  | [], m, h => rfl
  | t :: W, m, h => by
    have : imgDo c m t = imgDo (fun _ => c i) m t := by
      unfold imgDo
      rcases h t (by simp) with h1 | h1
      · rw [if_pos h1, if_pos h1]
      · have h2 : ¬ t.File < 0 := by omega
        rw [if_neg h2, if_neg h2]
        simp only [h1, Int.toNat_natCast]
    unfold fin
    rw [List.foldl_cons, List.foldl_cons, this]
    exact fin_eq W _ fun t ht => h t (by simp [ht])
theorem SameD.priv {d d' : RDisk} {m : Img} {base : List EntM} {i : Nat} {f : RFile} {W : List TurnM} (h : SameD d d') (p : Priv d m base i f W) : Priv d' m base i f W :=
  ⟨h.fail p.fail, by rw [h.waits]; exact p.waits, by rw [h.sure]; exact p.sure, by rw [h.now]; exact p.now, h.goodW p.good, by rw [h.files]; exact p.file, p.sep, by rw [h.files]; exact p.calm, p.tf, by rw [h.cdat]; exact p.img⟩
theorem Priv.fate {d : RDisk} {m : Img} {base : List EntM} {i : Nat} {f : RFile} {W : List TurnM} (p : Priv d m base i f W) (hd : d.down = true) : Fate d (fun m' => ∃ j ks, m' = fin (W.take j) m (R.bootX f ks).1.data.toList) := by
  refine Fate.mk' hd p.good fun c j hc => ?_
  obtain ⟨ks, hk⟩ := hc i f p.file
  refine ⟨j, ks, ?_⟩
  rw [p.waits, p.sure, fin_eq (i := i) _ _ (fun t ht => p.tf t (List.mem_of_mem_take ht)), hk, ← p.img]
  congr 1
  refine imgOf_congr fun e he => ?_
  obtain ⟨g, g1, g2, g3⟩ := p.calm e he
  obtain ⟨ks', hk'⟩ := hc _ g g1
  rw [hk', bootX_calm g2 g3]
  unfold cdat
  rw [g1]
theorem do_file {l : List EntM} {t : TurnM} {e : EntM} (h : e ∈ R.do_ l t) : (∃ e0 ∈ l, e0.File = e.File) ∨ (e.File = t.File ∧ 0 ≤ t.File) := by
  unfold R.do_ at h
  split at h
  · split at h
    · exact .inl ⟨e, h, rfl⟩
    · rename_i h1
      split at h
      · exact .inl ⟨e, (mem_without.1 h).1, rfl⟩
      · rcases mem_put.1 h with rfl | ⟨h2, _⟩
        · rcases find_cases l t.From with ⟨h3, _⟩ | ⟨e0, he0, _, h3⟩
          · rw [h3] at h1; exact absurd (by decide) h1
          · exact .inl ⟨e0, he0, h3.symm⟩
        · exact .inl ⟨e, (mem_without.1 h2).1, rfl⟩
  · rename_i h0
    split at h
    · exact .inl ⟨e, h, rfl⟩
    · rcases mem_put.1 h with rfl | ⟨h2, _⟩
      · exact .inr ⟨rfl, by omega⟩
      · exact .inl ⟨e, h2, rfl⟩
theorem dos_file {i : Nat} : ∀ (W : List TurnM) (l : List EntM) {e : EntM}, (∀ t ∈ W, t.File < 0 ∨ t.File = i) → e ∈ W.foldl R.do_ l → (∃ e0 ∈ l, e0.File = e.File) ∨ e.File = i
  | [], l, e, _, h => .inl ⟨e, h, rfl⟩
  | t :: W, l, e, hW, h => by
    rcases dos_file W _ (fun t ht => hW t (by simp [ht])) h with ⟨e0, h0, h1⟩ | h1
    · rcases do_file h0 with ⟨e1, h2, h3⟩ | ⟨h2, h3⟩
      · exact .inl ⟨e1, h2, h3.trans h1⟩
      · rcases hW t (by simp) with h4 | h4
        · omega
        · exact .inr (by omega)
    · exact .inr h1
theorem Priv.goodNow {d : RDisk} {m : Img} {base : List EntM} {i : Nat} {f : RFile} {W : List TurnM} (p : Priv d m base i f W) : Good d.files.length d.now := by
  have := p.good W.length
  rw [p.waits, List.take_length, p.sure, ← p.now] at this
  exact this
theorem Priv.steady {d : RDisk} {m : Img} {base : List EntM} {i : Nat} {f : RFile} {W : List TurnM} (p : Priv d m base i f W) (h1 : f.sure = f.now) (h2 : f.waits = []) : Steady { d with sure := d.now, waits := [] } (fin W m f.now.data.toList) := by
  refine ⟨p.goodNow, p.fail, rfl, rfl, fun e he => ?_, ?_⟩
  · simp only at he ⊢
    rw [p.now] at he
    rcases dos_file (i := i) W base p.tf he with ⟨e0, h0, h3⟩ | h3
    · rw [← h3]; exact p.calm e0 h0
    · rw [h3, Int.toNat_natCast]; exact ⟨f, p.file, h1, h2⟩
  · simp only
    show imgOf d.now (cdat d) = _
    rw [p.now, imgOf_dos, p.img, fin_eq (i := i) _ _ p.tf]
    congr 1
    unfold cdat
    rw [p.file]
theorem create_priv {d : RDisk} {m : Img} {n : ByteArray} {s : Int} {k : Nat} (h : Steady d m) (hd : d.down = false) (hn : m n = none) (hok : nameOk n = true) (hr : Rm d s (k + 1)) :
    ((R.create d n).2 = 11 ∧ Fate (R.create d n).1 (fun m' => m' = m)) ∨ ((R.create d n).2 = 0 ∧ (R.create d n).1.down = false ∧ Priv (R.create d n).1 m d.now d.files.length ⟨⟨#[]⟩, ⟨#[]⟩, []⟩ [⟨⟨#[]⟩, n, d.files.length⟩] ∧ Rm (R.create d n).1 s k ∧ R.find (R.create d n).1.now n = ((d.files.length : Nat) : Int)) := by
  obtain ⟨sd, hc⟩ := begin_cases hd h.fail
  have h1 := sd.steady h
  unfold R.create
  rcases hc with ⟨hc, hdn⟩ | ⟨hc, hup⟩
  · rw [if_pos (by rw [hc]; decide)]
    exact .inl ⟨hc, h1.fate hdn⟩
  · rw [if_neg (by rw [hc]; decide), if_neg (by rw [hok]; decide)]
    have r1 := sd.rm hr
    have e1 := sd.files
    have e2 := sd.now
    generalize (R.begin d).1 = d1 at *
    have hfn := h1.none.1 hn
    rw [if_neg (by omega), if_neg (by have := r1.files; omega)]
    have hne := nameOk_ne hok
    have hdo : ∀ l, R.do_ l ⟨⟨#[]⟩, n, d1.files.length⟩ = R.put l ⟨n, d1.files.length⟩ := fun l => by unfold R.do_; simp only; rw [if_neg (by omega), if_neg hne]
    have hnf : ∀ e ∈ d1.now, e.File ≠ (d1.files.length : Nat) := fun e he => by have := h1.good.rng e he; omega
    obtain ⟨d2, hd2⟩ : ∃ d2, d2 = R.turn { d1 with files := d1.files ++ [⟨⟨#[]⟩, ⟨#[]⟩, []⟩] } ⟨⟨#[]⟩, n, d1.files.length⟩ := ⟨_, rfl⟩
    have f1 : d2.files = d1.files ++ [⟨⟨#[]⟩, ⟨#[]⟩, []⟩] := by rw [hd2]; rfl
    have f2 : d2.now = R.put d1.now ⟨n, d1.files.length⟩ := by rw [hd2, ← hdo]; rfl
    have f3 : d2.sure = d1.sure := by rw [hd2]; rfl
    have f4 : d2.waits = d1.waits ++ [⟨⟨#[]⟩, n, d1.files.length⟩] := by rw [hd2]; rfl
    have f5 : d2.cap = d1.cap := by rw [hd2]; rfl
    have f6 : d2.fail = d1.fail := by rw [hd2]; rfl
    have f7 : d2.down = d1.down := by rw [hd2]; rfl
    rw [← hd2]
    clear hd2
    have hfsz : ∀ e ∈ d1.now, R.fsz d2 e = R.fsz d1 e := fun e he => by
      have := h1.good.rng e he
      unfold R.fsz
      rw [f1, List.getElem?_append_left (by omega)]
    refine .inr ⟨rfl, f7.trans hup, ⟨by rw [f6]; exact h1.fail, by rw [f4, h1.waits, e1]; rfl, by rw [f3, h1.sure, e2], ?_, ?_, by rw [f1, ← e1]; simp, ?_, ?_, ?_, ?_⟩, ⟨?_, ?_⟩, by simp only; rw [f2, find_put, if_pos rfl, e1]⟩
    · show d2.now = R.do_ d.now ⟨⟨#[]⟩, n, d.files.length⟩
      rw [f2, ← hdo, e1, e2]
    · intro j
      rw [f1, f4, f3, h1.waits, h1.sure, List.nil_append, List.length_append, List.length_singleton]
      cases j with
      | zero => exact h1.good.more (by omega)
      | succ j =>
        rw [List.take_succ_cons, List.take_nil, List.foldl_cons, List.foldl_nil]
        exact (h1.good.more (by omega)).do _ (by simp only; omega) fun _ e he _ => hnf e he
    · intro e he
      have := h.good.rng e he
      omega
    · intro e he
      obtain ⟨g, g1, g2, g3⟩ := h.calm e he
      refine ⟨g, ?_, g2, g3⟩
      rw [f1, e1, List.getElem?_append_left (List.getElem?_eq_some_iff.1 g1).1]
      exact g1
    · intro t ht
      simp at ht; subst ht
      exact .inr rfl
    · rw [← h.img]
      refine imgOf_congr fun e he => ?_
      have := h.good.rng e he
      unfold cdat
      rw [f1, e1, List.getElem?_append_left (by omega)]
    · have hfr := r1.free
      unfold R.free at hfr ⊢
      simp only
      rw [f5, f2]
      have := sum_put d2 d1.now ⟨n, d1.files.length⟩
      have hz : R.fsz d2 ⟨n, d1.files.length⟩ = 0 := by
        unfold R.fsz
        rw [f1]
        simp [ByteArray.size]
      rw [hz, List.map_congr_left (l := d1.now) hfsz] at this
      omega
    · have := r1.files
      simp only
      rw [f2, ← hdo]
      have := do_len d1.now ⟨⟨#[]⟩, n, d1.files.length⟩
      omega
theorem put_priv {d : RDisk} {m : Img} {base : List EntM} {i : Nat} {f g : RFile} {W : List TurnM} (p : Priv d m base i f W) : Priv (R.putF d i g) m base i g W := by
  have hl : (d.files.set i g).length = d.files.length := List.length_set
  refine ⟨p.fail, p.waits, p.sure, p.now, fun j => ?_, ?_, p.sep, fun e he => ?_, p.tf, ?_⟩
  · show Good (d.files.set i g).length _
    rw [hl]; exact p.good j
  · show (d.files.set i g)[i]? = _
    rw [List.getElem?_set_self (List.getElem?_eq_some_iff.1 p.file).1]
  · show ∃ x, (d.files.set i g)[e.File.toNat]? = some x ∧ _
    rw [List.getElem?_set_ne (fun h => p.sep e he h.symm)]
    exact p.calm e he
  · rw [← p.img]
    refine imgOf_congr fun e he => ?_
    unfold cdat R.putF
    simp only
    rw [List.getElem?_set_ne (fun h => p.sep e he h.symm)]
theorem append_priv {d : RDisk} {m : Img} {base : List EntM} {i : Nat} {f : RFile} {W : List TurnM} {n : ByteArray} {b : ByteArray} {s : Int} {k : Nat} (p : Priv d m base i f W) (hd : d.down = false) (hn : R.find d.now n = ((i : Nat) : Int)) (hr : Rm d s k) (hb : b.size ≤ s) :
    ((R.append d n b).2 = 11 ∧ Fate (R.append d n b).1 (fun m' => ∃ j ks, m' = fin (W.take j) m (R.bootX f ks).1.data.toList)) ∨ ((R.append d n b).2 = 0 ∧ (R.append d n b).1.down = false ∧ Priv (R.append d n b).1 m base i ⟨f.now ++ b, f.sure, f.waits ++ [⟨f.now.size, b⟩]⟩ W ∧ Rm (R.append d n b).1 (s - b.size) k ∧ (R.append d n b).1.now = d.now) := by
  obtain ⟨sd, hc⟩ := begin_cases hd p.fail
  have p1 := sd.priv p
  unfold R.append
  rcases hc with ⟨hc, hdn⟩ | ⟨hc, hup⟩
  · rw [if_pos (by rw [hc]; decide)]
    exact .inl ⟨hc, p1.fate hdn⟩
  · rw [if_neg (by rw [hc]; decide)]
    have r1 := sd.rm hr
    have e2 := sd.now
    generalize (R.begin d).1 = d1 at *
    rw [e2, hn, if_neg (by omega), Int.toNat_natCast, p1.file]
    simp only
    rw [if_neg (by have := r1.free; omega)]
    refine .inr ⟨rfl, hup, put_priv p1, ⟨?_, r1.files⟩, e2⟩
    show s - b.size ≤ d1.cap - (d1.now.map (R.fsz (R.putF d1 i _))).sum
    have hgn := p1.goodNow
    have := sum_bump (d := d1) (d' := R.putF d1 i ⟨f.now ++ b, f.sure, f.waits ++ [⟨f.now.size, b⟩]⟩) (i := i) (z := b.size) (by omega) (fun e => by
      unfold R.fsz R.putF
      simp only
      by_cases hi : e.File.toNat = i
      · rw [hi, if_pos rfl, List.getElem?_set_self (List.getElem?_eq_some_iff.1 p1.file).1, p1.file]
        simp only [ByteArray.size_append]
        omega
      · rw [if_neg hi, List.getElem?_set_ne (fun h => hi h.symm)]) d1.now hgn.files (fun e he => (hgn.rng e he).1)
    have hfr := r1.free
    unfold R.free at hfr
    omega
theorem sync_priv {d : RDisk} {m : Img} {base : List EntM} {i : Nat} {f : RFile} {W : List TurnM} {n : ByteArray} {s : Int} {k : Nat} (p : Priv d m base i f W) (hd : d.down = false) (hn : R.find d.now n = ((i : Nat) : Int)) (hr : Rm d s k) :
    ((R.sync d n).2 = 11 ∧ Fate (R.sync d n).1 (fun m' => ∃ j ks, m' = fin (W.take j) m (R.bootX f ks).1.data.toList)) ∨ ((R.sync d n).2 = 0 ∧ (R.sync d n).1.down = false ∧ Priv (R.sync d n).1 m base i ⟨f.now, f.now, []⟩ W ∧ Rm (R.sync d n).1 s k ∧ (R.sync d n).1.now = d.now) := by
  obtain ⟨sd, hc⟩ := begin_cases hd p.fail
  have p1 := sd.priv p
  unfold R.sync
  rcases hc with ⟨hc, hdn⟩ | ⟨hc, hup⟩
  · rw [if_pos (by rw [hc]; decide)]
    exact .inl ⟨hc, p1.fate hdn⟩
  · rw [if_neg (by rw [hc]; decide)]
    have r1 := sd.rm hr
    have e2 := sd.now
    generalize (R.begin d).1 = d1 at *
    rw [e2, hn, if_neg (by omega), Int.toNat_natCast, p1.file]
    simp only
    refine .inr ⟨trivial, hup, put_priv p1, ⟨?_, r1.files⟩, e2⟩
    show s ≤ d1.cap - (d1.now.map (R.fsz (R.putF d1 i _))).sum
    have : d1.now.map (R.fsz (R.putF d1 i ⟨f.now, f.now, []⟩)) = d1.now.map (R.fsz d1) := List.map_congr_left fun e _ => by
      unfold R.fsz R.putF
      simp only
      by_cases hi : e.File.toNat = i
      · rw [hi, List.getElem?_set_self (List.getElem?_eq_some_iff.1 p1.file).1, p1.file]
      · rw [List.getElem?_set_ne (fun h => hi h.symm)]
    rw [this]
    exact r1.free
theorem syncDir_priv {d : RDisk} {m : Img} {base : List EntM} {i : Nat} {f : RFile} {W : List TurnM} {s : Int} {k : Nat} (p : Priv d m base i f W) (h1 : f.sure = f.now) (h2 : f.waits = []) (hd : d.down = false) (hr : Rm d s k) :
    ((R.syncDir d).2 = 11 ∧ Fate (R.syncDir d).1 (fun m' => ∃ j ks, m' = fin (W.take j) m (R.bootX f ks).1.data.toList)) ∨ ((R.syncDir d).2 = 0 ∧ (R.syncDir d).1.down = false ∧ Steady (R.syncDir d).1 (fin W m f.now.data.toList) ∧ Rm (R.syncDir d).1 s k) := by
  obtain ⟨sd, hc⟩ := begin_cases hd p.fail
  have p1 := sd.priv p
  unfold R.syncDir
  simp only
  rcases hc with ⟨hc, hdn⟩ | ⟨hc, hup⟩
  · rw [if_pos (by rw [hc]; decide)]
    exact .inl ⟨hc, p1.fate hdn⟩
  · rw [if_neg (by rw [hc]; decide)]
    have r1 := sd.rm hr
    exact .inr ⟨rfl, hup, p1.steady h1 h2, ⟨r1.free, r1.files⟩⟩
theorem sAppend_priv {d : RDisk} {m : Img} {base : List EntM} {i : Nat} {W : List TurnM} {n : ByteArray} {b : List UInt8} {s : Int} {k : Nat} (p : Priv d m base i ⟨⟨#[]⟩, ⟨#[]⟩, []⟩ W) (hd : d.down = false) (hn : R.find d.now n = ((i : Nat) : Int)) (hr : Rm d s k) (hb : b.length ≤ s) :
    ((R.sAppend n ⟨b.toArray⟩ d).2 = 11 ∧ Fate (R.sAppend n ⟨b.toArray⟩ d).1 (fun m' => ∃ j k, m' = fin (W.take j) m (b.take k))) ∨ ((R.sAppend n ⟨b.toArray⟩ d).2 = 0 ∧ (R.sAppend n ⟨b.toArray⟩ d).1.down = false ∧ Priv (R.sAppend n ⟨b.toArray⟩ d).1 m base i ⟨⟨b.toArray⟩, ⟨b.toArray⟩, []⟩ W ∧ Rm (R.sAppend n ⟨b.toArray⟩ d).1 (s - b.length) k ∧ (R.sAppend n ⟨b.toArray⟩ d).1.now = d.now) := by
  have hbs : (⟨b.toArray⟩ : ByteArray).size = b.length := by simp [ByteArray.size]
  have he : (⟨#[]⟩ : ByteArray) ++ ⟨b.toArray⟩ = ⟨b.toArray⟩ := by
    apply ByteArray.ext; simp
  unfold R.sAppend R.steps
  rcases append_priv p hd hn hr (by rw [hbs]; exact hb) with ⟨h1, h2⟩ | ⟨h1, h2, h3, h4, h5⟩
  · rw [if_pos (by rw [h1]; decide)]
    refine .inl ⟨h1, h2.imp fun m' ⟨j, ks, e⟩ => ⟨j, 0, ?_⟩⟩
    rw [e, bootX_calm rfl rfl]; rfl
  · rw [if_neg (by rw [h1]; decide)]
    rw [he, hbs] at *
    simp only [List.nil_append] at h3
    have h6 := sync_priv h3 h2 (by rw [h5]; exact hn) h4
    unfold R.steps
    rw [again_ok11 (op := fun d => R.sync d n) (by rcases h6 with ⟨h, _⟩ | ⟨h, _⟩; exact .inr h; exact .inl h)]
    rcases h6 with ⟨g1, g2⟩ | ⟨g1, g2, g3, g4, g5⟩
    · rw [if_pos (by rw [g1]; decide)]
      refine .inl ⟨g1, g2.imp fun m' ⟨j, ks, e⟩ => ?_⟩
      obtain ⟨k, _, hk⟩ := bootX_one (old := ⟨#[]⟩) (b := ⟨b.toArray⟩) (nw := ⟨b.toArray⟩) ks
      refine ⟨j, k, ?_⟩
      have hz : ((⟨#[]⟩ : ByteArray).size : Int) = 0 := rfl
      rw [hz] at hk
      simp only [List.nil_append] at hk
      rw [e]
      show fin (W.take j) m (R.bootX ⟨⟨b.toArray⟩, ⟨#[]⟩, [⟨0, ⟨b.toArray⟩⟩]⟩ ks).1.data.toList = _
      rw [hk]
    · rw [if_neg (by rw [g1]; decide)]
      exact .inr ⟨rfl, g2, g3, g4, g5.trans h5⟩
theorem fin_one (n : ByteArray) (i : Nat) (m : Img) (b : List UInt8) (hn : n ≠ ⟨#[]⟩) (j : Nat) : fin (([⟨⟨#[]⟩, n, i⟩] : List TurnM).take j) m b = if j = 0 then m else upd m n (some b) := by
  cases j with
  | zero => rfl
  | succ j =>
    unfold fin
    rw [List.take_succ_cons, List.take_nil, List.foldl_cons, List.foldl_nil, if_neg (by omega)]
    unfold imgDo
    rw [if_neg (by simp), if_neg hn]
/-- a file is made -/
theorem make_fate {d : RDisk} {m : Img} {n : ByteArray} {b : List UInt8} {s : Int} {k : Nat} (h : Steady d m) (hd : d.down = false) (hn : m n = none) (hok : nameOk n = true) (hr : Rm d s (k + 1)) (hb : b.length ≤ s) :
    ((R.make d n ⟨b.toArray⟩).2 = 11 ∧ Fate (R.make d n ⟨b.toArray⟩).1 (fun m' => m' = m ∨ ∃ k, m' = upd m n (some (b.take k)))) ∨ ((R.make d n ⟨b.toArray⟩).2 = 0 ∧ (R.make d n ⟨b.toArray⟩).1.down = false ∧ Steady (R.make d n ⟨b.toArray⟩).1 (upd m n (some b)) ∧ Rm (R.make d n ⟨b.toArray⟩).1 (s - b.length) k) := by
  have hne := nameOk_ne hok
  unfold R.make
  have hh : R.has d n = false := by unfold R.has; have := h.none.1 hn; simp; omega
  rw [if_neg (by rw [hh]; decide)]
  rcases create_priv h hd hn hok hr with ⟨h1, h2⟩ | ⟨h1, h2, h3, h4, h5⟩
  · rw [if_pos (by rw [h1]; decide)]
    exact .inl ⟨h1, h2.imp fun _ e => .inl e⟩
  rw [if_neg (by rw [h1]; decide)]
  have o1 : ∀ {m' : Img} {j k : Nat}, m' = fin (([⟨⟨#[]⟩, n, d.files.length⟩] : List TurnM).take j) m (b.take k) → m' = m ∨ ∃ k, m' = upd m n (some (b.take k)) := fun {m' j k} e => by
    rw [fin_one _ _ _ _ hne] at e
    split at e
    · exact .inl e
    · exact .inr ⟨k, e⟩
  obtain ⟨st, hst⟩ : ∃ st, st = R.steps [R.sAppend n ⟨b.toArray⟩, R.again R.syncDir] (R.create d n).1 := ⟨_, rfl⟩
  have key : (st.2 = 11 ∧ Fate st.1 (fun m' => m' = m ∨ ∃ k, m' = upd m n (some (b.take k)))) ∨ (st.2 = 0 ∧ st.1.down = false ∧ Steady st.1 (upd m n (some b)) ∧ Rm st.1 (s - b.length) k) := by
    rw [hst]
    unfold R.steps
    rcases sAppend_priv h3 h2 h5 h4 hb with ⟨g1, g2⟩ | ⟨g1, g2, g3, g4, g5⟩
    · rw [if_pos (by rw [g1]; decide)]
      exact .inl ⟨g1, g2.imp fun m' ⟨j, k, e⟩ => o1 e⟩
    · rw [if_neg (by rw [g1]; decide)]
      unfold R.steps
      have hs := syncDir_priv g3 rfl rfl g2 g4
      rw [again_ok11 (op := R.syncDir) (by rcases hs with ⟨h, _⟩ | ⟨h, _⟩; exact .inr h; exact .inl h)]
      rcases hs with ⟨k1, k2⟩ | ⟨k1, k2, k3, k4⟩
      · rw [if_pos (by rw [k1]; decide)]
        refine .inl ⟨k1, k2.imp fun m' ⟨j, ks, e⟩ => ?_⟩
        rw [bootX_calm rfl rfl] at e
        exact o1 (j := j) (k := b.length) (by rw [e, List.take_length])
      · rw [if_neg (by rw [k1]; decide)]
        refine .inr ⟨rfl, k2, ?_, k4⟩
        have := fin_one n d.files.length m b hne 1
        rw [if_neg (by decide)] at this
        rw [← this]
        exact k3
  rw [← hst, if_neg ?_]
  · exact key
  · rcases key with ⟨k1, _⟩ | ⟨k1, _⟩ <;> rw [k1] <;> decide
end Go.Ph
end
section
set_option linter.all false
namespace Go.Ph
def recsB (b : List UInt8) : List RecM := (founds b).map (·.x)
def contsB : Int → List (List UInt8) → List ContM
  | _, [] => []
  | q, b :: bs => P.contOf q b :: contsB (q + 1) bs
def imgB (u : Nat) (bs : List (List UInt8)) : Img := fun n => if 1 ≤ seqOf u n ∧ n = cnameI u (seqOf u n) then bs[(seqOf u n).toNat - 1]? else none
/-- a user's containers among what a disk holds -/
def Cimg (u : Nat) (bs : List (List UInt8)) (m : Img) : Prop := ∀ n, R.pre n (ba (front u)) = true → m n = imgB u bs n
def recsL (l : List ContM) : List RecM := l.flatMap fun c => c.l.map (·.x)
theorem contsB_app : ∀ (a b : List (List UInt8)) (q : Int), contsB q (a ++ b) = contsB q a ++ contsB (q + a.length) b
  | [], b, q => by simp [contsB]
  | x :: a, b, q => by
    rw [List.cons_append, contsB, contsB, contsB_app a b (q + 1), List.cons_append, List.length_cons]
    congr 3
    omega
theorem contsB_len : ∀ (a : List (List UInt8)) (q : Int), (contsB q a).length = a.length
  | [], q => rfl
  | x :: a, q => by rw [contsB, List.length_cons, List.length_cons, contsB_len]
theorem contsB_seq : ∀ (a : List (List UInt8)) (q : Int), ∀ c ∈ contsB q a, q ≤ c.seq
  | [], q, c, h => by cases h
  | x :: a, q, c, h => by
    rw [contsB] at h
    rcases List.mem_cons.1 h with rfl | h
    · exact Int.le_refl _
    · have := contsB_seq a (q + 1) c h; omega
theorem recsL_B : ∀ (bs : List (List UInt8)) (q : Int), recsL (contsB q bs) = bs.flatMap recsB
  | [], q => rfl
  | b :: bs, q => by
    have := recsL_B bs (q + 1)
    unfold recsL at this ⊢
    rw [contsB, List.flatMap_cons, List.flatMap_cons, this]; rfl
theorem next_recs : ∀ (l : List ContM) (n : Int), l.foldl P.nextC n = (recsL l).foldl after n
  | [], n => rfl
  | c :: l, n => by
    unfold recsL
    rw [List.foldl_cons, List.flatMap_cons, List.foldl_append, next_recs l]
    congr 1
    unfold P.nextC
    rw [List.foldl_map]
theorem placesF_recs (q : Int) : ∀ (l : List FoundM), (P.placesF q l).map (·.x) = (l.map (·.x)).filter keptR
  | [] => rfl
  | f :: l => by
    have := placesF_recs q l
    unfold P.placesF at this ⊢
    rw [List.filter_cons, List.map_cons, List.filter_cons]
    split
    · rw [List.map_cons, List.map_cons, this]
    · exact this
theorem places_recs : ∀ (l : List ContM), (P.places l).map (·.x) = (recsL l).filter keptR
  | [] => rfl
  | c :: l => by
    have := places_recs l
    unfold P.places recsL at this ⊢
    rw [List.flatMap_cons, List.flatMap_cons, List.map_append, List.filter_append, this, placesF_recs]
def Base0 (l : List RecM) : Prop := ∀ x ∈ l, x.kind = 1 → recBase x = 0
theorem base0 : ∀ (l : List ContM), Base0 (recsL l) → P.base l = 0 := by
  have hF : ∀ (q : Int) (l : List FoundM), (∀ f ∈ l, f.x.kind = 1 → recBase f.x = 0) → l.foldl (P.baseF q) 0 = 0 := by
    intro q l
    induction l with
    | nil => intro _; rfl
    | cons f l ih =>
      intro h
      rw [List.foldl_cons]
      have : P.baseF q 0 f = 0 := by
        unfold P.baseF
        split
        · rename_i h1; rw [h f (by simp) h1.1]; rfl
        · rfl
      rw [this]
      exact ih fun x hx => h x (by simp [hx])
  intro l
  unfold P.base
  induction l with
  | nil => intro _; rfl
  | cons c l ih =>
    intro h
    have h1 : P.baseC 0 c = 0 := hF c.seq c.l fun f hf => h f.x (by unfold recsL; rw [List.flatMap_cons]; exact List.mem_append_left _ (List.mem_map_of_mem hf))
    rw [List.foldl_cons, h1]
    exact ih fun x hx => h x (by unfold recsL at hx ⊢; rw [List.flatMap_cons]; exact List.mem_append_right _ hx)
theorem drops0 (u : Int) (d : RDisk) (l : List ContM) (h : ∀ c ∈ l, 0 ≤ c.seq) : P.drops u 0 d l = (d, 0, l) := by
  cases l with
  | nil => rfl
  | cons c l => rw [P.drops, if_neg (by have := h c (by simp); omega)]
theorem sorted_ext : ∀ {l m : List ByteArray}, l.Pairwise (fun a b => slt a b = true) → m.Pairwise (fun a b => slt a b = true) → (∀ x, x ∈ l ↔ x ∈ m) → l = m
  | [], [], _, _, _ => rfl
  | [], b :: m, _, _, h => absurd ((h b).2 (by simp)) (by simp)
  | a :: l, [], _, _, h => absurd ((h a).1 (by simp)) (by simp)
  | a :: l, b :: m, h1, h2, h => by
    rw [List.pairwise_cons] at h1 h2
    have hab : a = b := by
      rcases List.mem_cons.1 ((h a).1 (by simp)) with h3 | h3
      · exact h3
      · rcases List.mem_cons.1 ((h b).2 (by simp)) with h4 | h4
        · exact h4.symm
        · have := slt_trans (h1.1 b h4) (h2.1 a h3)
          rw [slt_irrefl] at this; cases this
    subst hab
    congr 1
    refine sorted_ext h1.2 h2.2 fun x => ⟨fun hx => ?_, fun hx => ?_⟩
    · rcases List.mem_cons.1 ((h x).1 (by simp [hx])) with rfl | h3
      · have := h1.1 x hx; rw [slt_irrefl] at this; cases this
      · exact h3
    · rcases List.mem_cons.1 ((h x).2 (by simp [hx])) with rfl | h3
      · have := h2.1 x hx; rw [slt_irrefl] at this; cases this
      · exact h3
theorem pre_name {u q : Nat} (hu : 1 ≤ u ∧ u ≤ 999) (hq : 1 ≤ q ∧ q ≤ 99999999) : R.pre (cnameI u q) (ba (front u)) = true := by
  have := seqOf_name hu hq
  unfold seqOf at this
  split at this
  · assumption
  · omega
theorem seq_neg {u : Nat} {n : ByteArray} (h : R.pre n (ba (front u)) = false) : seqOf u n = -1 := by unfold seqOf; rw [if_neg (by rw [h]; decide)]
theorem imgB_name {u q : Nat} (hu : 1 ≤ u ∧ u ≤ 999) (hq : 1 ≤ q ∧ q ≤ 99999999) (bs : List (List UInt8)) : imgB u bs (cnameI u q) = bs[q - 1]? := by
  unfold imgB
  have h := seqOf_name hu hq
  rw [h, if_pos ⟨by omega, rfl⟩, Int.toNat_natCast]
theorem imgB_inv {u : Nat} {bs : List (List UInt8)} {n : ByteArray} {b : List UInt8} (h : imgB u bs n = some b) : ∃ q : Nat, 1 ≤ q ∧ q ≤ bs.length ∧ n = cnameI u q ∧ seqOf u n = q ∧ bs[q - 1]? = some b := by
  unfold imgB at h
  split at h
  · rename_i h1
    have h2 := (List.getElem?_eq_some_iff.1 h).1
    refine ⟨(seqOf u n).toNat, by omega, by omega, ?_, by omega, h⟩
    rw [Int.toNat_of_nonneg (by omega)]; exact h1.2
  · cases h
theorem conts_skip {d : RDisk} {u : Nat} : ∀ (es : List EntM), P.conts d u es = P.conts d u (es.filter fun e => R.pre e.Name (ba (front u)))
  | [] => rfl
  | e :: es => by
    rw [List.filter_cons]
    cases h : R.pre e.Name (ba (front u)) with
    | true => simp only [if_true]; rw [P.conts, P.conts, conts_skip es]
    | false =>
      simp only [Bool.false_eq_true, if_false]
      rw [P.conts, seq_neg h, if_neg (by decide), if_pos (by decide)]
      exact conts_skip es
theorem conts_eq {d : RDisk} {u : Nat} (hu : 1 ≤ u ∧ u ≤ 999) : ∀ (bs : List (List UInt8)) (es : List EntM) (q : Nat), 1 ≤ q → q + bs.length ≤ 99999999 → es.length = bs.length → (∀ (j : Nat) (e : EntM) (b : List UInt8), es[j]? = some e → bs[j]? = some b → e.Name = cnameI u ((q + j : Nat) : Int) ∧ P.dat d e = b) → P.conts d u es = some (contsB q bs)
  | [], [], q, _, _, _, _ => rfl
  | [], e :: es, q, _, _, h, _ => by simp at h
  | b :: bs, [], q, _, _, h, _ => by simp at h
  | b :: bs, e :: es, q, hq, hl, h, hj => by
    obtain ⟨h1, h2⟩ := hj 0 e b rfl rfl
    rw [List.length_cons] at hl
    have hs : seqOf u e.Name = q := by rw [h1]; exact seqOf_name hu (by omega)
    have ih := conts_eq (d := d) hu bs es (q + 1) (by omega) (by omega) (by simpa using h) (fun j e b he hb => by
      have := hj (j + 1) e b (by simpa using he) (by simpa using hb)
      rw [show q + 1 + j = q + (j + 1) by omega]; exact this)
    rw [P.conts, hs, if_neg (by omega), if_neg (by omega), ih, h2]
    rfl
theorem open_img {d : RDisk} {m : Img} {u : Nat} {bs : List (List UInt8)} {bound : Int} (h : Steady d m) (hm : Cimg u bs m) (hd : d.down = false) (hu : 1 ≤ u ∧ u ≤ 999) (hb : 1 ≤ bound) (hl : bs.length ≤ 1000000) (h0 : Base0 (bs.flatMap recsB)) :
    P.openR d u bound = (d, some ⟨u, bound, (bs.flatMap recsB).foldl after 1, contsB 1 bs⟩, 0) := by
  have hin : ∀ e ∈ d.now, m e.Name = some (P.dat d e) := fun e he => by
    rw [← h.img]
    unfold imgOf
    have hf := find_mem h.good (n := e.Name) (i := e.File) he
    have hr := h.good.rng e he
    rw [hf, if_neg (by omega)]
    rfl
  have hc : ∀ e ∈ d.now, R.pre e.Name (ba (front u)) = true → ∃ q : Nat, 1 ≤ q ∧ q ≤ bs.length ∧ e.Name = cnameI u q ∧ bs[q - 1]? = some (P.dat d e) := fun e he hp => by
    have := hin e he
    rw [hm _ hp] at this
    obtain ⟨q, h1, h2, h3, h4, h5⟩ := imgB_inv this
    exact ⟨q, h1, h2, h3, h5⟩
  have ht : R.tidies (d.now.map (·.Name)) (ba (front u)) = [] := by
    unfold R.tidies
    rw [List.filter_eq_nil_iff]
    intro n hn
    obtain ⟨e, he, rfl⟩ := List.mem_map.1 hn
    intro hps
    rw [Bool.and_eq_true] at hps
    obtain ⟨q, h1, h2, h3, _⟩ := hc e he hps.1
    have := name_suf hu (q := q) (by omega)
    rw [← h3, hps.2] at this
    cases this
  have htidy : R.tidy d (ba (front u)) = (d, 0) := by unfold R.tidy; rw [if_neg (by rw [hd]; decide), ht]; rfl
  obtain ⟨es, hes⟩ : ∃ es, es = d.now.filter fun e => R.pre e.Name (ba (front u)) := ⟨_, rfl⟩
  have hmem : ∀ e, e ∈ es ↔ e ∈ d.now ∧ R.pre e.Name (ba (front u)) = true := fun e => by rw [hes, List.mem_filter]
  have hnames : es.map (·.Name) = (List.range bs.length).map fun i => cnameI u ((i + 1 : Nat) : Int) := by
    refine sorted_ext ?_ ?_ fun n => ⟨fun hn => ?_, fun hn => ?_⟩
    · rw [List.pairwise_map, hes]
      exact h.good.sorted.filter _
    · rw [List.pairwise_map]
      refine List.pairwise_lt_range.imp_of_mem fun {a b} ha hb' hab => ?_
      rw [List.mem_range] at ha hb'
      exact slt_name hu (by omega) (by omega) (by omega)
    · obtain ⟨e, he, rfl⟩ := List.mem_map.1 hn
      obtain ⟨he, hp⟩ := (hmem e).1 he
      obtain ⟨q, h1, h2, h3, _⟩ := hc e he hp
      refine List.mem_map.2 ⟨q - 1, List.mem_range.2 (by omega), ?_⟩
      rw [show q - 1 + 1 = q by omega, h3]
    · obtain ⟨i, hi, rfl⟩ := List.mem_map.1 hn
      rw [List.mem_range] at hi
      have hp := pre_name hu (q := i + 1) (by omega)
      have hv : m (cnameI u ((i + 1 : Nat) : Int)) = some bs[i] := by
        rw [hm _ hp, imgB_name hu (by omega)]
        simp [hi]
      obtain ⟨j, f, _, _, _, _, _, hj⟩ := h.file hv
      exact List.mem_map.2 ⟨_, (hmem _).2 ⟨hj, hp⟩, rfl⟩
  have hel : es.length = bs.length := by
    have := congrArg List.length hnames
    simpa using this
  have hconts : P.conts d u d.now = some (contsB 1 bs) := by
    rw [conts_skip, ← hes]
    refine conts_eq hu bs es 1 (by omega) (by omega) hel fun j e b he hbj => ?_
    have hjl := (List.getElem?_eq_some_iff.1 hbj).1
    have hn : e.Name = cnameI u ((j + 1 : Nat) : Int) := by
      have h1 : (es.map (·.Name))[j]? = some e.Name := by rw [List.getElem?_map, he]; rfl
      rw [hnames, List.getElem?_map, List.getElem?_range hjl] at h1
      simpa using h1.symm
    refine ⟨by rw [hn, Nat.add_comm], ?_⟩
    have he' := (hmem e).1 (List.mem_of_getElem? he)
    have := hin e he'.1
    rw [hm _ he'.2, hn, imgB_name hu (by omega), Nat.add_sub_cancel, hbj] at this
    exact (Option.some.inj this).symm
  unfold P.openR
  have hut : ((u : Nat) : Int).toNat = u := Int.toNat_natCast u
  rw [if_neg (by rw [hd]; decide), if_neg (by omega), hut, htidy, if_neg (by simp), hconts]
  simp only
  have hb0 : P.base (contsB 1 bs) = 0 := base0 _ (by rw [recsL_B]; exact h0)
  rw [hb0, drops0 _ _ _ (fun c hc => by have := contsB_seq _ _ c hc; omega), if_neg (by simp)]
  simp only
  unfold P.next
  rw [next_recs, recsL_B]
end Go.Ph
end
section
set_option linter.all false
namespace Go.Ph
theorem foundsR_app : ∀ (l : List RecM) (i : Nat) (m : List RecM), foundsR i (l ++ m) = foundsR i l ++ foundsR (i + (framesR l).length) m
  | [], i, m => by simp [foundsR, framesR]
  | x :: l, i, m => by
    have hfl : (framesR (x :: l)).length = (frameR x).length + (framesR l).length := by unfold framesR; rw [List.flatMap_cons, List.length_append]
    rw [List.cons_append, foundsR, foundsR, foundsR_app l, List.cons_append, hfl, Nat.add_assoc]
theorem foundsR_recs : ∀ (l : List RecM) (i : Nat), (foundsR i l).map (·.x) = l
  | [], i => rfl
  | x :: l, i => by rw [foundsR, List.map_cons, foundsR_recs l]
theorem foundsR_sum : ∀ (l : List RecM) (i : Nat), sumLen (foundsR i l) = (framesR l).length
  | [], i => rfl
  | x :: l, i => by
    have h := foundsR_sum l (i + (frameR x).length)
    unfold sumLen at h ⊢
    rw [foundsR, List.map_cons, List.sum_cons, h]
    unfold framesR; rw [List.flatMap_cons, List.length_append]
theorem framesR_app (l m : List RecM) : framesR (l ++ m) = framesR l ++ framesR m := by simp [framesR]
theorem framesR_one (x : RecM) : framesR [x] = frameR x := by simp [framesR]
/-- a record as boxes write it -/
structure Wr (x : RecM) : Prop where
  chk : Chk x
  len : x.f.length = 11
  data : x.data = []
  base : x.kind = 1 → recBase x = 0
theorem Wr.size {x : RecM} (h : Wr x) : 1 ≤ (frameR x).length ∧ (frameR x).length ≤ 77 := by
  have h1 := frame_len h.chk
  refine ⟨h1.2, ?_⟩
  have hp : (payloadR x).length ≤ 29 := by
    unfold payloadR
    rw [List.length_append, flat_len, h.data]
    have := total_le x.kind
    simpa using this
  unfold frameR wrap
  have := veil_len (UInt8.ofNat x.kind.toNat :: (putB (payloadR x).length 4 ++ (putB (crc 0#32 (UInt8.ofNat x.kind.toNat :: (putB (payloadR x).length 4 ++ payloadR x))).toNat 4 ++ payloadR x)))
  simp only [List.length_cons, List.length_append, putB_len] at this ⊢
  omega
theorem Chk.num {x : RecM} (h : Chk x) : recNext x ≤ 2147483649 ∧ recUid x ≤ 2147483648 ∧ 0 ≤ recNext x ∧ 0 ≤ recUid x := by
  have hb := h.bare
  have ha := h.all
  unfold bareF at hb
  unfold recNext recUid
  change x.f = bareN x.kind x.f (layout x.kind) at hb
  have key : ∀ L : List PartM, x.f = bareN x.kind x.f L → (∀ p ∈ L, p.lo ≤ x.f.getD p.j 0 ∧ x.f.getD p.j 0 ≤ p.hi) → (∀ p ∈ L, (p.j = 3 → 0 ≤ p.lo ∧ p.hi ≤ 2147483649) ∧ (p.j = 5 → 0 ≤ p.lo ∧ p.hi ≤ 2147483648)) → ∀ j, (j = 3 → x.f.getD j 0 ≤ 2147483649 ∧ 0 ≤ x.f.getD j 0) ∧ (j = 5 → x.f.getD j 0 ≤ 2147483648 ∧ 0 ≤ x.f.getD j 0) := by
    intro L hL hall hj j
    have : (j = 3 ∨ j = 5) → (∃ p ∈ L, p.j = j) ∨ x.f.getD j 0 = 0 := by
      intro hjj
      by_cases hex : ∃ p ∈ L, p.j = j
      · exact .inl hex
      · right
        rw [hL]
        have : ∀ (L : List PartM), (¬∃ p ∈ L, p.j = j) → (bareN x.kind x.f L).getD j 0 = 0 := by
          intro L
          refine snoc_ind (P := fun L => (¬∃ p ∈ L, p.j = j) → (bareN x.kind x.f L).getD j 0 = 0) ?_ ?_ L
          · intro _
            rcases hjj with rfl | rfl <;> rfl
          · intro l p ih hn
            rw [bareN_snoc]
            have h1 := ih fun ⟨q, hq, e⟩ => hn ⟨q, by simp [hq], e⟩
            have h2 : p.j ≠ j := fun e => hn ⟨p, by simp, e⟩
            rw [List.getD_eq_getElem?_getD] at h1 ⊢
            rw [List.getElem?_set_ne h2]
            exact h1
        exact this L hex
    refine ⟨fun e => ?_, fun e => ?_⟩
    · rcases this (.inl e) with ⟨p, hp, hpj⟩ | h0
      · have h1 := hall p hp
        have h2 := (hj p hp).1 (hpj.trans e)
        rw [hpj] at h1
        omega
      · omega
    · rcases this (.inr e) with ⟨p, hp, hpj⟩ | h0
      · have h1 := hall p hp
        have h2 := (hj p hp).2 (hpj.trans e)
        rw [hpj] at h1
        omega
      · omega
  have hl : ∀ p ∈ layout x.kind, (p.j = 3 → 0 ≤ p.lo ∧ p.hi ≤ 2147483649) ∧ (p.j = 5 → 0 ≤ p.lo ∧ p.hi ≤ 2147483648) := by
    refine layout_cases x.kind (P := fun L => ∀ p ∈ L, (p.j = 3 → 0 ≤ p.lo ∧ p.hi ≤ 2147483649) ∧ (p.j = 5 → 0 ≤ p.lo ∧ p.hi ≤ 2147483648)) ?_ ?_ ?_ ?_ ?_ ?_ ?_ <;> intro _ <;> (try intro _ _ _ _ _) <;> decide
  have k := key _ hb ha hl
  have k3 := (k 3).1 rfl
  have k5 := (k 5).2 rfl
  exact ⟨k3.1, k5.1, k3.2, k5.2⟩
theorem recsB_frames {r : List RecM} (h : ∀ y ∈ r, Wr y) : recsB (framesR r) = r := by
  unfold recsB
  rw [founds_frames r fun y hy => (h y hy).chk, foundsR_recs]
theorem recsB_cut {r : List RecM} {y : RecM} (h : ∀ y ∈ r, Wr y) (hy : Wr y) (k : Nat) : recsB (framesR r ++ (frameR y).take k) = r ∨ recsB (framesR r ++ (frameR y).take k) = r ++ [y] := by
  by_cases hk : k < (frameR y).length
  · left
    unfold recsB
    rw [founds_cut r y k (fun z hz => (h z hz).chk) hy.chk hk, foundsR_recs]
  · right
    rw [List.take_of_length_le (by omega), ← framesR_one y, ← framesR_app]
    exact recsB_frames fun z hz => by
      rcases List.mem_append.1 hz with hz | hz
      · exact h z hz
      · simp at hz; subst hz; exact hy
theorem contOf_frames {r : List RecM} (q : Int) (h : ∀ y ∈ r, Wr y) : P.contOf q (framesR r) = ⟨q, (framesR r).length, 0, foundsR 0 r⟩ := by
  unfold P.contOf
  have h1 := founds_frames r fun y hy => (h y hy).chk
  unfold broken
  rw [h1, foundsR_sum]
  congr 1
  omega
/-- a box on a steady disk, all of whose containers are whole -/
structure Bx (u : Nat) (d : RDisk) (x : BoxM) (m : Img) (cs : List (List RecM)) (s : Int) (k : Nat) : Prop where
  up : d.down = false
  st : Steady d m
  im : Cimg u (cs.map framesR) m
  l : x.l = contsB 1 (cs.map framesR)
  next : x.next = cs.flatten.foldl after 1
  user : x.user = u
  hu : 1 ≤ u ∧ u ≤ 999
  len : cs.length ≤ 1000
  rs : ∀ r ∈ cs, r ≠ [] ∧ ∀ y ∈ r, Wr y
  rm : Rm d s k
theorem flatMap_recs {cs : List (List RecM)} (h : ∀ r ∈ cs, r ≠ [] ∧ ∀ y ∈ r, Wr y) : (cs.map framesR).flatMap recsB = cs.flatten := by
  induction cs with
  | nil => rfl
  | cons r cs ih =>
    rw [List.map_cons, List.flatMap_cons, List.flatten_cons, ih fun r hr => h r (by simp [hr]), recsB_frames (h r (by simp)).2]
/-- what is there behind a Boot: all records, or besides them one that was cut off -/
def Aft (u : Nat) (m : Img) (F : List RecM) (z : RecM → Prop) (m' : Img) : Prop :=
  (∀ n, R.pre n (ba (front u)) = false → m' n = m n) ∧ ∃ bs : List (List UInt8), Cimg u bs m' ∧ bs.length ≤ 1001 ∧ (bs.flatMap recsB = F ∨ ∃ y, z y ∧ Wr y ∧ bs.flatMap recsB = F ++ [y])
theorem after_le (l : List RecM) : ∀ n : Int, n ≤ l.foldl after n := by
  induction l with
  | nil => intro n; exact Int.le_refl _
  | cons x l ih =>
    intro n
    have := ih (after n x)
    rw [List.foldl_cons]
    unfold after at this ⊢
    omega
theorem after_bd : ∀ (l : List RecM) (n : Int), n ≤ 2147483649 → (∀ y ∈ l, Wr y) → l.foldl after n ≤ 2147483649
  | [], n, h, _ => h
  | x :: l, n, h, hw => by
    rw [List.foldl_cons]
    refine after_bd l _ ?_ fun y hy => hw y (by simp [hy])
    have := (hw x (by simp)).chk.num
    unfold after; omega
theorem Bx.nx {u : Nat} {d : RDisk} {x : BoxM} {m : Img} {cs : List (List RecM)} {s : Int} {k : Nat} (h : Bx u d x m cs s k) : 1 ≤ x.next ∧ x.next ≤ 2147483649 := by
  rw [h.next]
  refine ⟨after_le _ 1, after_bd _ 1 (by decide) fun y hy => ?_⟩
  obtain ⟨r, hr, hy⟩ := List.mem_flatten.1 hy
  exact (h.rs r hr).2 y hy
theorem Cimg.last {u : Nat} {bs : List (List UInt8)} {o b : List UInt8} {m : Img} (hu : 1 ≤ u ∧ u ≤ 999) (hl : bs.length < 99999999) (h : Cimg u (bs ++ [o]) m) : Cimg u (bs ++ [b]) (upd m (cnameI u ((bs.length + 1 : Nat) : Int)) (some b)) := by
  intro n hp
  by_cases hn : n = cnameI u ((bs.length + 1 : Nat) : Int)
  · rw [hn, upd_at, imgB_name hu (by omega)]; simp
  · rw [upd_ne _ _ hn, h n hp]
    unfold imgB
    by_cases h1 : 1 ≤ seqOf u n ∧ n = cnameI u (seqOf u n)
    · rw [if_pos h1, if_pos h1]
      have h2 : (seqOf u n).toNat - 1 ≠ bs.length := fun h2 => hn (by rw [h1.2]; congr 1; omega)
      by_cases h3 : (seqOf u n).toNat - 1 < bs.length
      · rw [List.getElem?_append_left h3, List.getElem?_append_left h3]
      · rw [List.getElem?_eq_none (by simp; omega), List.getElem?_eq_none (by simp; omega)]
    · rw [if_neg h1, if_neg h1]
theorem Cimg.more {u : Nat} {bs : List (List UInt8)} {b : List UInt8} {m : Img} (hu : 1 ≤ u ∧ u ≤ 999) (hl : bs.length < 99999999) (h : Cimg u bs m) : Cimg u (bs ++ [b]) (upd m (cnameI u ((bs.length + 1 : Nat) : Int)) (some b)) := by
  intro n hp
  by_cases hn : n = cnameI u ((bs.length + 1 : Nat) : Int)
  · rw [hn, upd_at, imgB_name hu (by omega)]; simp
  · rw [upd_ne _ _ hn, h n hp]
    unfold imgB
    by_cases h1 : 1 ≤ seqOf u n ∧ n = cnameI u (seqOf u n)
    · rw [if_pos h1, if_pos h1]
      have h2 : (seqOf u n).toNat - 1 ≠ bs.length := fun h2 => hn (by rw [h1.2]; congr 1; omega)
      by_cases h3 : (seqOf u n).toNat - 1 < bs.length
      · rw [List.getElem?_append_left h3]
      · rw [List.getElem?_eq_none (by omega), List.getElem?_eq_none (by simp; omega)]
    · rw [if_neg h1, if_neg h1]
theorem upd_other {u q : Nat} (hu : 1 ≤ u ∧ u ≤ 999) (hq : 1 ≤ q ∧ q ≤ 99999999) {m : Img} {v : Option (List UInt8)} {n : ByteArray} (hn : R.pre n (ba (front u)) = false) : upd m (cnameI u q) v n = m n := by
  refine upd_ne _ _ fun e => ?_
  rw [e, pre_name hu hq] at hn; cases hn
/-- a record is put behind the last container's -/
theorem add_fate {u : Nat} {d : RDisk} {x : BoxM} {m : Img} {cs : List (List RecM)} {r : List RecM} {y : RecM} {s : Int} {k : Nat} (h : Bx u d x m (cs ++ [r]) s k) (hy : Wr y) (hc : checkR y = 0) (hs : 77 ≤ s) (c : ContM) (hcm : c = P.contOf (cs.length + 1 : Nat) (framesR r)) :
    ((P.add d x c y).2.2 = 11 ∧ (P.add d x c y).2.1 = x ∧ Fate (P.add d x c y).1 (Aft u m (cs ++ [r]).flatten (· = y))) ∨ ((P.add d x c y).2.2 = 0 ∧ ∃ m', (∀ n, R.pre n (ba (front u)) = false → m' n = m n) ∧ Bx u (P.add d x c y).1 (P.add d x c y).2.1 m' (cs ++ [r ++ [y]]) (s - 77) k) := by
  have hr := h.rs r (by simp)
  have hlen := h.len
  rw [List.length_append, List.length_singleton] at hlen
  have hsz := hy.size
  have hcf : c = ⟨((cs.length + 1 : Nat) : Int), (framesR r).length, 0, foundsR 0 r⟩ := by rw [hcm]; exact contOf_frames _ hr.2
  have him := h.im
  rw [List.map_append, List.map_cons, List.map_nil] at him
  have hml : (cs.map framesR).length = cs.length := List.length_map _
  have hold : m (cnameI u ((cs.length + 1 : Nat) : Int)) = some (framesR r) := by
    rw [him _ (pre_name h.hu (by omega)), imgB_name h.hu (by omega)]
    simp
  have hr' : ∀ z ∈ r ++ [y], Wr z := fun z hz => by
    rcases List.mem_append.1 hz with hz | hz
    · exact hr.2 z hz
    · simp at hz; subst hz; exact hy
  unfold P.add
  have hn : cnameI x.user c.seq = cnameI u ((cs.length + 1 : Nat) : Int) := by rw [h.user, hcf]
  have hba : ba (frameR y) = ⟨(frameR y).toArray⟩ := rfl
  rw [if_neg (by simp [hc]), hn, hba]
  have hf2 : ∀ (b : List UInt8), Cimg u (cs.map framesR ++ [b]) (upd m (cnameI u ((cs.length + 1 : Nat) : Int)) (some b)) := fun b => by
    have := Cimg.last (b := b) h.hu (by rw [hml]; omega) him
    rwa [hml] at this
  have hflat : ∀ b, (cs.map framesR ++ [b]).flatMap recsB = cs.flatten ++ recsB b := fun b => by
    rw [List.flatMap_append, List.flatMap_cons, List.flatMap_nil, List.append_nil, flatMap_recs fun r hr => h.rs r (by simp [hr])]
  rcases sAppend_fate (b := frameR y) h.st h.up hold h.rm (by omega) with ⟨h1, h2⟩ | ⟨h1, h2, h3, h4⟩
  · rw [if_pos (by rw [h1]; decide)]
    refine .inl ⟨h1, rfl, h2.imp fun m' ⟨k, e⟩ => ?_⟩
    subst e
    refine ⟨fun n hn => upd_other h.hu (by omega) hn, _, hf2 _, by simp; omega, ?_⟩
    rw [hflat, List.flatten_append, List.flatten_cons, List.flatten_nil, List.append_nil]
    rcases recsB_cut hr.2 hy k with e | e
    · left; rw [e]
    · right; exact ⟨y, rfl, hy, by rw [e, List.append_assoc]⟩
  · rw [if_neg (by rw [h1]; decide)]
    refine .inr ⟨rfl, _, fun n hn => upd_other h.hu (by omega) hn, h2, h3, ?_, ?_, ?_, h.user, h.hu, by simp; omega, ?_, h4.le (by omega) (Nat.le_refl _)⟩
    · rw [List.map_append, List.map_cons, List.map_nil, framesR_app, framesR_one]
      exact hf2 _
    · simp only
      rw [h.l, List.map_append, List.map_append, contsB_app, contsB_app, List.map_cons, List.map_nil, List.map_cons, List.map_nil, List.length_append, contsB_len, contsB_len, List.length_map]
      simp only [contsB, List.length_singleton]
      rw [List.set_append_right _ _ (by rw [contsB_len, List.length_map]; omega), contsB_len, List.length_map]
      congr 1
      rw [show cs.length + 1 - 1 - cs.length = 0 by omega, List.set_cons_zero, contOf_frames _ hr', hcf, framesR_app, framesR_one, foundsR_app]
      simp only [List.length_append, foundsR, Int.toNat_natCast, Nat.zero_add]
      congr 2
      · omega
    · simp only
      rw [h.next, List.flatten_append, List.flatten_append, List.foldl_append, List.foldl_append]
      simp
    · intro r' hr'm
      rcases List.mem_append.1 hr'm with hm | hm
      · exact h.rs r' (by simp [hm])
      · simp at hm; subst hm
        exact ⟨by simp, hr'⟩
end Go.Ph
end
section
set_option linter.all false
namespace Go.Ph
theorem head_check {u q n b : Int} (hu : 1 ≤ u ∧ u ≤ 999) (hq : 1 ≤ q ∧ q ≤ 2147483648) (hn : 1 ≤ n ∧ n ≤ 2147483649) (hb : 0 ≤ b ∧ b ≤ 2147483648) : checkR ⟨[1, u, q, n, b, 0, 0, 0, 0, 0, 0], []⟩ = 0 := by
  have h1 : (RecM.kind ⟨[1, u, q, n, b, 0, 0, 0, 0, 0, 0], []⟩) = 1 := rfl
  have h2 : layout 1 = [⟨2, 1, 999, 1⟩, ⟨4, 1, 2147483648, 2⟩, pNext, ⟨4, 0, 2147483648, 4⟩] := rfl
  have h3 : bareR ⟨[1, u, q, n, b, 0, 0, 0, 0, 0, 0], []⟩ = true := by
    unfold bareR
    rw [decide_eq_true_eq]
    exact ⟨rfl, rfl⟩
  unfold checkR
  rw [h1, h2, if_neg (by simp), h3, if_neg ?_, if_neg (by simp), if_pos rfl]
  simp only [List.all_cons, List.all_nil, inBd, pNext, List.getD_cons_succ, List.getD_cons_zero, Bool.and_true]
  simp
  omega
theorem seal_check {n : Int} (hn : 1 ≤ n ∧ n ≤ 2147483649) : checkR (P.sealR n) = 0 := by
  have h1 : (P.sealR n).kind = 5 := rfl
  have h2 : layout 5 = [pNext] := rfl
  have h3 : bareR (P.sealR n) = true := by
    unfold bareR
    rw [decide_eq_true_eq]
    exact ⟨rfl, rfl⟩
  unfold checkR
  rw [h1, h2, if_neg (by simp), h3, if_neg ?_, if_neg (by simp), if_pos rfl]
  unfold P.sealR
  simp only [List.all_cons, List.all_nil, inBd, pNext, List.getD_cons_succ, List.getD_cons_zero, Bool.and_true]
  simp
  omega
theorem wr_head {x : BoxM} {q : Int} (h : checkR (P.headR x q 0) = 0) : Wr (P.headR x q 0) := ⟨check0 h, rfl, rfl, fun _ => rfl⟩
theorem wr_seal {n : Int} (h : checkR (P.sealR n) = 0) : Wr (P.sealR n) := ⟨check0 h, rfl, rfl, fun h => absurd (show (5 : Int) = 1 from h) (by decide)⟩
theorem wr_kept {y : RecM} (hk : keptR y = true) (hl : y.f.length = 11) (h : checkR y = 0) : Wr y := by
  have hc := check0 h
  unfold keptR at hk
  simp only [Bool.or_eq_true, decide_eq_true_eq] at hk
  exact ⟨hc, hl, hc.d6 (by omega), fun h => by omega⟩
theorem snoc_cases {α : Type} (l : List α) : l = [] ∨ ∃ m x, l = m ++ [x] := by
  rcases List.eq_nil_or_concat l with h | ⟨m, x, h⟩
  · exact .inl h
  · exact .inr ⟨m, x, by rw [h, List.concat_eq_append]⟩
theorem contsB_last (a : List (List UInt8)) (b : List UInt8) : (contsB 1 (a ++ [b])).getLast? = some (P.contOf ((a.length + 1 : Nat) : Int) b) := by
  rw [contsB_app]
  simp only [contsB, List.getLast?_append, List.getLast?_singleton, Option.some_or]
  congr 2
  omega
theorem lastSeq_B (bs : List (List UInt8)) : P.lastSeq (contsB 1 bs) = bs.length := by
  rcases snoc_cases bs with rfl | ⟨a, b, rfl⟩
  · rfl
  · unfold P.lastSeq
    rw [contsB_last, List.length_append, List.length_singleton]
    rfl
theorem clean_frames {r : List RecM} (q : Int) (h : ∀ y ∈ r, Wr y) (h0 : r ≠ []) : P.clean (P.contOf q (framesR r)) = true := by
  rw [contOf_frames q h]
  rcases snoc_cases r with rfl | ⟨r0, z, rfl⟩
  · exact absurd rfl h0
  · unfold P.clean
    simp only
    rw [foundsR_app, foundsR, foundsR, List.getLast?_append, List.getLast?_singleton, Option.some_or, framesR_app, framesR_one]
    simp
structure Fell (u : Nat) (d : RDisk) (x : BoxM) (m : Img) (L : List RecM) (z : RecM → Prop) : Prop where
  down : d.down = true
  ex : ∃ F, F.filter keptR = L ∧ x.next = F.foldl after 1 ∧ (∀ y ∈ F, Wr y) ∧ Fate d (Aft u m F (fun y => keptR y = true → z y))
theorem Aft.imp {u : Nat} {m m1 : Img} {F : List RecM} {z z' : RecM → Prop} {m' : Img} (h : Aft u m F z m') (hm : ∀ n, R.pre n (ba (front u)) = false → m n = m1 n) (hz : ∀ y, z y → z' y) : Aft u m1 F z' m' := by
  obtain ⟨h1, bs, h2, h3, h4⟩ := h
  exact ⟨fun n hn => (h1 n hn).trans (hm n hn), bs, h2, h3, h4.imp id fun ⟨y, a, b, c⟩ => ⟨y, hz y a, b, c⟩⟩
theorem Bx.wr {u : Nat} {d : RDisk} {x : BoxM} {m : Img} {cs : List (List RecM)} {s : Int} {k : Nat} (h : Bx u d x m cs s k) : ∀ y ∈ cs.flatten, Wr y := fun y hy => by
  obtain ⟨r, hr, hy⟩ := List.mem_flatten.1 hy
  exact (h.rs r hr).2 y hy
theorem after_head {x : BoxM} {q : Int} (h : 1 ≤ x.next) : after x.next (P.headR x q 0) = x.next := by
  show max (max x.next x.next) (0 + 1) = x.next
  omega
theorem kept_head (x : BoxM) (q b : Int) : keptR (P.headR x q b) = false := rfl
theorem kept_seal (n : Int) : keptR (P.sealR n) = false := rfl
theorem dig_okc {c : UInt8} (h : isDig c = true) : okc c = true := by
  unfold isDig at h
  unfold okc
  simp only [Bool.and_eq_true, decide_eq_true_eq] at h
  simp only [Bool.or_eq_true, Bool.and_eq_true, decide_eq_true_eq]
  omega
theorem cname_nameOk {u q : Nat} (hu : 1 ≤ u ∧ u ≤ 999) (hq : 1 ≤ q ∧ q ≤ 99999999) : nameOk (cnameI u q) = true := by
  unfold nameOk
  rw [name_size hu hq, cnameI_eq hu hq, ba_list]
  simp only [Bool.and_eq_true, decide_eq_true_eq]
  refine ⟨⟨by decide, by decide⟩, ?_⟩
  rw [List.all_eq_true]
  intro c hc
  unfold cname front at hc
  simp only [List.mem_append, List.mem_cons, List.not_mem_nil, or_false] at hc
  rcases hc with (rfl | hc | rfl) | hc
  · decide
  · exact dig_okc (low_isDig _ _ _ hc)
  · decide
  · exact dig_okc (low_isDig _ _ _ hc)
theorem fresh_fate {u : Nat} {d : RDisk} {x : BoxM} {m : Img} {cs : List (List RecM)} {s : Int} {k : Nat} (h : Bx u d x m cs s (k + 1)) (hs : 77 ≤ s) (hl : cs.length < 1000) :
    ((P.fresh d x).2.2 = 11 ∧ Fell u (P.fresh d x).1 (P.fresh d x).2.1 m (cs.flatten.filter keptR) (fun _ => False)) ∨ ((P.fresh d x).2.2 = 0 ∧ ∃ m' r, (∀ n, R.pre n (ba (front u)) = false → m' n = m n) ∧ keptR r = false ∧ Bx u (P.fresh d x).1 (P.fresh d x).2.1 m' (cs ++ [[r]]) (s - 77) k) := by
  have hnx := h.nx
  have hseq : P.lastSeq x.l + 1 = ((cs.length + 1 : Nat) : Int) := by rw [h.l, lastSeq_B, List.length_map]; omega
  have hc : checkR (P.headR x ((cs.length + 1 : Nat) : Int) 0) = 0 := by
    unfold P.headR
    have := h.hu
    have := h.user
    exact head_check (by omega) (by omega) hnx (by omega)
  have hw := wr_head hc
  have hsz := hw.size
  have hml : (cs.map framesR).length = cs.length := List.length_map _
  unfold P.fresh
  rw [hseq, if_neg (by rw [hc]; decide), h.user]
  have hba : ba (frameR (P.headR x ((cs.length + 1 : Nat) : Int) 0)) = ⟨(frameR (P.headR x ((cs.length + 1 : Nat) : Int) 0)).toArray⟩ := rfl
  rw [hba]
  have hnone : m (cnameI u ((cs.length + 1 : Nat) : Int)) = none := by
    rw [h.im _ (pre_name h.hu (by omega)), imgB_name h.hu (by omega)]
    simp
  have hok : nameOk (cnameI u ((cs.length + 1 : Nat) : Int)) = true := cname_nameOk h.hu (by omega)
  have hf2 : ∀ (b : List UInt8), Cimg u (cs.map framesR ++ [b]) (upd m (cnameI u ((cs.length + 1 : Nat) : Int)) (some b)) := fun b => by
    have := Cimg.more (b := b) h.hu (by rw [hml]; omega) h.im
    rwa [hml] at this
  have hflat : ∀ b, (cs.map framesR ++ [b]).flatMap recsB = cs.flatten ++ recsB b := fun b => by
    rw [List.flatMap_append, List.flatMap_cons, List.flatMap_nil, List.append_nil, flatMap_recs h.rs]
  rcases make_fate (b := frameR (P.headR x ((cs.length + 1 : Nat) : Int) 0)) h.st h.up hnone hok h.rm (by omega) with ⟨h1, h2⟩ | ⟨h1, h2, h3, h4⟩
  · rw [if_pos (by rw [h1]; decide)]
    refine .inl ⟨h1, h2.down, cs.flatten, rfl, h.next, h.wr, h2.imp fun m' e => ?_⟩
    rcases e with rfl | ⟨k, rfl⟩
    · exact ⟨fun n _ => rfl, cs.map framesR, h.im, by omega, .inl (flatMap_recs h.rs)⟩
    · refine ⟨fun n hn => upd_other h.hu (by omega) hn, _, hf2 _, by simp; omega, ?_⟩
      rw [hflat]
      have := recsB_cut (r := []) (by simp) hw k
      have hnil : framesR [] = [] := rfl
      rw [hnil, List.nil_append, List.nil_append] at this
      rcases this with e | e
      · left; rw [e, List.append_nil]
      · right; exact ⟨P.headR x ((cs.length + 1 : Nat) : Int) 0, fun hk => by (rw [kept_head] at hk; cases hk), hw, by rw [e]⟩
  · rw [if_neg (by rw [h1]; decide)]
    refine .inr ⟨rfl, _, P.headR x ((cs.length + 1 : Nat) : Int) 0, fun n hn => upd_other h.hu (by omega) hn, kept_head _ _ _, h2, h3, ?_, ?_, ?_, rfl, h.hu, by simp; omega, ?_, h4.le (by omega) (Nat.le_refl _)⟩
    · rw [List.map_append, List.map_cons, List.map_nil, framesR_one]
      exact hf2 _
    · simp only
      rw [h.l, List.map_append, contsB_app, List.map_cons, List.map_nil, List.length_map]
      simp only [contsB]
      rw [contOf_frames _ (fun z hz => by simp at hz; subst hz; exact hw), framesR_one]
      simp only [foundsR]
      congr 3
      omega
    · simp only
      rw [List.flatten_append, List.foldl_append, ← h.next]
      simp only [List.flatten_cons, List.flatten_nil, List.append_nil, List.foldl_cons, List.foldl_nil]
      exact (after_head hnx.1).symm
    · intro r' hr'm
      rcases List.mem_append.1 hr'm with hm | hm
      · exact h.rs r' hm
      · simp at hm; subst hm
        exact ⟨by simp, fun z hz => by simp at hz; subst hz; exact hw⟩
end Go.Ph
end
section
set_option linter.all false
namespace Go.Ph
theorem filter_kept1 {l : List RecM} {r : RecM} (h : keptR r = false) : (l ++ [r]).filter keptR = l.filter keptR := by simp [h]
theorem Fell.imp {u : Nat} {d : RDisk} {x : BoxM} {m m1 : Img} {L : List RecM} {z z' : RecM → Prop} (h : Fell u d x m L z) (hm : ∀ n, R.pre n (ba (front u)) = false → m n = m1 n) (hz : ∀ y, z y → z' y) : Fell u d x m1 L z' := by
  obtain ⟨h1, F, h2, h3, h4, h5⟩ := h
  exact ⟨h1, F, h2, h3, h4, h5.imp fun m' a => a.imp hm fun y hy hk => hz y (hy hk)⟩
theorem room_fate {u : Nat} {d : RDisk} {x : BoxM} {m : Img} {cs : List (List RecM)} {s : Int} {k : Nat} (h : Bx u d x m cs s (k + 1)) (hs : 154 ≤ s) (hl : cs.length < 1000) :
    ((P.room d x).2.2 = 11 ∧ Fell u (P.room d x).1 (P.room d x).2.1 m (cs.flatten.filter keptR) (fun _ => False)) ∨ ((P.room d x).2.2 = 0 ∧ ∃ m' cs' r, (∀ n, R.pre n (ba (front u)) = false → m' n = m n) ∧ Bx u (P.room d x).1 (P.room d x).2.1 m' (cs' ++ [r]) (s - 154) k ∧ (cs' ++ [r]).flatten.filter keptR = cs.flatten.filter keptR ∧ cs'.length ≤ cs.length) := by
  have hnx := h.nx
  have fr : ∀ {d : RDisk} {x : BoxM} {m1 : Img} {cs1 : List (List RecM)} {s1 : Int}, Bx u d x m1 cs1 s1 (k + 1) → s - 77 ≤ s1 → cs1.length = cs.length → (∀ n, R.pre n (ba (front u)) = false → m1 n = m n) → cs1.flatten.filter keptR = cs.flatten.filter keptR →
      ((P.fresh d x).2.2 = 11 ∧ Fell u (P.fresh d x).1 (P.fresh d x).2.1 m (cs.flatten.filter keptR) (fun _ => False)) ∨ ((P.fresh d x).2.2 = 0 ∧ ∃ m' cs' r, (∀ n, R.pre n (ba (front u)) = false → m' n = m n) ∧ Bx u (P.fresh d x).1 (P.fresh d x).2.1 m' (cs' ++ [r]) (s - 154) k ∧ (cs' ++ [r]).flatten.filter keptR = cs.flatten.filter keptR ∧ cs'.length ≤ cs.length) := by
    intro d x m1 cs1 s1 hb hs1 hl1 hm1 hk1
    rcases fresh_fate hb (by omega) (by omega) with ⟨h1, h2⟩ | ⟨h1, m', r, h2, h3, h4⟩
    · rw [hk1] at h2
      exact .inl ⟨h1, h2.imp hm1 fun _ h => h⟩
    · refine .inr ⟨h1, m', cs1, [r], fun n hn => (h2 n hn).trans (hm1 n hn), ⟨h4.up, h4.st, h4.im, h4.l, h4.next, h4.user, h4.hu, h4.len, h4.rs, h4.rm.le (by omega) (Nat.le_refl _)⟩, ?_, by omega⟩
      rw [List.flatten_append, List.flatten_cons, List.flatten_nil, List.append_nil, filter_kept1 h3, hk1]
  unfold P.room
  rcases snoc_cases cs with rfl | ⟨cs0, r, rfl⟩
  · have hgl : x.l.getLast? = none := by rw [h.l]; rfl
    rw [hgl]
    simp only
    exact fr h (by omega) rfl (fun _ _ => rfl) rfl
  · have hgl : x.l.getLast? = some (P.contOf ((cs0.length + 1 : Nat) : Int) (framesR r)) := by
      rw [h.l, List.map_append, List.map_cons, List.map_nil, contsB_last, List.length_map]
    rw [hgl]
    simp only
    have hr := h.rs r (by simp)
    have hcl := clean_frames ((cs0.length + 1 : Nat) : Int) hr.2 hr.1
    rw [List.length_append, List.length_singleton] at hl
    split
    · exact .inr ⟨rfl, m, cs0, r, fun _ _ => rfl, ⟨h.up, h.st, h.im, h.l, h.next, h.user, h.hu, h.len, h.rs, h.rm.le (by omega) (by omega)⟩, rfl, by simp⟩
    · split
      · have hsc := seal_check hnx
        rcases add_fate h (wr_seal hsc) hsc (by omega) _ rfl with ⟨h1, h2, h3⟩ | ⟨h1, m', h2, h3⟩
        · rw [if_pos (by rw [h1]; decide)]
          refine .inl ⟨h1, h3.down, _, rfl, by rw [h2]; exact h.next, h.wr, h3.imp fun m' a => a.imp (fun _ _ => rfl) fun y e hk => ?_⟩
          rw [e, kept_seal] at hk; cases hk
        · rw [if_neg (by rw [h1]; decide)]
          refine fr h3 (by omega) (by simp) h2 ?_
          rw [List.flatten_append, List.flatten_append, List.flatten_cons, List.flatten_nil, List.append_nil, List.flatten_cons, List.flatten_nil, List.append_nil, ← List.append_assoc, filter_kept1 (kept_seal _)]
      · exact fr h (by omega) rfl (fun _ _ => rfl) rfl
theorem put_fate {u : Nat} {d : RDisk} {x : BoxM} {m : Img} {cs : List (List RecM)} {s : Int} {k : Nat} {y : RecM} (h : Bx u d x m cs s (k + 1)) (hs : 300 ≤ s) (hl : cs.length < 1000) (hy : y.f.length = 11) :
    (P.put d x y = (d, x, none, 1)) ∨
    ((P.put d x y).2.2.2 = 11 ∧ (P.put d x y).2.2.1 = none ∧ keptR y = true ∧ Fell u (P.put d x y).1 (P.put d x y).2.1 m (cs.flatten.filter keptR) (· = y)) ∨
    ((P.put d x y).2.2.2 = 0 ∧ (P.put d x y).2.2.1 ≠ none ∧ ∃ m' cs', (∀ n, R.pre n (ba (front u)) = false → m' n = m n) ∧ Bx u (P.put d x y).1 (P.put d x y).2.1 m' cs' (s - 300) k ∧ cs'.flatten.filter keptR = cs.flatten.filter keptR ++ [y] ∧ cs'.length ≤ cs.length + 1) := by
  by_cases hb : keptR y = false ∨ checkR y ≠ 0 ∨ P.lastSeq x.l = 99999999
  · left; unfold P.put; rw [if_pos hb]
  have hk : keptR y = true := by
    cases e : keptR y
    · exact absurd (.inl e) hb
    · rfl
  have hc : checkR y = 0 := by
    rcases Classical.em (checkR y = 0) with e | e
    · exact e
    · exact absurd (.inr (.inl e)) hb
  have hw := wr_kept hk hy hc
  right
  unfold P.put
  rw [if_neg hb]
  rcases room_fate h (by omega) hl with ⟨h1, h2⟩ | ⟨h1, m', cs', r, h2, h3, h4, h5⟩
  · rw [if_pos (by rw [h1]; decide)]
    exact .inl ⟨h1, rfl, hk, h2.imp (fun _ _ => rfl) fun _ hf => hf.elim⟩
  · rw [if_neg (by rw [h1]; decide)]
    have hgl : (P.room d x).2.1.l.getLast? = some (P.contOf ((cs'.length + 1 : Nat) : Int) (framesR r)) := by
      rw [h3.l, List.map_append, List.map_cons, List.map_nil, contsB_last, List.length_map]
    rw [hgl]
    simp only
    rcases add_fate h3 hw hc (by omega) _ rfl with ⟨g1, g2, g3⟩ | ⟨g1, m2, g2, g3⟩
    · rw [if_pos (by rw [g1]; decide)]
      refine .inl ⟨g1, rfl, hk, g3.down, _, h4, by simp only; rw [g2]; exact h3.next, h3.wr, g3.imp fun m' a => a.imp h2 fun y e _ => e⟩
    · rw [if_neg (by rw [g1]; decide)]
      refine .inr ⟨rfl, by simp, m2, _, fun n hn => (g2 n hn).trans (h2 n hn), ⟨g3.up, g3.st, g3.im, g3.l, g3.next, g3.user, g3.hu, g3.len, g3.rs, g3.rm.le (by omega) (Nat.le_refl _)⟩, ?_, by simp; omega⟩
      rw [← h4, List.flatten_append, List.flatten_append, List.flatten_cons, List.flatten_nil, List.append_nil, List.flatten_cons, List.flatten_nil, List.append_nil, ← List.append_assoc, List.filter_append (p := keptR) (l₂ := [y])]
      simp [hk]
/-- where the power is gone nothing is put -/
theorem sAppend_down {d : RDisk} (n b : ByteArray) (h : d.down = true) : R.sAppend n b d = (d, 11) := by
  unfold R.sAppend R.steps
  have : R.append d n b = (d, 11) := by unfold R.append; rw [begin_off h]; rfl
  simp only [this]; rfl
theorem make_down {d : RDisk} (n b : ByteArray) (h : d.down = true) : R.make d n b = (d, 11) := by
  have : R.create d n = (d, 11) := by unfold R.create; rw [begin_off h]; rfl
  unfold R.make
  have hh : R.has d n = false := by unfold R.has; rw [h]; rfl
  rw [if_neg (by rw [hh]; decide), this, if_pos (by simp)]
theorem add_down {d : RDisk} (x : BoxM) (c : ContM) (y : RecM) (h : d.down = true) : (P.add d x c y).1 = d ∧ (P.add d x c y).2.1 = x ∧ (P.add d x c y).2.2 ≠ 0 := by
  unfold P.add
  split
  · rename_i h1; exact ⟨rfl, rfl, h1⟩
  · rw [sAppend_down _ _ h, if_pos (by simp)]
    exact ⟨rfl, rfl, by simp⟩
theorem fresh_down {d : RDisk} (x : BoxM) (h : d.down = true) : (P.fresh d x).1 = d ∧ (P.fresh d x).2.1 = x ∧ (P.fresh d x).2.2 ≠ 0 := by
  unfold P.fresh
  split
  · rename_i h1; exact ⟨rfl, rfl, h1⟩
  · rw [make_down _ _ h, if_pos (by simp)]
    exact ⟨rfl, rfl, by simp⟩
theorem put_down {d : RDisk} (x : BoxM) (y : RecM) (h : d.down = true) : (P.put d x y).1 = d ∧ (P.put d x y).2.1 = x ∧ (P.put d x y).2.2.1 = none ∧ (P.put d x y).2.2.2 ≠ 0 := by
  unfold P.put
  split
  · exact ⟨rfl, rfl, rfl, by simp⟩
  have hf := fresh_down x h
  have hr : ((P.room d x).1 = d ∧ (P.room d x).2.1 = x ∧ (P.room d x).2.2 ≠ 0) ∨ P.room d x = (d, x, 0) := by
    unfold P.room
    split
    · exact .inl hf
    · rename_i m hm
      split
      · exact .inr rfl
      · split
        · have ha := add_down x m (P.sealR x.next) h
          rw [if_pos ha.2.2]
          exact .inl ha
        · exact .inl hf
  rcases hr with ⟨h1, h2, h3⟩ | h1
  · rw [if_pos h3]
    exact ⟨h1, h2, rfl, h3⟩
  · rw [h1, if_neg (by simp)]
    simp only
    split
    · exact ⟨rfl, rfl, rfl, by simp⟩
    · rename_i m hm
      have ha := add_down x m y h
      rw [if_pos ha.2.2]
      exact ⟨ha.1, ha.2.1, rfl, ha.2.2⟩
end Go.Ph
end
section
set_option linter.all false
namespace Go.Ph
open S
theorem add_len (d : RDisk) (x : BoxM) (c : ContM) (y : RecM) : (P.add d x c y).2.1.l.length = x.l.length := by
  unfold P.add; split; rfl; split; rfl; simp
theorem fresh_len (d : RDisk) (x : BoxM) : (P.fresh d x).2.1.l.length ≤ x.l.length + 1 := by
  unfold P.fresh
  split
  · simp only; omega
  · split
    · simp only; omega
    · simp
theorem room_len (d : RDisk) (x : BoxM) : (P.room d x).2.1.l.length ≤ x.l.length + 1 := by
  unfold P.room
  have hf := fresh_len d x
  split
  · exact hf
  · rename_i m _
    split
    · simp only; omega
    · split
      · have ha := add_len d x m (P.sealR x.next)
        split
        · omega
        · have := fresh_len (P.add d x m (P.sealR x.next)).1 (P.add d x m (P.sealR x.next)).2.1
          omega
      · exact hf
theorem dput_len (d : RDisk) (x : BoxM) (y : RecM) : (P.put d x y).2.1.l.length ≤ x.l.length + 1 := by
  have hr := room_len d x
  unfold P.put
  split
  · simp only; omega
  · split
    · simp only; omega
    · split
      · simp only; omega
      · rename_i m _
        have ha := add_len (P.room d x).1 (P.room d x).2.1 m y
        split <;> (simp only; omega)
set_option maxRecDepth 20000 in
theorem put_box {N : Nat} {d : RDisk} {x : BoxM} {y : RecM} (h : BoxB N x) (hl : x.l.length + 1 ≤ 1000000) (hN : N + 300000 ≤ 900000000) (hy : y.f.length = 11) : BoxB (N + 300000) (P.put d x y).2.1 ∧ (P.put d x y).1.calls ≤ d.calls + 300 ∧ (P.put d x y).2.1.user = x.user ∧ (P.put d x y).2.1.bound = x.bound := by
  have up : ∀ {x : BoxM} {M M' : Nat}, M ≤ M' → M' ≤ 900000000 → BoxB M x → BoxB M' x := fun hm hm' h => ⟨h.len, hm', h.next, fun c hc => by have := h.all c hc; refine ⟨this.1, this.2.1, this.2.2.1, by omega, by omega, this.2.2.2.2.2⟩⟩
  have hls := lastSeq_bd h
  unfold P.put
  split
  · exact ⟨up (by omega) hN h, by simp only; omega, rfl, rfl⟩
  · rename_i hb
    have hq : P.lastSeq x.l < 99999999 := by
      rcases Int.lt_or_le (P.lastSeq x.l) 99999999 with h1 | h1
      · exact h1
      · exact absurd (.inr (.inr (by omega))) hb
    have rb := room_box (d := d) h hl (by omega) hq
    split
    · exact ⟨up (by omega) hN rb.1, by simp only; omega, rb.2.2.1, rb.2.2.2.1⟩
    · split
      · exact ⟨up (by omega) hN rb.1, by simp only; omega, rb.2.2.1, rb.2.2.2.1⟩
      · rename_i m hm
        have ab := add_box (d := (P.room d x).1) (y := y) rb.1 (by omega) hm hy
        split
        · exact ⟨ab.1, by simp only; omega, ab.2.2.1.trans rb.2.2.1, ab.2.2.2.trans rb.2.2.2.1⟩
        · exact ⟨ab.1, by simp only; omega, ab.2.2.1.trans rb.2.2.1, ab.2.2.2.trans rb.2.2.2.1⟩
def tRec : Ty RecM := ⟨12, fun V x vs => ∃ sl : Sl, vs = rowF x.f sl ∧ x.f.length = 11 ∧ Ls tBy V x.data sl, by rintro _ _ _ ⟨_, rfl, h, _⟩; simp [rowF, h], by rintro _ _ _ _ h ⟨sl, rfl, h0, h1⟩; exact ⟨sl, rfl, h0, h1.mono h h⟩, by rintro _ _ _ ⟨_, rfl, _⟩; exact rowF_one _ _⟩
/-- an element of a list of records -/
theorem ixRec {s : St} {q : Nat} {l : List RecM} {sl : Sl} {i : Int} {K : G_api_Rec → HP} (h : LsW tRec (s.w 0) (s.w q) l sl) (h0 : 0 ≤ i) (h1 : i < l.length)
    (hK : ∀ x r, l[i.toNat]? = some x → RecAt (s.w 0) x r → K r s.H) : ixL sl 12 i (fun a => ld_G_api_Rec a fun r => K r) s.H := by
  refine ixL_rule h h0 h1 fun b o x hx he => ?_
  obtain ⟨_, ⟨sd, rfl, hf, hd⟩, ha⟩ := he
  exact ldRecO ha hf fun r hr hs => hK x r hx ⟨hr, by rw [hs]; exact hd⟩
theorem light_ok {s : St} {x : RecM} {r : G_api_Rec} {K : Bool → HP} (h : RecAt (s.w 0) x r) (hK : ∀ s', Step [] s s' → K (decide (x.data.length ≤ 1000)) s'.H) : rf14_Light r K s.H := by
  unfold rf14_Light
  refine newc_0 fun s1 p1 n1 a1' => ?_
  have a1 : At (s1.w 0) p1 0 (rowF x.f r.Data) := by rw [← h.f]; exact a1'
  refine ldL_at a1 (rowF_data h.len) ?_
  have := h.data.len
  have e : decide (((r.Data.len : Nat) : Int) ≤ 1000) = decide (x.data.length ≤ 1000) := by rw [decide_eq_decide]; omega
  rw [e]
  exact hK s1 n1.step
theorem Steady.crash {d : RDisk} {m : Img} (h : Steady d m) (n : Int) : Steady (R.crash d n) m := ⟨h.good, h.fail, h.waits, h.sure, h.calm, h.img⟩
/-- the power goes at once -/
theorem Steady.cut {d : RDisk} {m : Img} (h : Steady d m) (hd : d.down = false) : Fate (R.syncDir (R.crash d 0)).1 (fun m' => m' = m) := by
  have hb : (R.begin (R.crash d 0)).2 = 11 ∧ (R.begin (R.crash d 0)).1.down = true := by
    unfold R.begin R.crash R.arm
    rw [if_neg (by simp [hd])]
    simp
  have sd := (begin_cases (d := R.crash d 0) hd h.fail).1
  unfold R.syncDir
  simp only
  rw [if_pos (by rw [hb.1]; decide)]
  exact (sd.steady (h.crash 0)).fate hb.2
theorem Fell.nm {d : RDisk} {m : Img} {u : Nat} (hu : 1 ≤ u ∧ u ≤ 999) {bs : List (List UInt8)} (h : Steady d m) (hc : Cimg u bs m) (hl : bs.length ≤ 1001) (hn : ∀ n, R.pre n (ba (front u)) = false → m n = none) : Nm d := by
  intro e he
  have hin : m e.Name ≠ none := by
    rw [← h.img]
    unfold imgOf
    have hf := find_mem h.good (n := e.Name) (i := e.File) he
    have hr := h.good.rng e he
    rw [hf, if_neg (by omega)]
    simp
  cases hp : R.pre e.Name (ba (front u)) with
  | false => exact absurd (hn _ hp) hin
  | true =>
    rw [hc _ hp] at hin
    cases hv : imgB u bs e.Name with
    | none => exact absurd hv hin
    | some b =>
      obtain ⟨q, h1, h2, h3, _⟩ := imgB_inv hv
      rw [h3, name_size hu (by omega)]
      decide
def SureOk (cut : RecM) (y : RecM) : Prop := y.f = cut.f ∧ y.data = cut.data
/-- what is told of the box behind the power's return -/
theorem sure6 {C : Cx} {kb q kc : Nat} {s : St} {p tc : Nat} {x : BoxM} {dp : Option Addr} {ins : List RecM} {sl : Sl} {cut : RecM} {csl : Sl} {K : Bool → HP} (hb : BoxV kb s p x dp) (hx : BoxOk x) (hko : kb + 1 ≠ own s) (hi : Ls tRec (s.w 0) ins sl) (hil : ins.length ≤ 1000) (hcc : At (s.w kc) tc 0 (rowF cut.f csl)) (hcl : cut.f.length = 11) (hcd : Ls tBy (s.w 0) cut.data csl)
    (hF : (recsL x.l).filter keptR = ins ∨ ∃ y, SureOk cut y ∧ (recsL x.l).filter keptR = ins ++ [y]) (hK : ∀ s', Step [] s s' → K true s'.H) : lw18_DboxSure_j6 C sl tc (some ⟨p, 0, none⟩) false K s.H := by
  unfold lw18_DboxSure_j6
  refine bif_f ?_
  refine dPlaces_ok hb hx hko fun s1 o e1 l1 => ?_
  have hol := l1.len
  have hsl := hi.len
  have hpl : (P.places x.l).length = ((recsL x.l).filter keptR).length := by rw [← places_recs, List.length_map]
  have hget : ∀ (i : Nat) z, (P.places x.l)[i]? = some z → ((recsL x.l).filter keptR)[i]? = some z.x := fun i z hz => by
    rw [← places_recs, List.getElem?_map, hz]; rfl
  have i1 := Ls.st hi e1
  have hle : ins.length ≤ (P.places x.l).length := by
    rw [hpl]
    rcases hF with h | ⟨y, _, h⟩ <;> rw [h] <;> simp
  have last : ∀ s', Step [] s1 s' → lw18_DboxSure_j7 C sl o false K s'.H := fun s' es => by
    unfold lw18_DboxSure_j7
    refine bif_f ?_
    refine loop_rule (fun i : Nat => [.int .i64 i]) (fun i s2 => i ≤ ins.length ∧ Step [] s1 s2) (fun i _ => ins.length - i) 0 rfl ⟨Nat.zero_le _, es⟩ ?_
    rintro i s2 ⟨hin, e2⟩ G hG
    simp only [List.getD_cons_zero, List.getD_cons_succ, asI_v, asL_v, asS_v, asB_v, asM_v, asP_v]
    refine bif_dec (fun hlt => ?_) (fun hlt => ?_)
    · have hil' : i < ins.length := by omega
      have l2 := Ls.st l1 e2
      refine ixL_rule l2 (by omega) (by omega) fun b o z hz he => ?_
      obtain ⟨_, ⟨sd, rfl, hzf, hzd⟩, ha⟩ := he
      refine ldXr ha hzf fun r hr hs => ?_
      refine ixRec (Ls.st i1 e2) (by omega) (by omega) fun w r2 hw ra2 => ?_
      have hzw : z.x = w := by
        have h1 := hget _ z hz
        rw [Int.toNat_natCast] at h1 hw
        rcases hF with h | ⟨y, _, h⟩
        · rw [h, hw] at h1; exact (Option.some.inj h1).symm
        · rw [h, List.getElem?_append_left hil', hw] at h1; exact (Option.some.inj h1).symm
      refine rSame_ok (x := z.x) (y := w) ⟨hr, by rw [hs]; exact hzd⟩ ra2 fun s3 e3 => ?_
      rw [decide_eq_true (by rw [hzw]; exact ⟨rfl, rfl⟩)]
      refine bif_f ?_
      rw [w64_id (by omega) (by omega)]
      exact hG (i + 1) s3 ⟨hil', e2.trans e3⟩ (by omega)
    · exact hK s2 (e1.trans e2)
  rcases hF with h | ⟨y, hy, h⟩
  · have h1 : (P.places x.l).length = ins.length := by rw [hpl, h]
    refine bif_dec (fun hh => absurd hh (by omega)) (fun _ => ?_)
    rw [w64_id (by omega) (by omega)]
    refine bif_dec (fun hh => absurd hh (by omega)) (fun _ => ?_)
    refine bif_dec (fun hh => absurd hh (by omega)) (fun _ => ?_)
    exact last s1 Step.refl
  · have h1 : (P.places x.l).length = ins.length + 1 := by rw [hpl, h]; simp
    refine bif_dec (fun hh => absurd hh (by omega)) (fun _ => ?_)
    rw [w64_id (by omega) (by omega)]
    refine bif_dec (fun hh => absurd hh (by omega)) (fun _ => ?_)
    refine bif_dec (fun _ => ?_) (fun hh => absurd (by omega) hh)
    refine ixL_rule l1 (by omega) (by omega) fun b o z hz he => ?_
    obtain ⟨_, ⟨sd, rfl, hzf, hzd⟩, ha⟩ := he
    refine ldXr ha hzf fun r hr hs => ?_
    refine ldRec (hcc.mono (e1.view (k := kc) (by simp))) hcl fun r2 hr2 hs2 => ?_
    have hzy : z.x = y := by
      have h2 := hget _ z hz
      rw [h, show (((sl.len : Nat) : Int)).toNat = ins.length by omega] at h2
      simp at h2
      exact h2.symm
    refine rSame_ok (x := z.x) (y := cut) ⟨hr, by rw [hs]; exact hzd⟩ ⟨hr2, by rw [hs2]; exact Ls.st hcd e1⟩ fun s3 e3 => ?_
    rw [decide_eq_true (by rw [hzy]; exact hy)]
    exact last s3 e3
end Go.Ph
end
section
set_option linter.all false
namespace Go.Ph
open S
theorem base0_of {l : List RecM} (h : ∀ y ∈ l, Wr y) : Base0 l := fun x hx hk => (h x hx).base hk
/-- behind the power's loss -/
theorem sure5 {C : Cx} {kd kb q kc : Nat} {s : St} {b p tc : Nat} {d : RDisk} {x : BoxM} {ins : List RecM} {sl : Sl} {cut : RecM} {csl : Sl} {bound turns : Int} {keep : List Int} {slk : Sl} {K : Bool → HP} (h : DV kd s b d) (hb : BoxV kb s p x (some ⟨b, 0, none⟩)) (hko : Ko kd s) (hkb : Kb kb kd s) (hbd : 1 ≤ bound)
    (hi : Ls tRec (s.w 0) ins sl) (hil : ins.length ≤ 1000) (hcc : At (s.w kc) tc 0 (rowF cut.f csl)) (hcl : cut.f.length = 11) (hcd : Ls tBy (s.w 0) cut.data csl) (hkc : kc ∉ sbk kd (kb + 3)) (hkb3 : Kb (kb + 3) kd s)
    (hl : Ls (tI .i64) (s.w 0) keep slk) (hkl : keep.length ≤ 1000) (hc : d.calls ≤ 90000)
    (hF : Fell 1 d x (fun _ => none) ins (SureOk cut)) (hK : ∀ s', Step (sbk kd (kb + 3)) s s' → K true s'.H) : lw18_DboxSure_j5 C bound turns slk (some ⟨b, 0, none⟩) (some ⟨p, 0, none⟩) sl tc K s.H := by
  unfold lw18_DboxSure_j5
  refine dNext_ok hb ?_
  obtain ⟨hdn, F, hF1, hF2, hF3, hF4⟩ := hF
  obtain ⟨m, ⟨hm0, bs, hm1, hm2, hm3⟩, hst⟩ := hF4.boot turns keep
  refine vBoot_ok h hdn hl (by omega) (by omega) hko fun s1 e1 v1 => ?_
  refine bif_ndec (fun hh => absurd rfl hh) (fun _ => ?_)
  have hup : (R.boot d turns keep).down = false := rfl
  have hwr : ∀ y ∈ bs.flatMap recsB, Wr y := by
    rcases hm3 with h | ⟨y, _, hy, h⟩
    · rw [h]; exact hF3
    · rw [h]; intro z hz
      rcases List.mem_append.1 hz with hz | hz
      · exact hF3 z hz
      · simp at hz; subst hz; exact hy
  have hop : P.openR (R.boot d turns keep) 1 bound = (R.boot d turns keep, some ⟨1, bound, (bs.flatMap recsB).foldl after 1, contsB 1 bs⟩, 0) := open_img (u := 1) (bound := bound) hst hm1 hup ⟨by decide, by decide⟩ hbd (by omega) (base0_of hwr)
  have hnm := Fell.nm ⟨by decide, by decide⟩ hst hm1 hm2 hm0
  have hcl2 : (R.boot d turns keep).calls < 100000 := by show d.calls < 100000; omega
  have e1s : Step (sbk kd (kb + 3)) s s1 := e1.mono sb2
  refine dOpen_ok (kb := kb + 3) (u := 1) (bound := bound) v1 hcl2 hnm (hko.mono e1) (hkb3.mono e1) (fun s2 hn => ?_) (fun s2 p2 x2 hx e2 v2 b2 => ?_)
  · rw [hop] at hn; cases hn
  · rw [hop] at hx
    have hxx := (Option.some.inj (congrArg Prod.fst hx)).symm
    subst hxx
    have e12 := e1s.trans e2
    have bo := (openR_ok (u := 1) (bound := bound) v1.inv (by omega) (by rw [hop])).1
    refine bif_f ?_
    refine bif_ndec (fun hh => absurd rfl hh) (fun _ => ?_)
    refine dNext_ok b2 ?_
    have hge : x.next ≤ (bs.flatMap recsB).foldl after 1 := by
      rw [hF2]
      rcases hm3 with h | ⟨y, _, _, h⟩
      · rw [h]; exact Int.le_refl _
      · rw [h, List.foldl_append]; exact after_le _ _
    rw [decide_eq_false (by simp only; omega)]
    have hko2 := ((hkb3.mono e12).own)
    refine sure6 (kc := kc) (q := q) b2 bo (by omega) (Ls.st hi e12) hil (hcc.mono (e12.view hkc)) hcl (Ls.st hcd e12) ?_ fun s3 e3 => hK s3 (e12.trans e3.n)
    simp only
    rw [recsL_B]
    rcases hm3 with h | ⟨y, hy, _, h⟩
    · left; rw [h, hF1]
    · rw [h]
      cases hk : keptR y with
      | false => left; rw [filter_kept1 hk, hF1]
      | true => right; exact ⟨y, hy hk, by rw [List.filter_append, hF1]; simp [hk]⟩
structure SureI (kd kb kc q b p tc : Nat) (i : Nat) (sl : Sl) (s : St) (d : RDisk) (x : BoxM) (ins : List RecM) (cut : RecM) (csl : Sl) : Prop where
  v : DV kd s b d
  bx : BoxV kb s p x (some ⟨b, 0, none⟩)
  bld : Bld tRec q s ins sl
  row : At (s.w kc) tc 0 (rowF cut.f csl)
  cl : cut.f.length = 11
  cd : Ls tBy (s.w 0) cut.data csl
  bb : BoxB (300000 * i) x
  xl : x.l.length ≤ i
  calls : d.calls ≤ 300 * i
  il : ins.length ≤ i
  st : (∃ m cs, Bx 1 d x m cs (1000000 - 300 * i) (100 - i) ∧ cs.length ≤ i ∧ cs.flatten.filter keptR = ins ∧ cut.kind = 0 ∧ ∀ n, R.pre n (ba (front 1)) = false → m n = none) ∨ (Fell 1 d x (fun _ => none) ins (SureOk cut) ∧ cut.kind ≠ 0)
structure SureK (kd kb kc q : Nat) (s : St) : Prop where
  ko : Ko kd s
  kk : Kb kb kd s
  kk3 : Kb (kb + 3) kd s
  c : kc ∉ sbk kd kb ∧ kc ∉ sbk kd (kb + 3) ∧ q ∉ sbk kd kb ∧ kc ≠ 0 ∧ q ≠ 0 ∧ kc ≠ q
  lt : q < 2305843009213693952 + 1152921504606846976 * s.H.size
theorem SureK.mono {kd kb kc q : Nat} {s s' : St} {S : List Nat} (h : SureK kd kb kc q s) (e : Step S s s') : SureK kd kb kc q s' :=
  ⟨h.ko.mono e, h.kk.mono e, h.kk3.mono e, h.c, by have := h.lt; have := e.sz; omega⟩
def sureS (kd kb kc q : Nat) : List Nat := kc :: q :: (kb + 3) :: (kb + 4) :: (kb + 5) :: sbk kd kb
theorem sureS1 {kd kb kc q : Nat} : ∀ x ∈ sbk kd kb, x ∈ sureS kd kb kc q := fun x hx => by unfold sureS; simp [hx]
theorem sureS3 {kd kb kc q : Nat} : ∀ x ∈ sbk kd (kb + 3), x ∈ sureS kd kb kc q := fun x hx => by
  unfold sureS sbk bkc at *
  simp only [List.mem_append, List.mem_cons, List.not_mem_nil, or_false] at hx ⊢
  rcases hx with h | h | h | h <;> simp [h]
theorem sureS2 {kd kb kc q : Nat} : ∀ x ∈ dk kd, x ∈ sureS kd kb kc q := fun x hx => sureS1 x (sb2 x hx)
/-- behind the last record -/
theorem sureEnd {C : Cx} {kd kb kc q b p tc i : Nat} {sl : Sl} {s : St} {d : RDisk} {x : BoxM} {ins : List RecM} {cut : RecM} {csl : Sl} {bound turns : Int} {keep : List Int} {slk : Sl} {K : Bool → HP} (h : SureI kd kb kc q b p tc i sl s d x ins cut csl) (k : SureK kd kb kc q s) (hi : i ≤ 30) (hbd : 1 ≤ bound)
    (hl : Ls (tI .i64) (s.w 0) keep slk) (hkl : keep.length ≤ 1000) (hK : ∀ s', Step (sureS kd kb kc q) s s' → K true s'.H) :
    vdisk_Disk_Down (some ⟨b, 0, none⟩) (fun t98 => bif (!t98) then (vdisk_Disk_Crash (some ⟨b, 0, none⟩) 0 (vdisk_Disk_SyncDir (some ⟨b, 0, none⟩) fun t103 => lw18_DboxSure_j5 C bound turns slk (some ⟨b, 0, none⟩) (some ⟨p, 0, none⟩) sl tc K)) else lw18_DboxSure_j5 C bound turns slk (some ⟨b, 0, none⟩) (some ⟨p, 0, none⟩) sl tc K) s.H := by
  refine vDownD_ok h.v ?_
  have hcalls := h.calls
  have hil := h.il
  rcases h.st with ⟨m, cs, hbx, _, hins, _, hmn⟩ | ⟨hf, _⟩
  · rw [hbx.up]
    refine vCrash_ok h.v (by decide) k.ko fun s1 e1 v1 => ?_
    have e1d : Step (dk kd) s s1 := e1.mono fun z hz => by simp at hz; subst hz; rw [mem_dk]; omega
    refine vSyncDir_ok v1 (by show d.calls < _; omega) (k.ko.mono e1) fun s2 e2 v2 => ?_
    have e12 := e1d.trans e2
    have e12s : Step (sbk kd kb) s s2 := e12.mono sb2
    have hcut := hbx.st.cut hbx.up
    have hcl2 := R.syncDir_calls (R.crash d 0)
    have k2 := k.mono e12
    have hkk := k.kk.clear
    refine sure5 (kb := kb) (kc := kc) (q := q) v2 (h.bx.st e12 (hkk _ (by simp [bkc])) (hkk _ (by simp [bkc])) (hkk _ (by simp [bkc]))) k2.ko k2.kk hbd (Ls.st h.bld.ls e12) (by omega) (h.row.mono (e12s.view k.c.1)) h.cl (Ls.st h.cd e12) k.c.2.1 k2.kk3 (Ls.st hl e12) hkl ?_ ?_ fun s3 e3 => hK s3 ((e12.mono sureS2).trans (e3.mono sureS3))
    · have : (R.crash d 0).calls = d.calls := rfl
      omega
    · refine ⟨hcut.down, cs.flatten, hins, hbx.next, hbx.wr, hcut.imp fun m' e => ?_⟩
      subst e
      exact ⟨fun n hn => by rw [hmn n hn], _, hbx.im, by have := hbx.len; simp; omega, .inl (flatMap_recs hbx.rs)⟩
  · rw [hf.down]
    exact sure5 (kb := kb) (kc := kc) (q := q) h.v h.bx k.ko k.kk hbd h.bld.ls (by omega) h.row h.cl h.cd k.c.2.1 k.kk3 hl hkl (by omega) hf fun s3 e3 => hK s3 (e3.mono sureS3)
end Go.Ph
end
section
set_option linter.all false
namespace Go.Ph
open S
theorem kept_kind {y : RecM} (h : keptR y = true) : y.kind ≠ 0 := by
  unfold keptR at h
  simp only [Bool.or_eq_true, decide_eq_true_eq] at h
  omega
set_option maxRecDepth 20000 in
theorem sureLoop {C : Cx} {kd kb kc q b p tc : Nat} {s : St} {d : RDisk} {x : BoxM} {cut : RecM} {csl sl0 rsl : Sl} {recs : List RecM} {bound turns : Int} {keep : List Int} {slk : Sl} {K : Bool → HP} (h : SureI kd kb kc q b p tc 0 sl0 s d x [] cut csl) (k : SureK kd kb kc q s) (hr : Ls tRec (s.w 0) recs rsl) (hrl : recs.length ≤ 30) (hbd : 1 ≤ bound)
    (hl : Ls (tI .i64) (s.w 0) keep slk) (hkl : keep.length ≤ 1000) (hK : ∀ s', Step (sureS kd kb kc q) s s' → K true s'.H) :
    loop (σ := List Value) (fun R1 vs1 =>
 asL (vs1.getD 0 undef) fun t14 =>
 asI .i64 (vs1.getD 1 undef) fun t16 =>
 bif (decide ((t16 : Int) < (rsl.len : Nat))) then (
 ixL rsl 12 t16 fun t64 =>
 ld_G_api_Rec t64 fun t65 =>
 rf14_Light t65 fun t66 =>
 bif (!t66) then (
 K true) else
 ixL rsl 12 t16 fun t72 =>
 ld_G_api_Rec t72 fun t73 =>
 dbox_Box_Put C (some ⟨p, 0, none⟩) t73 fun t74a t74b =>
 newc #[.int .i64 0, .int .i64 0, .int .i64 0, .int .i64 0, .int .i64 0, .int .i64 0, .int .i64 0, .int .i64 0, .int .i64 0, .int .i64 0, .int .i64 0, .int .i64 0, .int .i64 0, .slice none 0 0] fun t17 =>
 sts (at0 t17) 0 (plRow t74a) (
 bif (decide ((t74b : Int) = 0)) then (
 ixL rsl 12 t16 fun t82 =>
 ld_G_api_Rec t82 fun t83 =>
 newc #[.int .i64 t83.Kind, .int .i64 t83.User, .int .i64 t83.Seq, .int .i64 t83.Next, .int .i64 t83.Base, .int .i64 t83.Uid, .int .i64 t83.Time, .int .i64 t83.Flags, .int .i64 t83.Body, .int .i64 t83.Size, .int .i64 t83.Origin, .slice t83.Data.a t83.Data.len t83.Data.cap] fun t84 =>
 app 12 112 #[.int .i64 0, .int .i64 0, .int .i64 0, .int .i64 0, .int .i64 0, .int .i64 0, .int .i64 0, .int .i64 0, .int .i64 0, .int .i64 0, .int .i64 0, .slice none 0 0] t14 (⟨some (at0 t84), 1, 1⟩ : Sl) fun t85 =>
 lw18_DboxSure_j4 C bound rsl turns slk (some ⟨b, 0, none⟩) (some ⟨p, 0, none⟩) t85 tc t16 K R1) else
 bif (decide ((t74b : Int) = 11)) then (
 ldI .i64 ((at0 tc).add 0) fun t90 =>
 lw18_DboxSure_j3 C bound rsl turns slk (some ⟨b, 0, none⟩) (some ⟨p, 0, none⟩) t14 tc t16 (decide ((t90 : Int) = 0)) K R1) else
 lw18_DboxSure_j3 C bound rsl turns slk (some ⟨b, 0, none⟩) (some ⟨p, 0, none⟩) t14 tc t16 false K R1)) else
 vdisk_Disk_Down (some ⟨b, 0, none⟩) fun t98 => bif (!t98) then (vdisk_Disk_Crash (some ⟨b, 0, none⟩) 0 (vdisk_Disk_SyncDir (some ⟨b, 0, none⟩) fun t103 => lw18_DboxSure_j5 C bound turns slk (some ⟨b, 0, none⟩) (some ⟨p, 0, none⟩) t14 tc K)) else lw18_DboxSure_j5 C bound turns slk (some ⟨b, 0, none⟩) (some ⟨p, 0, none⟩) t14 tc K) [.slice sl0.a sl0.len sl0.cap, .int .i64 0] s.H := by
  have hrlen := hr.len
  refine loop_rule (ι := Sl × Nat) (fun y => [.slice y.1.a y.1.len y.1.cap, .int .i64 y.2]) (fun y s' => y.2 ≤ recs.length ∧ Step (sureS kd kb kc q) s s' ∧ ∃ d x ins cut csl, SureI kd kb kc q b p tc y.2 y.1 s' d x ins cut csl) (fun y _ => recs.length - y.2) (sl0, 0) rfl ⟨Nat.zero_le _, Step.refl, d, x, [], cut, csl, h⟩ ?_
  rintro ⟨sl, i⟩ s1 ⟨hi, e1, d, x, ins, cut, csl, h⟩ G hG
  simp only [List.getD_cons_zero, List.getD_cons_succ, asI_v, asL_v, asS_v, asB_v, asM_v, asP_v]
  simp only at hi h hG
  have k1 := k.mono e1
  have r1 := Ls.st hr e1
  refine bif_dec (fun hlt => ?_) (fun hlt => ?_)
  · have hil : i < recs.length := by omega
    refine ixRec r1 (by omega) (by omega) fun y r0 hy ra0 => ?_
    rw [Int.toNat_natCast] at hy
    refine light_ok ra0 fun s2 e2 => ?_
    refine bif_rule (fun _ => hK s2 (e1.trans e2.n)) (fun _ => ?_)
    refine ixRec (Ls.st r1 e2) (by omega) (by omega) fun y' r hy' ra => ?_
    rw [Int.toNat_natCast, hy] at hy'
    have hyy := (Option.some.inj hy').symm
    subst hyy
    have hyl := ra.len
    have k2 := k1.mono e2
    have hcalls := h.calls
    have hkk := k.kk.clear
    have bb3 := put_box (d := d) (y := y') h.bb (by have := h.xl; omega) (by omega) hyl
    have pl := dput_len d x y'
    have hxl := h.xl
    have hins := h.il
    have n0 : ∀ z ∈ sbk kd kb, z ≠ kc ∧ z ≠ q := fun z hz => ⟨fun e => k.c.1 (e ▸ hz), fun e => k.c.2.2.1 (e ▸ hz)⟩
    -- the loop goes on
    have go : ∀ (s3 s4 : St) (sl' : Sl) (ins' : List RecM) (cut' : RecM) (csl' : Sl), Step (sureS kd kb kc q) s1 s4 → DV kd s4 b (P.put d x y').1 → BoxV kb s4 p (P.put d x y').2.1 (some ⟨b, 0, none⟩) → Bld tRec q s4 ins' sl' → At (s4.w kc) tc 0 (rowF cut'.f csl') → cut'.f.length = 11 → Ls tBy (s4.w 0) cut'.data csl' → ins'.length ≤ i + 1 →
        ((∃ m cs, Bx 1 (P.put d x y').1 (P.put d x y').2.1 m cs (1000000 - 300 * (i + 1 : Nat)) (100 - (i + 1)) ∧ cs.length ≤ i + 1 ∧ cs.flatten.filter keptR = ins' ∧ cut'.kind = 0 ∧ ∀ n, R.pre n (ba (front 1)) = false → m n = none) ∨ (Fell 1 (P.put d x y').1 (P.put d x y').2.1 (fun _ => none) ins' (SureOk cut') ∧ cut'.kind ≠ 0)) →
        lw18_DboxSure_j4 C bound rsl turns slk (some ⟨b, 0, none⟩) (some ⟨p, 0, none⟩) sl' tc i K G s4.H := fun s3 s4 sl' ins' cut' csl' e4 v4 b4 l4 a4 c4 d4 i4 st4 => by
      unfold lw18_DboxSure_j4
      rw [w64_id (by omega) (by omega)]
      refine hG (sl', i + 1) s4 ⟨hil, e1.trans e4, _, _, ins', cut', csl', v4, b4, l4, a4, c4, d4, ?_, by omega, by omega, i4, st4⟩ (by simp only; omega)
      have := bb3.1
      rwa [show 300000 * i + 300000 = 300000 * (i + 1) by omega] at this
    have hput : (P.put d x y' = (d, x, none, 1)) ∨ ((P.put d x y').2.2.2 = 11 ∧ (P.put d x y').2.2.1 = none ∧ keptR y' = true ∧ Fell 1 (P.put d x y').1 (P.put d x y').2.1 (fun _ => none) ins (SureOk y') ∧ cut.kind = 0) ∨
        ((P.put d x y').2.2.2 = 0 ∧ (P.put d x y').2.2.1 ≠ none ∧ cut.kind = 0 ∧ ∃ m' cs', (∀ n, R.pre n (ba (front 1)) = false → m' n = none) ∧ Bx 1 (P.put d x y').1 (P.put d x y').2.1 m' cs' (1000000 - 300 * (i + 1 : Nat)) (100 - (i + 1)) ∧ cs'.flatten.filter keptR = ins ++ [y'] ∧ cs'.length ≤ i + 1) ∨
        ((P.put d x y').1 = d ∧ (P.put d x y').2.1 = x ∧ (P.put d x y').2.2.1 = none ∧ (P.put d x y').2.2.2 ≠ 0 ∧ Fell 1 d x (fun _ => none) ins (SureOk cut) ∧ cut.kind ≠ 0) := by
      rcases h.st with ⟨m, cs, hbx, hcl, hf, hck, hmn⟩ | ⟨hf, hck⟩
      · have hbx' : Bx 1 d x m cs (1000000 - 300 * i) ((100 - (i + 1)) + 1) := by rw [show 100 - (i + 1) + 1 = 100 - i by omega]; exact hbx
        rcases put_fate hbx' (by omega) (by omega) hyl with h1 | ⟨h1, h2, h3, h4⟩ | ⟨h1, h2, m', cs', h3, h4, h5, h6⟩
        · exact .inl h1
        · rw [hf] at h4
          exact .inr (.inl ⟨h1, h2, h3, h4.imp hmn fun z e => by rw [e]; exact ⟨rfl, rfl⟩, hck⟩)
        · rw [hf] at h5
          exact .inr (.inr (.inl ⟨h1, h2, hck, m', cs', fun n hn => (h3 n hn).trans (hmn n hn), ⟨h4.up, h4.st, h4.im, h4.l, h4.next, h4.user, h4.hu, h4.len, h4.rs, h4.rm.le (by omega) (Nat.le_refl _)⟩, h5, by omega⟩))
      · have hd := put_down x y' hf.down
        exact .inr (.inr (.inr ⟨hd.1, hd.2.1, hd.2.2.1, hd.2.2.2, hf, hck⟩))
    have v2 := h.v.st e2 (by simp)
    have b2 := h.bx.st e2 (by simp) (by simp) (by simp)
    have l2 := h.bld.st e2 (by simp)
    have a2 := h.row.mono (e2.view (k := kc) (by simp))
    have c2 := Ls.st h.cd e2
    -- nothing was put
    have none_ : ∀ s3 pr e, (P.put d x y').2.2.2 = e → e ≠ 0 → Step (sbk kd kb) s2 s3 → DV kd s3 b (P.put d x y').1 → BoxV kb s3 p (P.put d x y').2.1 (some ⟨b, 0, none⟩) →
        newc #[.int .i64 0, .int .i64 0, .int .i64 0, .int .i64 0, .int .i64 0, .int .i64 0, .int .i64 0, .int .i64 0, .int .i64 0, .int .i64 0, .int .i64 0, .int .i64 0, .int .i64 0, .slice none 0 0] (fun t17 =>
 sts (at0 t17) 0 (plRow pr) (
 bif (decide ((e : Int) = 0)) then (
 ixL rsl 12 i fun t82 =>
 ld_G_api_Rec t82 fun t83 =>
 newc #[.int .i64 t83.Kind, .int .i64 t83.User, .int .i64 t83.Seq, .int .i64 t83.Next, .int .i64 t83.Base, .int .i64 t83.Uid, .int .i64 t83.Time, .int .i64 t83.Flags, .int .i64 t83.Body, .int .i64 t83.Size, .int .i64 t83.Origin, .slice t83.Data.a t83.Data.len t83.Data.cap] fun t84 =>
 app 12 112 #[.int .i64 0, .int .i64 0, .int .i64 0, .int .i64 0, .int .i64 0, .int .i64 0, .int .i64 0, .int .i64 0, .int .i64 0, .int .i64 0, .int .i64 0, .slice none 0 0] sl (⟨some (at0 t84), 1, 1⟩ : Sl) fun t85 =>
 lw18_DboxSure_j4 C bound rsl turns slk (some ⟨b, 0, none⟩) (some ⟨p, 0, none⟩) t85 tc i K G) else
 bif (decide ((e : Int) = 11)) then (
 ldI .i64 ((at0 tc).add 0) fun t90 =>
 lw18_DboxSure_j3 C bound rsl turns slk (some ⟨b, 0, none⟩) (some ⟨p, 0, none⟩) sl tc i (decide ((t90 : Int) = 0)) K G) else
 lw18_DboxSure_j3 C bound rsl turns slk (some ⟨b, 0, none⟩) (some ⟨p, 0, none⟩) sl tc i false K G)) s3.H := fun s3 pr e he he0 e3 v3 b3 => by
      refine newc_sts rfl (by simp [one, plRow]) fun s4 p4 e4 a4 => ?_
      have e24 : Step (sbk kd kb) s2 s4 := e3.trans e4.n
      have e14 : Step (sureS kd kb kc q) s1 s4 := (e2.n.trans e24).mono sureS1
      have v4 := v3.st e4 (by simp)
      have b4 := b3.st e4 (by simp) (by simp) (by simp)
      have l4 := l2.st e24 k.c.2.2.1
      have a4c := a2.mono (e24.view k.c.1)
      have c4 := Ls.st c2 e24
      refine bif_dec (fun hh => absurd hh he0) (fun _ => ?_)
      have stay : ∀ st4, lw18_DboxSure_j3 C bound rsl turns slk (some ⟨b, 0, none⟩) (some ⟨p, 0, none⟩) sl tc i false K G s4.H := fun st4 => by
        unfold lw18_DboxSure_j3
        exact bif_f (go s4 s4 sl ins cut csl e14 v4 b4 l4 a4c h.cl c4 (by omega) st4)
      rcases hput with h1 | ⟨h1, h2, h3, h4, h5⟩ | ⟨h1, _⟩ | ⟨h1, h2, h3, h4, h5, h6⟩
      · have : e = 1 := by rw [← he, h1]
        subst this
        refine bif_dec (fun hh => absurd hh (by decide)) (fun _ => ?_)
        refine stay ?_
        rw [h1]
        rcases h.st with ⟨m, cs, hbx, hcl, hf, hck, hmn⟩ | hf
        · exact .inl ⟨m, cs, ⟨hbx.up, hbx.st, hbx.im, hbx.l, hbx.next, hbx.user, hbx.hu, hbx.len, hbx.rs, hbx.rm.le (by omega) (by omega)⟩, by omega, hf, hck, hmn⟩
        · exact .inr hf
      · have : e = 11 := by rw [← he, h1]
        subst this
        refine bif_dec (fun _ => ?_) (fun hh => absurd rfl hh)
        have hc0 : cut.f.getD 0 0 = 0 := h5
        refine ldI_at (n := cut.f.getD 0 0) a4c (rowF_get (by rw [h.cl]; decide)) ?_
        rw [hc0, decide_eq_true rfl]
        unfold lw18_DboxSure_j3
        refine bif_t ?_
        refine ixRec (Ls.st r1 (e2.n.trans e24)) (by omega) (by omega) fun y2 r2 hy2 ra2 => ?_
        rw [Int.toNat_natCast, hy] at hy2
        rw [(Option.some.inj hy2).symm] at ra2
        refine row_rule kc a4c (by rw [rowF_len, h.cl]; rfl) (by simp [one]) k.c.2.2.2.1 (.inl rfl) fun s5 e5 z5 a5 _ => ?_
        have e5m : Step (sureS kd kb kc q) s4 s5 := e5.mono fun z hz => by simp at hz; subst hz; simp [sureS]
        refine go s4 s5 sl ins y' r2.Data (e14.trans e5m) (v4.st2 e5 (by omega) fun z hz => by simp at hz; subst hz; exact fun hh => k.c.1 (sb2 _ hh)) (b4.st e5 ?_ ?_ ?_) (l4.st e5 (by have := k.c.2.2.2.2.2; simp; omega)) (by rw [← rec_eq ra2.f rfl]; exact a5) hyl (Ls.st ra2.data e5) (by omega) (.inr ⟨h4, kept_kind h3⟩)
        · have := k.c.1; intro hh; simp at hh; exact this (by rw [← hh]; simp [sbk, bkc])
        · have := k.c.1; intro hh; simp at hh; exact this (by rw [← hh]; simp [sbk, bkc])
        · have := k.c.1; intro hh; simp at hh; exact this (by rw [← hh]; simp [sbk, bkc])
      · exact absurd (he ▸ h1) he0
      · have st4 : Fell 1 (P.put d x y').1 (P.put d x y').2.1 (fun _ => none) ins (SureOk cut) ∧ cut.kind ≠ 0 := by rw [h1, h2]; exact ⟨h5, h6⟩
        refine bif_dec (fun _ => ?_) (fun _ => stay (.inr st4))
        refine ldI_at (n := cut.f.getD 0 0) a4c (rowF_get (by rw [h.cl]; decide)) ?_
        rw [decide_eq_false (show ¬ cut.f.getD 0 0 = 0 from h6)]
        exact stay (.inr st4)
    refine dPut_ok (y := y') v2 b2 h.bb (by omega) (by omega) ra (by omega) k2.ko k2.kk ?_ ?_
    · intro s3 pr hn e3 v3 b3
      refine none_ s3 pr _ rfl ?_ e3 v3 b3
      rcases hput with h1 | ⟨h1, _⟩ | ⟨_, h2, _⟩ | ⟨_, _, _, h4, _⟩
      · rw [h1]; simp
      · rw [h1]; decide
      · exact absurd hn h2
      · exact h4
    · intro s3 pr qq hq e3 v3 b3 _
      refine newc_sts rfl (by simp [one, plRow]) fun s4 p4 e4 a4 => ?_
      have e24 : Step (sbk kd kb) s2 s4 := e3.trans e4.n
      have e14 : Step (sureS kd kb kc q) s1 s4 := (e2.n.trans e24).mono sureS1
      refine bif_dec (fun _ => ?_) (fun hh => absurd rfl hh)
      refine ixRec (Ls.st r1 (e2.n.trans e24)) (by omega) (by omega) fun y2 r2 hy2 ra2 => ?_
      rw [Int.toNat_natCast, hy] at hy2
      rw [(Option.some.inj hy2).symm] at ra2
      have k4 := k1.mono e14
      have l4 := l2.st e24 k.c.2.2.1
      refine app1_rule (q := q) y' l4 ⟨r2.Data, rec_eq ra2.f rfl, hyl, ra2.data⟩ (fun s5 sl5 e5 l5 => ?_) rfl rfl (by omega) (by omega) k4.lt k.c.2.2.2.2.1
      have e5m : Step (sureS kd kb kc q) s4 s5 := e5.mono fun z hz => by simp at hz; subst hz; simp [sureS]
      have e45q : ∀ z, z ∈ sbk kd kb → z ∉ [q] := fun z hz hh => by simp at hh; subst hh; exact k.c.2.2.1 hz
      rcases hput with h1 | ⟨_, h2, _⟩ | ⟨h1, h2, h3, m', cs', h4, h5, h6, h7⟩ | ⟨_, _, h3, _⟩
      · rw [h1] at hq; cases hq
      · rw [h2] at hq; cases hq
      · refine go s4 s5 sl5 (ins ++ [y']) cut csl (e14.trans e5m) ((v3.st e4 (by simp)).st2 e5 (by omega) fun z hz => by simp at hz; subst hz; exact fun hh => k.c.2.2.1 (sb2 _ hh)) ((b3.st e4 (by simp) (by simp) (by simp)).st e5 (e45q _ (by simp [sbk, bkc])) (e45q _ (by simp [sbk, bkc])) (e45q _ (by simp [sbk, bkc]))) l5 ((a2.mono (e24.view k.c.1)).mono (e5.view (by have := k.c.2.2.2.2.2; simp; omega))) h.cl (Ls.st (Ls.st c2 e24) e5) (by simp; omega) (.inl ⟨m', cs', h5, h7, h6, h3, h4⟩)
      · rw [h3] at hq; cases hq
  · have : i = recs.length := by omega
    exact sureEnd h k1 (by omega) hbd (Ls.st hl e1) hkl fun s2 e2 => hK s2 (e1.trans e2)
end Go.Ph
end
section
set_option linter.all false
namespace Go.Ph
open S
def dS : RDisk := ⟨[], [], [], [], 1048576, false, 0, -1, -1, 0⟩
theorem newS : R.new [] 1048576 = some dS := rfl
theorem steadyS : Steady dS (fun _ => none) := by
  refine ⟨⟨List.Pairwise.nil, List.nodup_nil, fun e he => by cases he⟩, by decide, rfl, rfl, fun e he => (by cases he), ?_⟩
  funext n
  rfl
theorem openS {u bound : Int} (hu : 1 ≤ u ∧ u ≤ 999) (hb : 1 ≤ bound) : P.openR dS u bound = (dS, some ⟨u, bound, 1, []⟩, 0) := by
  obtain ⟨v, rfl⟩ : ∃ v : Nat, u = v := ⟨u.toNat, by omega⟩
  have hc : Cimg v [] (fun _ => none) := fun n _ => by unfold imgB; split <;> rfl
  exact open_img (bs := []) steadyS hc rfl (by omega) hb (by decide) (fun x hx => by cases hx)
theorem bxS {u : Nat} {bound crash : Int} (hu : 1 ≤ u ∧ u ≤ 999) : Bx u (R.crash dS crash) ⟨u, bound, 1, []⟩ (fun _ => none) [] 1000000 100 :=
  ⟨rfl, steadyS.crash crash, fun n _ => by unfold imgB; split <;> rfl, rfl, rfl, rfl, hu, by decide, fun r hr => (by cases hr), ⟨by show (1000000 : Int) ≤ 1048576 - 0; decide, by show 0 + 100 ≤ 1024; decide⟩⟩
theorem DboxSure_ok {C : Cx} {s : St} {recs : List RecM} {rsl slk : Sl} {bound crash turns : Int} {keep : List Int} {K : Bool → HP} (hr : Ls tRec (s.w 0) recs rsl) (hl : Ls (tI .i64) (s.w 0) keep slk) (hcr : crash < 9223372036854775808) (hK : ∀ s', Step [] s s' → K true s'.H) :
    lw18_DboxSure C bound rsl crash turns slk K s.H := by
  unfold lw18_DboxSure
  refine awake_ok fun s1 e1 => ?_
  refine bif_f ?_
  have hrl := hr.len
  have hkl := hl.len
  have jt : lw18_DboxSure_j1 C bound rsl crash turns slk true K s1.H := by
    unfold lw18_DboxSure_j1
    exact bif_t (hK s1 e1)
  refine bif_dec (fun _ => jt) (fun h30 => ?_)
  refine bif_dec (fun _ => jt) (fun h60 => ?_)
  by_cases hb : bound < 1
  · rw [decide_eq_true hb]; exact jt
  rw [decide_eq_false hb]
  unfold lw18_DboxSure_j1
  refine bif_f ?_
  have hown : own s1 = 1152921504606846976 + 1152921504606846976 * s1.H.size := rfl
  obtain ⟨kd, hkd⟩ : ∃ kd, kd = own s1 + 16 := ⟨_, rfl⟩
  obtain ⟨kb, hkb⟩ : ∃ kb, kb = own s1 + 4503599627370496 := ⟨_, rfl⟩
  obtain ⟨kc, hkc⟩ : ∃ kc, kc = own s1 + 9007199254740992 := ⟨_, rfl⟩
  have k1 : SureK kd kb kc (kc + 1) s1 := by
    refine ⟨.inr ⟨by omega, by omega⟩, ⟨by omega, .inr ⟨by omega, by omega⟩, .inr (by omega)⟩, ⟨by omega, .inr ⟨by omega, by omega⟩, .inr (by omega)⟩, ?_, by omega⟩
    unfold sbk bkc
    simp only [List.mem_append, List.mem_cons, List.not_mem_nil, or_false, mem_dk]
    omega
  have fin : ∀ s', Step (sureS kd kb kc (kc + 1)) s1 s' → K true s'.H := fun s' es => by
    refine hK s' (e1.trans (es.locs fun x hx => ?_))
    unfold sureS sbk bkc at hx
    simp only [List.mem_cons, List.mem_append, mem_dk, List.not_mem_nil, or_false] at hx
    omega
  refine vNew_ok (k := kd) (files := []) Ls.nil_ (by omega) k1.ko (by simp) (fun h => by rw [newS] at h; cases h) (fun d hd s2 b e2 v2 => ?_)
  rw [newS] at hd
  have := Option.some.inj hd
  subst this
  refine bif_f ?_
  have k2 := k1.mono e2
  refine dOpen_ok (kb := kb) v2 (by decide) (fun e he => by cases he) k2.ko k2.kk (fun s3 hn => by rw [openS (by decide) (by omega)] at hn; cases hn) (fun s3 p x hx e3 v3 b3 => ?_)
  rw [openS (by decide) (by omega)] at hx v3
  have hxx := (Option.some.inj (congrArg Prod.fst hx)).symm
  subst hxx
  refine bif_f ?_
  rw [decide_eq_true rfl]
  unfold lw18_DboxSure_j2
  refine bif_f ?_
  have e23 : Step (sbk kd kb) s1 s3 := (e2.mono sb2).trans e3
  have k3 := k1.mono e23
  refine vCrash_ok v3 hcr k3.ko fun s4 e4 v4 => ?_
  have e4s : Step (sbk kd kb) s3 s4 := e4.mono fun z hz => by simp at hz; subst hz; unfold sbk; rw [List.mem_append, mem_dk]; omega
  have e14 := e23.trans e4s
  have hz4 := e14.sz
  refine newc_k kc (by omega) fun s5 tc n5 a5 => ?_
  have e5 := n5.step
  have k5 := k1.mono (e14.trans e5.n)
  refine row_rule kc a5 rfl (by simp [one]) k5.c.2.2.2.1 (.inl rfl) fun s6 e6 z6 a6 _ => ?_
  have e15 : Step (sureS kd kb kc (kc + 1)) s1 s6 := ((e14.trans e5.n).mono sureS1).trans (e6.mono fun z hz => by simp at hz; subst hz; simp [sureS])
  have e06 := e1.n.trans e15
  have n0 : ∀ z ∈ sbk kd kb, z ∉ [kc] := fun z hz hh => by simp at hh; subst hh; exact k5.c.1 hz
  have hkk := k1.kk.clear
  have b4 := b3.st e4 (fun hh => by simp at hh; exact hkk kb (by simp [bkc]) (by rw [hh, mem_dk]; omega)) (fun hh => by simp at hh; omega) (fun hh => by simp at hh; omega)
  refine sureLoop (cut := ⟨[0, 0, 0, 0, 0, 0, 0, 0, 0, 0, 0], []⟩) (csl := ⟨none, 0, 0⟩) (d := R.crash dS crash) (x := ⟨1, bound, 1, []⟩) ⟨?_, ?_, Bld.nil, a6, rfl, Ls.nil_, ⟨Nat.zero_le _, by decide, Int.le_refl _, fun c hc => (by cases hc)⟩, Nat.le_refl _, Int.le_refl _, Nat.le_refl _, .inl ⟨_, [], ?_, by decide, rfl, rfl, fun _ _ => rfl⟩⟩ (k1.mono e15) (Ls.st hr e06) (by omega) (by omega) (Ls.st hl e06) (by omega) fun s7 e7 => fin s7 (e15.trans e7)
  · exact (v4.st e5 (by simp)).st2 e6 (by show (0 : Int) < _; decide) fun z hz => by simp at hz; subst hz; exact fun hh => k5.c.1 (sb2 _ hh)
  · exact (b4.st e5 (by simp) (by simp) (by simp)).st e6 (n0 _ (by simp [sbk, bkc])) (n0 _ (by simp [sbk, bkc])) (n0 _ (by simp [sbk, bkc]))
  · exact bxS (u := 1) (by decide)
end Go.Ph
end

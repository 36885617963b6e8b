/- Parts of the proof that pigeonholelaw18.DboxCompacts returns true at every input and leaves the input as it was: what the words of the functions tell, part 3. -/
import Derived.Test.YtjojclbfnnkajaaGreatPhC2
section
set_option linter.all false
namespace Go.Ph
open S
theorem gF.NT {k : Nat} {s s' : St} {l : List cn} {ps : List (Option Addr)} {j p : Nat} {x x' : cn} {S : List Nat} (h : gF k s l ps) (hj : l[j]? = some x) (hp : ps[j]? = some (some ⟨p, 0, none⟩)) (hs : Step S s s')
  (hS : ∀ i, i < l.length → i ≠ j → k + 10 + 2 * i ∉ S ∧ k + 10 + 2 * i + 1 ∉ S) (hx : kg (k + 10 + 2 * j) s' p x') : gF k s' (l.set j x') ps :=
 ⟨by simp [h.len], fun i y hi => by
  by_cases e : j = i
  ·subst e
   rw [List.getElem?_set_self (List.getElem?_eq_some_iff.1 hj).1] at hi
   simp at hi; subst hi
   exact ⟨p, hp, hx⟩
  ·rw [List.getElem?_set_ne e] at hi
   obtain ⟨p', g1, g2⟩ := h.at_ i y hi
   have := hS i (List.getElem?_eq_some_iff.1 hi).1 (Ne.symm e)
   exact ⟨p', g1, g2.st hs this.1 this.2⟩⟩
theorem I3 (acc : List cn × List Int) (j : Nat) : (V.dh acc j).1.length = acc.1.length := by
 unfold V.dh; split <;> simp
theorem DQ : ∀ (l : List Nat) (acc : List cn × List Int), (l.foldl V.dh acc).1.length = acc.1.length
 | [], _ => rfl
 | j :: l, acc => by rw [List.foldl_cons, DQ l, I3]
theorem WJ {x : cn} {ks : List Int} {n : Nat} (hn : ks.length ≤ n) : (V.cu x ks).2.length ≤ n := by
 have := vE (x := x) hn x.cF.length
 rw [List.take_length] at this
 exact this
theorem EI {x : cn} {ks : List Int} (hx : kP x) : (V.cu x ks).1.size ≤ 4194304 := by
 have := uA (ks := ks) hx x.cF.length
 rw [List.take_length] at this
 exact this
theorem Q4 {acc : List cn × List Int} {j : Nat} {n : Nat} (h : (∀ x ∈ acc.1, kP x) ∧ acc.2.length ≤ n) : (∀ x ∈ (V.dh acc j).1, kP x) ∧ (V.dh acc j).2.length ≤ n := by
 unfold V.dh
 split
 ·rename_i x hx
  have hb := h.1 x (List.mem_of_getElem? hx)
  refine ⟨fun y hy => ?_, WJ h.2⟩
  rcases List.mem_or_eq_of_mem_set hy with hy | rfl
  ·exact h.1 y hy
  ·exact ⟨EI hb, by simp, by simp⟩
 ·exact h
theorem I9 {n : Nat} : ∀ (l : List Nat) {acc : List cn × List Int}, ((∀ x ∈ acc.1, kP x) ∧ acc.2.length ≤ n) → (∀ x ∈ (l.foldl V.dh acc).1, kP x) ∧ (l.foldl V.dh acc).2.length ≤ n
 | [], _, h => h
 | j :: l, acc, h => by rw [List.foldl_cons]; exact I9 l (Q4 h)
theorem abZ {k : Nat} {s : St} {b : Nat} {v : bC} {ps : List (Option Addr)} {turns : Int} {keep : List Int} {slk : Sl} {K : Int → HP} (h : dx k s b v ps) (hoff : v.off = true) (hl : Ls (tI .i64) (s.w 0) keep slk) (hkl : keep.length ≤ 1000000000)
  (hn : v.nodes.length ≤ 1000000000) (hb : ∀ x ∈ v.nodes, kP x) (hmv : v.bP.length ≤ 1000000000) (hko : Ko k s) (hr : ∀ x ∈ v.seen, 0 ≤ x.2 ∧ x.2 < v.nodes.length) (hr' : ∀ x ∈ v.sure, 0 ≤ x.2 ∧ x.2 < v.nodes.length)
  (hK : ∀ s', Step (dk k) s s' → dx k s' b (V.en v turns keep) ps → K 0 s'.H) : nX (some ⟨b, 0, none⟩) turns slk K s.H := by
 have hown0 : own s ≠ 0 := by unfold own; omega
 have hnk : ∀ j, j < 1125899906842624 → k + j ≠ own s := fun j hj => by unfold Ko at hko; omega
 have hod : own s ∉ dk k := by rw [fk]; intro hh; unfold Ko at hko; omega
 unfold nX
 obtain ⟨k0, ⟨n0, m0, ms0, mu0, h1, _⟩, _⟩ := id h
 refine aj (aK h1 rfl ?_)
 rw [hoff]
 refine bt ?_
 refine dm (own s) (by unfold own; omega) fun s1 p7 n1 a1 => ?_
 have e1 := n1.step
 refine eZ (own s) a1 rfl (by simp [one]) hown0 (.inl rfl) fun s2 e2 z2 a2 _ => ?_
 have e02 : Step [own s] s s2 := e1.n.trans e2
 have hz1 := n1.sz
 have hsd : ∀ x ∈ [own s], x ∉ dk k := fun x hx => by simp at hx; subst hx; exact hod
 have v2 := h.fQ e02 (by omega) hsd
 have hko2 := hko.mono e02
 refine aeD v2 (by omega) hko2 hr hr' fun s3 kn e3 l3 => ?_
 have e03 : Step [own s] s s3 := e02.trans e3.n
 have hz3 : s.H.size + 1 ≤ s3.H.size := by have := e3.sz; omega
 have v3 := v2.st e3 (by simp)
 have a3 := a2.mono (e3.view (k := own s) (by simp))
 have hl3 := Ls.st hl e03
 have hko3 := hko.mono e03
 obtain ⟨L, hL⟩ : ∃ L, L = V.jc v v.nodes.length := ⟨_, rfl⟩
 rw [← hL] at l3
 have hLlen : kn.len = L.length := by rw [l3.len, List.length_map]
 have hLb : ∀ j ∈ L, j < v.nodes.length := fun j hj => by rw [hL] at hj; unfold V.jc at hj; exact List.mem_range.1 (List.mem_filter.1 hj).1
 have hLn : L.length ≤ v.nodes.length := by rw [hL]; unfold V.jc; exact Nat.le_trans (List.length_filter_le _ _) (by simp)
 have e0d : ∀ {s' : St}, Step (own s :: dk k) s3 s' → Step (dk k) s s' := fun e => (e03.mono (by simp) |>.trans e : Step (own s :: dk k) s _).loc
 refine cD (ι := Nat × Sl) (fun y => [.int .i64 y.1]) (fun y s' => y.1 ≤ L.length ∧ Step (own s :: dk k) s3 s' ∧ dx k s' b { v with nodes := ((L.take y.1).foldl V.dh (v.nodes, keep)).1 } ps ∧ At (s'.w (own s)) p7 0 [.slice y.2.a y.2.len y.2.cap] ∧
  Ls (tI .i64) (s'.w 0) ((L.take y.1).foldl V.dh (v.nodes, keep)).2 y.2 ∧ Ls tP (s'.w 0) (L.map fun j => ps.getD j none) kn) (fun y _ => L.length - y.1) (0, slk) rfl
  ⟨Nat.zero_le _, Step.refl, by simpa using v3, a3, by simpa using hl3, l3⟩ ?_
 rintro ⟨i, sk⟩ s4 ⟨hi, e4, v4, b4, l4, q4⟩ G hG
 simp only at hi b4 l4 v4
 simp only [List.getD_cons_zero, List.getD_cons_succ, cI, cN, cK, cH, cJ, cO]
 rw [hLlen]
 have hz4 := e4.sz
 have hok := I9 (n := 1000000000) (L.take i) (acc := (v.nodes, keep)) ⟨hb, hkl⟩
 have hlen := DQ (L.take i) (v.nodes, keep)
 have hko4 := hko3.mono e4
 have hown4 : own s < own s4 := by unfold own; omega
 by_cases hlt : i < L.length
 ·have hdec : decide (((i : Nat) : Int) < (L.length : Nat)) = true := by simp; omega
  rw [hdec]
  refine bH ?_
  refine bU q4 (by omega) (by rw [List.length_map]; omega) fun bx ox pp hpp hel => ?_
  obtain ⟨_, rfl, hat⟩ := hel
  rw [Int.toNat_natCast, List.getElem?_map, List.getElem?_eq_getElem hlt] at hpp
  obtain ⟨j, hj⟩ : ∃ j, j = L[i] := ⟨_, rfl⟩
  have hjn : j < v.nodes.length := hLb j (by rw [hj]; exact List.getElem_mem hlt)
  have htk : L.take (i + 1) = L.take i ++ [j] := by rw [hj, List.take_succ_eq_append_getElem hlt]
  have hfold : (L.take (i + 1)).foldl V.dh (v.nodes, keep) = V.dh ((L.take i).foldl V.dh (v.nodes, keep)) j := by rw [htk]; simp
  generalize (L.take i).foldl V.dh (v.nodes, keep) = acc at *
  simp only at hlen
  obtain ⟨k0', ⟨nn, mm, ms, mu, g1, g2, g3, ⟨es, cl, g4⟩, g5⟩, g6⟩ := v4
  simp only at g1 g2 g3 g4 g5 g6
  have hjx : acc.1[j]? = some (acc.1[j]'(by omega)) := List.getElem?_eq_getElem _
  obtain ⟨x, hx⟩ : ∃ x, x = acc.1[j]'(by omega) := ⟨_, rfl⟩
  rw [← hx] at hjx
  obtain ⟨p, hp, nd⟩ := g6.at_ j x hjx
  have hpe : pp = some ⟨p, 0, none⟩ := by
   rw [← hj] at hpp
   simp [List.getD_eq_getElem?_getD, hp] at hpp
   exact hpp.symm
  subst hpe
  refine dR hat rfl ?_
  have hbx := hok.1 x (List.mem_of_getElem? hjx)
  refine Qa b4 l4 hok.2 nd hbx ⟨hown0, hown4⟩ (by omega) (by have := hnk (10 + 2 * j) (by omega); have := hnk (11 + 2 * j) (by omega); omega) (by unfold Ko at hko4; omega) fun s5 sk5 e5 b5 l5 nd5 => ?_
  rw [aY (by omega) (by omega)]
  have hbn : V.dh acc j = (acc.1.set j ⟨(V.cu x acc.2).1, (V.cu x acc.2).1, [], x.fresh⟩, (V.cu x acc.2).2) := by
   unfold V.dh; rw [hjx]
  have e5d : ∀ y, y ∈ [own s, k + 10 + 2 * j] → y ∈ own s :: dk k := fun y hy => by
   simp only [List.mem_cons, List.not_mem_nil, or_false] at hy
   rcases hy with rfl | rfl
   ·simp
   ·simp only [List.mem_cons, fk]; right; omega
  have hk5 : ∀ c, c < 10 → k + c ∉ [own s, k + 10 + 2 * j] := fun c hc => by
   have := hnk c (by omega)
   simp only [List.mem_cons, List.not_mem_nil, or_false]
   omega
  refine hG (i + 1, sk5) s5 ⟨by simp only; omega, e4.trans (e5.mono e5d), ?_, b5, ?_, Ls.st q4 e5⟩ (by simp only; omega)
  ·simp only
   rw [hfold, hbn]
   refine ⟨k0', ⟨nn, mm, ms, mu, g1.mono (e5.view (by simpa using hk5 0 (by omega))), g2.st e5 (hk5 1 (by omega)), g3.st e5 (hk5 2 (by omega)), ⟨es, cl, g4.st e5 (hk5 3 (by omega))⟩, g5.st e5 (hk5 4 (by omega))⟩, ?_⟩
   refine g6.NT hjx hp e5 (fun i' hi' hne => ?_) nd5
   have h1 := hnk (10 + 2 * i') (by omega)
   have h2 := hnk (11 + 2 * i') (by omega)
   simp only [List.mem_cons, List.not_mem_nil, or_false]
   omega
  ·simp only
   rw [hfold, hbn]
   exact l5
 ·have hdec : decide (((i : Nat) : Int) < (L.length : Nat)) = false := by simp; omega
  rw [hdec]
  refine bt ?_
  have hi' : i = L.length := by omega
  subst hi'
  rw [List.take_length] at v4
  have hNs : (L.foldl V.dh (v.nodes, keep)).1 = V.eP v keep := by rw [hL]; rfl
  rw [hNs] at v4
  have hNl : (V.eP v keep).length = v.nodes.length := by rw [← hNs, DQ]
  obtain ⟨k0', ⟨nn, mm, ms, mu, g1, g2, g3, ⟨es, cl, g4⟩, ⟨mr, es2, cl2, rfl, g5⟩⟩, g6⟩ := v4
  simp only at g1 g2 g3 g4 g5 g6
  refine aj (aJ g1 rfl ?_)
  refine AP (k' := k + 3) g5 (by unfold Ko own at hko4; omega) fun s5 mb e5 z5 m5 => ?_
  have g15 := g1.mono (e5.view (by simp))
  refine aj ?_
  refine cP g15 (by simp) rfl k0' fun s6 e6 z6 g16 o6 => ?_
  simp only [List.set_cons_succ, List.set_cons_zero] at g16
  have e46 : Step [k] s4 s6 := e5.n.trans e6
  have e36 : Step (own s :: dk k) s3 s6 := e4.trans (e46.mono (by intro y hy; simp at hy; subst hy; simp [fk]))
  refine aj (aC g16 rfl ?_)
  have hml : mm.len = v.bP.length := g3.ls.len
  have v6 : dx k s6 b { v with nodes := V.eP v keep, seen := (v.bP.take (min 0 turns.toNat)).foldl V.eX v.sure } ps :=
   ⟨k0', ⟨nn, mm, mb, some mr, g16, g2.st e46 (by simp), g3.st e46 (by simp), ⟨es2, cl2, by simpa using m5.st e6 (by simp)⟩, ⟨mr, es2, cl2, rfl, g5.st e46 (by simp)⟩⟩, g6.st e46 (fun j => by simp; omega)⟩
  refine cD (ι := Nat) (fun y => [.int .i64 y]) (fun y s' => y ≤ v.bP.length ∧ Step (own s :: dk k) s3 s' ∧ dx k s' b { v with nodes := V.eP v keep, seen := (v.bP.take (min y turns.toNat)).foldl V.eX v.sure } ps ∧ Ls uv (s'.w 0) v.bP mm) (fun y _ => v.bP.length - y) 0 rfl
   ⟨Nat.zero_le _, e36, v6, Ls.st g3.ls e46⟩ ?_
  rintro y s7 ⟨hy, e7, v7, l7⟩ G3 hG3
  simp only [List.getD_cons_zero, List.getD_cons_succ, cI, cN, cK, cH, cJ, cO]
  rw [hml]
  have hz7 := e7.sz
  by_cases hlt : y < v.bP.length
  ·have hdec : decide (((y : Nat) : Int) < (v.bP.length : Nat)) = true := by simp; omega
   rw [hdec]
   refine bH ?_
   refine bU l7 (by omega) (by omega) fun bx ox mv hmvx hel => ?_
   obtain ⟨_, rfl, hat⟩ := hel
   rw [Int.toNat_natCast] at hmvx
   unfold oN
   repeat (first|refine aj ?_|refine av hat rfl ?_|refine aK hat rfl ?_|refine aH hat rfl ?_|refine aI hat rfl ?_|refine aJ hat rfl ?_|refine aC hat rfl ?_)
   refine dm (own s7) (by unfold own; omega) fun s8 p14 n8 a8 => ?_
   have e8 := n8.step
   have hown7 : own s7 ≠ 0 := by unfold own; omega
   refine eZ 0 a8 rfl (by simp [one]) hown7 (.inr rfl) fun s9 e9 z9 a9 _ => ?_
   have e79 : Step [own s7] s7 s9 := e8.n.trans e9
   have e79' : Step [] s7 s9 := e79.loc
   have v9 := v7.st e79' (by simp)
   have l9 := Ls.st l7 e79'
   have hz9 := e79'.sz
   have hko9 := (hko3.mono e7).mono e79'
   have nx : ∀ s', Step (own s :: dk k) s9 s' → dx k s' b { v with nodes := V.eP v keep, seen := (v.bP.take (min (y + 1) turns.toNat)).foldl V.eX v.sure } ps → vC (some ⟨b, 0, none⟩) turns mm (v.bP.length : Nat) y K G3 s'.H := fun s' e' v' => by
    unfold vC
    rw [aY (by omega) (by omega)]
    exact hG3 (y + 1) s' ⟨by omega, (e7.trans e79'.n).trans e', v', Ls.st l9 e'⟩ (by omega)
   by_cases ht : (y : Int) < turns
   ·rw [decide_eq_true ht]
    refine bH ?_
    have hm1 : min y turns.toNat = y := by omega
    have hm2 : min (y + 1) turns.toNat = y + 1 := by omega
    rw [hm1] at v9
    rw [hm2] at nx
    have htk : (v.bP.take (y + 1)).foldl V.eX v.sure = V.eX ((v.bP.take y).foldl V.eX v.sure) mv := by
     rw [List.take_add_one, hmvx]; simp
    obtain ⟨k0', ⟨nn9, mm9, ms9, mu9, f1, f2, f3, ⟨es9, cl9, f4⟩, f5⟩, f6⟩ := v9
    simp only at f1 f2 f3 f4 f5 f6
    refine aj (aJ f1 rfl ?_)
    repeat (first|refine aj ?_|refine av a9 rfl ?_|refine aK a9 rfl ?_|refine aH a9 rfl ?_|refine aI a9 rfl ?_|refine aJ a9 rfl ?_|refine aC a9 rfl ?_)
    refine LX (mv := mv) f4 (by omega) (by unfold Ko at hko9; omega) fun s10 es10 cl10 e10 m10 => ?_
    refine nx s10 (e10.mono (by intro z hz; simp at hz; subst hz; simp [fk])) ⟨k0', ⟨nn9, mm9, ms9, mu9, f1.mono (e10.view (by simp)), f2.st e10 (by simp), f3.st e10 (by simp), ⟨es10, cl10, by simp only; rw [htk]; exact m10⟩, f5.st e10 (by simp)⟩, f6.st e10 (fun j => by simp; omega)⟩
   ·rw [decide_eq_false ht]
    refine bt (nx s9 Step.refl ?_)
    have hm : min (y + 1) turns.toNat = min y turns.toNat := by omega
    rw [hm]; exact v9
  ·have hdec : decide (((y : Nat) : Int) < (v.bP.length : Nat)) = false := by simp; omega
   rw [hdec]
   refine bt ?_
   have hy' : y = v.bP.length := by omega
   have hS : (v.bP.take (min y turns.toNat)).foldl V.eX v.sure = V.iV v turns := by
    unfold V.iV
    congr 1
    rw [hy']
    by_cases h : v.bP.length ≤ turns.toNat
    ·rw [Nat.min_eq_left h, List.take_of_length_le (Nat.le_refl _), List.take_of_length_le h]
    ·rw [Nat.min_eq_right (by omega)]
   rw [hS] at v7
   refine MP v7 (by show (V.eP v keep).length ≤ _; omega) (hko3.mono e7) fun s8 e8 v8 => ?_
   obtain ⟨k0', ⟨nn9, mm9, ms9, mu9, f1, f2, f3, f4, f5⟩, f6⟩ := v8
   simp only [V.fix] at f1 f2 f3 f4 f5 f6
   refine aj ?_
   refine cP f1 (by simp) rfl k0' fun s9 e9 z9 a9 o9 => ?_
   simp only [List.set_cons_succ, List.set_cons_zero] at a9
   refine aj ?_
   refine BC a9 (by simp) rfl rfl k0' fun s10 e10 z10 a10 o10 => ?_
   simp only [List.set_cons_succ, List.set_cons_zero] at a10
   refine aj ?_
   refine BC a10 (by simp) rfl rfl k0' fun s11 e11 z11 a11 o11 => ?_
   simp only [List.set_cons_succ, List.set_cons_zero] at a11
   have e811 : Step [k] s8 s11 := (e9.trans e10).trans e11
   have hkd : ∀ z, z ∈ [k] → z ∈ own s :: dk k := by intro z hz; simp at hz; subst hz; simp [fk]
   refine hK s11 (e0d ((e7.trans (e8.mono (fun z hz => List.mem_cons_of_mem _ hz))).trans (e811.mono hkd))) ?_
   obtain ⟨es9, cl9, f4⟩ := f4
   exact ⟨k0', ⟨nn9, mm9, ms9, mu9, a11, f2.st e811 (by simp), f3.st e811 (by simp), ⟨es9, cl9, f4.st e811 (by simp)⟩, f5.st e811 (by simp)⟩, f6.st e811 (fun j => by simp; omega)⟩
end Go.Ph
end
section
set_option linter.all false
namespace Go.Ph
open S
namespace R
def fH (acc : ByteArray × List Int) (p : xW) : ByteArray × List Int :=
 (if V.kept acc.2 p.B.size = 0 then acc.1 else jY acc.1 p.At.toNat (p.B.extract 0 (V.kept acc.2 p.B.size)), acc.2.tail)
def cu (x : dV) (ks : List Int) : ByteArray × List Int := x.waits.foldl fH (x.sure, ks)
def dh (d : ah) (acc : List dV × List Int) (j : Nat) : List dV × List Int :=
 match acc.1[j]? with
 | some x => if known d j then (acc.1.set j ⟨(cu x acc.2).1, (cu x acc.2).1, []⟩, (cu x acc.2).2) else (acc.1.set j ⟨x.sure, x.sure, []⟩, acc.2)
 | none => acc
def eP (d : ah) (ks : List Int) : List dV := ((List.range d.files.length).foldl (dh d) (d.files, ks)).1
def iV (d : ah) (turns : Int) : List aR := (d.waits.take turns.toNat).foldl cX d.sure
def en (d : ah) (turns : Int) (ks : List Int) : ah := { d with files := eP d ks, now := iV d turns, sure := iV d turns, waits := [], down := false, fail := -1, br := -1 }
end R
theorem UC {x : cn} {f : dV} (h : tA x f) (hp : ∀ p ∈ x.cF, 0 ≤ p.place) (ks : List Int) : V.cu x ks = R.cu f ks := by
 obtain ⟨h1, h2, h3⟩ := h
 unfold V.cu R.cu
 rw [← h3, h2]
 generalize (f.sure, ks) = acc
 induction x.cF generalizing acc with
 | nil => rfl
 | cons p l ih => simp only [List.map_cons, List.foldl_cons]; exact ih _
theorem JF (d : ah) (acc : List dV × List Int) (j : Nat) : (R.dh d acc j).1.length = acc.1.length := by
 unfold R.dh; split
 ·split <;> simp
 ·rfl
theorem OX {d : ah} {l : List aR} {t : cT} (ht : t ∈ d.waits) (hl : ∀ e ∈ l, ∀ j : Nat, e.aO = j → R.known d j = true) : ∀ e ∈ R.cX l t, ∀ j : Nat, e.aO = j → R.known d j = true := by
 have hw : ∀ n, ∀ e ∈ R.bD l n, e ∈ l := fun n e he => (List.mem_filter.1 he).1
 intro e he j hj
 unfold R.cX at he
 split at he
 ·split at he
  ·exact hl e he j hj
  ·rename_i hf
   split at he
   ·exact hl e (hw _ _ he) j hj
   ·rcases Jc he with rfl | he
    ·simp only at hj
     unfold R.find at hj hf
     cases hx : l.find? (fun e => decide (e.Name = t.cV)) with
     | none => rw [hx] at hf; simp at hf
     | some x => rw [hx] at hj; exact hl x (List.mem_of_find?_eq_some hx) j hj
    ·exact hl e (hw _ _ he) j hj
 ·split at he
  ·exact hl e he j hj
  ·rcases Jc he with rfl | he
   ·simp only at hj
    unfold R.known
    have : d.waits.any (fun e => decide (e.aO = (j : Int))) = true := List.any_eq_true.2 ⟨t, ht, by simpa using hj⟩
    rw [this]; simp
   ·exact hl e he j hj
theorem wo {d : ah} : ∀ i, ∀ e ∈ (d.waits.take i).foldl R.cX d.sure, ∀ j : Nat, e.aO = j → R.known d j = true
 | 0, e, he, j, hj => by
  have he : e ∈ d.sure := by simpa using he
  unfold R.known
  have : d.sure.any (fun e => decide (e.aO = (j : Int))) = true := List.any_eq_true.2 ⟨e, he, by simpa using hj⟩
  rw [this]; simp
 | i + 1, e, he, j, hj => by
  rw [List.take_add_one] at he
  cases ht : d.waits[i]? with
  | none => rw [ht] at he; exact wo i e (by simpa using he) j hj
  | some t =>
   rw [ht] at he
   simp only [Option.toList, List.foldl_append, List.foldl_cons, List.foldl_nil] at he
   exact OX (List.mem_of_getElem? ht) (wo i) e he j hj
theorem acC {v : bC} {d : ah} (h : dI v d) {j : Nat} (hlt : j < v.nodes.length) (hj2 : R.known d j = true) : Cu v j := by
 have hx := List.getElem?_eq_getElem hlt
 have hn0 := (h.names 0 (Nat.zero_le _)).1
 simp only [List.take_zero, List.foldl_nil] at hn0
 simp only [R.known, Bool.or_eq_true, List.any_eq_true, decide_eq_true_eq] at hj2
 rcases hj2 with (⟨e, he, hee⟩ | ⟨e, he, hee⟩) | hfr
 ·exact .inl ⟨e.Name, (h.ns.1.mem _ _).2 (by rw [← hee]; exact he)⟩
 ·exact .inr (.inl ⟨e.Name, (hn0.mem _ _).2 (by rw [← hee]; exact he)⟩)
 ·exact .inr (.inr ⟨_, hx, (h.fresh j _ hx).2 hfr⟩)
def V.jh (v : bC) (acc : List cn × List Int) (j : Nat) : List cn × List Int := if V.kn v j = true then V.dh acc j else acc
theorem ZZ (v : bC) (ks : List Int) : V.eP v ks = ((List.range v.nodes.length).foldl (V.jh v) (v.nodes, ks)).1 := by
 unfold V.eP V.jc
 rw [List.foldl_filter]
 rfl
theorem Wz (v : bC) (acc : List cn × List Int) (j : Nat) : (V.jh v acc j).1.length = acc.1.length := by
 unfold V.jh; split
 ·exact I3 _ _
 ·rfl
theorem Ks {c : Int} {x : cn} (h : kZ c x) (hc : c ≤ 1000000000) : kP x := ⟨h.sure, h.cF, by have := h.len; omega⟩
theorem aa1 {v : bC} {c : Int} (hc : 0 ≤ c ∧ c ≤ 1000000000) {acc : List cn × List Int} {j : Nat} (h : ∀ x ∈ acc.1, kZ c x) : ∀ x ∈ (V.jh v acc j).1, kZ c x := by
 unfold V.jh
 split
 ·unfold V.dh
  split
  ·rename_i x hx
   have hb := EI (ks := acc.2) (Ks (h x (List.mem_of_getElem? hx)) hc.2)
   intro y hy
   rcases List.mem_or_eq_of_mem_set hy with hy | rfl
   ·exact h y hy
   ·exact ⟨hb, hb, by simp, by simpa using hc.1⟩
  ·exact h
 ·exact h
structure YJ (v : bC) (d : ah) (i : Nat) (A : List cn × List Int) (B : List dV × List Int) : Prop where
 la : A.1.length = v.nodes.length
 lb : B.1.length = v.nodes.length
 ks : A.2 = B.2
 ok : ∀ x ∈ A.1, kZ d.calls x
 done : ∀ j, j < i → j < v.nodes.length → R.known d j = true → ∃ x f, A.1[j]? = some x ∧ B.1[j]? = some f ∧ x.seen = f.now ∧ x.sure = f.sure ∧ x.cF = [] ∧ f.waits = []
 todo : ∀ j, i ≤ j → A.1[j]? = v.nodes[j]? ∧ B.1[j]? = d.files[j]?
theorem Ed {v : bC} {d : ah} (h : dI v d) (hc : d.calls ≤ 1000000000) (ks : List Int) : ∀ i, i ≤ v.nodes.length → YJ v d i ((List.range i).foldl (V.jh v) (v.nodes, ks)) ((List.range i).foldl (R.dh d) (d.files, ks))
 | 0, _ => ⟨rfl, h.nodes.1.symm, rfl, h.sizes, fun j hj => by omega, fun j _ => ⟨rfl, rfl⟩⟩
 | i + 1, hi => by
  have ih := Ed h hc ks i (by omega)
  rw [List.range_succ, List.foldl_append, List.foldl_append]
  simp only [List.foldl_cons, List.foldl_nil]
  generalize (List.range i).foldl (V.jh v) (v.nodes, ks) = A at *
  generalize (List.range i).foldl (R.dh d) (d.files, ks) = B at *
  obtain ⟨h1, h2⟩ := ih.todo i (Nat.le_refl _)
  have hlt : i < v.nodes.length := by omega
  have hlt2 : i < d.files.length := by rw [← h.nodes.1]; exact hlt
  obtain ⟨x, hx⟩ : ∃ x, x = v.nodes[i] := ⟨_, rfl⟩
  obtain ⟨f, hf⟩ : ∃ f, f = d.files[i] := ⟨_, rfl⟩
  have hvx : v.nodes[i]? = some x := by rw [hx]; exact List.getElem?_eq_getElem hlt
  have hdf : d.files[i]? = some f := by rw [hf]; exact List.getElem?_eq_getElem hlt2
  have hax : A.1[i]? = some x := h1.trans hvx
  have hbf : B.1[i]? = some f := h2.trans hdf
  have hkn := ae1 h i hlt
  have hok := aa1 (v := v) (j := i) ⟨h.count.2, hc⟩ ih.ok
  have hla := Wz v A i
  have hlb := JF d B i
  cases hk : R.known d i
  ·have ea : V.jh v A i = A := by unfold V.jh; rw [hkn, hk]; rfl
   have eb : R.dh d B i = (B.1.set i ⟨f.sure, f.sure, []⟩, B.2) := by unfold R.dh; rw [hbf, hk]; rfl
   rw [ea] at hok hla ⊢
   rw [eb] at hlb ⊢
   refine ⟨ih.la, by rw [List.length_set]; exact ih.lb, ih.ks, hok, fun j hj hjn hjk => ?_, fun j hj => ?_⟩
   ·have hne : i ≠ j := by rintro rfl; rw [hk] at hjk; cases hjk
    obtain ⟨x', f', g1, g2, g3⟩ := ih.done j (by omega) hjn hjk
    exact ⟨x', f', g1, by simp only; rw [List.getElem?_set_ne hne]; exact g2, g3⟩
   ·have := ih.todo j (by omega)
    exact ⟨this.1, by simp only; rw [List.getElem?_set_ne (by omega)]; exact this.2⟩
  ·have hsm := h.cont i x f hvx hdf (acC h hlt hk)
   have hp : ∀ p ∈ x.cF, 0 ≤ p.place := fun p hp => ((h.sizes x (List.mem_of_getElem? hvx)).cF p hp).1
   have ea : V.jh v A i = (A.1.set i ⟨(V.cu x A.2).1, (V.cu x A.2).1, [], x.fresh⟩, (V.cu x A.2).2) := by unfold V.jh V.dh; rw [hkn, hk, hax]; rfl
   have eb : R.dh d B i = (B.1.set i ⟨(R.cu f B.2).1, (R.cu f B.2).1, []⟩, (R.cu f B.2).2) := by unfold R.dh; rw [hbf, hk]; rfl
   have hX : V.cu x A.2 = R.cu f B.2 := by rw [← ih.ks]; exact UC hsm hp _
   rw [ea] at hok hla ⊢
   rw [eb] at hlb ⊢
   refine ⟨by rw [List.length_set]; exact ih.la, by rw [List.length_set]; exact ih.lb, by simp only; rw [hX], hok, fun j hj hjn hjk => ?_, fun j hj => ?_⟩
   ·by_cases hne : i = j
    ·subst hne
     exact ⟨_, _, List.getElem?_set_self (by rw [ih.la]; exact hlt), List.getElem?_set_self (by rw [ih.lb]; exact hlt), by simp only; rw [hX], by simp only; rw [hX], rfl, rfl⟩
    ·obtain ⟨x', f', g1, g2, g3⟩ := ih.done j (by omega) hjn hjk
     exact ⟨x', f', by simp only; rw [List.getElem?_set_ne hne]; exact g1, by simp only; rw [List.getElem?_set_ne hne]; exact g2, g3⟩
   ·have := ih.todo j (by omega)
    exact ⟨by simp only; rw [List.getElem?_set_ne (by omega)]; exact this.1, by simp only; rw [List.getElem?_set_ne (by omega)]; exact this.2⟩
theorem dI.en {v : bC} {d : ah} (h : dI v d) (hc : d.calls ≤ 1000000000) (turns : Int) (ks : List Int) : dI (V.en v turns ks) (R.en d turns ks) := by
 have hB := Ed h hc ks v.nodes.length (Nat.le_refl _)
 have eA : ((List.range v.nodes.length).foldl (V.jh v) (v.nodes, ks)).1 = V.eP v ks := (ZZ v ks).symm
 have eB : ((List.range v.nodes.length).foldl (R.dh d) (d.files, ks)).1 = R.eP d ks := by rw [h.nodes.1]; rfl
 obtain ⟨la, lb, _, ok, dn, _⟩ := hB
 rw [eA] at la ok dn
 rw [eB] at lb dn
 have hnm := h.names (min turns.toNat v.bP.length) (by omega)
 have e1 : v.bP.take (min turns.toNat v.bP.length) = v.bP.take turns.toNat := by
  by_cases hle : turns.toNat ≤ v.bP.length
  ·rw [Nat.min_eq_left hle]
  ·rw [Nat.min_eq_right (by omega), List.take_of_length_le (Nat.le_refl _), List.take_of_length_le (by omega)]
 have e2 : d.waits.take (min turns.toNat v.bP.length) = d.waits.take turns.toNat := by
  have := h.lV.1
  by_cases hle : turns.toNat ≤ v.bP.length
  ·rw [Nat.min_eq_left hle]
  ·rw [Nat.min_eq_right (by omega), List.take_of_length_le (by omega), List.take_of_length_le (by omega)]
 rw [e1, e2] at hnm
 have hc0 := h.count.2
 have hfix : (V.en v turns ks).nodes = (V.eP v ks).map cn.calm := rfl
 have hlenN : ((V.eP v ks).map cn.calm).length = v.nodes.length := by rw [List.length_map, la]
 have t5 : kY (-1) (-1) d.calls ∧ (-1 : Int) ≤ -1 ∧ (-1 : Int) < 9223372036854775808 ∧ (-1 : Int) ≤ -1 ∧ (-1 : Int) < 9223372036854775808 := ⟨.inl rfl, by decide, by decide, by decide, by decide⟩
 have t6 : (0 : Int) ≤ (-1 : Int) → (V.en v turns ks).fc = (R.en d turns ks).err := fun hh => absurd hh (by decide)
 have t7 : (([] : List mC).length : Int) ≤ d.calls := by simpa using hc0
 refine ⟨h.room, rfl, h.count, t5, t6, t5, ⟨?_, ?_⟩, ⟨rfl, t7⟩, rfl, rfl, ?_, ?_, (fun t ht => by cases ht), ?_, ?_⟩
 ·rw [hfix, hlenN]; exact lb.symm
 ·rw [hfix, hlenN]; exact h.nodes.2
 ·intro i hi
  have : i = 0 := Nat.le_zero.1 hi
  subst this
  show eS ((V.eP v ks).map cn.calm).length _ _ ∧ _
  rw [hlenN]
  exact hnm
 ·intro j x hx
  rw [hfix, List.getElem?_map, Option.map_eq_some_iff] at hx
  obtain ⟨y, _, rfl⟩ := hx
  constructor
  ·intro hh; cases hh
  ·rintro ⟨t, ht, _⟩; cases ht
 ·intro j x f hx hf hkn
  rw [hfix, List.getElem?_map, Option.map_eq_some_iff] at hx
  obtain ⟨y, hy, rfl⟩ := hx
  have hjl : j < v.nodes.length := by rw [← la]; exact (List.getElem?_eq_some_iff.1 hy).1
  have hin : ∃ n, (n, (j : Int)) ∈ V.iV v turns := by
   rcases hkn with ⟨n, hn⟩ | ⟨n, hn⟩ | ⟨x, hx, hfr⟩
   ·exact ⟨n, hn⟩
   ·exact ⟨n, hn⟩
   ·rw [hfix, List.getElem?_map, Option.map_eq_some_iff] at hx
    obtain ⟨z, _, rfl⟩ := hx
    cases hfr
  obtain ⟨n, hn⟩ := hin
  have hre := (hnm.1.mem n j).1 hn
  have hrk := wo (d := d) turns.toNat _ hre j rfl
  obtain ⟨x', f', g1, g2, g3, g4, g5, g6⟩ := dn j hjl hjl hrk
  rw [hy] at g1
  have hf' : (R.eP d ks)[j]? = some f := hf
  rw [hf'] at g2
  cases g1
  cases g2
  refine ⟨g3, g4, ?_⟩
  show y.cF.map pm = f.waits
  rw [g5, g6]; rfl
 ·intro x hx
  rw [hfix] at hx
  obtain ⟨y, hy, rfl⟩ := List.mem_map.1 hx
  have := ok y hy
  exact ⟨this.seen, this.sure, this.cF, this.len⟩
theorem X1 {k : Nat} {s : St} {b : Nat} {d : ah} {turns : Int} {keep : List Int} {slk : Sl} {K : Int → HP} (h : DV k s b d) (hd : d.down = true) (hl : Ls (tI .i64) (s.w 0) keep slk) (hkl : keep.length ≤ 1000000000) (hc : d.calls ≤ 100000000) (hko : Ko k s)
  (hK : ∀ s', Step (dk k) s s' → DV k s' b (R.en d turns keep) → K 0 s'.H) : nX (some ⟨b, 0, none⟩) turns slk K s.H := by
 obtain ⟨v, ps, hv, hs⟩ := h
 have hn := hs.nodes
 have hm := hs.lV
 have hn0 := (hs.names 0 (Nat.zero_le _)).1
 simp only [List.take_zero, List.foldl_nil] at hn0
 have hns := hs.ns.1
 refine abZ hv (by rw [hs.off]; exact hd) hl hkl (by omega) (fun x hx => Ks (hs.sizes x hx) (by omega)) (by omega) hko (fun x hx => hns.good.cQ _ ((hns.mem x.1 x.2).1 hx)) (fun x hx => hn0.good.cQ _ ((hn0.mem x.1 x.2).1 hx)) fun s' e v' => ?_
 exact hK s' e ⟨_, ps, v', hs.en (by omega) turns keep⟩
end Go.Ph
end
section
set_option linter.all false
namespace Go.Ph
theorem J7 : ∀ (a b t : List UInt8), bO a ++ t = bO b → ∃ c, b = a ++ c
 | [], b, t, h => ⟨b, rfl⟩
 | x :: a, [], t, h => by
  rw [lK, Zk] at h
  have := congrArg List.length h
  have h1 := DX x
  simp at this
  exact absurd this.1 h1
 | x :: a, y :: b, t, h => by
  rw [lK, lK, List.append_assoc] at h
  obtain ⟨rfl, h2⟩ := WS x y _ _ h
  obtain ⟨c, rfl⟩ := J7 a b t h2
  exact ⟨c, rfl⟩
theorem P4 (l : List UInt8) : (80 : UInt8) ∉ bO l := by
 intro h
 unfold bO at h
 obtain ⟨c, _, hc⟩ := List.mem_flatMap.1 h
 unfold eo at hc
 split at hc
 ·simp at hc
 ·split at hc
  ·simp at hc
  ·rename_i h1 h2
   simp at hc
   exact h1 hc.symm
theorem HV {b : List UInt8} {i : Nat} {f : gm} (h : gd b i = .ok f) : b[i]? = some 80 ∧ ∃ (all : List UInt8) (k2 : Nat), jP b i k2 all ∧ all.length = 9 + (eV (all.take 5) 1 4).toNat ∧ f.len = k2 - i := by
 unfold gd at h
 split at h
 ·cases h
 ·rename_i c hc
  have hi : i < b.length := by
   rcases Nat.lt_or_ge i b.length with h1 | h1
   ·exact h1
   ·rw [List.getElem?_eq_none h1] at hc; cases hc
  split at h
  ·rename_i hc80
   split at h
   ·cases h
   ·rename_i x hx
    obtain ⟨out, k⟩ := x
    obtain ⟨g5, l5, -⟩ := jP.app (b := b) (i := i) (k := i + 1) (all := []) ⟨Nat.le_refl _, by omega, by simp [bO]⟩ hx
    unfold mV at h
    split at h
    ·cases h
    ·split at h
     ·cases h
     ·rename_i y hy
      obtain ⟨all, k2⟩ := y
      obtain ⟨g9, l9, t9⟩ := g5.app hy
      simp at l5
      simp only at l9
      refine ⟨by rw [hc, hc80], all, k2, g9, ?_, ?_⟩
      ·rw [show all.take 5 = out by rw [← t9, l5]]
       omega
      ·unfold pW at h
       split at h
       ·cases h; rfl
       ·cases h
  ·cases h
theorem OD {c : UInt8} {bn p : List UInt8} {k : Nat} (hp : bn.length ≤ 65536) (hk : k < (wrap c bn).length) {f : gm} : gd (p ++ (wrap c bn).take k) p.length ≠ .ok f := by
 intro h
 obtain ⟨_, all, k2, g, hal, _⟩ := HV h
 obtain ⟨A, hA⟩ : ∃ A, A = c :: (aW bn.length 4 ++ (aW (crc 0#32 (c :: (aW bn.length 4 ++ bn))).toNat 4 ++ bn)) := ⟨_, rfl⟩
 have hw : wrap c bn = 80 :: bO A := by rw [hA]; rfl
 rw [hw] at hk g
 have hlen := g.len
 have hle := g.le
 have hcut := g.cut
 rw [List.length_append] at hlen
 have hd : (p ++ (80 :: bO A).take k).drop (p.length + 1) = (bO A).take (k - 1) := by
  rw [List.drop_append, List.drop_eq_nil_of_le (by omega), Nat.add_sub_cancel_left, List.nil_append, List.drop_take]
  simp
 rw [hd, List.take_take] at hcut
 obtain ⟨m, hm⟩ : ∃ m, m = min (k2 - (p.length + 1)) (k - 1) := ⟨_, rfl⟩
 rw [← hm] at hcut
 obtain ⟨cc, hcc⟩ := J7 all A ((bO A).drop m) (by rw [← hcut, List.take_append_drop])
 have hAl : A.length = 9 + bn.length := by rw [hA]; simp [dN]; omega
 have h5 : all.take 5 = A.take 5 := by
  rw [hcc, List.take_append_of_le_length (by omega)]
 have hA5 : A.take 5 = c :: aW bn.length 4 := by
  rw [hA, List.take_succ_cons, List.take_append_of_le_length (by rw [dN]; omega), List.take_of_length_le (by rw [dN]; omega)]
 have hg : eV (all.take 5) 1 4 = bn.length := by
  have e : eV (c :: aW bn.length 4) 1 4 = be (((c :: aW bn.length 4).drop 1).take 4) := xX (a := 1) (k := 4) (by omega) (by simp [dN])
  rw [h5, hA5, e]
  simp only [List.drop_succ_cons, List.drop_zero]
  rw [List.take_of_length_le (by rw [dN]; omega), wz _ _ (by omega)]
 rw [hg] at hal
 have hcl : cc = [] := by
  have := congrArg List.length hcc
  rw [List.length_append] at this
  exact List.eq_nil_of_length_eq_zero (by omega)
 rw [hcl, List.append_nil] at hcc
 rw [← hcc] at hcut
 have := congrArg List.length hcut
 rw [List.length_take] at this
 rw [List.length_cons] at hk
 have hv : (bO A).length ≤ k - 1 := by omega
 have hpos : 0 < (bO A).length := by
  rw [hA, lK]
  have := DX c
  cases e : eo c with
  | nil => exact absurd e this
  | cons => simp
 omega
theorem GQ {b : List UInt8} : ∀ (n i : Nat), (∀ j f, i ≤ j → gd b j ≠ .ok f) → gr b n i = []
 | 0, i, h => rfl
 | n + 1, i, h => by
  rw [gr]
  split
  ·split
   ·exact GQ n (i + 1) fun j f hj => h j f (by omega)
   ·rename_i f hf; exact absurd hf (h i f (Nat.le_refl _))
  ·rfl
theorem OY (l : List RecM) (x : RecM) (k : Nat) (h : ∀ y ∈ l, fO y) (hx : fO x) (hk : k < (bB x).length) : gB (aQ l ++ (bB x).take k) = dF 0 l := by
 obtain ⟨m, m1, m2⟩ := yL l (aQ l ++ (bB x).take k).length [] ((bB x).take k) h (by rw [List.length_append]; omega)
 simp only [List.nil_append, List.length_nil, Nat.zero_add] at m2
 unfold gB frames
 rw [m2, GQ m _ ?_]
 ·simp
 ·intro j f hj hf
  have hpl := sN hx
  by_cases e : j = (aQ l).length
  ·subst e
   exact OD (by omega) hk hf
  ·obtain ⟨h80, _⟩ := HV hf
   rw [List.getElem?_append_right hj] at h80
   have hm := List.mem_of_getElem? h80
   have : (80 : UInt8) ∈ ((bB x).take k).drop 1 := by
    refine List.mem_of_getElem? (i := j - (aQ l).length - 1) ?_
    rw [List.getElem?_drop, show 1 + (j - (aQ l).length - 1) = j - (aQ l).length by omega]
    exact h80
   rw [List.drop_take] at this
   have := List.mem_of_mem_take this
   unfold bB wrap at this
   rw [List.drop_succ_cons, List.drop_zero] at this
   exact P4 _ this
end Go.Ph
end
section
set_option linter.all false
namespace Go.Ph
theorem rZ (n : Nat) : ∀ (i : Nat), ∀ c ∈ low n i, dZ c = true
 | 0, c, h => by cases h
 | i + 1, c, h => by
  unfold low at h
  rcases List.mem_cons.1 h with rfl | h
  ·unfold dZ
   rw [zy]
   simp; omega
  ·exact rZ n i c h
theorem Ij (n : Nat) : ∀ i, num (low n i) = n % 10 ^ i
 | 0 => by simp [low, num, Nat.mod_one]
 | i + 1 => by
  rw [low, vZ, Ij n i, kO, zy]
  have h1 : 48 + n / 10 ^ i % 10 - 48 = n / 10 ^ i % 10 := by omega
  rw [h1, Nat.pow_succ, Nat.mod_mul]
  rw [Nat.mul_comm, Nat.add_comm]
theorem vH {u q : Nat} (hu : 1 ≤ u ∧ u ≤ 999) (hq : 1 ≤ q ∧ q ≤ 99999999) : aT u q = ba (cname u q) := by
 unfold aT
 rw [if_pos (by omega)]
 simp
theorem lM {u q : Nat} (hu : 1 ≤ u ∧ u ≤ 999) (hq : 1 ≤ q ∧ q ≤ 99999999) : cz u (aT u q) = q := by
 rw [vH hu hq]
 unfold cz
 have hp : R.pre (ba (cname u q)) (ba (front u)) = true := by
  rw [vP, decide_eq_true_eq, gZ, gZ]
  exact ⟨low q 8, rfl⟩
 rw [if_pos hp, iL, uL, if_neg (by decide), gZ]
 have hd : (cname u q).drop 5 = low q 8 := by
  unfold cname
  rw [← lE u, List.drop_left]
 rw [hd]
 unfold gN
 rw [if_pos ⟨kO q 8, by rw [List.all_eq_true]; exact rZ q 8⟩, Ij, Nat.mod_eq_of_lt (by omega)]
theorem xz {u i j : Nat} (hu : 1 ≤ u ∧ u ≤ 999) (hi : 1 ≤ i ∧ i ≤ 99999999) (hj : 1 ≤ j ∧ j ≤ 99999999) (h : aT u i = aT u j) : i = j := by
 have h1 := lM hu hi
 have h2 := lM hu hj
 rw [h] at h1
 omega
theorem L3 {u i j : Nat} (hu : 1 ≤ u ∧ u ≤ 999) (hi : 1 ≤ i ∧ i ≤ 99999999) (hj : 1 ≤ j ∧ j ≤ 99999999) (h : i < j) : slt (aT u i) (aT u j) = true := by
 have h1 := lM hu hi
 have h2 := lM hu hj
 rcases qF (aT u i) (aT u j) with h3 | h3 | h3
 ·exact h3
 ·have := xz hu hi hj h3; omega
 ·have := KX hu h3 (by omega) (by omega) (by omega) (by omega)
  omega
theorem kQ {u q : Nat} (hu : 1 ≤ u ∧ u ≤ 999) (hq : 1 ≤ q ∧ q ≤ 99999999) : (aT u q).size = 13 := by
 rw [vH hu hq, iL, uL]
theorem xJ {u q : Nat} (hu : 1 ≤ u ∧ u ≤ 999) (hq : 1 ≤ q ∧ q ≤ 99999999) : R.gU (aT u q) R.gl = false := by
 cases h : R.gU (aT u q) R.gl
 ·rfl
 ·unfold R.gU at h
  simp only [Bool.and_eq_true, decide_eq_true_eq] at h
  obtain ⟨_, h⟩ := h
  rw [kQ hu hq] at h
  have h1 := congrArg (fun b : ByteArray => b.data.toList) h
  simp only [vH hu hq] at h1
  have hz : R.gl.size = 2 := rfl
  rw [hz, ByteArray.data_extract, Array.toList_extract] at h1
  have hm : (110 : UInt8) ∈ R.gl.data.toList := by decide
  rw [← h1] at hm
  rw [gZ] at hm
  have hm2 : (110 : UInt8) ∈ (cname u q).drop 11 := List.mem_of_mem_take (by simpa [List.extract_eq_take_drop] using hm)
  have hd : (cname u q).drop 11 = (low q 8).drop 6 := by
   unfold cname
   rw [show 11 = (front u).length + 6 by rw [lE], ← List.drop_drop, List.drop_left]
  rw [hd] at hm2
  have := rZ q 8 _ (List.mem_of_mem_drop hm2)
  exact absurd this (by decide)
end Go.Ph
end
section
set_option linter.all false
namespace Go.Ph
def R.dy (d : ah) : List (ByteArray × List UInt8) := d.now.map fun e => (e.Name, P.dat d e)
theorem Fu {d : ah} {ks : List Int} {i : Nat} {f : dV} (hk : R.known d i = true) (hf : d.files[i]? = some f) : ∀ m, ∃ ks', ((List.range m).foldl (R.dh d) (d.files, ks)).1[i]? = some (if i < m then ⟨(R.cu f ks').1, (R.cu f ks').1, []⟩ else f)
 | 0 => ⟨[], by simpa using hf⟩
 | m + 1 => by
  obtain ⟨ks', ih⟩ := Fu hk hf m
  rw [List.range_succ, List.foldl_append]
  simp only [List.foldl_cons, List.foldl_nil]
  generalize (List.range m).foldl (R.dh d) (d.files, ks) = B at *
  unfold R.dh
  by_cases e : m = i
  ·subst e
   rw [if_neg (by omega)] at ih
   refine ⟨B.2, ?_⟩
   rw [ih, if_pos (by omega)]
   simp only [hk, if_true]
   exact List.getElem?_set_self (List.getElem?_eq_some_iff.1 ih).1
  ·refine ⟨ks', ?_⟩
   have h1 : (if i < m + 1 then (⟨(R.cu f ks').1, (R.cu f ks').1, []⟩ : dV) else f) = if i < m then ⟨(R.cu f ks').1, (R.cu f ks').1, []⟩ else f := by
    by_cases h : i < m
    ·rw [if_pos h, if_pos (by omega)]
    ·rw [if_neg h, if_neg (by omega)]
   rw [h1]
   split
   ·split
    ·simp only; rw [List.getElem?_set_ne e]; exact ih
    ·simp only; rw [List.getElem?_set_ne e]; exact ih
   ·exact ih
theorem rJ {d : ah} (ks : List Int) {i : Nat} {f : dV} (hk : R.known d i = true) (hf : d.files[i]? = some f) : ∃ ks', (R.eP d ks)[i]? = some ⟨(R.cu f ks').1, (R.cu f ks').1, []⟩ := by
 obtain ⟨ks', h⟩ := Fu (ks := ks) hk hf d.files.length
 rw [if_pos (List.getElem?_eq_some_iff.1 hf).1] at h
 exact ⟨ks', h⟩
theorem AY {d : ah} {e : aR} (he : e ∈ d.now) (h0 : 0 ≤ e.aO) : R.known d e.aO.toNat = true := by
 unfold R.known
 have : d.now.any (fun x => decide (x.aO = ((e.aO.toNat : Nat) : Int))) = true := List.any_eq_true.2 ⟨e, he, by simp; omega⟩
 rw [this]; rfl
structure Calm (d : ah) : Prop where
 fail : d.fail < 0
 waits : d.waits = []
 sure : d.sure = d.now
 files : ∀ e ∈ d.now, 0 ≤ e.aO ∧ ∃ f, d.files[e.aO.toNat]? = some f ∧ f.sure = f.now ∧ f.waits = []
theorem Calm.en {d : ah} (h : Calm d) (turns : Int) (ks : List Int) : R.dy (R.en d turns ks) = R.dy d := by
 unfold R.dy
 have hs : (R.en d turns ks).now = d.now := by
  show R.iV d turns = _
  unfold R.iV
  rw [h.waits]; simp [h.sure]
 rw [hs]
 refine List.map_congr_left fun e he => ?_
 obtain ⟨h0, f, hf, h1, h2⟩ := h.files e he
 obtain ⟨ks', hb⟩ := rJ ks (AY he h0) hf
 have hx : (R.cu f ks').1 = f.now := by unfold R.cu; rw [h2]; exact h1
 unfold P.dat
 have : (R.en d turns ks).files = R.eP d ks := rfl
 rw [this, hb, hf]
 simp only [hx]
structure Lw (d : ah) (n : ByteArray) (old b : ByteArray) : Prop where
 fail : d.fail < 0
 waits : d.waits = []
 sure : d.sure = d.now
 names : ∀ e ∈ d.now, ∀ e' ∈ d.now, e.Name = e'.Name → e = e'
 files : ∀ e ∈ d.now, 0 ≤ e.aO ∧ ∃ f, d.files[e.aO.toNat]? = some f ∧ (e.Name ≠ n → f.sure = f.now ∧ f.waits = []) ∧ (e.Name = n → f.sure = old ∧ f.now = old ++ b ∧ f.waits = [⟨old.size, b⟩])
theorem UI (x y : ByteArray) (k : Nat) : (R.jY x x.size (y.extract 0 k)).data.toList = x.data.toList ++ y.data.toList.take k := by
 unfold R.jY
 simp only [Nat.sub_self, List.replicate_zero, List.append_nil]
 have h1 := dw x
 rw [List.take_of_length_le (by omega), List.drop_eq_nil_of_le (by omega), List.append_nil, nr]
 simp
theorem zB {old b nw : ByteArray} (ks : List Int) : ∃ k, k ≤ b.size ∧ (R.cu ⟨nw, old, [⟨old.size, b⟩]⟩ ks).1.data.toList = old.data.toList ++ b.data.toList.take k := by
 unfold R.cu R.fH
 simp only [List.foldl_cons, List.foldl_nil]
 have hk := A3 ks b.size
 by_cases h : V.kept ks b.size = 0
 ·rw [if_pos h]; exact ⟨0, Nat.zero_le _, by simp⟩
 ·rw [if_neg h]
  exact ⟨V.kept ks b.size, hk, by simp only [Int.toNat_natCast]; exact UI _ _ _⟩
def R.Df (l : List (ByteArray × List UInt8)) (n : ByteArray) (b : List UInt8) : List (ByteArray × List UInt8) := l.map fun x => if x.1 = n then (n, b) else x
theorem Lw.en {d : ah} {n old b : ByteArray} (h : Lw d n old b) (turns : Int) (ks : List Int) : ∃ k, k ≤ b.size ∧ R.dy (R.en d turns ks) = R.Df (R.dy d) n (old.data.toList ++ b.data.toList.take k) := by
 have hs : (R.en d turns ks).now = d.now := by
  show R.iV d turns = _
  unfold R.iV
  rw [h.waits]; simp [h.sure]
 have hfb : (R.en d turns ks).files = R.eP d ks := rfl
 have other : ∀ e ∈ d.now, e.Name ≠ n → P.dat (R.en d turns ks) e = P.dat d e := fun e he hne => by
  obtain ⟨h0, f, hf, h1, _⟩ := h.files e he
  obtain ⟨h1, h2⟩ := h1 hne
  obtain ⟨ks', hb⟩ := rJ ks (AY he h0) hf
  have hx : (R.cu f ks').1 = f.now := by unfold R.cu; rw [h2]; exact h1
  unfold P.dat
  rw [hfb, hb, hf]
  simp only [hx]
 by_cases hex : ∃ e ∈ d.now, e.Name = n
 ·obtain ⟨e, he, hen⟩ := hex
  obtain ⟨h0, f, hf, _, h1⟩ := h.files e he
  obtain ⟨h1, h2, h3⟩ := h1 hen
  obtain ⟨ks', hb⟩ := rJ ks (AY he h0) hf
  have hfe : f = ⟨f.now, old, [⟨old.size, b⟩]⟩ := by cases f; simp only at h1 h3; subst h1; subst h3; rfl
  obtain ⟨k, hk, hx⟩ := zB (old := old) (b := b) (nw := f.now) ks'
  rw [← hfe] at hx
  refine ⟨k, hk, ?_⟩
  unfold R.dy R.Df
  rw [hs, List.map_map]
  refine List.map_congr_left fun e' he' => ?_
  simp only [Function.comp]
  by_cases hn' : e'.Name = n
  ·rw [if_pos hn']
   have hd : P.dat (R.en d turns ks) e' = old.data.toList ++ b.data.toList.take k := by
    have : e' = e := h.names e' he' e he (hn'.trans hen.symm)
    subst this
    unfold P.dat
    rw [hfb, hb]
    exact hx
   rw [hd, hn']
  ·rw [if_neg hn', other e' he' hn']
 ·refine ⟨0, Nat.zero_le _, ?_⟩
  unfold R.dy R.Df
  rw [hs, List.map_map]
  refine List.map_congr_left fun e' he' => ?_
  have hne : e'.Name ≠ n := fun h => hex ⟨e', he', h⟩
  simp only [Function.comp]
  rw [if_neg hne, other e' he' hne]
end Go.Ph
end
section
set_option linter.all false
namespace Go.Ph
abbrev aX := ByteArray → Option (List UInt8)
def bG (m : aX) (n : ByteArray) (v : Option (List UInt8)) : aX := fun x => if x = n then v else m x
def dL (l : List aR) (c : Nat → List UInt8) : aX := fun n => if R.find l n < 0 then none else some (c (R.find l n).toNat)
def gH (c : Nat → List UInt8) (m : aX) (t : cT) : aX :=
 if t.aO < 0 then (match m t.cV with
  | none => m
  | some b => if t.To = ⟨#[]⟩ then bG m t.cV none else bG (bG m t.cV none) t.To (some b))
 else if t.To = ⟨#[]⟩ then m else bG m t.To (some (c t.aO.toNat))
theorem Ln {m : aX} {n : ByteArray} {v : Option (List UInt8)} (h : m n = v) : bG m n v = m := by
 funext x; unfold bG; split
 ·rename_i e; rw [e, h]
 ·rfl
theorem NP (m : aX) (n : ByteArray) (v w : Option (List UInt8)) : bG (bG m n v) n w = bG m n w := by
 funext x; unfold bG; split <;> rfl
theorem oo (m : aX) (n : ByteArray) (v : Option (List UInt8)) : bG m n v n = v := by unfold bG; rw [if_pos rfl]
theorem kR (m : aX) {n x : ByteArray} (v : Option (List UInt8)) (h : x ≠ n) : bG m n v x = m x := by unfold bG; rw [if_neg h]
theorem ot (l : List aR) (n : ByteArray) : (R.find l n = -1 ∧ ∀ e ∈ l, e.Name ≠ n) ∨ ∃ e ∈ l, e.Name = n ∧ R.find l n = e.aO := by
 unfold R.find
 cases h : l.find? (fun e => decide (e.Name = n)) with
 | none =>
  refine .inl ⟨rfl, fun e he => ?_⟩
  have := List.find?_eq_none.1 h e he
  simpa using this
 | some e =>
  refine .inr ⟨e, List.mem_of_find?_eq_some h, ?_, rfl⟩
  have := List.find?_some h
  simpa using this
theorem vw (l : List aR) (a n : ByteArray) : R.find (R.bD l a) n = if n = a then -1 else R.find l n := by
 unfold R.find R.bD
 rw [List.find?_filter]
 by_cases h : n = a
 ·subst h
  rw [if_pos rfl]
  have : l.find? (fun e => decide (¬(!decide (e.Name = n)) = false ∧ decide (e.Name = n) = true)) = none := by
   rw [List.find?_eq_none]; intro x _; simp
  simp at this ⊢
  split
  ·rename_i e he
   have := List.find?_some he
   simp at this
  ·rfl
 ·rw [if_neg h]
  congr 1
  congr 1
  funext e
  by_cases h2 : e.Name = n
  ·have : e.Name ≠ a := fun h3 => h (h2.symm.trans h3)
   simp [h2, h]
  ·simp [h2]
theorem A7 (l : List aR) (x : aR) (n : ByteArray) : R.find (R.put l x) n = if n = x.Name then x.aO else R.find l n := by
 have hw := vw l x.Name n
 by_cases h : n = x.Name
 ·rw [if_pos h]
  subst h
  have hnw : ∀ e ∈ R.bD l x.Name, e.Name ≠ x.Name := fun e he => (jX.1 he).2
  unfold R.put R.find
  rw [List.append_assoc, List.find?_append, List.find?_append]
  have h1 : ((R.bD l x.Name).take (R.gG (R.bD l x.Name) x.Name (R.bD l x.Name).length)).find? (fun e => decide (e.Name = x.Name)) = none := by
   rw [List.find?_eq_none]; intro e he; simpa using hnw e (List.mem_of_mem_take he)
  rw [h1]
  simp
 ·rw [if_neg h] at hw ⊢
  rw [← hw]
  unfold R.put R.find
  rw [List.append_assoc, List.find?_append, List.find?_append]
  have h1 : [x].find? (fun e => decide (e.Name = n)) = none := by
   rw [List.find?_eq_none]; intro e he; simp at he; subst he; simpa using fun h2 => h h2.symm
  rw [h1, Option.none_or, ← List.find?_append, List.take_append_drop]
theorem ZP (l : List aR) (c : Nat → List UInt8) (t : cT) : dL (R.cX l t) c = gH c (dL l c) t := by
 unfold R.cX gH
 by_cases h0 : t.aO < 0
 ·rw [if_pos h0, if_pos h0]
  by_cases h1 : R.find l t.cV < 0
  ·have : dL l c t.cV = none := by unfold dL; rw [if_pos h1]
   rw [if_pos h1, this]
  ·have : dL l c t.cV = some (c (R.find l t.cV).toNat) := by unfold dL; rw [if_neg h1]
   rw [if_neg h1, this]
   simp only
   by_cases h2 : t.To = ⟨#[]⟩
   ·rw [if_pos h2, if_pos h2]
    funext n
    unfold dL bG
    rw [vw]
    by_cases h3 : n = t.cV
    ·rw [if_pos h3, if_pos h3]; rfl
    ·rw [if_neg h3, if_neg h3]
   ·rw [if_neg h2, if_neg h2]
    funext n
    unfold dL bG
    rw [A7, vw]
    by_cases h3 : n = t.To
    ·rw [if_pos h3, if_pos h3, if_neg h1]
    ·rw [if_neg h3, if_neg h3]
     by_cases h4 : n = t.cV
     ·rw [if_pos h4, if_pos h4]; rfl
     ·rw [if_neg h4, if_neg h4]
 ·rw [if_neg h0, if_neg h0]
  by_cases h2 : t.To = ⟨#[]⟩
  ·rw [if_pos h2, if_pos h2]
  ·rw [if_neg h2, if_neg h2]
   funext n
   unfold dL bG
   rw [A7]
   by_cases h3 : n = t.To
   ·rw [if_pos h3, if_pos h3, if_neg h0]
   ·rw [if_neg h3, if_neg h3]
theorem yw (c : Nat → List UInt8) : ∀ (W : List cT) (l : List aR), dL (W.foldl R.cX l) c = W.foldl (gH c) (dL l c)
 | [], l => rfl
 | t :: W, l => by rw [List.foldl_cons, List.foldl_cons, yw c W, ZP]
def dX (d : ah) (i : Nat) : List UInt8 := match d.files[i]? with | some f => f.now.data.toList | none => []
structure cL (d : ah) (m : aX) : Prop where
 good : Good d.files.length d.now
 fail : d.fail < 0
 waits : d.waits = []
 sure : d.sure = d.now
 calm : ∀ e ∈ d.now, ∃ f, d.files[e.aO.toNat]? = some f ∧ f.sure = f.now ∧ f.waits = []
 dy : dL d.now (dX d) = m
def Choice (d : ah) (c : Nat → List UInt8) : Prop := ∀ i f, d.files[i]? = some f → ∃ ks, c i = (R.cu f ks).1.data.toList
def oa (d : ah) : Prop := ∀ j, Good d.files.length ((d.waits.take j).foldl R.cX d.sure)
theorem nu {l : List aR} {c c' : Nat → List UInt8} (h : ∀ e ∈ l, c e.aO.toNat = c' e.aO.toNat) : dL l c = dL l c' := by
 funext n
 unfold dL
 rcases ot l n with ⟨h1, _⟩ | ⟨e, he, _, h1⟩
 ·rw [h1]; rfl
 ·rw [h1, h e he]
open Classical in
theorem abJ {d : ah} (hg : oa d) (turns : Int) (ks : List Int) : ∃ c j, Choice d c ∧ cL (R.en d turns ks) ((d.waits.take j).foldl (gH c) (dL d.sure c)) := by
 have hlen : (R.eP d ks).length = d.files.length := by
  unfold R.eP
  suffices ∀ (l : List Nat) (acc : List dV × List Int), (l.foldl (R.dh d) acc).1.length = acc.1.length from this _ _
  intro l
  induction l with
  | nil => intro acc; rfl
  | cons j l ih => intro acc; rw [List.foldl_cons, ih, JF]
 have hk : ∀ e ∈ R.iV d turns, R.known d e.aO.toNat = true := fun e he => wo _ e he e.aO.toNat (by have := (hg turns.toNat).cQ e he; omega)
 have hgo := hg turns.toNat
 obtain ⟨c, hc⟩ : ∃ c : Nat → List UInt8, c = fun i => if R.known d i = true then (match (R.eP d ks)[i]? with | some f => f.now.data.toList | none => []) else (match d.files[i]? with | some f => (R.cu f []).1.data.toList | none => []) := ⟨_, rfl⟩
 refine ⟨c, turns.toNat, ?_, ?_⟩
 ·intro i f hf
  rw [hc]
  simp only
  by_cases h : R.known d i = true
  ·rw [if_pos h]
   obtain ⟨ks', hb⟩ := rJ ks h hf
   exact ⟨ks', by rw [hb]⟩
  ·rw [if_neg h, hf]
   exact ⟨[], rfl⟩
 ·rw [← yw]
  refine ⟨?_, ?_, rfl, rfl, ?_, ?_⟩
  ·show Good (R.eP d ks).length (R.iV d turns)
   rw [hlen]; exact hgo
  ·show (-1 : Int) < 0
   decide
  ·intro e he
   have hr := hgo.cQ e he
   obtain ⟨ks', hb⟩ := rJ ks (hk e he) (List.getElem?_eq_getElem (l := d.files) (i := e.aO.toNat) (by omega))
   exact ⟨_, hb, rfl, rfl⟩
  ·refine nu fun e he => ?_
   rw [hc]
   simp only
   rw [if_pos (hk e he)]
   rfl
structure dg (d : ah) (O : aX → Prop) : Prop where
 down : d.down = true
 en : ∀ turns ks, ∃ m, O m ∧ cL (R.en d turns ks) m
theorem dg.imp {d : ah} {O O' : aX → Prop} (h : dg d O) (hi : ∀ m, O m → O' m) : dg d O' :=
 ⟨h.down, fun t k => by obtain ⟨m, h1, h2⟩ := h.en t k; exact ⟨m, hi m h1, h2⟩⟩
theorem dg.mk' {d : ah} {O : aX → Prop} (hd : d.down = true) (hg : oa d) (h : ∀ c j, Choice d c → O ((d.waits.take j).foldl (gH c) (dL d.sure c))) : dg d O :=
 ⟨hd, fun t k => by obtain ⟨c, j, h1, h2⟩ := abJ hg t k; exact ⟨_, h c j h1, h2⟩⟩
structure fm (d d' : ah) : Prop where
 files : d'.files = d.files
 now : d'.now = d.now
 sure : d'.sure = d.sure
 waits : d'.waits = d.waits
 cap : d'.cap = d.cap
 fail : d.fail < 0 → d'.fail < 0
theorem jQ {d : ah} (hd : d.down = false) (hf : d.fail < 0) : fm d (R.begin d).1 ∧ (((R.begin d).2 = 11 ∧ (R.begin d).1.down = true) ∨ ((R.begin d).2 = 0 ∧ (R.begin d).1.down = false)) := by
 unfold R.begin
 rw [if_neg (by simp [hd])]
 simp only
 have h1 : ¬(0 ≤ d.fail) := by omega
 by_cases h : d.br = 0
 ·rw [if_pos h, if_neg h1]
  exact ⟨⟨rfl, rfl, rfl, rfl, rfl, fun h => h⟩, .inl ⟨rfl, rfl⟩⟩
 ·rw [if_neg h, if_neg (by omega), if_neg h1]
  exact ⟨⟨rfl, rfl, rfl, rfl, rfl, fun h => h⟩, .inr ⟨rfl, hd⟩⟩
theorem fm.dX {d d' : ah} (h : fm d d') : dX d' = dX d := by funext i; unfold Go.Ph.dX; rw [h.files]
theorem fm.steady {d d' : ah} {m : aX} (h : fm d d') (hs : cL d m) : cL d' m :=
 ⟨by rw [h.files, h.now]; exact hs.good, h.fail hs.fail, by rw [h.waits]; exact hs.waits, by rw [h.sure, h.now]; exact hs.sure, by rw [h.files, h.now]; exact hs.calm, by rw [h.now, h.dX]; exact hs.dy⟩
theorem fm.sg {d d' : ah} (h : fm d d') (hg : oa d) : oa d' := fun j => by rw [h.files, h.waits, h.sure]; exact hg j
theorem fm.choice {d d' : ah} {c : Nat → List UInt8} (h : fm d d') (hc : Choice d' c) : Choice d c := fun i f hf => hc i f (by rw [h.files]; exact hf)
theorem lF {f : dV} (h1 : f.sure = f.now) (h2 : f.waits = []) (ks : List Int) : (R.cu f ks).1 = f.now := by
 unfold R.cu; rw [h2]; exact h1
theorem cL.sg {d : ah} {m : aX} (h : cL d m) : oa d := fun j => by rw [h.waits, h.sure]; simpa using h.good
theorem cL.choice {d : ah} {m : aX} (h : cL d m) {c : Nat → List UInt8} (hc : Choice d c) : ∀ e ∈ d.now, c e.aO.toNat = dX d e.aO.toNat := fun e he => by
 obtain ⟨f, hf, h1, h2⟩ := h.calm e he
 obtain ⟨ks, hk⟩ := hc _ f hf
 rw [hk, lF h1 h2]
 unfold dX
 rw [hf]
theorem cL.iR {d : ah} {m : aX} (h : cL d m) (hd : d.down = true) : dg d (fun m' => m' = m) :=
 dg.mk' hd h.sg fun c j hc => by
  rw [h.waits, List.take_nil, List.foldl_nil, h.sure, nu (h.choice hc)]
  exact h.dy
theorem cL.file {d : ah} {m : aX} (h : cL d m) {n : ByteArray} {b : List UInt8} (hn : m n = some b) : ∃ i f, R.find d.now n = ((i : Nat) : Int) ∧ d.files[i]? = some f ∧ f.now.data.toList = b ∧ f.sure = f.now ∧ f.waits = [] ∧ (⟨n, i⟩ : aR) ∈ d.now := by
 rw [← h.dy] at hn
 unfold dL at hn
 rcases ot d.now n with ⟨h1, _⟩ | ⟨e, he, hen, h1⟩
 ·rw [h1] at hn; simp at hn
 ·have hr := h.good.cQ e he
  rw [h1, if_neg (by omega)] at hn
  obtain ⟨f, hf, h2, h3⟩ := h.calm e he
  have := Option.some.inj hn
  unfold dX at this
  rw [hf] at this
  refine ⟨e.aO.toNat, f, by omega, hf, this, h2, h3, ?_⟩
  rw [Int.toNat_of_nonneg hr.1, ← hen]
  exact he
theorem cL.none {d : ah} {m : aX} (h : cL d m) {n : ByteArray} : m n = none ↔ R.find d.now n < 0 := by
 rw [← h.dy]
 unfold dL
 split
 ·rename_i h1; exact ⟨fun _ => h1, fun _ => rfl⟩
 ·rename_i h1; exact ⟨fun h2 => by (cases h2), fun h2 => absurd h2 h1⟩
end Go.Ph
end
section
set_option linter.all false
namespace Go.Ph
structure Rm (d : ah) (s : Int) (k : Nat) : Prop where
 free : s ≤ R.free d
 files : d.now.length + k ≤ 1024
theorem fm.cm {d d' : ah} (h : fm d d') : R.cm d' = R.cm d := by funext e; unfold R.cm; rw [h.files]
theorem fm.free {d d' : ah} (h : fm d d') : R.free d' = R.free d := by unfold R.free; rw [h.cap, h.now, h.cm]
theorem fm.rm {d d' : ah} {s : Int} {k : Nat} (h : fm d d') (hr : Rm d s k) : Rm d' s k := ⟨by rw [h.free]; exact hr.free, by rw [h.now]; exact hr.files⟩
theorem Rm.le {d : ah} {s s' : Int} {k k' : Nat} (h : Rm d s k) (hs : s' ≤ s) (hk : k' ≤ k) : Rm d s' k' := ⟨by have := h.free; omega, by have := h.files; omega⟩
theorem ML (d : ah) (e : aR) : 0 ≤ R.cm d e := by unfold R.cm; split <;> omega
theorem wZ (d : ah) (p : aR → Bool) : ∀ (l : List aR), ((l.filter p).map (R.cm d)).sum ≤ (l.map (R.cm d)).sum
 | [] => by simp
 | e :: l => by
  have h1 := wZ d p l
  have h2 := ML d e
  rw [List.filter_cons]
  split
  ·simp; omega
  ·simp; omega
theorem Ip (d : ah) (l : List aR) (x : aR) : ((R.put l x).map (R.cm d)).sum ≤ R.cm d x + (l.map (R.cm d)).sum := by
 rw [Hs ((tX l x).map _)]
 have := wZ d (fun e => !decide (e.Name = x.Name)) l
 simp only [List.map_cons, List.sum_cons]
 unfold R.bD
 omega
theorem Ao {d d' : ah} {i : Nat} {z : Int} (hz : 0 ≤ z) (h : ∀ e : aR, R.cm d' e = if e.aO.toNat = i then R.cm d e + z else R.cm d e) : ∀ (l : List aR), (l.map (·.aO)).Nodup → (∀ e ∈ l, 0 ≤ e.aO) → (l.map (R.cm d')).sum ≤ (l.map (R.cm d)).sum + z
 | [], _, _ => by simp; exact hz
 | e :: l, hn, hp => by
  rw [List.map_cons, List.nodup_cons] at hn
  simp only [List.map_cons, List.sum_cons]
  have h0 := hp e (by simp)
  by_cases hi : e.aO.toNat = i
  ·have : l.map (R.cm d') = l.map (R.cm d) := List.map_congr_left fun x hx => by
    rw [h, if_neg ?_]
    intro hxi
    have := hp x (by simp [hx])
    have hxe : x.aO = e.aO := by omega
    exact hn.1 (by rw [← hxe]; exact List.mem_map_of_mem hx)
   rw [this, h, if_pos hi]; omega
  ·have := Ao hz h l hn.2 fun x hx => hp x (by simp [hx])
   rw [h, if_neg hi]; omega
theorem Good.more {N N' : Nat} {l : List aR} (h : Good N l) (hN : N ≤ N') : Good N' l := ⟨h.sorted, h.files, fun e he => by have := h.cQ e he; omega⟩
theorem Good.u9 {N : Nat} {l : List aR} (h : Good N l) {x y : aR} (hx : x ∈ l) (hy : y ∈ l) (he : x.aO = y.aO) : x = y := by
 have := h.files
 induction l with
 | nil => cases hx
 | cons z l ih =>
  rw [List.map_cons, List.nodup_cons] at this
  have hg : Good N l := ⟨(List.pairwise_cons.1 h.sorted).2, this.2, fun e he => h.cQ e (by simp [he])⟩
  rcases List.mem_cons.1 hx with rfl | hx' <;> rcases List.mem_cons.1 hy with rfl | hy'
  ·rfl
  ·exact absurd (he ▸ List.mem_map_of_mem (f := (·.aO)) hy') this.1
  ·exact absurd (he ▸ List.mem_map_of_mem (f := (·.aO)) hx') this.1
  ·exact ih hg hx' hy' this.2
theorem Good.do {N : Nat} {l : List aR} (h : Good N l) (t : cT) (hN : t.aO < N) (hf : 0 ≤ t.aO → ∀ e ∈ l, e.Name ≠ t.To → e.aO ≠ t.aO) : Good N (R.cX l t) := by
 unfold R.cX
 split
 ·split
  ·exact h
  ·rename_i h1
   split
   ·exact h.bD _
   ·rcases ot l t.cV with ⟨h2, _⟩ | ⟨e, he, hen, h2⟩
    ·rw [h2] at h1; exact absurd (by decide) h1
    ·refine (h.bD _).put _ ?_ ?_
     ·simp only; rw [h2]; exact h.cQ e he
     ·intro e' he' _ hff
      simp only at hff
      rw [h2] at hff
      have h3 := jX.1 he'
      have := h.u9 h3.1 he hff
      exact h3.2 (by rw [this, hen])
 ·rename_i h0
  split
  ·exact h
  ·exact h.put _ ⟨by simp only; omega, by simp only; omega⟩ fun e he hne => hf (by omega) e he hne
theorem aaA (l : List aR) (t : cT) : (R.cX l t).length ≤ l.length + 1 := by
 have hw : ∀ (l : List aR) n, (R.bD l n).length ≤ l.length := fun l n => List.length_filter_le _ _
 have hp : ∀ (l : List aR) x, (R.put l x).length ≤ l.length + 1 := fun l x => by rw [(tX l x).length_eq, List.length_cons]; have := hw l x.Name; omega
 unfold R.cX
 split
 ·split
  ·omega
  ·split
   ·have := hw l t.cV; omega
   ·have := hw l t.cV; have := hp (R.bD l t.cV) ⟨t.To, R.find l t.cV⟩; omega
 ·split
  ·omega
  ·exact hp l _
structure pz (d : ah) (m : aX) (n : ByteArray) (old b : List UInt8) : Prop where
 good : Good d.files.length d.now
 fail : d.fail < 0
 waits : d.waits = []
 sure : d.sure = d.now
 calm : ∀ e ∈ d.now, e.Name ≠ n → ∃ f, d.files[e.aO.toNat]? = some f ∧ f.sure = f.now ∧ f.waits = []
 file : ∃ i o w, R.find d.now n = ((i : Nat) : Int) ∧ (⟨n, i⟩ : aR) ∈ d.now ∧ d.files[i]? = some ⟨w, o, [⟨o.size, ⟨b.toArray⟩⟩]⟩ ∧ o.data.toList = old ∧ w.data.toList = old ++ b
 dy : dL d.now (dX d) = bG m n (some (old ++ b))
theorem fm.half {d d' : ah} {m : aX} {n : ByteArray} {old b : List UInt8} (h : fm d d') (hs : pz d m n old b) : pz d' m n old b :=
 ⟨by rw [h.files, h.now]; exact hs.good, h.fail hs.fail, by rw [h.waits]; exact hs.waits, by rw [h.sure, h.now]; exact hs.sure, by rw [h.files, h.now]; exact hs.calm, by rw [h.files, h.now]; exact hs.file, by rw [h.now, h.dX]; exact hs.dy⟩
theorem pz.iR {d : ah} {m : aX} {n : ByteArray} {old b : List UInt8} (h : pz d m n old b) (hd : d.down = true) : dg d (fun m' => ∃ k, m' = bG m n (some (old ++ b.take k))) := by
 refine dg.mk' hd (fun j => by rw [h.waits, h.sure]; simpa using h.good) fun c j hc => ?_
 rw [h.waits, List.take_nil, List.foldl_nil, h.sure]
 obtain ⟨i, o, w, hfi, hm, hf, ho, hw⟩ := h.file
 obtain ⟨ks, hk⟩ := hc i _ hf
 obtain ⟨k, _, hk2⟩ := zB (old := o) (b := ⟨b.toArray⟩) (nw := w) ks
 refine ⟨k, ?_⟩
 funext x
 have hix := congrFun h.dy x
 by_cases hx : x = n
 ·subst hx
  rw [oo]
  unfold dL
  rw [hfi, if_neg (by omega), Int.toNat_natCast, hk, hk2, ho]
 ·rw [kR _ _ hx] at hix ⊢
  rw [← hix]
  unfold dL
  rcases ot d.now x with ⟨h1, _⟩ | ⟨e, he, hen, h1⟩
  ·rw [h1]; rfl
  ·rw [h1]
   obtain ⟨f, g1, g2, g3⟩ := h.calm e he (by rw [hen]; exact hx)
   obtain ⟨ks', hk'⟩ := hc _ f g1
   rw [hk', lF g2 g3]
   unfold dX
   rw [g1]
theorem Pn {d : ah} {m : aX} {n : ByteArray} {old b : List UInt8} {s : Int} {k : Nat} (h : cL d m) (hd : d.down = false) (hn : m n = some old) (hr : Rm d s k) (hb : b.length ≤ s) :
  ((R.append d n ⟨b.toArray⟩).2 = 11 ∧ dg (R.append d n ⟨b.toArray⟩).1 (fun m' => m' = m)) ∨ ((R.append d n ⟨b.toArray⟩).2 = 0 ∧ (R.append d n ⟨b.toArray⟩).1.down = false ∧ pz (R.append d n ⟨b.toArray⟩).1 m n old b ∧ Rm (R.append d n ⟨b.toArray⟩).1 (s - b.length) k) := by
 obtain ⟨sd, hc⟩ := jQ hd h.fail
 have h1 := sd.steady h
 unfold R.append
 rcases hc with ⟨hc, hdn⟩ | ⟨hc, hup⟩
 ·rw [if_pos (by rw [hc]; decide)]
  exact .inl ⟨hc, h1.iR hdn⟩
 ·rw [if_neg (by rw [hc]; decide)]
  obtain ⟨i, f, hfi, hf, hfd, hs, hw, hm⟩ := h1.file hn
  have r1 := sd.rm hr
  generalize (R.begin d).1 = d1 at *
  rw [hfi, if_neg (by omega), Int.toNat_natCast, hf]
  simp only
  have hbs : (⟨b.toArray⟩ : ByteArray).size = b.length := by simp [ByteArray.size]
  rw [if_neg (by have := r1.free; omega)]
  refine .inr ⟨rfl, hup, ⟨?_, h1.fail, h1.waits, h1.sure, ?_, ⟨i, f.sure, f.now ++ ⟨b.toArray⟩, hfi, hm, ?_, ?_, ?_⟩, ?_⟩, ⟨?_, r1.files⟩⟩
  ·show Good (d1.files.set i _).length d1.now
   rw [List.length_set]; exact h1.good
  ·intro e he hne
   obtain ⟨g, g1, g2, g3⟩ := h1.calm e he
   refine ⟨g, ?_, g2, g3⟩
   show (d1.files.set i _)[e.aO.toNat]? = some g
   rw [List.getElem?_set_ne ?_]
   ·exact g1
   ·intro hi
    have hr := h1.good.cQ e he
    have := h1.good.u9 he hm (by simp only; omega)
    exact hne (by rw [this])
  ·show (d1.files.set i _)[i]? = _
   rw [List.getElem?_set_self (List.getElem?_eq_some_iff.1 hf).1, hw, hs]
   rfl
  ·rw [hs, hfd]
  ·simp [hfd]
  ·funext x
   have hix := congrFun h1.dy x
   show dL d1.now (dX (R.ew d1 i _)) x = _
   have hcd : ∀ j, dX (R.ew d1 i ⟨f.now ++ ⟨b.toArray⟩, f.sure, f.waits ++ [⟨f.now.size, ⟨b.toArray⟩⟩]⟩) j = if j = i then old ++ b else dX d1 j := fun j => by
    unfold dX R.ew
    simp only
    by_cases hj : j = i
    ·subst hj
     rw [if_pos rfl, List.getElem?_set_self (List.getElem?_eq_some_iff.1 hf).1]
     simp [hfd]
    ·rw [if_neg hj, List.getElem?_set_ne (fun h => hj h.symm)]
   by_cases hx : x = n
   ·subst hx
    rw [oo]
    unfold dL
    rw [hfi, if_neg (by omega), Int.toNat_natCast, hcd, if_pos rfl]
   ·rw [kR _ _ hx, ← hix]
    unfold dL
    rcases ot d1.now x with ⟨g1, _⟩ | ⟨e, he, hen, g1⟩
    ·rw [g1]; rfl
    ·have hr := h1.good.cQ e he
     rw [g1, if_neg (by omega), if_neg (by omega), hcd, if_neg ?_]
     intro hi
     have := h1.good.u9 he hm (by simp only; omega)
     exact hx (by rw [← hen, this])
  ·show s - b.length ≤ d1.cap - (d1.now.map (R.cm (R.ew d1 i _))).sum
   have := Ao (d := d1) (d' := R.ew d1 i ⟨f.now ++ ⟨b.toArray⟩, f.sure, f.waits ++ [⟨f.now.size, ⟨b.toArray⟩⟩]⟩) (i := i) (z := b.length) (by omega) (fun e => by
    unfold R.cm R.ew
    simp only
    by_cases hi : e.aO.toNat = i
    ·rw [hi, if_pos rfl, List.getElem?_set_self (List.getElem?_eq_some_iff.1 hf).1, hf]
     simp only [ByteArray.size_append, hbs]
     omega
    ·rw [if_neg hi, List.getElem?_set_ne (fun h => hi h.symm)]) d1.now h1.good.files (fun e he => (h1.good.cQ e he).1)
   have hfr := r1.free
   unfold R.free at hfr
   omega
theorem XG {d : ah} {m : aX} {n : ByteArray} {old b : List UInt8} {s : Int} {k : Nat} (h : pz d m n old b) (hd : d.down = false) (hr : Rm d s k) :
  ((R.sync d n).2 = 11 ∧ dg (R.sync d n).1 (fun m' => ∃ k, m' = bG m n (some (old ++ b.take k)))) ∨ ((R.sync d n).2 = 0 ∧ (R.sync d n).1.down = false ∧ cL (R.sync d n).1 (bG m n (some (old ++ b))) ∧ Rm (R.sync d n).1 s k) := by
 obtain ⟨sd, hc⟩ := jQ hd h.fail
 have h1 := sd.half h
 unfold R.sync
 rcases hc with ⟨hc, hdn⟩ | ⟨hc, hup⟩
 ·rw [if_pos (by rw [hc]; decide)]
  exact .inl ⟨hc, h1.iR hdn⟩
 ·rw [if_neg (by rw [hc]; decide)]
  have r1 := sd.rm hr
  generalize (R.begin d).1 = d1 at *
  obtain ⟨i, o, w, hfi, hm, hf, ho, hw⟩ := h1.file
  rw [hfi, if_neg (by omega), Int.toNat_natCast, hf]
  simp only
  have hgz : ∀ e, R.cm (R.ew d1 i ⟨w, w, []⟩) e = R.cm d1 e := fun e => by
   unfold R.cm R.ew
   simp only
   by_cases hi : e.aO.toNat = i
   ·rw [hi, List.getElem?_set_self (List.getElem?_eq_some_iff.1 hf).1, hf]
   ·rw [List.getElem?_set_ne (fun h => hi h.symm)]
  refine .inr ⟨trivial, hup, ⟨?_, h1.fail, h1.waits, h1.sure, ?_, ?_⟩, ?_, r1.files⟩
  ·show Good (d1.files.set i _).length d1.now
   rw [List.length_set]; exact h1.good
  ·intro e he
   show ∃ g, (d1.files.set i _)[e.aO.toNat]? = some g ∧ _
   by_cases hi : e.aO.toNat = i
   ·exact ⟨⟨w, w, []⟩, by rw [hi, List.getElem?_set_self (List.getElem?_eq_some_iff.1 hf).1], rfl, rfl⟩
   ·rw [List.getElem?_set_ne (fun h => hi h.symm)]
    refine h1.calm e he fun hen => hi ?_
    have := h1.good.inj he hm hen
    rw [this]; simp
  ·rw [← h1.dy]
   refine nu fun e _ => ?_
   unfold dX R.ew
   simp only
   by_cases hi : e.aO.toNat = i
   ·rw [hi, List.getElem?_set_self (List.getElem?_eq_some_iff.1 hf).1, hf]
   ·rw [List.getElem?_set_ne (fun h => hi h.symm)]
  ·show s ≤ d1.cap - (d1.now.map (R.cm (R.ew d1 i _))).sum
   have : d1.now.map (R.cm (R.ew d1 i ⟨w, w, []⟩)) = d1.now.map (R.cm d1) := List.map_congr_left fun e _ => hgz e
   rw [this]
   exact r1.free
theorem oF {op : ah → ah × Int} {d : ah} (h : (op d).2 = 0 ∨ (op d).2 = 11) : R.again op d = op d := by
 unfold R.again R.bad
 rcases h with h | h <;> rw [h] <;> rfl
theorem afx {d : ah} {m : aX} {n : ByteArray} {old b : List UInt8} {s : Int} {k : Nat} (h : cL d m) (hd : d.down = false) (hn : m n = some old) (hr : Rm d s k) (hb : b.length ≤ s) :
  ((R.cZ n ⟨b.toArray⟩ d).2 = 11 ∧ dg (R.cZ n ⟨b.toArray⟩ d).1 (fun m' => ∃ k, m' = bG m n (some (old ++ b.take k)))) ∨ ((R.cZ n ⟨b.toArray⟩ d).2 = 0 ∧ (R.cZ n ⟨b.toArray⟩ d).1.down = false ∧ cL (R.cZ n ⟨b.toArray⟩ d).1 (bG m n (some (old ++ b))) ∧ Rm (R.cZ n ⟨b.toArray⟩ d).1 (s - b.length) k) := by
 unfold R.cZ R.steps
 rcases Pn h hd hn hr hb with ⟨h1, h2⟩ | ⟨h1, h2, h3, h4⟩
 ·rw [if_pos (by rw [h1]; decide)]
  exact .inl ⟨h1, h2.imp fun m' e => ⟨0, by rw [e, List.take_zero, List.append_nil, Ln hn]⟩⟩
 ·rw [if_neg (by rw [h1]; decide)]
  have h5 := XG h3 h2 h4
  unfold R.steps
  rw [oF (op := fun d => R.sync d n) (by rcases h5 with ⟨h, _⟩ | ⟨h, _⟩; exact .inr h; exact .inl h)]
  rcases h5 with ⟨g1, g2⟩ | ⟨g1, g2, g3, g4⟩
  ·rw [if_pos (by rw [g1]; decide)]
   exact .inl ⟨g1, g2⟩
  ·rw [if_neg (by rw [g1]; decide)]
   exact .inr ⟨rfl, g2, g3, g4⟩
end Go.Ph
end
section
set_option linter.all false
namespace Go.Ph
structure fJ (d : ah) (m : aX) (base : List aR) (i : Nat) (f : dV) (W : List cT) : Prop where
 fail : d.fail < 0
 waits : d.waits = W
 sure : d.sure = base
 now : d.now = W.foldl R.cX base
 good : oa d
 file : d.files[i]? = some f
 sep : ∀ e ∈ base, e.aO.toNat ≠ i
 calm : ∀ e ∈ base, ∃ g, d.files[e.aO.toNat]? = some g ∧ g.sure = g.now ∧ g.waits = []
 tf : ∀ t ∈ W, t.aO < 0 ∨ t.aO = i
 dy : dL base (dX d) = m
def fin (W : List cT) (m : aX) (b : List UInt8) : aX := W.foldl (gH fun _ => b) m
theorem Cz {c : Nat → List UInt8} {i : Nat} : ∀ (W : List cT) (m : aX), (∀ t ∈ W, t.aO < 0 ∨ t.aO = i) → W.foldl (gH c) m = fin W m (c i)
 | [], m, h => rfl
 | t :: W, m, h => by
  have : gH c m t = gH (fun _ => c i) m t := by
   unfold gH
   rcases h t (by simp) with h1 | h1
   ·rw [if_pos h1, if_pos h1]
   ·have h2 : ¬ t.aO < 0 := by omega
    rw [if_neg h2, if_neg h2]
    simp only [h1, Int.toNat_natCast]
  unfold fin
  rw [List.foldl_cons, List.foldl_cons, this]
  exact Cz W _ fun t ht => h t (by simp [ht])
theorem fm.wM {d d' : ah} {m : aX} {base : List aR} {i : Nat} {f : dV} {W : List cT} (h : fm d d') (p : fJ d m base i f W) : fJ d' m base i f W :=
 ⟨h.fail p.fail, by rw [h.waits]; exact p.waits, by rw [h.sure]; exact p.sure, by rw [h.now]; exact p.now, h.sg p.good, by rw [h.files]; exact p.file, p.sep, by rw [h.files]; exact p.calm, p.tf, by rw [h.dX]; exact p.dy⟩
theorem fJ.iR {d : ah} {m : aX} {base : List aR} {i : Nat} {f : dV} {W : List cT} (p : fJ d m base i f W) (hd : d.down = true) : dg d (fun m' => ∃ j ks, m' = fin (W.take j) m (R.cu f ks).1.data.toList) := by
 refine dg.mk' hd p.good fun c j hc => ?_
 obtain ⟨ks, hk⟩ := hc i f p.file
 refine ⟨j, ks, ?_⟩
 rw [p.waits, p.sure, Cz (i := i) _ _ (fun t ht => p.tf t (List.mem_of_mem_take ht)), hk, ← p.dy]
 congr 1
 refine nu fun e he => ?_
 obtain ⟨g, g1, g2, g3⟩ := p.calm e he
 obtain ⟨ks', hk'⟩ := hc _ g g1
 rw [hk', lF g2 g3]
 unfold dX
 rw [g1]
theorem KD {l : List aR} {t : cT} {e : aR} (h : e ∈ R.cX l t) : (∃ e0 ∈ l, e0.aO = e.aO) ∨ (e.aO = t.aO ∧ 0 ≤ t.aO) := by
 unfold R.cX at h
 split at h
 ·split at h
  ·exact .inl ⟨e, h, rfl⟩
  ·rename_i h1
   split at h
   ·exact .inl ⟨e, (jX.1 h).1, rfl⟩
   ·rcases vc.1 h with rfl | ⟨h2, _⟩
    ·rcases ot l t.cV with ⟨h3, _⟩ | ⟨e0, he0, _, h3⟩
     ·rw [h3] at h1; exact absurd (by decide) h1
     ·exact .inl ⟨e0, he0, h3.symm⟩
    ·exact .inl ⟨e, (jX.1 h2).1, rfl⟩
 ·rename_i h0
  split at h
  ·exact .inl ⟨e, h, rfl⟩
  ·rcases vc.1 h with rfl | ⟨h2, _⟩
   ·exact .inr ⟨rfl, by omega⟩
   ·exact .inl ⟨e, h2, rfl⟩
theorem Lt {i : Nat} : ∀ (W : List cT) (l : List aR) {e : aR}, (∀ t ∈ W, t.aO < 0 ∨ t.aO = i) → e ∈ W.foldl R.cX l → (∃ e0 ∈ l, e0.aO = e.aO) ∨ e.aO = i
 | [], l, e, _, h => .inl ⟨e, h, rfl⟩
 | t :: W, l, e, hW, h => by
  rcases Lt W _ (fun t ht => hW t (by simp [ht])) h with ⟨e0, h0, h1⟩ | h1
  ·rcases KD h0 with ⟨e1, h2, h3⟩ | ⟨h2, h3⟩
   ·exact .inl ⟨e1, h2, h3.trans h1⟩
   ·rcases hW t (by simp) with h4 | h4
    ·omega
    ·exact .inr (by omega)
  ·exact .inr h1
theorem fJ.oY {d : ah} {m : aX} {base : List aR} {i : Nat} {f : dV} {W : List cT} (p : fJ d m base i f W) : Good d.files.length d.now := by
 have := p.good W.length
 rw [p.waits, List.take_length, p.sure, ← p.now] at this
 exact this
theorem fJ.steady {d : ah} {m : aX} {base : List aR} {i : Nat} {f : dV} {W : List cT} (p : fJ d m base i f W) (h1 : f.sure = f.now) (h2 : f.waits = []) : cL { d with sure := d.now, waits := [] } (fin W m f.now.data.toList) := by
 refine ⟨p.oY, p.fail, rfl, rfl, fun e he => ?_, ?_⟩
 ·simp only at he ⊢
  rw [p.now] at he
  rcases Lt (i := i) W base p.tf he with ⟨e0, h0, h3⟩ | h3
  ·rw [← h3]; exact p.calm e0 h0
  ·rw [h3, Int.toNat_natCast]; exact ⟨f, p.file, h1, h2⟩
 ·simp only
  show dL d.now (dX d) = _
  rw [p.now, yw, p.dy, Cz (i := i) _ _ p.tf]
  congr 1
  unfold dX
  rw [p.file]
theorem L2 {d : ah} {m : aX} {n : ByteArray} {s : Int} {k : Nat} (h : cL d m) (hd : d.down = false) (hn : m n = none) (hok : eF n = true) (hr : Rm d s (k + 1)) :
  ((R.create d n).2 = 11 ∧ dg (R.create d n).1 (fun m' => m' = m)) ∨ ((R.create d n).2 = 0 ∧ (R.create d n).1.down = false ∧ fJ (R.create d n).1 m d.now d.files.length ⟨⟨#[]⟩, ⟨#[]⟩, []⟩ [⟨⟨#[]⟩, n, d.files.length⟩] ∧ Rm (R.create d n).1 s k ∧ R.find (R.create d n).1.now n = ((d.files.length : Nat) : Int)) := by
 obtain ⟨sd, hc⟩ := jQ hd h.fail
 have h1 := sd.steady h
 unfold R.create
 rcases hc with ⟨hc, hdn⟩ | ⟨hc, hup⟩
 ·rw [if_pos (by rw [hc]; decide)]
  exact .inl ⟨hc, h1.iR hdn⟩
 ·rw [if_neg (by rw [hc]; decide), if_neg (by rw [hok]; decide)]
  have r1 := sd.rm hr
  have e1 := sd.files
  have e2 := sd.now
  generalize (R.begin d).1 = d1 at *
  have hfn := h1.none.1 hn
  rw [if_neg (by omega), if_neg (by have := r1.files; omega)]
  have hne := nq hok
  have hdo : ∀ l, R.cX l ⟨⟨#[]⟩, n, d1.files.length⟩ = R.put l ⟨n, d1.files.length⟩ := fun l => by unfold R.cX; simp only; rw [if_neg (by omega), if_neg hne]
  have hnf : ∀ e ∈ d1.now, e.aO ≠ (d1.files.length : Nat) := fun e he => by have := h1.good.cQ e he; omega
  obtain ⟨d2, hd2⟩ : ∃ d2, d2 = R.cM { d1 with files := d1.files ++ [⟨⟨#[]⟩, ⟨#[]⟩, []⟩] } ⟨⟨#[]⟩, n, d1.files.length⟩ := ⟨_, rfl⟩
  have f1 : d2.files = d1.files ++ [⟨⟨#[]⟩, ⟨#[]⟩, []⟩] := by rw [hd2]; rfl
  have f2 : d2.now = R.put d1.now ⟨n, d1.files.length⟩ := by rw [hd2, ← hdo]; rfl
  have f3 : d2.sure = d1.sure := by rw [hd2]; rfl
  have f4 : d2.waits = d1.waits ++ [⟨⟨#[]⟩, n, d1.files.length⟩] := by rw [hd2]; rfl
  have f5 : d2.cap = d1.cap := by rw [hd2]; rfl
  have f6 : d2.fail = d1.fail := by rw [hd2]; rfl
  have f7 : d2.down = d1.down := by rw [hd2]; rfl
  rw [← hd2]
  clear hd2
  have hfsz : ∀ e ∈ d1.now, R.cm d2 e = R.cm d1 e := fun e he => by
   have := h1.good.cQ e he
   unfold R.cm
   rw [f1, List.getElem?_append_left (by omega)]
  refine .inr ⟨rfl, f7.trans hup, ⟨by rw [f6]; exact h1.fail, by rw [f4, h1.waits, e1]; rfl, by rw [f3, h1.sure, e2], ?_, ?_, by rw [f1, ← e1]; simp, ?_, ?_, ?_, ?_⟩, ⟨?_, ?_⟩, by simp only; rw [f2, A7, if_pos rfl, e1]⟩
  ·show d2.now = R.cX d.now ⟨⟨#[]⟩, n, d.files.length⟩
   rw [f2, ← hdo, e1, e2]
  ·intro j
   rw [f1, f4, f3, h1.waits, h1.sure, List.nil_append, List.length_append, List.length_singleton]
   cases j with
   | zero => exact h1.good.more (by omega)
   | succ j =>
    rw [List.take_succ_cons, List.take_nil, List.foldl_cons, List.foldl_nil]
    exact (h1.good.more (by omega)).do _ (by simp only; omega) fun _ e he _ => hnf e he
  ·intro e he
   have := h.good.cQ e he
   omega
  ·intro e he
   obtain ⟨g, g1, g2, g3⟩ := h.calm e he
   refine ⟨g, ?_, g2, g3⟩
   rw [f1, e1, List.getElem?_append_left (List.getElem?_eq_some_iff.1 g1).1]
   exact g1
  ·intro t ht
   simp at ht; subst ht
   exact .inr rfl
  ·rw [← h.dy]
   refine nu fun e he => ?_
   have := h.good.cQ e he
   unfold dX
   rw [f1, e1, List.getElem?_append_left (by omega)]
  ·have hfr := r1.free
   unfold R.free at hfr ⊢
   simp only
   rw [f5, f2]
   have := Ip d2 d1.now ⟨n, d1.files.length⟩
   have hz : R.cm d2 ⟨n, d1.files.length⟩ = 0 := by
    unfold R.cm
    rw [f1]
    simp [ByteArray.size]
   rw [hz, List.map_congr_left (l := d1.now) hfsz] at this
   omega
  ·have := r1.files
   simp only
   rw [f2, ← hdo]
   have := aaA d1.now ⟨⟨#[]⟩, n, d1.files.length⟩
   omega
theorem Hh {d : ah} {m : aX} {base : List aR} {i : Nat} {f g : dV} {W : List cT} (p : fJ d m base i f W) : fJ (R.ew d i g) m base i g W := by
 have hl : (d.files.set i g).length = d.files.length := List.length_set
 refine ⟨p.fail, p.waits, p.sure, p.now, fun j => ?_, ?_, p.sep, fun e he => ?_, p.tf, ?_⟩
 ·show Good (d.files.set i g).length _
  rw [hl]; exact p.good j
 ·show (d.files.set i g)[i]? = _
  rw [List.getElem?_set_self (List.getElem?_eq_some_iff.1 p.file).1]
 ·show ∃ x, (d.files.set i g)[e.aO.toNat]? = some x ∧ _
  rw [List.getElem?_set_ne (fun h => p.sep e he h.symm)]
  exact p.calm e he
 ·rw [← p.dy]
  refine nu fun e he => ?_
  unfold dX R.ew
  simp only
  rw [List.getElem?_set_ne (fun h => p.sep e he h.symm)]
theorem abx {d : ah} {m : aX} {base : List aR} {i : Nat} {f : dV} {W : List cT} {n : ByteArray} {b : ByteArray} {s : Int} {k : Nat} (p : fJ d m base i f W) (hd : d.down = false) (hn : R.find d.now n = ((i : Nat) : Int)) (hr : Rm d s k) (hb : b.size ≤ s) :
  ((R.append d n b).2 = 11 ∧ dg (R.append d n b).1 (fun m' => ∃ j ks, m' = fin (W.take j) m (R.cu f ks).1.data.toList)) ∨ ((R.append d n b).2 = 0 ∧ (R.append d n b).1.down = false ∧ fJ (R.append d n b).1 m base i ⟨f.now ++ b, f.sure, f.waits ++ [⟨f.now.size, b⟩]⟩ W ∧ Rm (R.append d n b).1 (s - b.size) k ∧ (R.append d n b).1.now = d.now) := by
 obtain ⟨sd, hc⟩ := jQ hd p.fail
 have p1 := sd.wM p
 unfold R.append
 rcases hc with ⟨hc, hdn⟩ | ⟨hc, hup⟩
 ·rw [if_pos (by rw [hc]; decide)]
  exact .inl ⟨hc, p1.iR hdn⟩
 ·rw [if_neg (by rw [hc]; decide)]
  have r1 := sd.rm hr
  have e2 := sd.now
  generalize (R.begin d).1 = d1 at *
  rw [e2, hn, if_neg (by omega), Int.toNat_natCast, p1.file]
  simp only
  rw [if_neg (by have := r1.free; omega)]
  refine .inr ⟨rfl, hup, Hh p1, ⟨?_, r1.files⟩, e2⟩
  show s - b.size ≤ d1.cap - (d1.now.map (R.cm (R.ew d1 i _))).sum
  have hgn := p1.oY
  have := Ao (d := d1) (d' := R.ew d1 i ⟨f.now ++ b, f.sure, f.waits ++ [⟨f.now.size, b⟩]⟩) (i := i) (z := b.size) (by omega) (fun e => by
   unfold R.cm R.ew
   simp only
   by_cases hi : e.aO.toNat = i
   ·rw [hi, if_pos rfl, List.getElem?_set_self (List.getElem?_eq_some_iff.1 p1.file).1, p1.file]
    simp only [ByteArray.size_append]
    omega
   ·rw [if_neg hi, List.getElem?_set_ne (fun h => hi h.symm)]) d1.now hgn.files (fun e he => (hgn.cQ e he).1)
  have hfr := r1.free
  unfold R.free at hfr
  omega
theorem abh {d : ah} {m : aX} {base : List aR} {i : Nat} {f : dV} {W : List cT} {n : ByteArray} {s : Int} {k : Nat} (p : fJ d m base i f W) (hd : d.down = false) (hn : R.find d.now n = ((i : Nat) : Int)) (hr : Rm d s k) :
  ((R.sync d n).2 = 11 ∧ dg (R.sync d n).1 (fun m' => ∃ j ks, m' = fin (W.take j) m (R.cu f ks).1.data.toList)) ∨ ((R.sync d n).2 = 0 ∧ (R.sync d n).1.down = false ∧ fJ (R.sync d n).1 m base i ⟨f.now, f.now, []⟩ W ∧ Rm (R.sync d n).1 s k ∧ (R.sync d n).1.now = d.now) := by
 obtain ⟨sd, hc⟩ := jQ hd p.fail
 have p1 := sd.wM p
 unfold R.sync
 rcases hc with ⟨hc, hdn⟩ | ⟨hc, hup⟩
 ·rw [if_pos (by rw [hc]; decide)]
  exact .inl ⟨hc, p1.iR hdn⟩
 ·rw [if_neg (by rw [hc]; decide)]
  have r1 := sd.rm hr
  have e2 := sd.now
  generalize (R.begin d).1 = d1 at *
  rw [e2, hn, if_neg (by omega), Int.toNat_natCast, p1.file]
  simp only
  refine .inr ⟨trivial, hup, Hh p1, ⟨?_, r1.files⟩, e2⟩
  show s ≤ d1.cap - (d1.now.map (R.cm (R.ew d1 i _))).sum
  have : d1.now.map (R.cm (R.ew d1 i ⟨f.now, f.now, []⟩)) = d1.now.map (R.cm d1) := List.map_congr_left fun e _ => by
   unfold R.cm R.ew
   simp only
   by_cases hi : e.aO.toNat = i
   ·rw [hi, List.getElem?_set_self (List.getElem?_eq_some_iff.1 p1.file).1, p1.file]
   ·rw [List.getElem?_set_ne (fun h => hi h.symm)]
  rw [this]
  exact r1.free
theorem Li {d : ah} {m : aX} {base : List aR} {i : Nat} {f : dV} {W : List cT} {s : Int} {k : Nat} (p : fJ d m base i f W) (h1 : f.sure = f.now) (h2 : f.waits = []) (hd : d.down = false) (hr : Rm d s k) :
  ((R.cy d).2 = 11 ∧ dg (R.cy d).1 (fun m' => ∃ j ks, m' = fin (W.take j) m (R.cu f ks).1.data.toList)) ∨ ((R.cy d).2 = 0 ∧ (R.cy d).1.down = false ∧ cL (R.cy d).1 (fin W m f.now.data.toList) ∧ Rm (R.cy d).1 s k) := by
 obtain ⟨sd, hc⟩ := jQ hd p.fail
 have p1 := sd.wM p
 unfold R.cy
 simp only
 rcases hc with ⟨hc, hdn⟩ | ⟨hc, hup⟩
 ·rw [if_pos (by rw [hc]; decide)]
  exact .inl ⟨hc, p1.iR hdn⟩
 ·rw [if_neg (by rw [hc]; decide)]
  have r1 := sd.rm hr
  exact .inr ⟨rfl, hup, p1.steady h1 h2, ⟨r1.free, r1.files⟩⟩
theorem Lz {d : ah} {m : aX} {base : List aR} {i : Nat} {W : List cT} {n : ByteArray} {b : List UInt8} {s : Int} {k : Nat} (p : fJ d m base i ⟨⟨#[]⟩, ⟨#[]⟩, []⟩ W) (hd : d.down = false) (hn : R.find d.now n = ((i : Nat) : Int)) (hr : Rm d s k) (hb : b.length ≤ s) :
  ((R.cZ n ⟨b.toArray⟩ d).2 = 11 ∧ dg (R.cZ n ⟨b.toArray⟩ d).1 (fun m' => ∃ j k, m' = fin (W.take j) m (b.take k))) ∨ ((R.cZ n ⟨b.toArray⟩ d).2 = 0 ∧ (R.cZ n ⟨b.toArray⟩ d).1.down = false ∧ fJ (R.cZ n ⟨b.toArray⟩ d).1 m base i ⟨⟨b.toArray⟩, ⟨b.toArray⟩, []⟩ W ∧ Rm (R.cZ n ⟨b.toArray⟩ d).1 (s - b.length) k ∧ (R.cZ n ⟨b.toArray⟩ d).1.now = d.now) := by
 have hbs : (⟨b.toArray⟩ : ByteArray).size = b.length := by simp [ByteArray.size]
 have he : (⟨#[]⟩ : ByteArray) ++ ⟨b.toArray⟩ = ⟨b.toArray⟩ := by
  apply ByteArray.ext; simp
 unfold R.cZ R.steps
 rcases abx p hd hn hr (by rw [hbs]; exact hb) with ⟨h1, h2⟩ | ⟨h1, h2, h3, h4, h5⟩
 ·rw [if_pos (by rw [h1]; decide)]
  refine .inl ⟨h1, h2.imp fun m' ⟨j, ks, e⟩ => ⟨j, 0, ?_⟩⟩
  rw [e, lF rfl rfl]; rfl
 ·rw [if_neg (by rw [h1]; decide)]
  rw [he, hbs] at *
  simp only [List.nil_append] at h3
  have h6 := abh h3 h2 (by rw [h5]; exact hn) h4
  unfold R.steps
  rw [oF (op := fun d => R.sync d n) (by rcases h6 with ⟨h, _⟩ | ⟨h, _⟩; exact .inr h; exact .inl h)]
  rcases h6 with ⟨g1, g2⟩ | ⟨g1, g2, g3, g4, g5⟩
  ·rw [if_pos (by rw [g1]; decide)]
   refine .inl ⟨g1, g2.imp fun m' ⟨j, ks, e⟩ => ?_⟩
   obtain ⟨k, _, hk⟩ := zB (old := ⟨#[]⟩) (b := ⟨b.toArray⟩) (nw := ⟨b.toArray⟩) ks
   refine ⟨j, k, ?_⟩
   have hz : ((⟨#[]⟩ : ByteArray).size : Int) = 0 := rfl
   rw [hz] at hk
   simp only [List.nil_append] at hk
   rw [e]
   show fin (W.take j) m (R.cu ⟨⟨b.toArray⟩, ⟨#[]⟩, [⟨0, ⟨b.toArray⟩⟩]⟩ ks).1.data.toList = _
   rw [hk]
  ·rw [if_neg (by rw [g1]; decide)]
   exact .inr ⟨rfl, g2, g3, g4, g5.trans h5⟩
theorem uM (n : ByteArray) (i : Nat) (m : aX) (b : List UInt8) (hn : n ≠ ⟨#[]⟩) (j : Nat) : fin (([⟨⟨#[]⟩, n, i⟩] : List cT).take j) m b = if j = 0 then m else bG m n (some b) := by
 cases j with
 | zero => rfl
 | succ j =>
  unfold fin
  rw [List.take_succ_cons, List.take_nil, List.foldl_cons, List.foldl_nil, if_neg (by omega)]
  unfold gH
  rw [if_neg (by simp), if_neg hn]
theorem Vw {d : ah} {m : aX} {n : ByteArray} {b : List UInt8} {s : Int} {k : Nat} (h : cL d m) (hd : d.down = false) (hn : m n = none) (hok : eF n = true) (hr : Rm d s (k + 1)) (hb : b.length ≤ s) :
  ((R.make d n ⟨b.toArray⟩).2 = 11 ∧ dg (R.make d n ⟨b.toArray⟩).1 (fun m' => m' = m ∨ ∃ k, m' = bG m n (some (b.take k)))) ∨ ((R.make d n ⟨b.toArray⟩).2 = 0 ∧ (R.make d n ⟨b.toArray⟩).1.down = false ∧ cL (R.make d n ⟨b.toArray⟩).1 (bG m n (some b)) ∧ Rm (R.make d n ⟨b.toArray⟩).1 (s - b.length) k) := by
 have hne := nq hok
 unfold R.make
 have hh : R.has d n = false := by unfold R.has; have := h.none.1 hn; simp; omega
 rw [if_neg (by rw [hh]; decide)]
 rcases L2 h hd hn hok hr with ⟨h1, h2⟩ | ⟨h1, h2, h3, h4, h5⟩
 ·rw [if_pos (by rw [h1]; decide)]
  exact .inl ⟨h1, h2.imp fun _ e => .inl e⟩
 rw [if_neg (by rw [h1]; decide)]
 have o1 : ∀ {m' : aX} {j k : Nat}, m' = fin (([⟨⟨#[]⟩, n, d.files.length⟩] : List cT).take j) m (b.take k) → m' = m ∨ ∃ k, m' = bG m n (some (b.take k)) := fun {m' j k} e => by
  rw [uM _ _ _ _ hne] at e
  split at e
  ·exact .inl e
  ·exact .inr ⟨k, e⟩
 obtain ⟨st, hst⟩ : ∃ st, st = R.steps [R.cZ n ⟨b.toArray⟩, R.again R.cy] (R.create d n).1 := ⟨_, rfl⟩
 have key : (st.2 = 11 ∧ dg st.1 (fun m' => m' = m ∨ ∃ k, m' = bG m n (some (b.take k)))) ∨ (st.2 = 0 ∧ st.1.down = false ∧ cL st.1 (bG m n (some b)) ∧ Rm st.1 (s - b.length) k) := by
  rw [hst]
  unfold R.steps
  rcases Lz h3 h2 h5 h4 hb with ⟨g1, g2⟩ | ⟨g1, g2, g3, g4, g5⟩
  ·rw [if_pos (by rw [g1]; decide)]
   exact .inl ⟨g1, g2.imp fun m' ⟨j, k, e⟩ => o1 e⟩
  ·rw [if_neg (by rw [g1]; decide)]
   unfold R.steps
   have hs := Li g3 rfl rfl g2 g4
   rw [oF (op := R.cy) (by rcases hs with ⟨h, _⟩ | ⟨h, _⟩; exact .inr h; exact .inl h)]
   rcases hs with ⟨k1, k2⟩ | ⟨k1, k2, k3, k4⟩
   ·rw [if_pos (by rw [k1]; decide)]
    refine .inl ⟨k1, k2.imp fun m' ⟨j, ks, e⟩ => ?_⟩
    rw [lF rfl rfl] at e
    exact o1 (j := j) (k := b.length) (by rw [e, List.take_length])
   ·rw [if_neg (by rw [k1]; decide)]
    refine .inr ⟨rfl, k2, ?_, k4⟩
    have := uM n d.files.length m b hne 1
    rw [if_neg (by decide)] at this
    rw [← this]
    exact k3
 rw [← hst, if_neg ?_]
 ·exact key
 ·rcases key with ⟨k1, _⟩ | ⟨k1, _⟩ <;> rw [k1] <;> decide
end Go.Ph
end
section
set_option linter.all false
namespace Go.Ph
def gy (b : List UInt8) : List RecM := (gB b).map (·.x)
def cY : Int → List (List UInt8) → List bM
 | _, [] => []
 | q, b :: bs => P.fA q b :: cY (q + 1) bs
def iT (u : Nat) (bs : List (List UInt8)) : aX := fun n => if 1 ≤ cz u n ∧ n = aT u (cz u n) then bs[(cz u n).toNat - 1]? else none
def fW (u : Nat) (bs : List (List UInt8)) (m : aX) : Prop := ∀ n, R.pre n (ba (front u)) = true → m n = iT u bs n
def fN (l : List bM) : List RecM := l.flatMap fun c => c.l.map (·.x)
theorem sU : ∀ (a b : List (List UInt8)) (q : Int), cY q (a ++ b) = cY q a ++ cY (q + a.length) b
 | [], b, q => by simp [cY]
 | x :: a, b, q => by
  rw [List.cons_append, cY, cY, sU a b (q + 1), List.cons_append, List.length_cons]
  congr 3
  omega
theorem qX : ∀ (a : List (List UInt8)) (q : Int), (cY q a).length = a.length
 | [], q => rfl
 | x :: a, q => by rw [cY, List.length_cons, List.length_cons, qX]
theorem Ai : ∀ (a : List (List UInt8)) (q : Int), ∀ c ∈ cY q a, q ≤ c.seq
 | [], q, c, h => by cases h
 | x :: a, q, c, h => by
  rw [cY] at h
  rcases List.mem_cons.1 h with rfl | h
  ·exact Int.le_refl _
  ·have := Ai a (q + 1) c h; omega
theorem qd : ∀ (bs : List (List UInt8)) (q : Int), fN (cY q bs) = bs.flatMap gy
 | [], q => rfl
 | b :: bs, q => by
  have := qd bs (q + 1)
  unfold fN at this ⊢
  rw [cY, List.flatMap_cons, List.flatMap_cons, this]; rfl
theorem yV : ∀ (l : List bM) (n : Int), l.foldl P.m7 n = (fN l).foldl after n
 | [], n => rfl
 | c :: l, n => by
  unfold fN
  rw [List.foldl_cons, List.flatMap_cons, List.foldl_append, yV l]
  congr 1
  unfold P.m7
  rw [List.foldl_map]
theorem JW (q : Int) : ∀ (l : List ey), (P.jg q l).map (·.x) = (l.map (·.x)).filter bS
 | [] => rfl
 | f :: l => by
  have := JW q l
  unfold P.jg at this ⊢
  rw [List.filter_cons, List.map_cons, List.filter_cons]
  split
  ·rw [List.map_cons, List.map_cons, this]
  ·exact this
theorem Cb : ∀ (l : List bM), (P.places l).map (·.x) = (fN l).filter bS
 | [] => rfl
 | c :: l => by
  have := Cb l
  unfold P.places fN at this ⊢
  rw [List.flatMap_cons, List.flatMap_cons, List.map_append, List.filter_append, this, JW]
def xZ (l : List RecM) : Prop := ∀ x ∈ l, x.kind = 1 → lB x = 0
theorem BJ : ∀ (l : List bM), xZ (fN l) → P.base l = 0 := by
 have hF : ∀ (q : Int) (l : List ey), (∀ f ∈ l, f.x.kind = 1 → lB f.x = 0) → l.foldl (P.iB q) 0 = 0 := by
  intro q l
  induction l with
  | nil => intro _; rfl
  | cons f l ih =>
   intro h
   rw [List.foldl_cons]
   have : P.iB q 0 f = 0 := by
    unfold P.iB
    split
    ·rename_i h1; rw [h f (by simp) h1.1]; rfl
    ·rfl
   rw [this]
   exact ih fun x hx => h x (by simp [hx])
 intro l
 unfold P.base
 induction l with
 | nil => intro _; rfl
 | cons c l ih =>
  intro h
  have h1 : P.uQ 0 c = 0 := hF c.seq c.l fun f hf => h f.x (by unfold fN; rw [List.flatMap_cons]; exact List.mem_append_left _ (List.mem_map_of_mem hf))
  rw [List.foldl_cons, h1]
  exact ih fun x hx => h x (by unfold fN at hx ⊢; rw [List.flatMap_cons]; exact List.mem_append_right _ hx)
theorem aaR (u : Int) (d : ah) (l : List bM) (h : ∀ c ∈ l, 0 ≤ c.seq) : P.eD u 0 d l = (d, 0, l) := by
 cases l with
 | nil => rfl
 | cons c l => rw [P.eD, if_neg (by have := h c (by simp); omega)]
theorem zf : ∀ {l m : List ByteArray}, l.Pairwise (fun a b => slt a b = true) → m.Pairwise (fun a b => slt a b = true) → (∀ x, x ∈ l ↔ x ∈ m) → l = m
 | [], [], _, _, _ => rfl
 | [], b :: m, _, _, h => absurd ((h b).2 (by simp)) (by simp)
 | a :: l, [], _, _, h => absurd ((h a).1 (by simp)) (by simp)
 | a :: l, b :: m, h1, h2, h => by
  rw [List.pairwise_cons] at h1 h2
  have hab : a = b := by
   rcases List.mem_cons.1 ((h a).1 (by simp)) with h3 | h3
   ·exact h3
   ·rcases List.mem_cons.1 ((h b).2 (by simp)) with h4 | h4
    ·exact h4.symm
    ·have := mK (h1.1 b h4) (h2.1 a h3)
     rw [ic] at this; cases this
  subst hab
  congr 1
  refine zf h1.2 h2.2 fun x => ⟨fun hx => ?_, fun hx => ?_⟩
  ·rcases List.mem_cons.1 ((h x).1 (by simp [hx])) with rfl | h3
   ·have := h1.1 x hx; rw [ic] at this; cases this
   ·exact h3
  ·rcases List.mem_cons.1 ((h x).2 (by simp [hx])) with rfl | h3
   ·have := h2.1 x hx; rw [ic] at this; cases this
   ·exact h3
theorem ou {u q : Nat} (hu : 1 ≤ u ∧ u ≤ 999) (hq : 1 ≤ q ∧ q ≤ 99999999) : R.pre (aT u q) (ba (front u)) = true := by
 have := lM hu hq
 unfold cz at this
 split at this
 ·assumption
 ·omega
theorem Tg {u : Nat} {n : ByteArray} (h : R.pre n (ba (front u)) = false) : cz u n = -1 := by unfold cz; rw [if_neg (by rw [h]; decide)]
theorem nF {u q : Nat} (hu : 1 ≤ u ∧ u ≤ 999) (hq : 1 ≤ q ∧ q ≤ 99999999) (bs : List (List UInt8)) : iT u bs (aT u q) = bs[q - 1]? := by
 unfold iT
 have h := lM hu hq
 rw [h, if_pos ⟨by omega, rfl⟩, Int.toNat_natCast]
theorem rC {u : Nat} {bs : List (List UInt8)} {n : ByteArray} {b : List UInt8} (h : iT u bs n = some b) : ∃ q : Nat, 1 ≤ q ∧ q ≤ bs.length ∧ n = aT u q ∧ cz u n = q ∧ bs[q - 1]? = some b := by
 unfold iT at h
 split at h
 ·rename_i h1
  have h2 := (List.getElem?_eq_some_iff.1 h).1
  refine ⟨(cz u n).toNat, by omega, by omega, ?_, by omega, h⟩
  rw [Int.toNat_of_nonneg (by omega)]; exact h1.2
 ·cases h
theorem vb {d : ah} {u : Nat} : ∀ (es : List aR), P.eH d u es = P.eH d u (es.filter fun e => R.pre e.Name (ba (front u)))
 | [] => rfl
 | e :: es => by
  rw [List.filter_cons]
  cases h : R.pre e.Name (ba (front u)) with
  | true => simp only [if_true]; rw [P.eH, P.eH, vb es]
  | false =>
   simp only [Bool.false_eq_true, if_false]
   rw [P.eH, Tg h, if_neg (by decide), if_pos (by decide)]
   exact vb es
theorem IF {d : ah} {u : Nat} (hu : 1 ≤ u ∧ u ≤ 999) : ∀ (bs : List (List UInt8)) (es : List aR) (q : Nat), 1 ≤ q → q + bs.length ≤ 99999999 → es.length = bs.length → (∀ (j : Nat) (e : aR) (b : List UInt8), es[j]? = some e → bs[j]? = some b → e.Name = aT u ((q + j : Nat) : Int) ∧ P.dat d e = b) → P.eH d u es = some (cY q bs)
 | [], [], q, _, _, _, _ => rfl
 | [], e :: es, q, _, _, h, _ => by simp at h
 | b :: bs, [], q, _, _, h, _ => by simp at h
 | b :: bs, e :: es, q, hq, hl, h, hj => by
  obtain ⟨h1, h2⟩ := hj 0 e b rfl rfl
  rw [List.length_cons] at hl
  have hs : cz u e.Name = q := by rw [h1]; exact lM hu (by omega)
  have ih := IF (d := d) hu bs es (q + 1) (by omega) (by omega) (by simpa using h) (fun j e b he hb => by
   have := hj (j + 1) e b (by simpa using he) (by simpa using hb)
   rw [show q + 1 + j = q + (j + 1) by omega]; exact this)
  rw [P.eH, hs, if_neg (by omega), if_neg (by omega), ih, h2]
  rfl
theorem My {d : ah} {m : aX} {u : Nat} {bs : List (List UInt8)} {bound : Int} (h : cL d m) (hm : fW u bs m) (hd : d.down = false) (hu : 1 ≤ u ∧ u ≤ 999) (hb : 1 ≤ bound) (hl : bs.length ≤ 1000000) (h0 : xZ (bs.flatMap gy)) :
  P.fe d u bound = (d, some ⟨u, bound, (bs.flatMap gy).foldl after 1, cY 1 bs⟩, 0) := by
 have hin : ∀ e ∈ d.now, m e.Name = some (P.dat d e) := fun e he => by
  rw [← h.dy]
  unfold dL
  have hf := nH h.good (n := e.Name) (i := e.aO) he
  have hr := h.good.cQ e he
  rw [hf, if_neg (by omega)]
  rfl
 have hc : ∀ e ∈ d.now, R.pre e.Name (ba (front u)) = true → ∃ q : Nat, 1 ≤ q ∧ q ≤ bs.length ∧ e.Name = aT u q ∧ bs[q - 1]? = some (P.dat d e) := fun e he hp => by
  have := hin e he
  rw [hm _ hp] at this
  obtain ⟨q, h1, h2, h3, h4, h5⟩ := rC this
  exact ⟨q, h1, h2, h3, h5⟩
 have ht : R.gJ (d.now.map (·.Name)) (ba (front u)) = [] := by
  unfold R.gJ
  rw [List.filter_eq_nil_iff]
  intro n hn
  obtain ⟨e, he, rfl⟩ := List.mem_map.1 hn
  intro hps
  rw [Bool.and_eq_true] at hps
  obtain ⟨q, h1, h2, h3, _⟩ := hc e he hps.1
  have := xJ hu (q := q) (by omega)
  rw [← h3, hps.2] at this
  cases this
 have htidy : R.tidy d (ba (front u)) = (d, 0) := by unfold R.tidy; rw [if_neg (by rw [hd]; decide), ht]; rfl
 obtain ⟨es, hes⟩ : ∃ es, es = d.now.filter fun e => R.pre e.Name (ba (front u)) := ⟨_, rfl⟩
 have hmem : ∀ e, e ∈ es ↔ e ∈ d.now ∧ R.pre e.Name (ba (front u)) = true := fun e => by rw [hes, List.mem_filter]
 have hnames : es.map (·.Name) = (List.range bs.length).map fun i => aT u ((i + 1 : Nat) : Int) := by
  refine zf ?_ ?_ fun n => ⟨fun hn => ?_, fun hn => ?_⟩
  ·rw [List.pairwise_map, hes]
   exact h.good.sorted.filter _
  ·rw [List.pairwise_map]
   refine List.pairwise_lt_range.imp_of_mem fun {a b} ha hb' hab => ?_
   rw [List.mem_range] at ha hb'
   exact L3 hu (by omega) (by omega) (by omega)
  ·obtain ⟨e, he, rfl⟩ := List.mem_map.1 hn
   obtain ⟨he, hp⟩ := (hmem e).1 he
   obtain ⟨q, h1, h2, h3, _⟩ := hc e he hp
   refine List.mem_map.2 ⟨q - 1, List.mem_range.2 (by omega), ?_⟩
   rw [show q - 1 + 1 = q by omega, h3]
  ·obtain ⟨i, hi, rfl⟩ := List.mem_map.1 hn
   rw [List.mem_range] at hi
   have hp := ou hu (q := i + 1) (by omega)
   have hv : m (aT u ((i + 1 : Nat) : Int)) = some bs[i] := by
    rw [hm _ hp, nF hu (by omega)]
    simp [hi]
   obtain ⟨j, f, _, _, _, _, _, hj⟩ := h.file hv
   exact List.mem_map.2 ⟨_, (hmem _).2 ⟨hj, hp⟩, rfl⟩
 have hel : es.length = bs.length := by
  have := congrArg List.length hnames
  simpa using this
 have hconts : P.eH d u d.now = some (cY 1 bs) := by
  rw [vb, ← hes]
  refine IF hu bs es 1 (by omega) (by omega) hel fun j e b he hbj => ?_
  have hjl := (List.getElem?_eq_some_iff.1 hbj).1
  have hn : e.Name = aT u ((j + 1 : Nat) : Int) := by
   have h1 : (es.map (·.Name))[j]? = some e.Name := by rw [List.getElem?_map, he]; rfl
   rw [hnames, List.getElem?_map, List.getElem?_range hjl] at h1
   simpa using h1.symm
  refine ⟨by rw [hn, Nat.add_comm], ?_⟩
  have he' := (hmem e).1 (List.mem_of_getElem? he)
  have := hin e he'.1
  rw [hm _ he'.2, hn, nF hu (by omega), Nat.add_sub_cancel, hbj] at this
  exact (Option.some.inj this).symm
 unfold P.fe
 have hut : ((u : Nat) : Int).toNat = u := Int.toNat_natCast u
 rw [if_neg (by rw [hd]; decide), if_neg (by omega), hut, htidy, if_neg (by simp), hconts]
 simp only
 have hb0 : P.base (cY 1 bs) = 0 := BJ _ (by rw [qd]; exact h0)
 rw [hb0, aaR _ _ _ (fun c hc => by have := Ai _ _ c hc; omega), if_neg (by simp)]
 simp only
 unfold P.next
 rw [yV, qd]
end Go.Ph
end
section
set_option linter.all false
namespace Go.Ph
theorem wB : ∀ (l : List RecM) (i : Nat) (m : List RecM), dF i (l ++ m) = dF i l ++ dF (i + (aQ l).length) m
 | [], i, m => by simp [dF, aQ]
 | x :: l, i, m => by
  have hfl : (aQ (x :: l)).length = (bB x).length + (aQ l).length := by unfold aQ; rw [List.flatMap_cons, List.length_append]
  rw [List.cons_append, dF, dF, wB l, List.cons_append, hfl, Nat.add_assoc]
theorem pL : ∀ (l : List RecM) (i : Nat), (dF i l).map (·.x) = l
 | [], i => rfl
 | x :: l, i => by rw [dF, List.map_cons, pL l]
theorem Cg : ∀ (l : List RecM) (i : Nat), gz (dF i l) = (aQ l).length
 | [], i => rfl
 | x :: l, i => by
  have h := Cg l (i + (bB x).length)
  unfold gz at h ⊢
  rw [dF, List.map_cons, List.sum_cons, h]
  unfold aQ; rw [List.flatMap_cons, List.length_append]
theorem pg (l m : List RecM) : aQ (l ++ m) = aQ l ++ aQ m := by simp [aQ]
theorem qi (x : RecM) : aQ [x] = bB x := by simp [aQ]
structure Wr (x : RecM) : Prop where
 mh : fO x
 len : x.f.length = 11
 data : x.data = []
 base : x.kind = 1 → lB x = 0
theorem Wr.size {x : RecM} (h : Wr x) : 1 ≤ (bB x).length ∧ (bB x).length ≤ 77 := by
 have h1 := pQ h.mh
 refine ⟨h1.2, ?_⟩
 have hp : (ek x).length ≤ 29 := by
  unfold ek
  rw [List.length_append, oZ, h.data]
  have := wP x.kind
  simpa using this
 unfold bB wrap
 have := uc (UInt8.ofNat x.kind.toNat :: (aW (ek x).length 4 ++ (aW (crc 0#32 (UInt8.ofNat x.kind.toNat :: (aW (ek x).length 4 ++ ek x))).toNat 4 ++ ek x)))
 simp only [List.length_cons, List.length_append, dN] at this ⊢
 omega
theorem fO.num {x : RecM} (h : fO x) : iZ x ≤ 2147483649 ∧ iW x ≤ 2147483648 ∧ 0 ≤ iZ x ∧ 0 ≤ iW x := by
 have hb := h.bare
 have ha := h.all
 unfold jF at hb
 unfold iZ iW
 change x.f = eC x.kind x.f (layout x.kind) at hb
 have key : ∀ L : List dz, x.f = eC x.kind x.f L → (∀ p ∈ L, p.lo ≤ x.f.getD p.j 0 ∧ x.f.getD p.j 0 ≤ p.hi) → (∀ p ∈ L, (p.j = 3 → 0 ≤ p.lo ∧ p.hi ≤ 2147483649) ∧ (p.j = 5 → 0 ≤ p.lo ∧ p.hi ≤ 2147483648)) → ∀ j, (j = 3 → x.f.getD j 0 ≤ 2147483649 ∧ 0 ≤ x.f.getD j 0) ∧ (j = 5 → x.f.getD j 0 ≤ 2147483648 ∧ 0 ≤ x.f.getD j 0) := by
  intro L hL hall hj j
  have : (j = 3 ∨ j = 5) → (∃ p ∈ L, p.j = j) ∨ x.f.getD j 0 = 0 := by
   intro hjj
   by_cases hex : ∃ p ∈ L, p.j = j
   ·exact .inl hex
   ·right
    rw [hL]
    have : ∀ (L : List dz), (¬∃ p ∈ L, p.j = j) → (eC x.kind x.f L).getD j 0 = 0 := by
     intro L
     refine qg (P := fun L => (¬∃ p ∈ L, p.j = j) → (eC x.kind x.f L).getD j 0 = 0) ?_ ?_ L
     ·intro _
      rcases hjj with rfl | rfl <;> rfl
     ·intro l p ih hn
      rw [LL]
      have h1 := ih fun ⟨q, hq, e⟩ => hn ⟨q, by simp [hq], e⟩
      have h2 : p.j ≠ j := fun e => hn ⟨p, by simp, e⟩
      rw [List.getD_eq_getElem?_getD] at h1 ⊢
      rw [List.getElem?_set_ne h2]
      exact h1
    exact this L hex
  refine ⟨fun e => ?_, fun e => ?_⟩
  ·rcases this (.inl e) with ⟨p, hp, hpj⟩ | h0
   ·have h1 := hall p hp
    have h2 := (hj p hp).1 (hpj.trans e)
    rw [hpj] at h1
    omega
   ·omega
  ·rcases this (.inr e) with ⟨p, hp, hpj⟩ | h0
   ·have h1 := hall p hp
    have h2 := (hj p hp).2 (hpj.trans e)
    rw [hpj] at h1
    omega
   ·omega
 have hl : ∀ p ∈ layout x.kind, (p.j = 3 → 0 ≤ p.lo ∧ p.hi ≤ 2147483649) ∧ (p.j = 5 → 0 ≤ p.lo ∧ p.hi ≤ 2147483648) := by
  refine od x.kind (P := fun L => ∀ p ∈ L, (p.j = 3 → 0 ≤ p.lo ∧ p.hi ≤ 2147483649) ∧ (p.j = 5 → 0 ≤ p.lo ∧ p.hi ≤ 2147483648)) ?_ ?_ ?_ ?_ ?_ ?_ ?_ <;> intro _ <;> (try intro _ _ _ _ _) <;> decide
 have k := key _ hb ha hl
 have k3 := (k 3).1 rfl
 have k5 := (k 5).2 rfl
 exact ⟨k3.1, k5.1, k3.2, k5.2⟩
theorem J8 {r : List RecM} (h : ∀ y ∈ r, Wr y) : gy (aQ r) = r := by
 unfold gy
 rw [BN r fun y hy => (h y hy).mh, pL]
theorem FW {r : List RecM} {y : RecM} (h : ∀ y ∈ r, Wr y) (hy : Wr y) (k : Nat) : gy (aQ r ++ (bB y).take k) = r ∨ gy (aQ r ++ (bB y).take k) = r ++ [y] := by
 by_cases hk : k < (bB y).length
 ·left
  unfold gy
  rw [OY r y k (fun z hz => (h z hz).mh) hy.mh hk, pL]
 ·right
  rw [List.take_of_length_le (by omega), ← qi y, ← pg]
  exact J8 fun z hz => by
   rcases List.mem_append.1 hz with hz | hz
   ·exact h z hz
   ·simp at hz; subst hz; exact hy
theorem um {r : List RecM} (q : Int) (h : ∀ y ∈ r, Wr y) : P.fA q (aQ r) = ⟨q, (aQ r).length, 0, dF 0 r⟩ := by
 unfold P.fA
 have h1 := BN r fun y hy => (h y hy).mh
 unfold broken
 rw [h1, Cg]
 congr 1
 omega
structure Bx (u : Nat) (d : ah) (x : BoxM) (m : aX) (cs : List (List RecM)) (s : Int) (k : Nat) : Prop where
 up : d.down = false
 st : cL d m
 im : fW u (cs.map aQ) m
 l : x.l = cY 1 (cs.map aQ)
 next : x.next = cs.flatten.foldl after 1
 user : x.user = u
 hu : 1 ≤ u ∧ u ≤ 999
 len : cs.length ≤ 1000
 rs : ∀ r ∈ cs, r ≠ [] ∧ ∀ y ∈ r, Wr y
 rm : Rm d s k
theorem lT {cs : List (List RecM)} (h : ∀ r ∈ cs, r ≠ [] ∧ ∀ y ∈ r, Wr y) : (cs.map aQ).flatMap gy = cs.flatten := by
 induction cs with
 | nil => rfl
 | cons r cs ih =>
  rw [List.map_cons, List.flatMap_cons, List.flatten_cons, ih fun r hr => h r (by simp [hr]), J8 (h r (by simp)).2]
def rA (u : Nat) (m : aX) (F : List RecM) (z : RecM → Prop) (m' : aX) : Prop :=
 (∀ n, R.pre n (ba (front u)) = false → m' n = m n) ∧ ∃ bs : List (List UInt8), fW u bs m' ∧ bs.length ≤ 1001 ∧ (bs.flatMap gy = F ∨ ∃ y, z y ∧ Wr y ∧ bs.flatMap gy = F ++ [y])
theorem Ja (l : List RecM) : ∀ n : Int, n ≤ l.foldl after n := by
 induction l with
 | nil => intro n; exact Int.le_refl _
 | cons x l ih =>
  intro n
  have := ih (after n x)
  rw [List.foldl_cons]
  unfold after at this ⊢
  omega
theorem HA : ∀ (l : List RecM) (n : Int), n ≤ 2147483649 → (∀ y ∈ l, Wr y) → l.foldl after n ≤ 2147483649
 | [], n, h, _ => h
 | x :: l, n, h, hw => by
  rw [List.foldl_cons]
  refine HA l _ ?_ fun y hy => hw y (by simp [hy])
  have := (hw x (by simp)).mh.num
  unfold after; omega
theorem Bx.nx {u : Nat} {d : ah} {x : BoxM} {m : aX} {cs : List (List RecM)} {s : Int} {k : Nat} (h : Bx u d x m cs s k) : 1 ≤ x.next ∧ x.next ≤ 2147483649 := by
 rw [h.next]
 refine ⟨Ja _ 1, HA _ 1 (by decide) fun y hy => ?_⟩
 obtain ⟨r, hr, hy⟩ := List.mem_flatten.1 hy
 exact (h.rs r hr).2 y hy
theorem fW.last {u : Nat} {bs : List (List UInt8)} {o b : List UInt8} {m : aX} (hu : 1 ≤ u ∧ u ≤ 999) (hl : bs.length < 99999999) (h : fW u (bs ++ [o]) m) : fW u (bs ++ [b]) (bG m (aT u ((bs.length + 1 : Nat) : Int)) (some b)) := by
 intro n hp
 by_cases hn : n = aT u ((bs.length + 1 : Nat) : Int)
 ·rw [hn, oo, nF hu (by omega)]; simp
 ·rw [kR _ _ hn, h n hp]
  unfold iT
  by_cases h1 : 1 ≤ cz u n ∧ n = aT u (cz u n)
  ·rw [if_pos h1, if_pos h1]
   have h2 : (cz u n).toNat - 1 ≠ bs.length := fun h2 => hn (by rw [h1.2]; congr 1; omega)
   by_cases h3 : (cz u n).toNat - 1 < bs.length
   ·rw [List.getElem?_append_left h3, List.getElem?_append_left h3]
   ·rw [List.getElem?_eq_none (by simp; omega), List.getElem?_eq_none (by simp; omega)]
  ·rw [if_neg h1, if_neg h1]
theorem fW.more {u : Nat} {bs : List (List UInt8)} {b : List UInt8} {m : aX} (hu : 1 ≤ u ∧ u ≤ 999) (hl : bs.length < 99999999) (h : fW u bs m) : fW u (bs ++ [b]) (bG m (aT u ((bs.length + 1 : Nat) : Int)) (some b)) := by
 intro n hp
 by_cases hn : n = aT u ((bs.length + 1 : Nat) : Int)
 ·rw [hn, oo, nF hu (by omega)]; simp
 ·rw [kR _ _ hn, h n hp]
  unfold iT
  by_cases h1 : 1 ≤ cz u n ∧ n = aT u (cz u n)
  ·rw [if_pos h1, if_pos h1]
   have h2 : (cz u n).toNat - 1 ≠ bs.length := fun h2 => hn (by rw [h1.2]; congr 1; omega)
   by_cases h3 : (cz u n).toNat - 1 < bs.length
   ·rw [List.getElem?_append_left h3]
   ·rw [List.getElem?_eq_none (by omega), List.getElem?_eq_none (by simp; omega)]
  ·rw [if_neg h1, if_neg h1]
theorem xO {u q : Nat} (hu : 1 ≤ u ∧ u ≤ 999) (hq : 1 ≤ q ∧ q ≤ 99999999) {m : aX} {v : Option (List UInt8)} {n : ByteArray} (hn : R.pre n (ba (front u)) = false) : bG m (aT u q) v n = m n := by
 refine kR _ _ fun e => ?_
 rw [e, ou hu hq] at hn; cases hn
theorem Iz {u : Nat} {d : ah} {x : BoxM} {m : aX} {cs : List (List RecM)} {r : List RecM} {y : RecM} {s : Int} {k : Nat} (h : Bx u d x m (cs ++ [r]) s k) (hy : Wr y) (hc : cj y = 0) (hs : 77 ≤ s) (c : bM) (hcm : c = P.fA (cs.length + 1 : Nat) (aQ r)) :
  ((P.add d x c y).2.2 = 11 ∧ (P.add d x c y).2.1 = x ∧ dg (P.add d x c y).1 (rA u m (cs ++ [r]).flatten (· = y))) ∨ ((P.add d x c y).2.2 = 0 ∧ ∃ m', (∀ n, R.pre n (ba (front u)) = false → m' n = m n) ∧ Bx u (P.add d x c y).1 (P.add d x c y).2.1 m' (cs ++ [r ++ [y]]) (s - 77) k) := by
 have hr := h.rs r (by simp)
 have hlen := h.len
 rw [List.length_append, List.length_singleton] at hlen
 have hsz := hy.size
 have hcf : c = ⟨((cs.length + 1 : Nat) : Int), (aQ r).length, 0, dF 0 r⟩ := by rw [hcm]; exact um _ hr.2
 have him := h.im
 rw [List.map_append, List.map_cons, List.map_nil] at him
 have hml : (cs.map aQ).length = cs.length := List.length_map _
 have hold : m (aT u ((cs.length + 1 : Nat) : Int)) = some (aQ r) := by
  rw [him _ (ou h.hu (by omega)), nF h.hu (by omega)]
  simp
 have hr' : ∀ z ∈ r ++ [y], Wr z := fun z hz => by
  rcases List.mem_append.1 hz with hz | hz
  ·exact hr.2 z hz
  ·simp at hz; subst hz; exact hy
 unfold P.add
 have hn : aT x.user c.seq = aT u ((cs.length + 1 : Nat) : Int) := by rw [h.user, hcf]
 have hba : ba (bB y) = ⟨(bB y).toArray⟩ := rfl
 rw [if_neg (by simp [hc]), hn, hba]
 have hf2 : ∀ (b : List UInt8), fW u (cs.map aQ ++ [b]) (bG m (aT u ((cs.length + 1 : Nat) : Int)) (some b)) := fun b => by
  have := fW.last (b := b) h.hu (by rw [hml]; omega) him
  rwa [hml] at this
 have hflat : ∀ b, (cs.map aQ ++ [b]).flatMap gy = cs.flatten ++ gy b := fun b => by
  rw [List.flatMap_append, List.flatMap_cons, List.flatMap_nil, List.append_nil, lT fun r hr => h.rs r (by simp [hr])]
 rcases afx (b := bB y) h.st h.up hold h.rm (by omega) with ⟨h1, h2⟩ | ⟨h1, h2, h3, h4⟩
 ·rw [if_pos (by rw [h1]; decide)]
  refine .inl ⟨h1, rfl, h2.imp fun m' ⟨k, e⟩ => ?_⟩
  subst e
  refine ⟨fun n hn => xO h.hu (by omega) hn, _, hf2 _, by simp; omega, ?_⟩
  rw [hflat, List.flatten_append, List.flatten_cons, List.flatten_nil, List.append_nil]
  rcases FW hr.2 hy k with e | e
  ·left; rw [e]
  ·right; exact ⟨y, rfl, hy, by rw [e, List.append_assoc]⟩
 ·rw [if_neg (by rw [h1]; decide)]
  refine .inr ⟨rfl, _, fun n hn => xO h.hu (by omega) hn, h2, h3, ?_, ?_, ?_, h.user, h.hu, by simp; omega, ?_, h4.le (by omega) (Nat.le_refl _)⟩
  ·rw [List.map_append, List.map_cons, List.map_nil, pg, qi]
   exact hf2 _
  ·simp only
   rw [h.l, List.map_append, List.map_append, sU, sU, List.map_cons, List.map_nil, List.map_cons, List.map_nil, List.length_append, qX, qX, List.length_map]
   simp only [cY, List.length_singleton]
   rw [List.set_append_right _ _ (by rw [qX, List.length_map]; omega), qX, List.length_map]
   congr 1
   rw [show cs.length + 1 - 1 - cs.length = 0 by omega, List.set_cons_zero, um _ hr', hcf, pg, qi, wB]
   simp only [List.length_append, dF, Int.toNat_natCast, Nat.zero_add]
   congr 2
   ·omega
  ·simp only
   rw [h.next, List.flatten_append, List.flatten_append, List.foldl_append, List.foldl_append]
   simp
  ·intro r' hr'm
   rcases List.mem_append.1 hr'm with hm | hm
   ·exact h.rs r' (by simp [hm])
   ·simp at hm; subst hm
    exact ⟨by simp, hr'⟩
end Go.Ph
end
section
set_option linter.all false
namespace Go.Ph
theorem Mp {u q n b : Int} (hu : 1 ≤ u ∧ u ≤ 999) (hq : 1 ≤ q ∧ q ≤ 2147483648) (hn : 1 ≤ n ∧ n ≤ 2147483649) (hb : 0 ≤ b ∧ b ≤ 2147483648) : cj ⟨[1, u, q, n, b, 0, 0, 0, 0, 0, 0], []⟩ = 0 := by
 have h1 : (RecM.kind ⟨[1, u, q, n, b, 0, 0, 0, 0, 0, 0], []⟩) = 1 := rfl
 have h2 : layout 1 = [⟨2, 1, 999, 1⟩, ⟨4, 1, 2147483648, 2⟩, gP, ⟨4, 0, 2147483648, 4⟩] := rfl
 have h3 : gL ⟨[1, u, q, n, b, 0, 0, 0, 0, 0, 0], []⟩ = true := by
  unfold gL
  rw [decide_eq_true_eq]
  exact ⟨rfl, rfl⟩
 unfold cj
 rw [h1, h2, if_neg (by simp), h3, if_neg ?_, if_neg (by simp), if_pos rfl]
 simp only [List.all_cons, List.all_nil, fC, gP, List.getD_cons_succ, List.getD_cons_zero, Bool.and_true]
 simp
 omega
theorem V8 {n : Int} (hn : 1 ≤ n ∧ n ≤ 2147483649) : cj (P.fE n) = 0 := by
 have h1 : (P.fE n).kind = 5 := rfl
 have h2 : layout 5 = [gP] := rfl
 have h3 : gL (P.fE n) = true := by
  unfold gL
  rw [decide_eq_true_eq]
  exact ⟨rfl, rfl⟩
 unfold cj
 rw [h1, h2, if_neg (by simp), h3, if_neg ?_, if_neg (by simp), if_pos rfl]
 unfold P.fE
 simp only [List.all_cons, List.all_nil, fC, gP, List.getD_cons_succ, List.getD_cons_zero, Bool.and_true]
 simp
 omega
theorem abl {x : BoxM} {q : Int} (h : cj (P.cW x q 0) = 0) : Wr (P.cW x q 0) := ⟨iX h, rfl, rfl, fun _ => rfl⟩
theorem aaG {n : Int} (h : cj (P.fE n) = 0) : Wr (P.fE n) := ⟨iX h, rfl, rfl, fun h => absurd (show (5 : Int) = 1 from h) (by decide)⟩
theorem WN {y : RecM} (hk : bS y = true) (hl : y.f.length = 11) (h : cj y = 0) : Wr y := by
 have hc := iX h
 unfold bS at hk
 simp only [Bool.or_eq_true, decide_eq_true_eq] at hk
 exact ⟨hc, hl, hc.d6 (by omega), fun h => by omega⟩
theorem BE {α : Type} (l : List α) : l = [] ∨ ∃ m x, l = m ++ [x] := by
 rcases List.eq_nil_or_concat l with h | ⟨m, x, h⟩
 ·exact .inl h
 ·exact .inr ⟨m, x, by rw [h, List.concat_eq_append]⟩
theorem AG (a : List (List UInt8)) (b : List UInt8) : (cY 1 (a ++ [b])).getLast? = some (P.fA ((a.length + 1 : Nat) : Int) b) := by
 rw [sU]
 simp only [cY, List.getLast?_append, List.getLast?_singleton, Option.some_or]
 congr 2
 omega
theorem Jv (bs : List (List UInt8)) : P.bI (cY 1 bs) = bs.length := by
 rcases BE bs with rfl | ⟨a, b, rfl⟩
 ·rfl
 ·unfold P.bI
  rw [AG, List.length_append, List.length_singleton]
  rfl
theorem Tm {r : List RecM} (q : Int) (h : ∀ y ∈ r, Wr y) (h0 : r ≠ []) : P.clean (P.fA q (aQ r)) = true := by
 rw [um q h]
 rcases BE r with rfl | ⟨r0, z, rfl⟩
 ·exact absurd rfl h0
 ·unfold P.clean
  simp only
  rw [wB, dF, dF, List.getLast?_append, List.getLast?_singleton, Option.some_or, pg, qi]
  simp
structure lZ (u : Nat) (d : ah) (x : BoxM) (m : aX) (L : List RecM) (z : RecM → Prop) : Prop where
 down : d.down = true
 ex : ∃ F, F.filter bS = L ∧ x.next = F.foldl after 1 ∧ (∀ y ∈ F, Wr y) ∧ dg d (rA u m F (fun y => bS y = true → z y))
theorem rA.imp {u : Nat} {m m1 : aX} {F : List RecM} {z z' : RecM → Prop} {m' : aX} (h : rA u m F z m') (hm : ∀ n, R.pre n (ba (front u)) = false → m n = m1 n) (hz : ∀ y, z y → z' y) : rA u m1 F z' m' := by
 obtain ⟨h1, bs, h2, h3, h4⟩ := h
 exact ⟨fun n hn => (h1 n hn).trans (hm n hn), bs, h2, h3, h4.imp id fun ⟨y, a, b, c⟩ => ⟨y, hz y a, b, c⟩⟩
theorem Bx.wr {u : Nat} {d : ah} {x : BoxM} {m : aX} {cs : List (List RecM)} {s : Int} {k : Nat} (h : Bx u d x m cs s k) : ∀ y ∈ cs.flatten, Wr y := fun y hy => by
 obtain ⟨r, hr, hy⟩ := List.mem_flatten.1 hy
 exact (h.rs r hr).2 y hy
theorem O4 {x : BoxM} {q : Int} (h : 1 ≤ x.next) : after x.next (P.cW x q 0) = x.next := by
 show max (max x.next x.next) (0 + 1) = x.next
 omega
theorem C6 (x : BoxM) (q b : Int) : bS (P.cW x q b) = false := rfl
theorem IP (n : Int) : bS (P.fE n) = false := rfl
theorem II {c : UInt8} (h : dZ c = true) : ov c = true := by
 unfold dZ at h
 unfold ov
 simp only [Bool.and_eq_true, decide_eq_true_eq] at h
 simp only [Bool.or_eq_true, Bool.and_eq_true, decide_eq_true_eq]
 omega
theorem CQ {u q : Nat} (hu : 1 ≤ u ∧ u ≤ 999) (hq : 1 ≤ q ∧ q ≤ 99999999) : eF (aT u q) = true := by
 unfold eF
 rw [kQ hu hq, vH hu hq, gZ]
 simp only [Bool.and_eq_true, decide_eq_true_eq]
 refine ⟨⟨by decide, by decide⟩, ?_⟩
 rw [List.all_eq_true]
 intro c hc
 unfold cname front at hc
 simp only [List.mem_append, List.mem_cons, List.not_mem_nil, or_false] at hc
 rcases hc with (rfl | hc | rfl) | hc
 ·decide
 ·exact II (rZ _ _ _ hc)
 ·decide
 ·exact II (rZ _ _ _ hc)
theorem abN {u : Nat} {d : ah} {x : BoxM} {m : aX} {cs : List (List RecM)} {s : Int} {k : Nat} (h : Bx u d x m cs s (k + 1)) (hs : 77 ≤ s) (hl : cs.length < 1000) :
  ((P.fresh d x).2.2 = 11 ∧ lZ u (P.fresh d x).1 (P.fresh d x).2.1 m (cs.flatten.filter bS) (fun _ => False)) ∨ ((P.fresh d x).2.2 = 0 ∧ ∃ m' r, (∀ n, R.pre n (ba (front u)) = false → m' n = m n) ∧ bS r = false ∧ Bx u (P.fresh d x).1 (P.fresh d x).2.1 m' (cs ++ [[r]]) (s - 77) k) := by
 have hnx := h.nx
 have hseq : P.bI x.l + 1 = ((cs.length + 1 : Nat) : Int) := by rw [h.l, Jv, List.length_map]; omega
 have hc : cj (P.cW x ((cs.length + 1 : Nat) : Int) 0) = 0 := by
  unfold P.cW
  have := h.hu
  have := h.user
  exact Mp (by omega) (by omega) hnx (by omega)
 have hw := abl hc
 have hsz := hw.size
 have hml : (cs.map aQ).length = cs.length := List.length_map _
 unfold P.fresh
 rw [hseq, if_neg (by rw [hc]; decide), h.user]
 have hba : ba (bB (P.cW x ((cs.length + 1 : Nat) : Int) 0)) = ⟨(bB (P.cW x ((cs.length + 1 : Nat) : Int) 0)).toArray⟩ := rfl
 rw [hba]
 have hnone : m (aT u ((cs.length + 1 : Nat) : Int)) = none := by
  rw [h.im _ (ou h.hu (by omega)), nF h.hu (by omega)]
  simp
 have hok : eF (aT u ((cs.length + 1 : Nat) : Int)) = true := CQ h.hu (by omega)
 have hf2 : ∀ (b : List UInt8), fW u (cs.map aQ ++ [b]) (bG m (aT u ((cs.length + 1 : Nat) : Int)) (some b)) := fun b => by
  have := fW.more (b := b) h.hu (by rw [hml]; omega) h.im
  rwa [hml] at this
 have hflat : ∀ b, (cs.map aQ ++ [b]).flatMap gy = cs.flatten ++ gy b := fun b => by
  rw [List.flatMap_append, List.flatMap_cons, List.flatMap_nil, List.append_nil, lT h.rs]
 rcases Vw (b := bB (P.cW x ((cs.length + 1 : Nat) : Int) 0)) h.st h.up hnone hok h.rm (by omega) with ⟨h1, h2⟩ | ⟨h1, h2, h3, h4⟩
 ·rw [if_pos (by rw [h1]; decide)]
  refine .inl ⟨h1, h2.down, cs.flatten, rfl, h.next, h.wr, h2.imp fun m' e => ?_⟩
  rcases e with rfl | ⟨k, rfl⟩
  ·exact ⟨fun n _ => rfl, cs.map aQ, h.im, by omega, .inl (lT h.rs)⟩
  ·refine ⟨fun n hn => xO h.hu (by omega) hn, _, hf2 _, by simp; omega, ?_⟩
   rw [hflat]
   have := FW (r := []) (by simp) hw k
   have hnil : aQ [] = [] := rfl
   rw [hnil, List.nil_append, List.nil_append] at this
   rcases this with e | e
   ·left; rw [e, List.append_nil]
   ·right; exact ⟨P.cW x ((cs.length + 1 : Nat) : Int) 0, fun hk => by (rw [C6] at hk; cases hk), hw, by rw [e]⟩
 ·rw [if_neg (by rw [h1]; decide)]
  refine .inr ⟨rfl, _, P.cW x ((cs.length + 1 : Nat) : Int) 0, fun n hn => xO h.hu (by omega) hn, C6 _ _ _, h2, h3, ?_, ?_, ?_, rfl, h.hu, by simp; omega, ?_, h4.le (by omega) (Nat.le_refl _)⟩
  ·rw [List.map_append, List.map_cons, List.map_nil, qi]
   exact hf2 _
  ·simp only
   rw [h.l, List.map_append, sU, List.map_cons, List.map_nil, List.length_map]
   simp only [cY]
   rw [um _ (fun z hz => by simp at hz; subst hz; exact hw), qi]
   simp only [dF]
   congr 3
   omega
  ·simp only
   rw [List.flatten_append, List.foldl_append, ← h.next]
   simp only [List.flatten_cons, List.flatten_nil, List.append_nil, List.foldl_cons, List.foldl_nil]
   exact (O4 hnx.1).symm
  ·intro r' hr'm
   rcases List.mem_append.1 hr'm with hm | hm
   ·exact h.rs r' hm
   ·simp at hm; subst hm
    exact ⟨by simp, fun z hz => by simp at hz; subst hz; exact hw⟩
end Go.Ph
end
section
set_option linter.all false
namespace Go.Ph
theorem JS {l : List RecM} {r : RecM} (h : bS r = false) : (l ++ [r]).filter bS = l.filter bS := by simp [h]
theorem lZ.imp {u : Nat} {d : ah} {x : BoxM} {m m1 : aX} {L : List RecM} {z z' : RecM → Prop} (h : lZ u d x m L z) (hm : ∀ n, R.pre n (ba (front u)) = false → m n = m1 n) (hz : ∀ y, z y → z' y) : lZ u d x m1 L z' := by
 obtain ⟨h1, F, h2, h3, h4, h5⟩ := h
 exact ⟨h1, F, h2, h3, h4, h5.imp fun m' a => a.imp hm fun y hy hk => hz y (hy hk)⟩
theorem afi {u : Nat} {d : ah} {x : BoxM} {m : aX} {cs : List (List RecM)} {s : Int} {k : Nat} (h : Bx u d x m cs s (k + 1)) (hs : 154 ≤ s) (hl : cs.length < 1000) :
  ((P.room d x).2.2 = 11 ∧ lZ u (P.room d x).1 (P.room d x).2.1 m (cs.flatten.filter bS) (fun _ => False)) ∨ ((P.room d x).2.2 = 0 ∧ ∃ m' cs' r, (∀ n, R.pre n (ba (front u)) = false → m' n = m n) ∧ Bx u (P.room d x).1 (P.room d x).2.1 m' (cs' ++ [r]) (s - 154) k ∧ (cs' ++ [r]).flatten.filter bS = cs.flatten.filter bS ∧ cs'.length ≤ cs.length) := by
 have hnx := h.nx
 have fr : ∀ {d : ah} {x : BoxM} {m1 : aX} {cs1 : List (List RecM)} {s1 : Int}, Bx u d x m1 cs1 s1 (k + 1) → s - 77 ≤ s1 → cs1.length = cs.length → (∀ n, R.pre n (ba (front u)) = false → m1 n = m n) → cs1.flatten.filter bS = cs.flatten.filter bS →
   ((P.fresh d x).2.2 = 11 ∧ lZ u (P.fresh d x).1 (P.fresh d x).2.1 m (cs.flatten.filter bS) (fun _ => False)) ∨ ((P.fresh d x).2.2 = 0 ∧ ∃ m' cs' r, (∀ n, R.pre n (ba (front u)) = false → m' n = m n) ∧ Bx u (P.fresh d x).1 (P.fresh d x).2.1 m' (cs' ++ [r]) (s - 154) k ∧ (cs' ++ [r]).flatten.filter bS = cs.flatten.filter bS ∧ cs'.length ≤ cs.length) := by
  intro d x m1 cs1 s1 hb hs1 hl1 hm1 hk1
  rcases abN hb (by omega) (by omega) with ⟨h1, h2⟩ | ⟨h1, m', r, h2, h3, h4⟩
  ·rw [hk1] at h2
   exact .inl ⟨h1, h2.imp hm1 fun _ h => h⟩
  ·refine .inr ⟨h1, m', cs1, [r], fun n hn => (h2 n hn).trans (hm1 n hn), ⟨h4.up, h4.st, h4.im, h4.l, h4.next, h4.user, h4.hu, h4.len, h4.rs, h4.rm.le (by omega) (Nat.le_refl _)⟩, ?_, by omega⟩
   rw [List.flatten_append, List.flatten_cons, List.flatten_nil, List.append_nil, JS h3, hk1]
 unfold P.room
 rcases BE cs with rfl | ⟨cs0, r, rfl⟩
 ·have hgl : x.l.getLast? = none := by rw [h.l]; rfl
  rw [hgl]
  simp only
  exact fr h (by omega) rfl (fun _ _ => rfl) rfl
 ·have hgl : x.l.getLast? = some (P.fA ((cs0.length + 1 : Nat) : Int) (aQ r)) := by
   rw [h.l, List.map_append, List.map_cons, List.map_nil, AG, List.length_map]
  rw [hgl]
  simp only
  have hr := h.rs r (by simp)
  have hcl := Tm ((cs0.length + 1 : Nat) : Int) hr.2 hr.1
  rw [List.length_append, List.length_singleton] at hl
  split
  ·exact .inr ⟨rfl, m, cs0, r, fun _ _ => rfl, ⟨h.up, h.st, h.im, h.l, h.next, h.user, h.hu, h.len, h.rs, h.rm.le (by omega) (by omega)⟩, rfl, by simp⟩
  ·split
   ·have hsc := V8 hnx
    rcases Iz h (aaG hsc) hsc (by omega) _ rfl with ⟨h1, h2, h3⟩ | ⟨h1, m', h2, h3⟩
    ·rw [if_pos (by rw [h1]; decide)]
     refine .inl ⟨h1, h3.down, _, rfl, by rw [h2]; exact h.next, h.wr, h3.imp fun m' a => a.imp (fun _ _ => rfl) fun y e hk => ?_⟩
     rw [e, IP] at hk; cases hk
    ·rw [if_neg (by rw [h1]; decide)]
     refine fr h3 (by omega) (by simp) h2 ?_
     rw [List.flatten_append, List.flatten_append, List.flatten_cons, List.flatten_nil, List.append_nil, List.flatten_cons, List.flatten_nil, List.append_nil, ← List.append_assoc, JS (IP _)]
   ·exact fr h (by omega) rfl (fun _ _ => rfl) rfl
theorem Qq {u : Nat} {d : ah} {x : BoxM} {m : aX} {cs : List (List RecM)} {s : Int} {k : Nat} {y : RecM} (h : Bx u d x m cs s (k + 1)) (hs : 300 ≤ s) (hl : cs.length < 1000) (hy : y.f.length = 11) :
  (P.put d x y = (d, x, none, 1)) ∨
  ((P.put d x y).2.2.2 = 11 ∧ (P.put d x y).2.2.1 = none ∧ bS y = true ∧ lZ u (P.put d x y).1 (P.put d x y).2.1 m (cs.flatten.filter bS) (· = y)) ∨
  ((P.put d x y).2.2.2 = 0 ∧ (P.put d x y).2.2.1 ≠ none ∧ ∃ m' cs', (∀ n, R.pre n (ba (front u)) = false → m' n = m n) ∧ Bx u (P.put d x y).1 (P.put d x y).2.1 m' cs' (s - 300) k ∧ cs'.flatten.filter bS = cs.flatten.filter bS ++ [y] ∧ cs'.length ≤ cs.length + 1) := by
 by_cases hb : bS y = false ∨ cj y ≠ 0 ∨ P.bI x.l = 99999999
 ·left; unfold P.put; rw [if_pos hb]
 have hk : bS y = true := by
  cases e : bS y
  ·exact absurd (.inl e) hb
  ·rfl
 have hc : cj y = 0 := by
  rcases Classical.em (cj y = 0) with e | e
  ·exact e
  ·exact absurd (.inr (.inl e)) hb
 have hw := WN hk hy hc
 right
 unfold P.put
 rw [if_neg hb]
 rcases afi h (by omega) hl with ⟨h1, h2⟩ | ⟨h1, m', cs', r, h2, h3, h4, h5⟩
 ·rw [if_pos (by rw [h1]; decide)]
  exact .inl ⟨h1, rfl, hk, h2.imp (fun _ _ => rfl) fun _ hf => hf.elim⟩
 ·rw [if_neg (by rw [h1]; decide)]
  have hgl : (P.room d x).2.1.l.getLast? = some (P.fA ((cs'.length + 1 : Nat) : Int) (aQ r)) := by
   rw [h3.l, List.map_append, List.map_cons, List.map_nil, AG, List.length_map]
  rw [hgl]
  simp only
  rcases Iz h3 hw hc (by omega) _ rfl with ⟨g1, g2, g3⟩ | ⟨g1, m2, g2, g3⟩
  ·rw [if_pos (by rw [g1]; decide)]
   refine .inl ⟨g1, rfl, hk, g3.down, _, h4, by simp only; rw [g2]; exact h3.next, h3.wr, g3.imp fun m' a => a.imp h2 fun y e _ => e⟩
  ·rw [if_neg (by rw [g1]; decide)]
   refine .inr ⟨rfl, by simp, m2, _, fun n hn => (g2 n hn).trans (h2 n hn), ⟨g3.up, g3.st, g3.im, g3.l, g3.next, g3.user, g3.hu, g3.len, g3.rs, g3.rm.le (by omega) (Nat.le_refl _)⟩, ?_, by simp; omega⟩
   rw [← h4, List.flatten_append, List.flatten_append, List.flatten_cons, List.flatten_nil, List.append_nil, List.flatten_cons, List.flatten_nil, List.append_nil, ← List.append_assoc, List.filter_append (p := bS) (l₂ := [y])]
   simp [hk]
end Go.Ph
end
section
set_option linter.all false
namespace Go.Ph
open S
theorem Kq (d : ah) (x : BoxM) (c : bM) (y : RecM) : (P.add d x c y).2.1.l.length = x.l.length := by
 unfold P.add; split; rfl; split; rfl; simp
theorem LZ (d : ah) (x : BoxM) : (P.fresh d x).2.1.l.length ≤ x.l.length + 1 := by
 unfold P.fresh
 split
 ·simp only; omega
 ·split
  ·simp only; omega
  ·simp
theorem afc (d : ah) (x : BoxM) : (P.room d x).2.1.l.length ≤ x.l.length + 1 := by
 unfold P.room
 have hf := LZ d x
 split
 ·exact hf
 ·rename_i m _
  split
  ·simp only; omega
  ·split
   ·have ha := Kq d x m (P.fE x.next)
    split
    ·omega
    ·have := LZ (P.add d x m (P.fE x.next)).1 (P.add d x m (P.fE x.next)).2.1
     omega
   ·exact hf
theorem O6 (d : ah) (x : BoxM) (y : RecM) : (P.put d x y).2.1.l.length ≤ x.l.length + 1 := by
 have hr := afc d x
 unfold P.put
 split
 ·simp only; omega
 ·split
  ·simp only; omega
  ·split
   ·simp only; omega
   ·rename_i m _
    have ha := Kq (P.room d x).1 (P.room d x).2.1 m y
    split <;> (simp only; omega)
set_option maxRecDepth 20000 in
theorem PA {N : Nat} {d : ah} {x : BoxM} {y : RecM} (h : fq N x) (hl : x.l.length + 1 ≤ 1000000) (hN : N + 300000 ≤ 900000000) (hy : y.f.length = 11) : fq (N + 300000) (P.put d x y).2.1 ∧ (P.put d x y).1.calls ≤ d.calls + 300 ∧ (P.put d x y).2.1.user = x.user ∧ (P.put d x y).2.1.bound = x.bound := by
 have up : ∀ {x : BoxM} {M M' : Nat}, M ≤ M' → M' ≤ 900000000 → fq M x → fq M' x := fun hm hm' h => ⟨h.len, hm', h.next, fun c hc => by have := h.all c hc; refine ⟨this.1, this.2.1, this.2.2.1, by omega, by omega, this.2.2.2.2.2⟩⟩
 have hls := tH h
 unfold P.put
 split
 ·exact ⟨up (by omega) hN h, by simp only; omega, rfl, rfl⟩
 ·rename_i hb
  have hq : P.bI x.l < 99999999 := by
   rcases Int.lt_or_le (P.bI x.l) 99999999 with h1 | h1
   ·exact h1
   ·exact absurd (.inr (.inr (by omega))) hb
  have rb := M8 (d := d) h hl (by omega) hq
  split
  ·exact ⟨up (by omega) hN rb.1, by simp only; omega, rb.2.2.1, rb.2.2.2.1⟩
  ·split
   ·exact ⟨up (by omega) hN rb.1, by simp only; omega, rb.2.2.1, rb.2.2.2.1⟩
   ·rename_i m hm
    have ab := vn (d := (P.room d x).1) (y := y) rb.1 (by omega) hm hy
    split
    ·exact ⟨ab.1, by simp only; omega, ab.2.2.1.trans rb.2.2.1, ab.2.2.2.trans rb.2.2.2.1⟩
    ·exact ⟨ab.1, by simp only; omega, ab.2.2.1.trans rb.2.2.1, ab.2.2.2.trans rb.2.2.2.1⟩
def gT : Ty RecM := ⟨12, fun V x vs => ∃ sl : Sl, vs = bL x.f sl ∧ x.f.length = 11 ∧ Ls bf V x.data sl, by rintro _ _ _ ⟨_, rfl, h, _⟩; simp [bL, h], by rintro _ _ _ _ h ⟨sl, rfl, h0, h1⟩; exact ⟨sl, rfl, h0, h1.mono h h⟩, by rintro _ _ _ ⟨_, rfl, _⟩; exact zi _ _⟩
theorem me {s : St} {q : Nat} {l : List RecM} {sl : Sl} {i : Int} {K : aZ → HP} (h : bz gT (s.w 0) (s.w q) l sl) (h0 : 0 ≤ i) (h1 : i < l.length)
  (hK : ∀ x r, l[i.toNat]? = some x → dM (s.w 0) x r → K r s.H) : aL sl 12 i (fun a => bq a fun r => K r) s.H := by
 refine bU h h0 h1 fun b o x hx he => ?_
 obtain ⟨_, ⟨sd, rfl, hf, hd⟩, ha⟩ := he
 exact C0 ha hf fun r hr hs => hK x r hx ⟨hr, by rw [hs]; exact hd⟩
theorem aaF {s : St} {x : RecM} {r : aZ} {K : Bool → HP} (h : dM (s.w 0) x r) (hK : ∀ s', Step [] s s' → K (decide (x.data.length ≤ 1000)) s'.H) : oU r K s.H := by
 unfold oU
 refine bZ fun s1 p1 n1 a1' => ?_
 have a1 : At (s1.w 0) p1 0 (bL x.f r.Data) := by rw [← h.f]; exact a1'
 refine aC a1 (mI h.len) ?_
 have := h.data.len
 have e : decide (((r.Data.len : Nat) : Int) ≤ 1000) = decide (x.data.length ≤ 1000) := by rw [decide_eq_decide]; omega
 rw [e]
 exact hK s1 n1.step
theorem cL.br {d : ah} {m : aX} (h : cL d m) (n : Int) : cL (R.br d n) m := ⟨h.good, h.fail, h.waits, h.sure, h.calm, h.dy⟩
theorem cL.cut {d : ah} {m : aX} (h : cL d m) (hd : d.down = false) : dg (R.cy (R.br d 0)).1 (fun m' => m' = m) := by
 have hb : (R.begin (R.br d 0)).2 = 11 ∧ (R.begin (R.br d 0)).1.down = true := by
  unfold R.begin R.br R.arm
  rw [if_neg (by simp [hd])]
  simp
 have sd := (jQ (d := R.br d 0) hd h.fail).1
 unfold R.cy
 simp only
 rw [if_pos (by rw [hb.1]; decide)]
 exact (sd.steady (h.br 0)).iR hb.2
theorem lZ.nm {d : ah} {m : aX} {u : Nat} (hu : 1 ≤ u ∧ u ≤ 999) {bs : List (List UInt8)} (h : cL d m) (hc : fW u bs m) (hl : bs.length ≤ 1001) (hn : ∀ n, R.pre n (ba (front u)) = false → m n = none) : Nm d := by
 intro e he
 have hin : m e.Name ≠ none := by
  rw [← h.dy]
  unfold dL
  have hf := nH h.good (n := e.Name) (i := e.aO) he
  have hr := h.good.cQ e he
  rw [hf, if_neg (by omega)]
  simp
 cases hp : R.pre e.Name (ba (front u)) with
 | false => exact absurd (hn _ hp) hin
 | true =>
  rw [hc _ hp] at hin
  cases hv : iT u bs e.Name with
  | none => exact absurd hv hin
  | some b =>
   obtain ⟨q, h1, h2, h3, _⟩ := rC hv
   rw [h3, kQ hu (by omega)]
   decide
end Go.Ph
end
section
set_option linter.all false
namespace Go.Ph
open S
theorem Af {l : List RecM} (h : ∀ y ∈ l, Wr y) : xZ l := fun x hx hk => (h x hx).base hk
structure B2 (kd kb kc q : Nat) (s : St) : Prop where
 ko : Ko kd s
 kk : Kb kb kd s
 CV : Kb (kb + 3) kd s
 c : kc ∉ bN kd kb ∧ kc ∉ bN kd (kb + 3) ∧ q ∉ bN kd kb ∧ kc ≠ 0 ∧ q ≠ 0 ∧ kc ≠ q
 lt : q < 2305843009213693952 + 1152921504606846976 * s.H.size
theorem B2.mono {kd kb kc q : Nat} {s s' : St} {S : List Nat} (h : B2 kd kb kc q s) (e : Step S s s') : B2 kd kb kc q s' :=
 ⟨h.ko.mono e, h.kk.mono e, h.CV.mono e, h.c, by have := h.lt; have := e.sz; omega⟩
def kL (kd kb kc q : Nat) : List Nat := kc :: q :: (kb + 3) :: (kb + 4) :: (kb + 5) :: bN kd kb
theorem zq {kd kb kc q : Nat} : ∀ x ∈ bN kd kb, x ∈ kL kd kb kc q := fun x hx => by unfold kL; simp [hx]
theorem Xy {kd kb kc q : Nat} : ∀ x ∈ bN kd (kb + 3), x ∈ kL kd kb kc q := fun x hx => by
 unfold kL bN cG at *
 simp only [List.mem_append, List.mem_cons, List.not_mem_nil, or_false] at hx ⊢
 rcases hx with h | h | h | h <;> simp [h]
end Go.Ph
end
section
set_option linter.all false
namespace Go.Ph
open S
end Go.Ph
end
section
set_option linter.all false
namespace Go.Ph
open S
def dS : ah := ⟨[], [], [], [], 1048576, false, 0, -1, -1, 0⟩
theorem M1 : R.new [] 1048576 = some dS := rfl
theorem IV : cL dS (fun _ => none) := by
 refine ⟨⟨List.Pairwise.nil, List.nodup_nil, fun e he => by cases he⟩, by decide, rfl, rfl, fun e he => (by cases he), ?_⟩
 funext n
 rfl
theorem Jo {u bound : Int} (hu : 1 ≤ u ∧ u ≤ 999) (hb : 1 ≤ bound) : P.fe dS u bound = (dS, some ⟨u, bound, 1, []⟩, 0) := by
 obtain ⟨v, rfl⟩ : ∃ v : Nat, u = v := ⟨u.toNat, by omega⟩
 have hc : fW v [] (fun _ => none) := fun n _ => by unfold iT; split <;> rfl
 exact My (bs := []) IV hc rfl (by omega) hb (by decide) (fun x hx => by cases hx)
theorem bxS {u : Nat} {bound br : Int} (hu : 1 ≤ u ∧ u ≤ 999) : Bx u (R.br dS br) ⟨u, bound, 1, []⟩ (fun _ => none) [] 1000000 100 :=
 ⟨rfl, IV.br br, fun n _ => by unfold iT; split <;> rfl, rfl, rfl, rfl, hu, by decide, fun r hr => (by cases hr), ⟨by show (1000000 : Int) ≤ 1048576 - 0; decide, by show 0 + 100 ≤ 1024; decide⟩⟩
end Go.Ph
end
section
set_option linter.all false
namespace Go.Ph
open S
def R.rename (d : ah) (a n : ByteArray) : ah × Int :=
 if (R.begin d).2 ≠ 0 then R.begin d else if eF n = false then ((R.begin d).1, 3) else if R.find (R.begin d).1.now a < 0 then ((R.begin d).1, 7)
 else (R.cM (R.begin d).1 ⟨a, n, -1⟩, 0)
theorem R.FA (d : ah) (a n : ByteArray) : (R.rename d a n).1.calls ≤ d.calls + 1 := by
 have := R.kW d
 unfold R.rename
 repeat (first | (split; exact this) | exact this)
theorem Rt {k : Nat} {s : St} {b : Nat} {d : ah} {a n : ByteArray} {K : Int → HP} (h : DV k s b d) (hnz : n.size ≤ 9223372036854775807) (hc : d.calls < 1000000000000 - 1024) (hko : Ko k s)
  (hK : ∀ s', Step (dk k) s s' → DV k s' b (R.rename d a n).1 → K (R.rename d a n).2 s'.H) : uy (some ⟨b, 0, none⟩) a n K s.H := by
 obtain ⟨v, ps, hv, hs⟩ := h
 obtain ⟨b1, b2, b3, b4, b5, b6, b7, b8⟩ := nZ hs hc
 unfold uy
 unfold R.rename at hK
 refine wL hv (hs.jz hc) fun s1 e1 h1 => ?_
 have e1d := e1.mono (ia (k := k))
 by_cases hz : (R.begin d).2 = 0
 case neg =>
  rw [b2]
  rw [if_pos hz] at hK
  exact bK (fun _ => hK s1 e1d ⟨_, ps, h1, b1⟩) (fun h0 => absurd h0 hz)
 rw [if_neg (by simpa using hz)] at hK
 rw [b2]
 refine bK (fun h0 => absurd hz h0) (fun _ => ?_)
 refine CX hnz ?_
 by_cases hnm : eF n = true
 case neg =>
  have hnf : eF n = false := by simpa using hnm
  rw [if_pos hnf] at hK
  rw [hnf]
  exact bH (hK s1 e1d ⟨_, ps, h1, b1⟩)
 rw [if_neg (by rw [hnm]; simp)] at hK
 rw [hnm]
 refine bt ?_
 have hns := b1.ns
 have hf := hns.1.find a
 refine Dg h1 ?_
 refine aN (fun h0 => ?_) (fun h0 => ?_)
 ·have hl := V.yK h0
  generalize (V.find (V.change v).1 a).1 = i at *
  obtain ⟨f1, f2, f3, f4⟩ := hf.1 _ hl
  rw [if_neg (by omega)] at hK
  have hmv := b8 hz
  have hvl : v.bP.length ≤ 1000000000000 := by have := hs.lV; omega
  refine Du h1 (by rw [b5]; exact hvl) (hko.mono e1) fun s2 e2 h2 => ?_
  rw [h0]
  have hne := nq hnm
  have hgv : V.eX (V.change v).1.seen ⟨i, n, false⟩ = gi ((V.change v).1.seen.filter fun x => !decide (x.2 = i)) n i := by unfold V.eX; simp only; rw [if_neg hne]
  have hdo : R.cX (R.begin d).1.now ⟨a, n, -1⟩ = R.put (R.bD (R.begin d).1.now a) ⟨n, i⟩ := by
   unfold R.cX
   rw [if_pos (by show (-1 : Int) < 0; decide), if_neg (by simp only; omega), if_neg hne, f1]
  have hdrop := hns.1.drop f4
  have hnf : ∀ e ∈ R.bD (R.begin d).1.now a, e.aO ≠ i := fun e he hei => by
   have h3 := jX.1 he
   have := hns.1.good.u9 h3.1 f4 hei
   exact h3.2 (by rw [this])
  refine hK s2 (e1d.trans (e2.mono Cw)) ⟨_, ps, h2, Cm b1 (by rw [b5]; exact hmv.1) ?_ ?_ (by show (-1 : Int) < 0; omega) ?_⟩
  ·rw [hgv, hdo]
   exact hdrop.set ⟨f2, f3⟩ hnf
  ·rw [hdo, (tX _ _).length_eq, List.length_cons]
   have h5 : (R.bD (R.bD (R.begin d).1.now a) n).length ≤ (R.bD (R.begin d).1.now a).length := List.length_filter_le _ _
   have h6 : (R.bD (R.begin d).1.now a).length < (R.begin d).1.now.length := by
    unfold R.bD
    rcases Nat.lt_or_ge ((R.begin d).1.now.filter fun e => !decide (e.Name = a)).length (R.begin d).1.now.length with h | h
    ·exact h
    ·have := List.length_filter_eq_length_iff.1 (Nat.le_antisymm (List.length_filter_le _ _) h) _ f4
     simp at this
   have := hns.2
   simp only at h5 ⊢
   omega
  ·intro m j hj
   rw [hgv] at hj
   rcases Gq.1 hj with ⟨_, rfl⟩ | ⟨hj, _⟩
   ·exact ⟨a, nU hl⟩
   ·rw [List.mem_filter] at hj
    exact ⟨m, hj.1⟩
 ·have hl : look (V.change v).1.seen a = none := by
   unfold V.find at h0
   cases e : look (V.change v).1.seen a with
   | none => rfl
   | some i => rw [e] at h0; exact absurd rfl h0
  have := hf.2 hl
  rw [if_pos (by omega)] at hK
  have h7 : (V.find (V.change v).1 a).2 = 7 := by unfold V.find; rw [hl]
  rw [h7]
  exact hK s1 e1d ⟨_, ps, h1, b1⟩
def R.cE (n : ByteArray) : ByteArray := n ++ R.gl
def R.fP (n : ByteArray) (b : ByteArray) : List (ah → ah × Int) := [fun d => R.create d (R.cE n), R.cZ (R.cE n) b, fun d => R.rename d (R.cE n) n, R.again R.cy]
def R.lH (d : ah) (n b : ByteArray) : ah × Int :=
 if (R.steps (R.fP n b) d).2 ≠ 0 ∧ (R.steps (R.fP n b) d).2 ≠ 11 ∧ R.has (R.steps (R.fP n b) d).1 (R.cE n) = true
  then ((R.again (fun d => R.unlink d (R.cE n)) (R.steps (R.fP n b) d).1).1, (R.steps (R.fP n b) d).2)
  else R.steps (R.fP n b) d
def R.swap (d : ah) (n b : ByteArray) : ah × Int :=
 if 30 < n.size then (d, 3) else if R.has d (R.cE n) = true then (if (R.unlink d (R.cE n)).2 ≠ 0 then R.unlink d (R.cE n) else R.lH (R.unlink d (R.cE n)).1 n b)
 else R.lH d n b
theorem Hp {c : Nat} : ∀ (l : List (ah → ah × Int)) (d : ah), (∀ f ∈ l, ∀ d, (f d).1.calls ≤ d.calls + c) → (R.steps l d).1.calls ≤ d.calls + (c * l.length : Nat)
 | [], d, _ => by simp [R.steps]
 | f :: l, d, h => by
  rw [R.steps]
  have h1 := h f (by simp) d
  have h2 := Hp (c := c) l (f d).1 fun g hg => h g (by simp [hg])
  rw [List.length_cons, Nat.mul_add, Nat.mul_one]
  split <;> omega
theorem Jk (n b : ByteArray) (d : ah) : (R.steps (R.fP n b) d).1.calls ≤ d.calls + 40 := by
 refine Hp (c := 10) (R.fP n b) d fun f hf d => ?_
 unfold R.fP at hf
 simp only [List.mem_cons, List.not_mem_nil, or_false] at hf
 rcases hf with rfl | rfl | rfl | rfl
 ·have := R.uT d (R.cE n); simp only; omega
 ·have := R.nk (R.cE n) b d; omega
 ·have := R.FA d (R.cE n) n; simp only; omega
 ·have := kj (c := 1) (fun d => R.jI d) d; omega
theorem MO (d : ah) (n b : ByteArray) : (R.lH d n b).1.calls ≤ d.calls + 42 := by
 have h := Jk n b d
 unfold R.lH
 split
 ·have := Lv (R.cE n) (R.steps (R.fP n b) d).1; simp only; omega
 ·omega
theorem C3 (d : ah) (n b : ByteArray) : (R.swap d n b).1.calls ≤ d.calls + 43 := by
 have h1 := MO d n b
 have h2 := R.jx d (R.cE n)
 have h3 := MO (R.unlink d (R.cE n)).1 n b
 unfold R.swap
 split
 ·simp only; omega
 ·split
  ·split <;> omega
  ·omega
theorem agk {V W : View} {b : Nat} {f1 f2 f3 f4 : FV} (h : At W b 0 [f1.v, f2.v, f3.v, f4.v]) : bz tF V W [f1, f2, f3, f4] ⟨some (af b), 4, 4⟩ :=
 ⟨rfl, Nat.le_refl _, fun h => (by cases h), fun a e => by
  simp at e; subst e
  refine ⟨fun _ => rfl, fun j x hj => ⟨[x.v], rfl, fun i v hi => ?_⟩⟩
  have e : i = 0 := by cases i with
   | zero => rfl
   | succ i => simp at hi
  subst e
  simp at hi; subst hi
  have hn : tF.n = 1 := rfl
  rw [hn, Nat.mul_one, Nat.add_zero]
  show W b (0 + j) = _
  refine h j _ ?_
  match j, hj with
  | 0, hj => simp at hj; subst hj; rfl
  | 1, hj => simp at hj; subst hj; rfl
  | 2, hj => simp at hj; subst hj; rfl
  | 3, hj => simp at hj; subst hj; rfl
  | j + 4, hj => simp at hj⟩
theorem VM {C : Cx} {k : Nat} {s : St} {b : Nat} {d : ah} {n : ByteArray} {bs : List UInt8} {sl : Sl} {K : Int → HP} (h : DV k s b d) (hb : Ls bf (s.w 0) bs sl) (hbl : bs.length ≤ 100000000) (hnz : n.size ≤ 9223372036854775000) (hc : d.calls + 20000 < 1000000000000 - 1024) (hko : Ko k s)
  (hK : ∀ s', Step (dk k) s s' → DV k s' b (R.swap d n (ba bs)).1 → K (R.swap d n (ba bs)).2 s'.H) : sZ C (some ⟨b, 0, none⟩) n sl K s.H := by
 unfold sZ
 refine bZ fun s1 b1 n1 a1 => ?_
 refine bZ fun s2 b2 n2 a2 => ?_
 refine bZ fun s3 b3 n3 a3 => ?_
 have e13 := n2.step.trans n3.step
 have a13 := a1.mono e13.v0
 have a23 := a2.mono n3.step.v0
 have e03 := n1.step.trans e13
 have h3 := h.st e03 (by simp)
 have ho3 := hko.mono e03
 have hb3 := Ls.st hb e03
 unfold R.swap at hK
 refine eW a23 rfl ?_
 refine aN (fun h30 => ?_) (fun h30 => ?_)
 ·rw [if_pos (by omega)] at hK
  exact hK s3 e03.n h3
 rw [if_neg (by omega)] at hK
 refine eW a23 rfl ?_
 refine vO (by show n.size + 2 ≤ _; omega) ?_
 refine dQ rfl (by simp [one]) fun s4 b7 e4 a4 => ?_
 generalize hsw : n ++ (⟨#[46, 110]⟩ : ByteArray) = nx at *
 have hnx : nx = R.cE n := hsw.symm
 subst hnx
 have hsz : (R.cE n).size = n.size + 2 := by unfold R.cE; rw [ByteArray.size_append]; rfl
 have a14 := a13.mono e4.v0
 have a24 := a23.mono e4.v0
 have a34 := a3.mono e4.v0
 have h4 := h3.st e4 (by simp)
 have ho4 := ho3.mono e4
 have hb4 := Ls.st hb3 e4
 have e04 := e03.trans e4
 have main : ∀ (s5 : St) (d5 : ah), Step (dk k) s4 s5 → DV k s5 b d5 → d5.calls ≤ d.calls + 1 → (∀ s', Step (dk k) s5 s' → DV k s' b (R.lH d5 n (ba bs)).1 → K (R.lH d5 n (ba bs)).2 s'.H) → xN C b1 b2 b3 b7 K s5.H := by
  intro s5 d5 e5 h5 c5 hK5
  have a15 := a14.mono e5.v0
  have a25 := a24.mono e5.v0
  have a35 := a34.mono e5.v0
  have a45 := a4.mono e5.v0
  have ho5 := ho4.mono e5
  have hb5 := Ls.st hb4 e5
  unfold xN
  intro f1 hf1
  intro f2 hf2
  intro f3 hf3
  intro f4 hf4
  refine bZ fun s6 b6 n6 a6 => ?_
  have e6 := n6.step
  have a16 := a15.mono e6.v0
  have a26 := a25.mono e6.v0
  have a36 := a35.mono e6.v0
  have a46 := a45.mono e6.v0
  have ho6 := ho5.mono e6
  have hb6 := Ls.st hb5 e6
  refine xp (c := 1300) (ops := R.fP n (ba bs)) (agk a6) rfl (by simp) ?_ (h5.st e6 (by simp)) (by simp; omega) ?_
  ·intro i f op hi ho
   unfold R.fP at ho
   match i, hi, ho with
   | 0, hi, ho =>
    simp at hi ho; subst hi; subst ho
    refine ⟨fun s7 d7 K7 e7 h7 c7 hK7 => ?_, fun d => by have := R.uT d (R.cE n); omega⟩
    refine hf1 _ _ _ ?_
    show wD (af b1) (af b7) (fun r => K7 (.int .i64 r)) s7.H
    unfold wD
    refine dR (a16.mono e7.v0) rfl ?_
    refine eW (a46.mono e7.v0) rfl ?_
    exact Nq h7 (by omega) (by omega) (ho6.mono e7) hK7
   | 1, hi, ho =>
    simp at hi ho; subst hi; subst ho
    refine ⟨fun s7 d7 K7 e7 h7 c7 hK7 => ?_, fun d => by have := R.nk (R.cE n) (ba bs) d; omega⟩
    refine hf2 _ _ _ ?_
    show vL C (af b1) (af b7) (af b3) (fun r => K7 (.int .i64 r)) s7.H
    unfold vL
    refine dR (a16.mono e7.v0) rfl ?_
    refine eW (a46.mono e7.v0) rfl ?_
    refine kN (n := sl) (a36.mono e7.v0) rfl ?_
    exact An h7 (Ls.st hb6 e7) hbl (by omega) (ho6.mono e7) hK7
   | 2, hi, ho =>
    simp at hi ho; subst hi; subst ho
    refine ⟨fun s7 d7 K7 e7 h7 c7 hK7 => ?_, fun d => by have := R.FA d (R.cE n) n; omega⟩
    refine hf3 _ _ _ ?_
    show vi (af b1) (af b7) (af b2) (fun r => K7 (.int .i64 r)) s7.H
    unfold vi
    refine dR (a16.mono e7.v0) rfl ?_
    refine eW (a46.mono e7.v0) rfl ?_
    refine eW (a26.mono e7.v0) rfl ?_
    exact Rt h7 (by omega) (by omega) (ho6.mono e7) hK7
   | 3, hi, ho =>
    simp at hi ho; subst hi; subst ho
    refine ⟨fun s7 d7 K7 e7 h7 c7 hK7 => ?_, fun d => by have := kj (c := 1) (fun d => R.jI d) d; omega⟩
    refine hf4 _ _ _ ?_
    show wS C (af b1) (fun r => K7 (.int .i64 r)) s7.H
    unfold wS
    refine dR (a16.mono e7.v0) rfl ?_
    intro g hg
    refine pn (c := 1) ⟨fun s8 d8 K8 e8 h8 c8 hK8 => ?_, fun d => R.jI d⟩ h7 (by omega) hK7
    refine hg _ _ _ ?_
    show kG (some (af b)) (fun r => K8 (.int .i64 r)) s8.H
    exact wG h8 (by omega) ((ho6.mono e7).mono e8) hK8
  ·intro s7 e7 h7
   have hsc := Jk n (ba bs) d5
   unfold R.lH at hK5
   have e57 : Step (dk k) s5 s7 := e6.n.trans e7
   have a17 := a16.mono e7.v0
   have a47 := a46.mono e7.v0
   have ho7 := ho6.mono e7
   generalize R.steps (R.fP n (ba bs)) d5 = r at *
   have j0 : ¬(r.2 ≠ 0 ∧ r.2 ≠ 11 ∧ R.has r.1 (R.cE n) = true) → qK C b1 b7 r.2 false K s7.H := fun hn => by
    unfold qK
    rw [if_neg hn] at hK5
    exact bt (hK5 s7 e57 h7)
   refine bK (fun hne => ?_) (fun heq => j0 (fun h => h.1 heq))
   refine bK (fun hne2 => ?_) (fun heq => j0 (fun h => h.2.1 heq))
   refine dR a17 rfl ?_
   refine eW a47 rfl ?_
   refine w9 h7 ?_
   by_cases hh : R.has r.1 (R.cE n) = true
   ·rw [hh]
    rw [if_pos ⟨hne, hne2, hh⟩] at hK5
    unfold qK
    refine bH ?_
    refine dR a17 rfl ?_
    refine eW a47 rfl ?_
    unfold qv
    refine bZ fun s8 b8 n8 a8 => ?_
    refine bZ fun s9 b9 n9 a9 => ?_
    have e79 := n8.step.trans n9.step
    intro g hg
    have a89 := a8.mono n9.step.v0
    refine pn (c := 1) (op := fun d => R.unlink d (R.cE n)) ⟨fun s10 d10 K10 e10 h10 iF hK10 => ?_, fun d => R.jx d _⟩ (h7.st e79 (by simp)) (by omega) fun s' e' h' => hK5 s' ((e57.trans e79.n).trans e') h'
    refine hg _ _ _ ?_
    show qM (af b8) (af b9) (fun r => K10 (.int .i64 r)) s10.H
    unfold qM
    refine dR (a89.mono e10.v0) rfl ?_
    refine eW (a9.mono e10.v0) rfl ?_
    exact sP h10 (by omega) ((ho7.mono e79).mono e10) hK10
   ·rw [show R.has r.1 (R.cE n) = false by simpa using hh]
    exact j0 fun h => hh h.2.2
 refine dR a14 rfl ?_
 refine eW a4 rfl ?_
 refine w9 h4 ?_
 by_cases hh : R.has d (R.cE n) = true
 ·rw [if_pos hh] at hK
  rw [hh]
  refine bH ?_
  refine dR a14 rfl ?_
  refine eW a4 rfl ?_
  have huc := R.jx d (R.cE n)
  refine sP h4 (by omega) ho4 fun s5 e5 h5 => ?_
  refine bK (fun hne => ?_) (fun heq => ?_)
  ·rw [if_pos hne] at hK
   exact hK s5 (e04.n.trans e5) h5
  ·rw [if_neg (by simpa using heq)] at hK
   exact main s5 _ e5 h5 (by omega) fun s' e' => hK s' ((e04.n.trans e5).trans e')
 ·rw [if_neg hh] at hK
  rw [show R.has d (R.cE n) = false by simpa using hh]
  exact bt (main s4 d Step.refl h4 (by omega) fun s' e' => hK s' (e04.n.trans e'))
end Go.Ph
end
section
set_option linter.all false
namespace Go.Ph
theorem K2 (d : ah) {p : aR → Bool} {e : aR} (hp : p e = false) : ∀ (l : List aR), e ∈ l → R.cm d e + ((l.filter p).map (R.cm d)).sum ≤ (l.map (R.cm d)).sum
 | [], h => by cases h
 | x :: l, h => by
  have h1 := ML d x
  have h2 := wZ d p l
  rcases List.mem_cons.1 h with rfl | h
  ·rw [List.filter_cons, hp]
   simp only [Bool.false_eq_true, if_false, List.map_cons, List.sum_cons]
   omega
  ·have ih := K2 d hp l h
   rw [List.filter_cons]
   split
   ·simp only [List.map_cons, List.sum_cons]; omega
   ·simp only [List.map_cons, List.sum_cons]; omega
theorem adj {l : List aR} {a n : ByteArray} (ha : 0 ≤ R.find l a) (hn : n ≠ ⟨#[]⟩) : R.cX l ⟨a, n, -1⟩ = R.put (R.bD l a) ⟨n, R.find l a⟩ := by
 unfold R.cX
 rw [if_pos (by show (-1 : Int) < 0; decide), if_neg (by simp only; omega), if_neg hn]
theorem ab8 {d d' : ah} {a n : ByteArray} {s : Int} {k : Nat} (h : Rm d s k) (ha : 0 ≤ R.find d.now a) (hn : n ≠ ⟨#[]⟩) (h1 : d'.now = R.cX d.now ⟨a, n, -1⟩) (h2 : d'.files = d.files) (h3 : d'.cap = d.cap) : Rm d' s k := by
 have hf : R.cm d' = R.cm d := by funext e; unfold R.cm; rw [h2]
 rw [adj ha hn] at h1
 rcases ot d.now a with ⟨g1, _⟩ | ⟨e, he, hen, g1⟩
 ·omega
 have hp : (fun e : aR => !decide (e.Name = a)) e = false := by simp [hen]
 have hso := K2 d (p := fun e : aR => !decide (e.Name = a)) hp d.now he
 have hsp := Ip d (R.bD d.now a) ⟨n, R.find d.now a⟩
 have hfe : R.cm d ⟨n, R.find d.now a⟩ = R.cm d e := by unfold R.cm; rw [g1]
 have hfr := h.free
 have hfl := h.files
 constructor
 ·unfold R.free at hfr ⊢
  rw [h1, h3, hf]
  unfold R.bD at hsp
  unfold R.bD
  omega
 ·rw [h1, (tX _ _).length_eq, List.length_cons]
  have h5 : (R.bD (R.bD d.now a) n).length ≤ (R.bD d.now a).length := List.length_filter_le _ _
  have h6 : (R.bD d.now a).length < d.now.length := by
   unfold R.bD
   rcases Nat.lt_or_ge (d.now.filter fun e => !decide (e.Name = a)).length d.now.length with h | h
   ·exact h
   ·have := List.length_filter_eq_length_iff.1 (Nat.le_antisymm (List.length_filter_le _ _) h) _ he
    exact absurd (this.symm.trans hp) (by decide)
  simp only at h5 ⊢
  omega
theorem y5 {α : Type} (l : List α) (x : α) (j : Nat) : (l ++ [x]).take j = if j ≤ l.length then l.take j else l ++ [x] := by
 split
 ·rename_i h; exact List.take_append_of_le_length h
 ·rename_i h; exact List.take_of_length_le (by simp; omega)
theorem Yc {d : ah} {m : aX} {base : List aR} {i : Nat} {f : dV} {W : List cT} {a n : ByteArray} {s : Int} {k : Nat} (p : fJ d m base i f W) (hd : d.down = false) (ha : 0 ≤ R.find d.now a) (hok : eF n = true) (hr : Rm d s k) :
  ((R.rename d a n).2 = 11 ∧ dg (R.rename d a n).1 (fun m' => ∃ j ks, m' = fin (W.take j) m (R.cu f ks).1.data.toList)) ∨ ((R.rename d a n).2 = 0 ∧ (R.rename d a n).1.down = false ∧ fJ (R.rename d a n).1 m base i f (W ++ [⟨a, n, -1⟩]) ∧ Rm (R.rename d a n).1 s k) := by
 obtain ⟨sd, hc⟩ := jQ hd p.fail
 have p1 := sd.wM p
 unfold R.rename
 rcases hc with ⟨hc, hdn⟩ | ⟨hc, hup⟩
 ·rw [if_pos (by rw [hc]; decide)]
  exact .inl ⟨hc, p1.iR hdn⟩
 ·rw [if_neg (by rw [hc]; decide), if_neg (by rw [hok]; decide)]
  have r1 := sd.rm hr
  rw [← sd.now] at ha
  generalize (R.begin d).1 = d1 at *
  rw [if_neg (by omega)]
  have hgn := p1.oY
  have hne := nq hok
  obtain ⟨d2, hd2⟩ : ∃ d2, d2 = R.cM d1 ⟨a, n, -1⟩ := ⟨_, rfl⟩
  have f1 : d2.now = R.cX d1.now ⟨a, n, -1⟩ := by rw [hd2]; rfl
  have f2 : d2.waits = d1.waits ++ [⟨a, n, -1⟩] := by rw [hd2]; rfl
  have f3 : d2.files = d1.files := by rw [hd2]; rfl
  have f4 : d2.sure = d1.sure := by rw [hd2]; rfl
  have f5 : d2.cap = d1.cap := by rw [hd2]; rfl
  have f6 : d2.fail = d1.fail := by rw [hd2]; rfl
  have f7 : d2.down = d1.down := by rw [hd2]; rfl
  rw [← hd2]
  clear hd2
  refine .inr ⟨rfl, f7.trans hup, ⟨by rw [f6]; exact p1.fail, by rw [f2, p1.waits], by rw [f4]; exact p1.sure, ?_, ?_, by rw [f3]; exact p1.file, p1.sep, by rw [f3]; exact p1.calm, ?_, ?_⟩, ab8 r1 ha hne f1 f3 f5⟩
  ·rw [f1, p1.now, List.foldl_append]; rfl
  ·intro j
   rw [f3, f2, f4, y5]
   split
   ·exact p1.good j
   ·rw [List.foldl_append, p1.waits, p1.sure, ← p1.now]
    exact hgn.do ⟨a, n, -1⟩ (by show (-1 : Int) < _; omega) (fun h => absurd h (by show ¬(0 : Int) ≤ -1; decide))
  ·intro t ht
   rcases List.mem_append.1 ht with h | h
   ·exact p1.tf t h
   ·simp at h; subst h; exact .inl (by show (-1 : Int) < 0; decide)
  ·rw [← p1.dy]
   unfold dX
   simp only
   rw [f3]
theorem Um {nx n : ByteArray} {i : Nat} {m : aX} (b : List UInt8) (hx : nx ≠ ⟨#[]⟩) (hn : n ≠ ⟨#[]⟩) (hm : m nx = none) : fin ([⟨⟨#[]⟩, nx, i⟩, ⟨nx, n, -1⟩] : List cT) m b = bG m n (some b) := by
 have h1 := uM nx i m b hx 1
 rw [if_neg (by decide)] at h1
 unfold fin at h1 ⊢
 simp only [List.take_succ_cons, List.take_zero, List.foldl_cons, List.foldl_nil] at h1 ⊢
 rw [h1]
 unfold gH
 rw [if_pos (by show (-1 : Int) < 0; decide)]
 simp only
 rw [oo]
 simp only
 rw [if_neg hn, NP, Ln hm]
theorem aeo {d : ah} {m : aX} {n : ByteArray} {b : List UInt8} {s : Int} {k : Nat} (h : cL d m) (hd : d.down = false) (hn : m (R.cE n) = none) (hox : eF (R.cE n) = true) (hok : eF n = true) (h30 : n.size ≤ 30) (hr : Rm d s (k + 1)) (hb : b.length ≤ s) :
  ((R.swap d n ⟨b.toArray⟩).2 = 11 ∧ dg (R.swap d n ⟨b.toArray⟩).1 (fun m' => m' = m ∨ (∃ k, m' = bG m (R.cE n) (some (b.take k))) ∨ m' = bG m n (some b))) ∨ ((R.swap d n ⟨b.toArray⟩).2 = 0 ∧ (R.swap d n ⟨b.toArray⟩).1.down = false ∧ cL (R.swap d n ⟨b.toArray⟩).1 (bG m n (some b)) ∧ Rm (R.swap d n ⟨b.toArray⟩).1 (s - b.length) k) := by
 have hxe := nq hox
 have hne := nq hok
 unfold R.swap
 have hh : R.has d (R.cE n) = false := by unfold R.has; have := h.none.1 hn; simp; omega
 rw [if_neg (by omega), if_neg (by rw [hh]; decide)]
 have key : ((R.steps (R.fP n ⟨b.toArray⟩) d).2 = 11 ∧ dg (R.steps (R.fP n ⟨b.toArray⟩) d).1 (fun m' => m' = m ∨ (∃ k, m' = bG m (R.cE n) (some (b.take k))) ∨ m' = bG m n (some b))) ∨ ((R.steps (R.fP n ⟨b.toArray⟩) d).2 = 0 ∧ (R.steps (R.fP n ⟨b.toArray⟩) d).1.down = false ∧ cL (R.steps (R.fP n ⟨b.toArray⟩) d).1 (bG m n (some b)) ∧ Rm (R.steps (R.fP n ⟨b.toArray⟩) d).1 (s - b.length) k) := by
  have o1 : ∀ {m' : aX} {j k : Nat}, m' = fin (([⟨⟨#[]⟩, R.cE n, d.files.length⟩] : List cT).take j) m (b.take k) → m' = m ∨ (∃ k, m' = bG m (R.cE n) (some (b.take k))) ∨ m' = bG m n (some b) := fun {m' j k} e => by
   rw [uM _ _ _ _ hxe] at e
   split at e
   ·exact .inl e
   ·exact .inr (.inl ⟨k, e⟩)
  unfold R.fP
  rw [R.steps]
  rcases L2 h hd hn hox hr with ⟨h1, h2⟩ | ⟨h1, h2, h3, h4, h5⟩
  ·rw [if_pos (by rw [h1]; decide)]
   exact .inl ⟨h1, h2.imp fun _ e => .inl e⟩
  rw [if_neg (by rw [h1]; decide)]
  rw [R.steps]
  rcases Lz h3 h2 h5 h4 hb with ⟨g1, g2⟩ | ⟨g1, g2, g3, g4, g5⟩
  ·rw [if_pos (by rw [g1]; decide)]
   exact .inl ⟨g1, g2.imp fun m' ⟨j, k, e⟩ => o1 e⟩
  rw [if_neg (by rw [g1]; decide)]
  rw [R.steps]
  rcases Yc (a := R.cE n) g3 g2 (by rw [g5, h5]; omega) hok g4 with ⟨k1, k2⟩ | ⟨k1, k2, k3, k4⟩
  ·rw [if_pos (by rw [k1]; decide)]
   refine .inl ⟨k1, k2.imp fun m' ⟨j, ks, e⟩ => ?_⟩
   rw [lF rfl rfl] at e
   exact o1 (j := j) (k := b.length) (by rw [e, List.take_length])
  rw [if_neg (by rw [k1]; decide)]
  rw [R.steps]
  have hs := Li k3 rfl rfl k2 k4
  rw [oF (op := R.cy) (by rcases hs with ⟨h, _⟩ | ⟨h, _⟩; exact .inr h; exact .inl h)]
  have h2t : fin ([⟨⟨#[]⟩, R.cE n, d.files.length⟩] ++ [⟨R.cE n, n, -1⟩]) m b = bG m n (some b) := Um b hxe hne hn
  rcases hs with ⟨q1, q2⟩ | ⟨q1, q2, q3, q4⟩
  ·rw [if_pos (by rw [q1]; decide)]
   refine .inl ⟨q1, q2.imp fun m' ⟨j, ks, e⟩ => ?_⟩
   rw [lF rfl rfl, y5] at e
   split at e
   ·exact o1 (j := j) (k := b.length) (by rw [e, List.take_length])
   ·exact .inr (.inr (e.trans h2t))
  ·rw [if_neg (by rw [q1]; decide)]
   rw [← h2t]
   exact .inr ⟨rfl, q2, q3, q4⟩
 unfold R.lH
 rw [if_neg ?_]
 ·exact key
 ·rcases key with ⟨k1, _⟩ | ⟨k1, _⟩ <;> rw [k1] <;> simp
structure iN (d : ah) (m : aX) (base : List aR) (W : List cT) : Prop where
 fail : d.fail < 0
 waits : d.waits = W
 sure : d.sure = base
 now : d.now = W.foldl R.cX base
 good : oa d
 calm : ∀ e ∈ base, ∃ g, d.files[e.aO.toNat]? = some g ∧ g.sure = g.now ∧ g.waits = []
 tf : ∀ t ∈ W, t.aO < 0
 dy : dL base (dX d) = m
theorem cL.vJ {d : ah} {m : aX} (h : cL d m) : iN d m d.now [] :=
 ⟨h.fail, h.waits, h.sure, rfl, h.sg, h.calm, fun t ht => (by cases ht), h.dy⟩
theorem fm.vJ {d d' : ah} {m : aX} {base : List aR} {W : List cT} (h : fm d d') (p : iN d m base W) : iN d' m base W :=
 ⟨h.fail p.fail, by rw [h.waits]; exact p.waits, by rw [h.sure]; exact p.sure, by rw [h.now]; exact p.now, h.sg p.good, by rw [h.files]; exact p.calm, p.tf, by rw [h.dX]; exact p.dy⟩
theorem GM {c : Nat → List UInt8} {b : List UInt8} {W : List cT} {m : aX} (h : ∀ t ∈ W, t.aO < 0) : W.foldl (gH c) m = fin W m b := by
 induction W generalizing m with
 | nil => rfl
 | cons t W ih =>
  have : gH c m t = gH (fun _ => b) m t := by
   unfold gH
   rw [if_pos (h t (by simp)), if_pos (h t (by simp))]
  unfold fin
  rw [List.foldl_cons, List.foldl_cons, this]
  exact ih fun t ht => h t (by simp [ht])
theorem iN.iR {d : ah} {m : aX} {base : List aR} {W : List cT} (p : iN d m base W) (hd : d.down = true) : dg d (fun m' => ∃ j, m' = fin (W.take j) m []) := by
 refine dg.mk' hd p.good fun c j hc => ⟨j, ?_⟩
 rw [p.waits, p.sure, GM (b := []) fun t ht => p.tf t (List.mem_of_mem_take ht), ← p.dy]
 congr 1
 refine nu fun e he => ?_
 obtain ⟨g, g1, g2, g3⟩ := p.calm e he
 obtain ⟨ks', hk'⟩ := hc _ g g1
 rw [hk', lF g2 g3]
 unfold dX
 rw [g1]
theorem iN.oY {d : ah} {m : aX} {base : List aR} {W : List cT} (p : iN d m base W) : Good d.files.length d.now := by
 have := p.good W.length
 rw [p.waits, List.take_length, p.sure, ← p.now] at this
 exact this
theorem iN.files {d : ah} {m : aX} {base : List aR} {W : List cT} (p : iN d m base W) : ∀ e ∈ d.now, ∃ g, d.files[e.aO.toNat]? = some g ∧ g.sure = g.now ∧ g.waits = [] := by
 intro e he
 rw [p.now] at he
 have : ∀ (W : List cT) (l : List aR) {e : aR}, (∀ t ∈ W, t.aO < 0) → e ∈ W.foldl R.cX l → ∃ e0 ∈ l, e0.aO = e.aO := by
  intro W
  induction W with
  | nil => intro l e _ h; exact ⟨e, h, rfl⟩
  | cons t W ih =>
   intro l e hW h
   obtain ⟨e0, h0, h1⟩ := ih _ (fun t ht => hW t (by simp [ht])) h
   rcases KD h0 with ⟨e1, h2, h3⟩ | ⟨h2, h3⟩
   ·exact ⟨e1, h2, h3.trans h1⟩
   ·have := hW t (by simp); omega
 obtain ⟨e0, h0, h1⟩ := this W base p.tf he
 rw [← h1]
 exact p.calm e0 h0
theorem iN.OU {d : ah} {m : aX} {base : List aR} {W : List cT} (p : iN d m base W) : dL d.now (dX d) = fin W m [] := by
 rw [p.now, yw, p.dy, GM p.tf]
theorem af3 {d : ah} {m : aX} {base : List aR} {W : List cT} {s : Int} {k : Nat} (p : iN d m base W) (hd : d.down = false) (hr : Rm d s k) :
  ((R.cy d).2 = 11 ∧ dg (R.cy d).1 (fun m' => ∃ j, m' = fin (W.take j) m [])) ∨ ((R.cy d).2 = 0 ∧ (R.cy d).1.down = false ∧ cL (R.cy d).1 (fin W m []) ∧ Rm (R.cy d).1 s k) := by
 obtain ⟨sd, hc⟩ := jQ hd p.fail
 have p1 := sd.vJ p
 unfold R.cy
 simp only
 rcases hc with ⟨hc, hdn⟩ | ⟨hc, hup⟩
 ·rw [if_pos (by rw [hc]; decide)]
  exact .inl ⟨hc, p1.iR hdn⟩
 ·rw [if_neg (by rw [hc]; decide)]
  have r1 := sd.rm hr
  exact .inr ⟨rfl, hup, ⟨p1.oY, p1.fail, rfl, rfl, p1.files, p1.OU⟩, ⟨r1.free, r1.files⟩⟩
theorem A0 {l : List aR} {n : ByteArray} (h : 0 ≤ R.find l n) : R.cX l ⟨n, ⟨#[]⟩, -1⟩ = R.bD l n := by rw [qG, if_neg (by omega)]
theorem Wh {d : ah} {m : aX} {base : List aR} {W : List cT} {n : ByteArray} {s : Int} {k : Nat} (p : iN d m base W) (hd : d.down = false) (hn : 0 ≤ R.find d.now n) (hr : Rm d s k) :
  ((R.unlink d n).2 = 11 ∧ dg (R.unlink d n).1 (fun m' => ∃ j, m' = fin (W.take j) m [])) ∨ ((R.unlink d n).2 = 0 ∧ (R.unlink d n).1.down = false ∧ iN (R.unlink d n).1 m base (W ++ [⟨n, ⟨#[]⟩, -1⟩]) ∧ Rm (R.unlink d n).1 s k) := by
 obtain ⟨sd, hc⟩ := jQ hd p.fail
 have p1 := sd.vJ p
 unfold R.unlink
 simp only
 rcases hc with ⟨hc, hdn⟩ | ⟨hc, hup⟩
 ·rw [if_pos (by rw [hc]; decide)]
  exact .inl ⟨hc, p1.iR hdn⟩
 ·rw [if_neg (by rw [hc]; decide)]
  have r1 := sd.rm hr
  rw [← sd.now] at hn
  generalize (R.begin d).1 = d1 at *
  rw [if_neg (by omega)]
  have hgn := p1.oY
  obtain ⟨d2, hd2⟩ : ∃ d2, d2 = R.cM d1 ⟨n, ⟨#[]⟩, -1⟩ := ⟨_, rfl⟩
  have f1 : d2.now = R.bD d1.now n := by rw [hd2, ← A0 hn]; rfl
  have f2 : d2.waits = d1.waits ++ [⟨n, ⟨#[]⟩, -1⟩] := by rw [hd2]; rfl
  have f3 : d2.files = d1.files := by rw [hd2]; rfl
  have f4 : d2.sure = d1.sure := by rw [hd2]; rfl
  have f5 : d2.cap = d1.cap := by rw [hd2]; rfl
  have f6 : d2.fail = d1.fail := by rw [hd2]; rfl
  have f7 : d2.down = d1.down := by rw [hd2]; rfl
  rw [← hd2]
  clear hd2
  have hfs : R.cm d2 = R.cm d1 := by funext e; unfold R.cm; rw [f3]
  refine .inr ⟨rfl, f7.trans hup, ⟨by rw [f6]; exact p1.fail, by rw [f2, p1.waits], by rw [f4]; exact p1.sure, ?_, ?_, by rw [f3]; exact p1.calm, ?_, ?_⟩, ⟨?_, ?_⟩⟩
  ·rw [f1, ← A0 hn, p1.now, List.foldl_append]; rfl
  ·intro j
   rw [f3, f2, f4, y5]
   split
   ·exact p1.good j
   ·rw [List.foldl_append, p1.waits, p1.sure, ← p1.now]
    exact hgn.do ⟨n, ⟨#[]⟩, -1⟩ (by show (-1 : Int) < _; omega) (fun h => absurd h (by show ¬(0 : Int) ≤ -1; decide))
  ·intro t ht
   rcases List.mem_append.1 ht with h | h
   ·exact p1.tf t h
   ·simp at h; subst h; show (-1 : Int) < 0; decide
  ·rw [← p1.dy]
   unfold dX
   simp only
   rw [f3]
  ·have hfr := r1.free
   unfold R.free at hfr ⊢
   rw [f5, f1, hfs]
   have := wZ d1 (fun e => !decide (e.Name = n)) d1.now
   unfold R.bD
   omega
  ·have hfl := r1.files
   rw [f1]
   have : (R.bD d1.now n).length ≤ d1.now.length := List.length_filter_le _ _
   omega
theorem Gf {n : ByteArray} {m : aX} {b : List UInt8} (hn : m n = some b) : fin ([⟨n, ⟨#[]⟩, -1⟩] : List cT) m [] = bG m n none := by
 unfold fin
 simp only [List.foldl_cons, List.foldl_nil]
 unfold gH
 rw [if_pos (by show (-1 : Int) < 0; decide)]
 simp only
 rw [hn]
 simp
theorem Ub {d : ah} {m : aX} {n : ByteArray} {b : List UInt8} {s : Int} {k : Nat} (h : cL d m) (hd : d.down = false) (hn : m n = some b) (hr : Rm d s k) :
  ((R.drop d n).2 = 11 ∧ dg (R.drop d n).1 (fun m' => m' = m ∨ m' = bG m n none)) ∨ ((R.drop d n).2 = 0 ∧ (R.drop d n).1.down = false ∧ cL (R.drop d n).1 (bG m n none) ∧ Rm (R.drop d n).1 s k) := by
 obtain ⟨i, f, hfi, _⟩ := h.file hn
 unfold R.drop
 rw [if_neg (by rw [hfi]; omega)]
 rcases Wh h.vJ hd (by rw [hfi]; omega) hr with ⟨h1, h2⟩ | ⟨h1, h2, h3, h4⟩
 ·rw [if_pos (by rw [h1]; decide)]
  exact .inl ⟨h1, h2.imp fun m' ⟨j, e⟩ => .inl (by rw [e, List.take_nil]; rfl)⟩
 ·rw [if_neg (by rw [h1]; decide)]
  have hs := af3 h3 h2 h4
  rw [oF (op := R.cy) (by rcases hs with ⟨h, _⟩ | ⟨h, _⟩; exact .inr h; exact .inl h)]
  rw [List.nil_append] at hs
  rcases hs with ⟨q1, q2⟩ | ⟨q1, q2, q3, q4⟩
  ·refine .inl ⟨q1, q2.imp fun m' ⟨j, e⟩ => ?_⟩
   cases j with
   | zero => exact .inl e
   | succ j =>
    rw [List.take_succ_cons, List.take_nil, Gf hn] at e
    exact .inr e
  ·rw [Gf hn] at q3
   exact .inr ⟨q1, q2, q3, q4⟩
end Go.Ph
end
section
set_option linter.all false
namespace Go.Ph
open S
namespace P
def gX (r : RecM) : Bool := !bS r || decide (cj r ≠ 0)
def gQ (u : Int) : ah → List bM → ah
 | d, [] => d
 | d, c :: cs => if (R.drop d (aT u c.seq)).2 ≠ 0 then (R.drop d (aT u c.seq)).1 else gQ u (R.drop d (aT u c.seq)).1 cs
def dD (x : BoxM) (W : List RecM) : List RecM := cW x (bI x.l + 1) (bI x.l + 1) :: W
def kI (d : ah) (x : BoxM) (W : List RecM) : ah × Int := R.swap d (aT x.user (bI x.l + 1)) (ba (aQ (dD x W)))
def DR (x : BoxM) (W : List RecM) : BoxM := { x with next := W.foldl after x.next, l := [⟨bI x.l + 1, (aQ (dD x W)).length, 0, dF 0 (dD x W)⟩] }
def gn (d : ah) (x : BoxM) (W : List RecM) : ah × BoxM × Int :=
 if 99999999 < bI x.l + 1 ∨ W.any gX = true then (d, x, 1)
 else if cj (cW x (bI x.l + 1) (bI x.l + 1)) ≠ 0 then (d, x, cj (cW x (bI x.l + 1) (bI x.l + 1)))
 else if 4194304 < (aQ (dD x W)).length then (d, x, 4)
 else if (kI d x W).2 ≠ 0 then ((kI d x W).1, x, (kI d x W).2)
 else (gQ x.user (kI d x W).1 x.l, DR x W, 0)
end P
theorem ac2 {s : St} {x : RecM} {r : aZ} {K : Bool → HP} (h : dM (s.w 0) x r) (hK : ∀ s', Step [] s s' → K (P.gX x) s'.H) : uh r K s.H := by
 unfold uh
 unfold P.gX at hK
 refine bZ fun s1 p1 n1 a1' => ?_
 have a1 : At (s1.w 0) p1 0 (bL x.f r.Data) := by rw [← h.f]; exact a1'
 have e1 := n1.step
 refine fF a1 h.len fun r1 f1 d1 => ?_
 refine zM (x := x) ⟨f1, by rw [d1]; exact Ls.st h.data e1⟩ fun s2 e2 => ?_
 have e12 := e1.trans e2
 by_cases hk : bS x = true
 ·rw [hk] at hK ⊢
  refine bt ?_
  refine fF (a1.mono e2.v0) h.len fun r2 f2 d2 => ?_
  refine yy (x := x) ⟨f2, by rw [d2]; exact Ls.st h.data e12⟩ fun s3 e3 => ?_
  have := hK s3 (e12.trans e3)
  simpa using this
 ·have hkf : bS x = false := by simpa using hk
  rw [hkf] at hK ⊢
  exact bH (hK s2 e12)
theorem PZ {C : Cx} {s : St} {l : List RecM} {sl : Sl} {f : FV} {K : Bool → HP} (h : Ls gT (s.w 0) l sl) (hl : l.length ≤ 1000000000000) (hf : ∀ args K' H', zJ args K' H' → C.ap f args K' H') (hK : ∀ s', Step [] s s' → K (l.any P.gX) s'.H) : sL C sl f K s.H := by
 unfold sL yC
 have hlen := h.len
 refine cD (fun i : Nat => [.int .i64 i]) (fun i s' => i ≤ l.length ∧ Step [] s s' ∧ (l.take i).any P.gX = false) (fun i _ => l.length - i) 0 rfl ⟨Nat.zero_le _, Step.refl, by simp⟩ ?_
 rintro i s1 ⟨hi, e1, hn⟩ G hG
 simp only [List.getD_cons_zero, List.getD_cons_succ, cI, cN, cK, cH, cJ, cO]
 refine aN (fun hlt => ?_) (fun hlt => ?_)
 ·refine me (Ls.st h e1) (by omega) (by omega) fun x r hx ra => ?_
  rw [Int.toNat_natCast] at hx
  refine hf _ _ _ ?_
  show uh r (fun t => jk (.bool t) fun t16_1 => bif t16_1 then K (decide ((0 : Int) ≤ (i : Int))) else G [.int .i64 (ay ((i : Int) + 1))]) s1.H
  refine ac2 ra fun s2 e2 => ?_
  simp only [List.getD_cons_zero, List.getD_cons_succ, cI, cN, cK, cH, cJ, cO]
  have htk := F3 hx hn
  by_cases hc : P.gX x = true
  ·rw [hc]
   refine bH ?_
   rw [decide_eq_true (show (0 : Int) ≤ (i : Int) by omega)]
   have := hK s2 (e1.trans e2)
   rwa [any_true hx hc] at this
  ·have hcf : P.gX x = false := by simpa using hc
   rw [hcf]
   refine bt ?_
   rw [aY (by omega) (by omega)]
   refine hG (i + 1) s2 ⟨by omega, e1.trans e2, ?_⟩ (by omega)
   rw [htk, hcf]
 ·have : i = l.length := by omega
  subst this
  rw [List.take_of_length_le (Nat.le_refl _)] at hn
  have := hK s1 e1
  rw [hn] at this
  exact this
theorem acv {l : List RecM} {i : Nat} {x : RecM} (h : l[i]? = some x) : aQ (l.take (i + 1)) = aQ (l.take i) ++ bB x := by
 rw [List.take_add_one, h, pg]
 simp [aQ]
theorem Rr {l : List RecM} {i : Nat} {x : RecM} (h : l[i]? = some x) : dF 0 (l.take (i + 1)) = dF 0 (l.take i) ++ [⟨(aQ (l.take i)).length, (bB x).length, x⟩] := by
 rw [List.take_add_one, h, wB]
 simp [dF]
theorem Yk (l : List RecM) (i : Nat) : (aQ (l.take i)).length ≤ (aQ l).length := by
 have := congrArg List.length (pg (l.take i) (l.drop i))
 rw [List.take_append_drop, List.length_append] at this
 omega
theorem Xz {kq q1 q2 : Nat} {s : St} {t6 : Nat} {seq : Int} {L : List RecM} {sl : Sl} {K : Int → HP} {D : Sl → HP} (hL : Ls gT (s.w 0) L sl) (hl : L.length ≤ 1000000) (h6 : At (s.w q1) t6 0 [.int .i64 seq, .int .i64 0, .int .i64 0, .slice none 0 0]) (hq1 : q1 ≠ 0) (hq2 : q2 ≠ 0 ∧ q2 ≠ q1 ∧ q2 ≠ kq ∧ q1 ≠ kq ∧ kq ≠ 0) (hlt2 : q2 < 2305843009213693952 + 1152921504606846976 * s.H.size) (hltk : kq < 2305843009213693952 + 1152921504606846976 * s.H.size)
  (hE : ∀ s' (i : Nat) x, L[i]? = some x → (∀ (j : Nat) y, j < i → L[j]? = some y → cj y = 0) → cj x ≠ 0 → Step [q1, q2, kq] s s' → K (cj x) s'.H)
  (hB : ∀ s', (∀ y, L[0]? = some y → cj y = 0) → 4194304 < (aQ L).length → Step [q1, q2, kq] s s' → K 4 s'.H)
  (hD : ∀ s' o c, (∀ y ∈ L, cj y = 0) → (aQ L).length ≤ 4194304 → Step [q1, q2, kq] s s' → Ls bf (s'.w 0) (aQ L) o → At (s'.w q1) t6 0 [.int .i64 seq, .int .i64 0, .int .i64 0, .slice c.a c.len c.cap] → bF gj (kq) s' (dF 0 L) c → D o s'.H) :
  loop (σ := List Value) (fun R1 vs1 =>
 bA (vs1.getD 0 undef) fun t7 =>
 ak .i64 (vs1.getD 1 undef) fun t37 =>
 bif (decide ((t37 : Int) < (sl.len : Nat))) then (
 aL sl 12 t37 fun t39 =>
 bq t39 fun t40 =>
 az #[.int .i64 0, .int .i64 0, .int .i64 0, .int .i64 0, .int .i64 0, .int .i64 0, .int .i64 0, .int .i64 0, .int .i64 0, .int .i64 0, .int .i64 0, .slice none 0 0] fun t9 =>
 aq (af t9) 0 [.int .i64 t40.Kind, .int .i64 t40.bR, .int .i64 t40.Seq, .int .i64 t40.Next, .int .i64 t40.bW, .int .i64 t40.bV, .int .i64 t40.Time, .int .i64 t40.Flags, .int .i64 t40.Body, .int .i64 t40.bQ, .int .i64 t40.Origin, .slice t40.Data.a t40.Data.len t40.Data.cap] (
 bq (af t9) fun t42 =>
 lS t42 fun t43a t43b =>
 bif (!decide ((t43b : Int) = 0)) then (
 K t43b) else
 aB ((af t6).add 3) fun t50 =>
 bq (af t9) fun t55 =>
 az #[.int .i64 (t7.len : Nat), .int .i64 (t43a.len : Nat), .int .i64 t55.Kind, .int .i64 t55.bR, .int .i64 t55.Seq, .int .i64 t55.Next, .int .i64 t55.bW, .int .i64 t55.bV, .int .i64 t55.Time, .int .i64 t55.Flags, .int .i64 t55.Body, .int .i64 t55.bQ, .int .i64 t55.Origin, .slice t55.Data.a t55.Data.len t55.Data.cap] fun t57 =>
 app 14 128 #[.int .i64 0, .int .i64 0, .int .i64 0, .int .i64 0, .int .i64 0, .int .i64 0, .int .i64 0, .int .i64 0, .int .i64 0, .int .i64 0, .int .i64 0, .int .i64 0, .int .i64 0, .slice none 0 0] t50 (⟨some (af t57), 1, 1⟩ : Sl) fun t58 =>
 aq ((af t6).add 3) 0 [.slice t58.a t58.len t58.cap] (
 app 1 1 #[.int .u8 0] t7 t43a fun t62 =>
 bif (decide ((4194304 : Int) < (t62.len : Nat))) then (
 K 4) else
 R1 [.slice t62.a t62.len t62.cap, .int .i64 (ay (t37 + 1))]))) else D t7) [.slice none 0 0, .int .i64 0] s.H := by
 have hlen := hL.len
 refine cD (ι := Sl × Nat) (fun y => [.slice y.1.a y.1.len y.1.cap, .int .i64 y.2]) (fun y s' => y.2 ≤ L.length ∧ Step [q1, q2, kq] s s' ∧ (∀ (j : Nat) z, j < y.2 → L[j]? = some z → cj z = 0) ∧ (aQ (L.take y.2)).length ≤ 4194304 ∧ bF bf q2 s' (aQ (L.take y.2)) y.1 ∧ ∃ c, At (s'.w q1) t6 0 [.int .i64 seq, .int .i64 0, .int .i64 0, .slice c.a c.len c.cap] ∧ bF gj (kq) s' (dF 0 (L.take y.2)) c) (fun y _ => L.length - y.2) (⟨none, 0, 0⟩, 0) rfl
  ⟨Nat.zero_le _, Step.refl, fun j z hj => by omega, by simp [aQ], by simpa [aQ] using bF.nil, ⟨none, 0, 0⟩, h6, by simpa [dF] using bF.nil⟩ ?_
 rintro ⟨o, i⟩ s1 ⟨hi, e1, hck, hsz, ho, c, a1, hc⟩ G hG
 simp only [List.getD_cons_zero, List.getD_cons_succ, cI, cN, cK, cH, cJ, cO]
 simp only at hi hck hsz ho hc
 have hz1 := e1.sz
 have hol := ho.ls.len
 refine aN (fun hlt => ?_) (fun hlt => ?_)
 ·have hil : i < L.length := by omega
  refine me (Ls.st hL e1) (by omega) (by omega) fun x r hx ra => ?_
  rw [Int.toNat_natCast] at hx
  have hxl := ra.len
  refine dQ rfl (by simp [one]) fun s2 t9 e2 a2' => ?_
  have a2 : At (s2.w 0) t9 0 (bL x.f r.Data) := by rw [← rec_eq ra.f rfl]; exact a2'
  refine fF a2 hxl fun r2 f2 d2 => ?_
  have dd := Ls.st ra.data e2
  refine Ab (x := x) ⟨f2, by rw [d2]; exact dd⟩ (fun hne s3 e3 => ?_) (fun heq s3 fo e3 fl => ?_)
  ·refine bK (fun _ => ?_) (fun h => absurd h hne)
   exact hE s3 i x hx hck hne (e1.trans (e2.trans e3).n)
  ·refine bK (fun h => absurd rfl h) (fun _ => ?_)
   have e13 := e2.trans e3
   have hcw := iX heq
   have hfl := pQ hcw
   have hfol := fl.len
   have a3 := a1.mono (e13.view (k := q1) (by simp))
   refine aC (n := c) a3 rfl ?_
   refine fF (a2.mono e3.v0) hxl fun r3 f3 d3 => ?_
   have c3 := hc.st e13 (by simp)
   have hz3 := e13.sz
   have hcl := pL (L.take i) 0
   have hcl2 := congrArg List.length hcl
   rw [List.length_map, List.length_take] at hcl2
   refine jv (q := kq) (⟨(aQ (L.take i)).length, (bB x).length, x⟩ : ey) c3 (by rw [hol, hfol]; exact xx ⟨f3, by rw [d3]; exact Ls.st ra.data e13⟩) (fun s4 c4 e4 l4 => ?_) rfl rfl (by omega) (by omega) (by omega) (by omega)
   rw [← Rr hx] at l4
   have a4 := a3.mono (e4.view (k := q1) (by simp; omega))
   refine cP a4 (by simp) rfl hq1 fun s5 e5 z5 a5 _ => ?_
   have e45 : Step [q1, kq] s3 s5 := (e4.mono (by simp)).trans (e5.mono (by simp))
   have o5 := (ho.st e13 (by simp)).st e45 (by simp; omega)
   have hz5 := e45.sz
   refine jl (q := q2) (kx := 0) o5 (Ls.st fl e45) (fun s6 o6 e6 l6 => ?_) rfl rfl (by omega) (by omega) (by omega) hq2.1
   rw [← acv hx] at l6
   have h6l := l6.ls.len
   have e16 : Step [q1, q2, kq] s1 s6 := (e13.n.trans (e45.mono (by simp))).trans (e6.mono (by simp))
   refine aN (fun hgt => ?_) (fun hle => ?_)
   ·have := Yk L (i + 1)
    exact hB s6 (fun y hy => by
     rcases Nat.eq_zero_or_pos i with h | h
     ·subst h; rw [hx] at hy; rw [← Option.some.inj hy]; exact heq
     ·exact hck 0 y h hy) (by omega) (e1.trans e16)
   ·rw [aY (by omega) (by omega)]
    refine hG (o6, i + 1) s6 ⟨hil, e1.trans e16, fun j z hj hz => ?_, by simp only; omega, l6, c4, a5.mono (e6.view (by simp; omega)), (l4.st e5 (by simp; omega)).st e6 (by simp; omega)⟩ (by simp only; omega)
    simp only at hj
    by_cases hji : j < i
    ·exact hck j z hji hz
    ·have : j = i := by omega
     subst this
     rw [hx] at hz
     rw [← Option.some.inj hz]; exact heq
 ·have : i = L.length := by omega
  subst this
  rw [List.take_of_length_le (Nat.le_refl _)] at hsz ho hc
  refine hD s1 o c (fun y hy => ?_) hsz e1 ho.ls a1 hc
  obtain ⟨j, hj⟩ := List.mem_iff_getElem?.1 hy
  exact hck j y (List.getElem?_eq_some_iff.1 hj).1 hj
end Go.Ph
end
section
set_option linter.all false
namespace Go.Ph
open S
theorem Gn (u : Int) : ∀ (l : List bM) (d : ah), (P.gQ u d l).calls ≤ d.calls + 3 * l.length
 | [], d => by simp [P.gQ]
 | c :: cs, d => by
  have h1 := BS d (aT u c.seq)
  have h2 := Gn u cs (R.drop d (aT u c.seq)).1
  rw [P.gQ, List.length_cons]
  split <;> omega
theorem XU {u : Int} {d : ah} {l : List bM} {i : Nat} {c : bM} (h : l[i]? = some c) : P.gQ u d (l.drop i) = if (R.drop d (aT u c.seq)).2 ≠ 0 then (R.drop d (aT u c.seq)).1 else P.gQ u (R.drop d (aT u c.seq)).1 (l.drop (i + 1)) := by
 obtain ⟨h1, h2⟩ := List.getElem?_eq_some_iff.1 h
 rw [List.drop_eq_getElem_cons h1, h2, P.gQ]
def nN (dp : Option Addr) (u bo n : Int) (sl : Sl) : List Value := [.pointer dp, .int .i64 u, .int .i64 bo, .int .i64 n, .slice sl.a sl.len sl.cap]
theorem T2 {kb : Nat} {s : St} {p : Nat} {dp : Option Addr} {u bo n0 : Int} {bl : Sl} {W : List RecM} {sl : Sl} {D : HP} (hW : Ls gT (s.w 0) W sl) (hl : W.length ≤ 1000000) (hc : ∀ y ∈ W, cj y = 0) (hr : At (s.w kb) p 0 (nN dp u bo n0 bl)) (hk0 : kb ≠ 0)
  (hD : ∀ s', Step [kb] s s' → At (s'.w kb) p 0 (nN dp u bo (W.foldl after n0) bl) → D s'.H) :
  loop (σ := List Value) (fun R2 vs2 =>
 ak .i64 (vs2.getD 0 undef) fun t96 =>
 bif (decide ((t96 : Int) < (sl.len : Nat))) then (
 aL sl 12 t96 fun t98 =>
 bq t98 fun t99 =>
 az #[.int .i64 0, .int .i64 0, .int .i64 0, .int .i64 0, .int .i64 0, .int .i64 0, .int .i64 0, .int .i64 0, .int .i64 0, .int .i64 0, .int .i64 0, .slice none 0 0] fun t15 =>
 aq (af t15) 0 [.int .i64 t99.Kind, .int .i64 t99.bR, .int .i64 t99.Seq, .int .i64 t99.Next, .int .i64 t99.bW, .int .i64 t99.bV, .int .i64 t99.Time, .int .i64 t99.Flags, .int .i64 t99.Body, .int .i64 t99.bQ, .int .i64 t99.Origin, .slice t99.Data.a t99.Data.len t99.Data.cap] (
 nn (some ⟨p, 0, none⟩) fun t102 =>
 ag .i64 (t102.add 3) fun t104 =>
 bq (af t15) fun t105 =>
 mg t105 fun t106 =>
 held (ag .i64 (t102.add 3) fun t104_1 =>
 fun _ => (Value.int .i64 t104_1) = (Value.int .i64 t104)) (
 nn (some ⟨p, 0, none⟩) fun t108 =>
 aq (t108.add 3) 0 [.int .i64 (if (t106 : Int) > t104 then t106 else t104)] (
 R2 [.int .i64 (ay (t96 + 1))])))) else D) [.int .i64 0] s.H := by
 have hlen := hW.len
 refine cD (fun i : Nat => [.int .i64 i]) (fun i s' => i ≤ W.length ∧ Step [kb] s s' ∧ At (s'.w kb) p 0 (nN dp u bo ((W.take i).foldl after n0) bl)) (fun i _ => W.length - i) 0 rfl ⟨Nat.zero_le _, Step.refl, hr⟩ ?_
 rintro i s1 ⟨hi, e1, a1⟩ G hG
 simp only [List.getD_cons_zero, List.getD_cons_succ, cI, cN, cK, cH, cJ, cO]
 refine aN (fun hlt => ?_) (fun hlt => ?_)
 ·have hil : i < W.length := by omega
  refine me (Ls.st hW e1) (by omega) (by omega) fun x r hx ra => ?_
  rw [Int.toNat_natCast] at hx
  refine dQ rfl (by simp [one]) fun s2 t9 e2 a2' => ?_
  have a2 : At (s2.w 0) t9 0 (bL x.f r.Data) := by rw [← rec_eq ra.f rfl]; exact a2'
  have b2 := a1.mono (e2.view (k := kb) (by simp))
  unfold nN at b2
  refine aj ?_
  refine av b2 rfl ?_
  refine fF a2 ra.len fun r2 f2 d2 => ?_
  have hxm : x ∈ W := List.mem_of_getElem? hx
  refine Bl (x := x) ⟨f2, by rw [d2]; exact Ls.st ra.data e2⟩ ((iX (hc x hxm)).ok ra.len) fun s3 e3 => ?_
  have b3 := b2.mono (e3.view (k := kb) (by simp))
  refine fD (av b3 rfl rfl) ?_
  refine aj ?_
  refine cP b3 (by simp) rfl hk0 fun s4 e4 z4 a4 _ => ?_
  have hmx : (if max (max 1 (iZ x)) (iW x + 1) > (W.take i).foldl after n0 then max (max 1 (iZ x)) (iW x + 1) else (W.take i).foldl after n0) = (W.take (i + 1)).foldl after n0 := by
   rw [sG hx]
   have := ((iX (hc x hxm)).num)
   unfold after
   split <;> omega
  rw [hmx] at a4
  rw [aY (by omega) (by omega)]
  exact hG (i + 1) s4 ⟨hil, e1.trans ((e2.trans e3).n.trans e4), a4⟩ (by omega)
 ·have : i = W.length := by omega
  subst this
  rw [List.take_of_length_le (Nat.le_refl _)] at a1
  exact hD s1 e1 a1
set_option maxRecDepth 20000 in
theorem S0 {C : Cx} {kd kb : Nat} {s : St} {b p : Nat} {d : ah} {u bo n : Int} {bl osl : Sl} {l : List bM} {cs : List fK} {D : HP} (h : DV kd s b d) (hls : bz jB (s.w 0) (s.w (kb + 1)) cs osl) (hcs : gx (ku (s.w 0)) l cs) (hr : At (s.w kb) p 0 (nN (some ⟨b, 0, none⟩) u bo n bl)) (hl : l.length ≤ 1000000) (hc : d.calls + 10000000 < 1000000000000) (hko : Ko kd s) (hkb : Kb kb kd s)
  (hD : ∀ s', Step (dk kd) s s' → DV kd s' b (P.gQ u d l) → D s'.H) :
  loop (σ := List Value) (fun R3 vs3 =>
 ak .i64 (vs3.getD 0 undef) fun t113 =>
 bif (decide ((t113 : Int) < (osl.len : Nat))) then (
 aL osl 4 t113 fun t115 =>
 fS t115 fun t116 =>
 az #[.int .i64 0, .int .i64 0, .int .i64 0, .slice none 0 0] fun t17 =>
 aq (af t17) 0 [.int .i64 t116.seq, .int .i64 t116.size, .int .i64 t116.broken, .slice t116.l.a t116.l.len t116.l.cap] (
 nn (some ⟨p, 0, none⟩) fun t118 =>
 ct (t118.add 0) fun t120 =>
 nn (some ⟨p, 0, none⟩) fun t122 =>
 ag .i64 (t122.add 1) fun t124 =>
 ag .i64 ((af t17).add 0) fun t126 =>
 gO t124 t126 fun t127 =>
 held (ct (t118.add 0) fun t120_1 =>
 fun _ => (Value.pointer t120_1) = (Value.pointer t120)) (
 nP C t120 t127 fun t128 =>
 bif (!decide ((t128 : Int) = 0)) then D else
 R3 [.int .i64 (ay (t113 + 1))]))) else D) [.int .i64 0] s.H := by
 have hlen := hls.len
 have hcl := hcs.len
 have hcle := hkb.cl
 refine cD (ι := Nat × ah) (fun y => [.int .i64 y.1]) (fun y s' => y.1 ≤ l.length ∧ Step (dk kd) s s' ∧ DV kd s' b y.2 ∧ y.2.calls ≤ d.calls + 3 * y.1 ∧ P.gQ u d l = P.gQ u y.2 (l.drop y.1)) (fun y _ => l.length - y.1) (0, d) rfl ⟨Nat.zero_le _, Step.refl, h, by simp, rfl⟩ ?_
 rintro ⟨i, di⟩ s1 ⟨hi, e1, v1, c1, u1⟩ G hG
 simp only [List.getD_cons_zero, List.getD_cons_succ, cI, cN, cK, cH, cJ, cO]
 simp only at hi v1 c1 u1
 refine aN (fun hlt => ?_) (fun hlt => ?_)
 ·have hil : i < l.length := by omega
  have ls1 : bz jB (s1.w 0) (s1.w (kb + 1)) cs osl := hls.mono e1.v0 (e1.view hcle.2.1)
  refine bU ls1 (by omega) (by omega) fun bx ox c hx hel => ?_
  rw [Int.toNat_natCast] at hx
  obtain ⟨vs, rfl, hat⟩ := hel
  unfold fV at hat
  unfold fS
  repeat (first|refine aj ?_|refine av hat rfl ?_|refine aK hat rfl ?_|refine aH hat rfl ?_|refine aI hat rfl ?_|refine aJ hat rfl ?_|refine aC hat rfl ?_)
  have hli : l[i]? = some l[i] := List.getElem?_eq_getElem hil
  have cv := hcs.all i _ _ hli hx
  refine dQ rfl (by simp [one]) fun s2 t9 e2 a2 => ?_
  have b2 := (hr.mono (e1.view hcle.1)).mono (e2.view (k := kb) (by simp))
  unfold nN at b2
  repeat (first|refine aj ?_|refine av b2 rfl ?_|refine aK b2 rfl ?_|refine aH b2 rfl ?_|refine aI b2 rfl ?_|refine aJ b2 rfl ?_|refine aC b2 rfl ?_)
  repeat (first|refine aj ?_|refine av a2 rfl ?_|refine aK a2 rfl ?_|refine aH a2 rfl ?_|refine aI a2 rfl ?_|refine aJ a2 rfl ?_|refine aC a2 rfl ?_)
  rw [cv.seq]
  refine lq fun s3 e3 => ?_
  have b3 := b2.mono (e3.view (k := kb) (by simp))
  refine fD (aI b3 rfl rfl) ?_
  have e13 := e2.trans e3
  refine Io (v1.st e13 (by simp)) (by omega) ((hko.mono e1).mono e13) fun s4 e4 v4 => ?_
  have hdc := BS di (aT u l[i].seq)
  have hdd := XU (u := u) (d := di) hli
  have e04 : Step (dk kd) s s4 := (e1.trans e13.n).trans e4
  refine bK (fun hne => ?_) (fun heq => ?_)
  ·rw [if_pos hne] at hdd
   rw [u1, hdd] at hD
   exact hD s4 e04 v4
  ·rw [if_neg (by simpa using heq)] at hdd
   rw [aY (by omega) (by omega)]
   generalize R.drop di (aT u l[i].seq) = dr at *
   exact hG (i + 1, dr.1) s4 ⟨hil, e04, v4, by simp only; omega, by rw [u1, hdd]⟩ (by simp only; omega)
 ·have : i = l.length := by omega
  subst this
  rw [List.drop_length, P.gQ] at u1
  rw [u1] at hD
  exact hD s1 e1 v1
end Go.Ph
end
section
set_option linter.all false
namespace Go.Ph
open S
theorem abS (s : St) (q k : Nat) (hq : q ≠ 0) (hk : k < 1152921504606846976 + 1152921504606846976 * s.H.size) : ∃ s' : St, s'.H = s.H ∧ Step [q] s s' ∧ eE (s.w q) (s'.w k) := by
 refine ⟨⟨s.H, fun b i => if s.c b i = q then k else s.c b i, fun b i hb => ?_, fun b i hb => ?_⟩, rfl, ⟨Nat.le_refl _, fun b i hb hn => ?_, fun _ _ => rfl⟩, fun b i x hx => ?_⟩
 ·split
  ·exact hk
  ·exact s.wf b i hb
 ·split at hb
  ·rename_i h; exact s.fz b i (by rw [h]; exact hq)
  ·exact s.fz b i hb
 ·refine ⟨?_, rfl⟩
  show (if s.c b i = q then k else s.c b i) = s.c b i
  split
  ·rename_i h
   rcases hn with h0 | h0
   ·exact absurd (h.symm.trans h0) hq
   ·exact absurd (by rw [h]; simp) h0
  ·rfl
 ·obtain ⟨h1, h2⟩ := bY hx
  exact dP h1 (by show (if s.c b i = q then k else s.c b i) = k; rw [if_pos h2])
theorem SH {a b : St} {S : List Nat} (h : Step (own a :: (own a + 1) :: (own a + 2) :: (own a + 3) :: S) a b) : Step S a b := (((h.loc).loc (by omega)).loc (by omega)).loc (by omega)
set_option maxRecDepth 20000 in
theorem S3 {N : Nat} {C : Cx} {kd kb : Nat} {s : St} {b p : Nat} {d : ah} {x : BoxM} {W : List RecM} {sl : Sl} {K : Int → HP} (h : DV kd s b d) (hb : dJ kb s p x (some ⟨b, 0, none⟩)) (hx : fq N x) (hW : Ls gT (s.w 0) W sl) (hl : W.length ≤ 100000) (hc : d.calls + 20000000 < 1000000000000 - 1024) (hko : Ko kd s) (hkb : Kb kb kd s)
  (hK : ∀ s', Step (bN kd kb) s s' → DV kd s' b (P.gn d x W).1 → dJ kb s' p (P.gn d x W).2.1 (some ⟨b, 0, none⟩) → K (P.gn d x W).2.2 s'.H) : qp C (some ⟨p, 0, none⟩) sl K s.H := by
 unfold qp
 have hls := tH hx
 have hxl := hx.len
 have hkown := hkb.own
 refine DG hb (by omega) ?_
 rw [aY (by omega) (by omega)]
 have bad : (99999999 < P.bI x.l + 1 ∨ W.any P.gX = true) → ∀ s', Step [] s s' → tK C (some ⟨p, 0, none⟩) sl (P.bI x.l + 1) true K s'.H := fun hbad s' es => by
  unfold tK
  refine bH ?_
  have hp : P.gn d x W = (d, x, 1) := by unfold P.gn; rw [if_pos hbad]
  rw [hp] at hK
  exact hK s' es.n (h.st es (by simp)) (hb.st es (by simp) (by simp) (by simp))
 refine aN (fun hgt => bad (.inl hgt) s Step.refl) (fun hle => ?_)
 intro f hf
 refine PZ hW (by omega) hf fun s1 e1 => ?_
 by_cases hany : W.any P.gX = true
 ·rw [hany]; exact bad (.inr hany) s1 e1
 rw [show W.any P.gX = false by simpa using hany]
 have hnb : ¬(99999999 < P.bI x.l + 1 ∨ W.any P.gX = true) := by rintro (h1 | h1); exact hle h1; exact hany h1
 have hWc : ∀ y ∈ W, cj y = 0 := fun y hy => by
  rcases Classical.em (cj y = 0) with h1 | h1
  ·exact h1
  ·exact absurd (List.any_eq_true.2 ⟨y, hy, by unfold P.gX; simp [h1]⟩) hany
 have hown : own s = 1152921504606846976 + 1152921504606846976 * s.H.size := rfl
 unfold own at hkown
 have hz1 := e1.sz
 unfold tK
 refine bt ?_
 obtain ⟨q1, hq1⟩ : ∃ q, q = own s := ⟨_, rfl⟩
 obtain ⟨q2, hq2⟩ : ∃ q, q = own s + 1 := ⟨_, rfl⟩
 obtain ⟨q3, hq3⟩ : ∃ q, q = own s + 2 := ⟨_, rfl⟩
 have hq : q1 ≠ 0 ∧ q2 ≠ 0 ∧ q3 ≠ 0 := by omega
 refine dm q1 (by omega) fun s2 t6 n2 a2 => ?_
 have e2 := n2.step
 have hz2 := n2.sz
 refine eZ q1 a2 rfl (by simp [one]) hq.1 (.inl rfl) fun s3 e3 z3 a3 _ => ?_
 have e13 : Step [q1] s1 s3 := e2.n.trans e3
 have e03 : Step [q1] s s3 := e1.n.trans e13
 have hz3 := e03.sz
 have hbk : ∀ z, z ∈ cG kb → z ≠ q1 ∧ z ≠ q2 ∧ z ≠ q3 := fun z hz => by unfold cG at hz; simp at hz; omega
 have b3 := hb.st e03 (by have := hbk kb (by simp [cG]); simp; omega) (by have := hbk (kb + 1) (by simp [cG]); simp; omega) (by have := hbk (kb + 2) (by simp [cG]); simp; omega)
 refine Mw b3 (by unfold own; omega) fun s4 hd e4 ra4 => ?_
 have a4 := a3.mono (e4.view (k := q1) (by simp))
 refine bZ fun s5 t33 n5 a5' => ?_
 have e5 := n5.step
 have ra5 := ra4.st e5
 have hz5 := n5.sz
 have hsing : bz gT (s5.w 0) (s5.w 0) [P.cW x (P.bI x.l + 1) (P.bI x.l + 1)] ⟨some (af t33), 1, 1⟩ := Ls.single (t := gT) ⟨hd.Data, rec_eq ra5.f rfl, ra5.len, ra5.data⟩ a5'
 have hbld : bF gT q3 s5 [P.cW x (P.bI x.l + 1) (P.bI x.l + 1)] ⟨some (af t33), 1, 1⟩ := ⟨hsing, fun a _ i h1 h2 => by simp only [List.length_singleton] at h1 h2; omega⟩
 have e35 := e4.trans e5
 have e05 : Step [q1] s s5 := e03.trans e35.n
 have hz05 := e05.sz
 refine jl (q := q3) (kx := 0) hbld (Ls.st hW e05) (fun s6 o6 e6 l6 => ?_) rfl rfl (by simp only [List.length_singleton]; omega) (by simp only [List.length_singleton]; omega) (by omega) hq.2.2
 have hL : [P.cW x (P.bI x.l + 1) (P.bI x.l + 1)] ++ W = P.dD x W := rfl
 rw [hL] at l6
 have hLl : (P.dD x W).length = W.length + 1 := rfl
 have e06 : Step [q1, q3] s s6 := (e05.mono (by simp)).trans (e6.mono (by simp))
 have hz6 := e06.sz
 have a6 := (a4.mono (e5.view (k := q1) (by simp))).mono (e6.view (k := q1) (by simp; omega))
 obtain ⟨q4, hq4⟩ : ∃ q, q = own s + 3 := ⟨_, rfl⟩
 obtain ⟨SS, hSS⟩ : ∃ SS, SS = own s :: (own s + 1) :: (own s + 2) :: (own s + 3) :: bN kd kb := ⟨_, rfl⟩
 have upq : ∀ z, (z = q1 ∨ z = q2 ∨ z = q3 ∨ z = q4) → z ∈ SS := fun z hz => by rw [hSS]; simp; omega
 have ups : ∀ z, z ∈ bN kd kb → z ∈ SS := fun z hz => by rw [hSS]; simp [hz]
 have bG : ∀ z, z ∈ dk kd → z ∈ SS := fun z hz => ups z (jK z hz)
 have fin : ∀ {s' : St}, Step SS s s' → Step (bN kd kb) s s' := fun {s'} e => SH (by rw [← hSS]; exact e)
 have hdq : ∀ z, (z = q1 ∨ z = q2 ∨ z = q3 ∨ z = q4) → z ∉ dk kd := fun z hz => by
  have h0 := hko.own (j := 0) (by decide)
  have h1 := hko.own (j := 1) (by decide)
  have h2 := hko.own (j := 2) (by decide)
  have h3 := hko.own (j := 3) (by decide)
  rw [Nat.add_zero] at h0
  rcases hz with rfl | rfl | rfl | rfl
  ·rw [hq1]; exact h0
  ·rw [hq2]; exact h1
  ·rw [hq3]; exact h2
  ·rw [hq4]; exact h3
 have hbq : ∀ z, z ∈ cG kb → z ≠ q1 ∧ z ≠ q2 ∧ z ≠ q3 ∧ z ≠ q4 := fun z hz => by unfold cG at hz; simp at hz; omega
 have v6 : DV kd s6 b d := h.fQ e06 (by omega) (fun z hz => hdq z (by simp at hz; omega))
 have e06S : Step SS s s6 := e06.mono fun z hz => upq z (by simp at hz; omega)
 obtain ⟨osl, cs, bp⟩ := hb
 have own3 : ∀ {s1 s2 : St} {T : List Nat}, (∀ z ∈ T, z = q1 ∨ z = q2 ∨ z = q3 ∨ z = q4) → Step T s1 s2 → kT kb s1 p x (some ⟨b, 0, none⟩) osl cs → kT kb s2 p x (some ⟨b, 0, none⟩) osl cs := fun {s1 s2 T} hT e g => by
  refine g.st e ?_ ?_ ?_
  ·intro hh; have := hT _ hh; have := hbq kb (by simp [cG]); omega
  ·intro hh; have := hT _ hh; have := hbq (kb + 1) (by simp [cG]); omega
  ·intro hh; have := hT _ hh; have := hbq (kb + 2) (by simp [cG]); omega
 have bp6 := own3 (fun z hz => by simp at hz; omega) e06 bp
 have hT1 : ∀ z ∈ [q1, q2, q4], z = q1 ∨ z = q2 ∨ z = q3 ∨ z = q4 := fun z hz => by simp at hz; omega
 have hcomp : P.gn d x W = P.gn d x W := rfl
 conv at hcomp => rhs; unfold P.gn
 rw [if_neg hnb] at hcomp
 refine Xz (kq := q4) (q1 := q1) (q2 := q2) l6.ls (by omega) a6 hq.1 ⟨hq.2.1, by omega, by omega, by omega, by omega⟩ (by omega) (by omega) ?_ ?_ ?_
 ·intro s7 i y hy hprev hne e7
  rcases Nat.eq_zero_or_pos i with h0 | h0
  ·subst h0
   have hyy : P.cW x (P.bI x.l + 1) (P.bI x.l + 1) = y := Option.some.inj hy
   rw [hyy, if_pos hne] at hcomp
   rw [hcomp] at hK
   exact hK s7 (fin (e06S.trans (e7.mono fun z hz => upq z (hT1 z hz)))) (v6.fQ e7 (by omega) fun z hz => hdq z (hT1 z hz)) ⟨osl, cs, own3 hT1 e7 bp6⟩
  ·obtain ⟨j, rfl⟩ : ∃ j, i = j + 1 := ⟨i - 1, by omega⟩
   have : W[j]? = some y := hy
   exact absurd (hWc y (List.mem_of_getElem? this)) hne
 ·intro s7 h0 hgt e7
  have hh := h0 _ rfl
  rw [if_neg (by rw [hh]; decide), if_pos hgt] at hcomp
  rw [hcomp] at hK
  exact hK s7 (fin (e06S.trans (e7.mono fun z hz => upq z (hT1 z hz)))) (v6.fQ e7 (by omega) fun z hz => hdq z (hT1 z hz)) ⟨osl, cs, own3 hT1 e7 bp6⟩
 ·intro s7 o7 c7 hall hsz e7 lo7 a7 lc7
  rw [if_neg (by rw [hall _ (by unfold P.dD; simp)]; decide), if_neg (by omega)] at hcomp
  have v7 := v6.fQ e7 (by omega) fun z hz => hdq z (hT1 z hz)
  have bp7 := own3 hT1 e7 bp6
  have hz7 := e7.sz
  have hz4 := e4.sz
  have hz56 := e6.sz
  obtain ⟨s8, hH8, e8, w8⟩ := abS s7 q4 (kb + 2) (by omega) (by omega)
  rw [← hH8]
  have hT4 : ∀ z ∈ [q4], z = q1 ∨ z = q2 ∨ z = q3 ∨ z = q4 := fun z hz => by simp at hz; omega
  have v8 := v7.fQ e8 (by omega) fun z hz => hdq z (hT4 z hz)
  have bp8 := own3 hT4 e8 bp7
  have lc8 : bF gj (kb + 2) s8 (dF 0 (P.dD x W)) c7 := ⟨Ls.st lc7.ls e8, fun a ha i h1 h2 => (lc7.own a ha i h1 h2).imp fun v hv => w8 _ _ _ hv⟩
  have a8 := a7.mono (e8.view (k := q1) (by simp; omega))
  have lo8 := Ls.st lo7 e8
  have e08 : Step SS s s8 := (e06S.trans (e7.mono fun z hz => upq z (hT1 z hz))).trans (e8.mono fun z hz => upq z (hT4 z hz))
  have row8 := bp8.row
  repeat (first|refine aj ?_|refine av row8 rfl ?_|refine aK row8 rfl ?_|refine aH row8 rfl ?_|refine aI row8 rfl ?_|refine aJ row8 rfl ?_|refine aC row8 rfl ?_)
  refine lq fun s9 e9 => ?_
  have row9 := row8.mono (e9.view (k := kb) (by simp))
  refine fD (aI row9 rfl rfl) ?_
  have hns := KZ x.user (P.bI x.l + 1)
  refine VM (v8.st e9 (by simp)) (Ls.st lo8 e9) (by omega) (by omega) (by omega) ((hko.mono e08).mono e9) fun s10 e10 v10 => ?_
  have hsw : R.swap d (aT x.user (P.bI x.l + 1)) (ba (aQ (P.dD x W))) = P.kI d x W := rfl
  rw [hsw] at v10 ⊢
  have hcl := hkb.cl
  have bp10 := (bp8.st e9 (by simp) (by simp) (by simp)).st e10 hcl.1 hcl.2.1 hcl.2.2
  have e010 : Step SS s s10 := (e08.trans e9.n).trans (e10.mono bG)
  refine bK (fun hne => ?_) (fun heq => ?_)
  ·rw [if_pos hne] at hcomp
   rw [hcomp] at hK
   exact hK s10 (fin e010) v10 ⟨osl, cs, bp10⟩
  rw [if_neg (by simpa using heq)] at hcomp
  have a10 := (a8.mono (e9.view (k := q1) (by simp))).mono (e10.view (hdq q1 (.inl rfl)))
  have lc10 := (lc8.st e9 (by simp)).st e10 hcl.2.2
  have hol := lo8.len
  refine cP a10 (by simp) rfl hq.1 fun s11 e11 z11 a11 _ => ?_
  have row11 := bp10.row.mono (e11.view (k := kb) (by have := hbq kb (by simp [cG]); simp; omega))
  refine aj ?_
  refine aC (n := osl) row11 rfl ?_
  unfold fS
  simp only [List.set_cons_succ, List.set_cons_zero] at a11
  refine av a11 rfl ?_
  refine av a11 rfl ?_
  refine av a11 rfl ?_
  refine aC (n := c7) a11 rfl ?_
  have e011 : Step SS s s11 := e010.trans (e11.mono fun z hz => upq z (by simp at hz; omega))
  have hz11 := e011.sz
  refine dm (kb + 1) (by omega) fun s12 t91 n12 a12 => ?_
  have e12 := n12.step
  have row12 := row11.mono (e12.view (k := kb) (by simp))
  refine aj ?_
  refine cP row12 (by simp) rfl bp.k0 fun s13 e13 z13 a13 _ => ?_
  simp only [List.set_cons_succ, List.set_cons_zero] at a13
  have e113 : Step [kb] s11 s13 := e12.n.trans e13
  have lsO : bz jB (s13.w 0) (s13.w (kb + 1)) cs osl := (bp10.ls.ls.mono e11.v0 (e11.view (k := kb + 1) (by have := hbq (kb + 1) (by simp [cG]); simp; omega))).mono e113.v0 (e113.view (by simp))
  have all13 := (bp10.all.imp fun _ _ g => g.mono e11.v0).imp fun _ _ g => g.mono e113.v0
  have hrow13 : At (s13.w kb) p 0 (nN (some ⟨b, 0, none⟩) x.user x.bound x.next ⟨some (af t91), 1, 1⟩) := a13
  have e013 : Step SS s s13 := e011.trans (e113.mono fun z hz => ups z (by simp at hz; subst hz; simp [bN, cG]))
  have v13 : DV kd s13 b (P.kI d x W).1 := by
   have hsc := C3 d (aT x.user (P.bI x.l + 1)) (ba (aQ (P.dD x W)))
   rw [hsw] at hsc
   have h11 := v10.fQ e11 (by omega) fun z hz => hdq z (by simp at hz; omega)
   exact h11.fQ e113 (by omega) fun z hz => by simp at hz; subst hz; exact hcl.1
  refine T2 (Ls.st hW e013) (by omega) hWc hrow13 bp.k0 fun s14 e14 a14 => ?_
  have hkb14 := (hkb.mono e013).mono e14
  have hsc := C3 d (aT x.user (P.bI x.l + 1)) (ba (aQ (P.dD x W)))
  rw [hsw] at hsc
  refine S0 (kb := kb) (v13.fQ e14 (by omega) fun z hz => by simp at hz; subst hz; exact hcl.1) (lsO.mono e14.v0 (e14.view (by simp))) (all13.imp fun _ _ g => g.mono e14.v0) a14 (by omega) (by omega) ((hko.mono e013).mono e14) hkb14 fun s15 e15 v15 => ?_
  rw [hcomp] at hK
  have nE : bF gj (kb + 2) s15 (dF 0 (P.dD x W)) c7 := (((lc10.st e11 (by have := hbq (kb + 2) (by simp [cG]); simp; omega)).st e113 (by simp)).st e14 (by simp)).st e15 hcl.2.2
  have a15 := ((a12.mono (e13.view (k := kb + 1) (by simp))).mono (e14.view (by simp))).mono (e15.view hcl.2.1)
  refine hK s15 (fin ((e013.trans (e14.mono fun z hz => ups z (by simp at hz; subst hz; simp [bN, cG]))).trans (e15.mono bG))) v15 ⟨⟨some (af t91), 1, 1⟩, [⟨P.bI x.l + 1, (o7.len : Nat), 0, c7⟩], bp.k0, a14.mono (e15.view hcl.1), ⟨Ls.single (t := jB) rfl a15, fun a _ i h1 h2 => by simp only [List.length_singleton] at h1 h2; omega⟩, ⟨rfl, fun i y z hy hz => ?_⟩, fun y z hy hz => ?_⟩
  ·cases i with
   | zero =>
    simp [P.DR] at hy hz
    subst hy hz
    exact ⟨rfl, by simp only; omega, rfl, nE.ls⟩
   | succ i => simp at hz
  ·simp [P.DR] at hy hz
   subst hy hz
   exact nE
end Go.Ph
end
section
set_option linter.all false
namespace Go.Ph
structure Live (d : ah) : Prop where
 up : d.down = false
 fail : d.fail < 0
 br : d.br < 0
theorem pE {d : ah} (h : Live d) : (R.begin d).2 = 0 ∧ Live (R.begin d).1 ∧ fm d (R.begin d).1 := by
 have sd := (jQ h.up h.fail).1
 have h1 := h.up
 have h2 := h.fail
 have h3 := h.br
 refine ⟨?_, ?_, sd⟩
 ·unfold R.begin
  rw [if_neg (by simp [h1])]
  simp only
  rw [if_neg (by omega), if_neg (by omega)]
 ·refine ⟨?_, sd.fail h2, ?_⟩
  ·unfold R.begin
   rw [if_neg (by simp [h1])]
   simp only
   rw [if_neg (by omega), if_neg (by omega)]
   exact h1
  ·unfold R.begin
   rw [if_neg (by simp [h1])]
   simp only
   rw [if_neg (show ¬d.br = 0 by omega), if_neg (show ¬d.fail = 0 by omega)]
   simp only
   rw [if_neg (by omega)]
   exact h3
theorem Nd {d : ah} {n : ByteArray} (h : Live d) (hn : 0 ≤ R.find d.now n) : (R.unlink d n).2 = 0 ∧ Live (R.unlink d n).1 ∧ (R.unlink d n).1.files = d.files ∧ (R.unlink d n).1.now = R.bD d.now n := by
 obtain ⟨h1, h2, h3⟩ := pE h
 unfold R.unlink
 simp only
 rw [if_neg (by rw [h1]; decide)]
 rw [← h3.now] at hn ⊢
 rw [← h3.files]
 generalize (R.begin d).1 = d1 at *
 rw [if_neg (by omega)]
 refine ⟨rfl, ⟨h2.up, h2.fail, h2.br⟩, rfl, ?_⟩
 rw [← A0 hn]
 rfl
theorem IQ {d : ah} (h : Live d) : (R.again R.cy d).2 = 0 ∧ Live (R.again R.cy d).1 := by
 obtain ⟨h1, h2, h3⟩ := pE h
 have hs : (R.cy d).2 = 0 ∧ Live (R.cy d).1 := by
  unfold R.cy
  simp only
  rw [if_neg (by rw [h1]; decide)]
  exact ⟨rfl, h2.up, h2.fail, h2.br⟩
 rw [oF (.inl hs.1)]
 exact hs
theorem ade {d : ah} {n : ByteArray} (h : Live d) : (R.drop d n).2 = 0 ∧ Live (R.drop d n).1 := by
 unfold R.drop
 split
 ·exact ⟨rfl, h⟩
 ·rename_i hn
  have hf : 0 ≤ R.find d.now n := by
   rcases Int.lt_or_le (R.find d.now n) 0 with h1 | h1
   ·exact absurd ⟨h.up, h1⟩ hn
   ·exact h1
  obtain ⟨h1, h2, _⟩ := Nd h hf
  rw [if_neg (by rw [h1]; decide)]
  exact IQ h2
theorem EP (u from_ : Int) : ∀ (l : List bM) {d : ah}, Live d → (P.eD u from_ d l).2 = (0, l.dropWhile fun c => decide (c.seq < from_))
 | [], d, h => rfl
 | c :: cs, d, h => by
  obtain ⟨h1, h2⟩ := ade (n := aT u c.seq) h
  rw [P.eD, List.dropWhile_cons]
  by_cases hc : c.seq < from_
  ·rw [if_pos hc, if_neg (by rw [h1]; decide), if_pos (by simpa using hc)]
   exact EP u from_ cs h2
  ·rw [if_neg hc, if_neg (by simpa using hc)]
theorem GO : ∀ (ns : List ByteArray) {d : ah}, Live d → ns.Nodup → (∀ n ∈ ns, 0 ≤ R.find d.now n) → (R.dW d ns).2 = 0 ∧ Live (R.dW d ns).1 ∧ (R.dW d ns).1.files = d.files ∧ (R.dW d ns).1.now = d.now.filter fun e => ns.all fun n => !decide (e.Name = n)
 | [], d, h, _, _ => ⟨rfl, h, rfl, (List.filter_eq_self.2 fun _ _ => rfl).symm⟩
 | n :: ns, d, h, hd, hf => by
  rw [List.nodup_cons] at hd
  obtain ⟨h1, h2, h3, h4⟩ := Nd h (hf n (by simp))
  rw [R.dW, if_neg (by rw [h1]; decide)]
  obtain ⟨g1, g2, g3, g4⟩ := GO ns h2 hd.2 fun m hm => by
   rw [h4, vw, if_neg (fun e => hd.1 (by rw [← e]; exact hm))]
   exact hf m (by simp [hm])
  refine ⟨g1, g2, g3.trans h3, ?_⟩
  rw [g4, h4]
  unfold R.bD
  rw [List.filter_filter]
  congr 1
  funext e
  rw [List.all_cons, Bool.and_comm]
def jj (u : Nat) (qb : List (Nat × List UInt8)) (m : aX) : Prop := ∀ n, R.pre n (ba (front u)) = true → R.gU n R.gl = false → m n = (qb.find? fun x => decide (aT u x.1 = n)).map (·.2)
structure nB (qb : List (Nat × List UInt8)) : Prop where
 sorted : qb.Pairwise fun a b => a.1 < b.1
 cQ : ∀ x ∈ qb, 1 ≤ x.1 ∧ x.1 ≤ 99999999
def ec (qb : List (Nat × List UInt8)) : List bM := qb.map fun x => P.fA x.1 x.2
theorem LU {d : ah} {u : Nat} (hu : 1 ≤ u ∧ u ≤ 999) : ∀ (qb : List (Nat × List UInt8)) (es : List aR), (∀ x ∈ qb, 1 ≤ x.1 ∧ x.1 ≤ 99999999) → es.length = qb.length → (∀ (j : Nat) (e : aR) (x : Nat × List UInt8), es[j]? = some e → qb[j]? = some x → e.Name = aT u x.1 ∧ P.dat d e = x.2) → P.eH d u es = some (ec qb)
 | [], [], _, _, _ => rfl
 | [], e :: es, _, h, _ => by simp at h
 | x :: qb, [], _, h, _ => by simp at h
 | x :: qb, e :: es, hr, h, hj => by
  obtain ⟨h1, h2⟩ := hj 0 e x rfl rfl
  have hx := hr x (by simp)
  have hs : cz u e.Name = x.1 := by rw [h1]; exact lM hu hx
  have ih := LU (d := d) hu qb es (fun y hy => hr y (by simp [hy])) (by simpa using h) (fun j e b he hb => hj (j + 1) e b (by simpa using he) (by simpa using hb))
  rw [P.eH, hs, if_neg (by omega), if_neg (by omega), ih, h2]
  rfl
theorem zZ {u : Nat} (hu : 1 ≤ u ∧ u ≤ 999) {qb : List (Nat × List UInt8)} (hq : nB qb) {x : Nat × List UInt8} (hx : x ∈ qb) : qb.find? (fun y => decide (aT u y.1 = aT u x.1)) = some x := by
 have hs := hq.sorted
 have hr := hq.cQ
 induction qb with
 | nil => cases hx
 | cons y qb ih =>
  rw [List.pairwise_cons] at hs
  rw [List.find?_cons]
  rcases List.mem_cons.1 hx with rfl | hx'
  ·simp
  ·have hne : aT u y.1 ≠ aT u x.1 := fun e => by
    have h1 := xz hu (hr y (by simp)) (hr x hx) e
    have h2 := hs.1 x hx'
    omega
   rw [decide_eq_false hne]
   exact ih ⟨hs.2, fun z hz => hr z (by simp [hz])⟩ hx' hs.2 fun z hz => hr z (by simp [hz])
theorem YP {d : ah} {m : aX} {u : Nat} {qb : List (Nat × List UInt8)} {bound : Int} (h : cL d m) (hl : Live d) (hm : jj u qb m) (hq : nB qb) (hu : 1 ≤ u ∧ u ≤ 999) (hb : 1 ≤ bound) :
  ∃ d', P.fe d u bound = (d', some ⟨u, bound, P.next ((ec qb).dropWhile fun c => decide (c.seq < P.base (ec qb))), (ec qb).dropWhile fun c => decide (c.seq < P.base (ec qb))⟩, 0) := by
 have hin : ∀ e ∈ d.now, m e.Name = some (P.dat d e) := fun e he => by
  rw [← h.dy]
  unfold dL
  have hf := nH h.good (n := e.Name) (i := e.aO) he
  have hr := h.good.cQ e he
  rw [hf, if_neg (by omega)]
  rfl
 have hc : ∀ e ∈ d.now, R.pre e.Name (ba (front u)) = true → R.gU e.Name R.gl = false → ∃ x ∈ qb, e.Name = aT u x.1 ∧ x.2 = P.dat d e := fun e he hp hs => by
  have := hin e he
  rw [hm _ hp hs, Option.map_eq_some_iff] at this
  obtain ⟨x, hx, hx2⟩ := this
  have h1 := List.find?_some hx
  simp only [decide_eq_true_eq] at h1
  exact ⟨x, List.mem_of_find?_eq_some hx, h1.symm, hx2⟩
 obtain ⟨ns, hns⟩ : ∃ ns, ns = R.gJ (d.now.map (·.Name)) (ba (front u)) := ⟨_, rfl⟩
 have hnsm : ∀ n, n ∈ ns ↔ n ∈ d.now.map (·.Name) ∧ R.pre n (ba (front u)) = true ∧ R.gU n R.gl = true := fun n => by
  rw [hns]; unfold R.gJ; rw [List.mem_filter, Bool.and_eq_true]
 have hnd : ns.Nodup := by
  rw [hns]
  unfold R.gJ
  refine List.Pairwise.filter _ ?_
  refine List.Pairwise.imp (R := fun a b => slt a b = true) (fun {a b} hab e => ?_) ?_
  ·rw [e, ic] at hab; cases hab
  ·rw [List.pairwise_map]; exact h.good.sorted
 obtain ⟨t1, t2, t3, t4⟩ := GO ns hl hnd fun n hn => by
  obtain ⟨e, he, rfl⟩ := List.mem_map.1 ((hnsm n).1 hn).1
  have := h.good.cQ e he
  rw [nH h.good (n := e.Name) (i := e.aO) he]; omega
 have htidy : R.tidy d (ba (front u)) = R.dW d ns := by unfold R.tidy; rw [if_neg (by rw [hl.up]; decide), hns]
 generalize R.dW d ns = t at *
 obtain ⟨es, hes⟩ : ∃ es, es = t.1.now.filter fun e => R.pre e.Name (ba (front u)) := ⟨_, rfl⟩
 have hmem : ∀ e, e ∈ es ↔ e ∈ d.now ∧ R.pre e.Name (ba (front u)) = true ∧ R.gU e.Name R.gl = false := fun e => by
  rw [hes, List.mem_filter, t4, List.mem_filter]
  constructor
  ·rintro ⟨⟨h1, h2⟩, h3⟩
   refine ⟨h1, h3, ?_⟩
   cases hs : R.gU e.Name R.gl with
   | false => rfl
   | true =>
    have := List.all_eq_true.1 h2 _ ((hnsm e.Name).2 ⟨List.mem_map_of_mem h1, h3, hs⟩)
    simp at this
  ·rintro ⟨h1, h2, h3⟩
   refine ⟨⟨h1, ?_⟩, h2⟩
   have : e.Name ∉ ns := fun hn => by have := ((hnsm _).1 hn).2.2; rw [h3] at this; cases this
   rw [List.all_eq_true]
   intro n hn
   have hne : e.Name ≠ n := fun h => this (h ▸ hn)
   simp [hne]
 have hnames : es.map (·.Name) = qb.map fun x => aT u x.1 := by
  refine zf ?_ ?_ fun n => ⟨fun hn => ?_, fun hn => ?_⟩
  ·rw [List.pairwise_map, hes, t4, List.filter_filter]
   exact h.good.sorted.filter _
  ·rw [List.pairwise_map]
   exact hq.sorted.imp_of_mem fun {a b} ha hb' hab => L3 hu (hq.cQ a ha) (hq.cQ b hb') hab
  ·obtain ⟨e, he, rfl⟩ := List.mem_map.1 hn
   obtain ⟨he, hp, hs⟩ := (hmem e).1 he
   obtain ⟨x, hx, h3, _⟩ := hc e he hp hs
   exact List.mem_map.2 ⟨x, hx, h3.symm⟩
  ·obtain ⟨x, hx, rfl⟩ := List.mem_map.1 hn
   have hxr := hq.cQ x hx
   have hp := ou hu hxr
   have hs := xJ hu hxr
   have hv : m (aT u x.1) = some x.2 := by rw [hm _ hp hs, zZ hu hq hx]; rfl
   obtain ⟨j, f, _, _, _, _, _, hj⟩ := h.file hv
   exact List.mem_map.2 ⟨_, (hmem _).2 ⟨hj, hp, hs⟩, rfl⟩
 have hel : es.length = qb.length := by
  have := congrArg List.length hnames
  simpa using this
 have hdat : ∀ e, P.dat t.1 e = P.dat d e := fun e => by unfold P.dat; rw [t3]
 have hconts : P.eH t.1 u t.1.now = some (ec qb) := by
  rw [vb, ← hes]
  refine LU hu qb es hq.cQ hel fun j e x he hxj => ?_
  have hn : e.Name = aT u x.1 := by
   have h1 : (es.map (·.Name))[j]? = some e.Name := by rw [List.getElem?_map, he]; rfl
   rw [hnames, List.getElem?_map, hxj] at h1
   exact (Option.some.inj h1).symm
  refine ⟨hn, ?_⟩
  have he' := (hmem e).1 (List.mem_of_getElem? he)
  have := hin e he'.1
  rw [hm _ he'.2.1 he'.2.2, hn, zZ hu hq (List.mem_of_getElem? hxj)] at this
  rw [hdat]
  exact (Option.some.inj this).symm
 unfold P.fe
 have hut : ((u : Nat) : Int).toNat = u := Int.toNat_natCast u
 have hdl := EP (u := u) (from_ := P.base (ec qb)) (ec qb) t2
 rw [if_neg (by rw [hl.up]; decide), if_neg (by omega), hut, htidy, if_neg (by rw [t1]; simp), hconts]
 simp only
 have h21 := congrArg Prod.fst hdl
 have h22 := congrArg Prod.snd hdl
 simp only at h21 h22
 rw [if_neg (by rw [h21]; simp), h22]
 exact ⟨_, rfl⟩
end Go.Ph
end
section
set_option linter.all false
namespace Go.Ph
def jo (u : Nat) (F : List RecM) (m : aX) : Prop := ∃ qb, jj u qb m ∧ nB qb ∧ qb.length ≤ 2000 ∧ fN ((ec qb).dropWhile fun c => decide (c.seq < P.base (ec qb))) = F ∧ P.ig ((ec qb).dropWhile fun c => decide (c.seq < P.base (ec qb))) = 0
def gw (m : aX) : Prop := ∀ n, m n ≠ none → n.size ≤ 32
theorem gw.bG {m : aX} (h : gw m) {n : ByteArray} (hn : n.size ≤ 32) (v : Option (List UInt8)) : gw (bG m n v) := fun x hx => by
 by_cases e : x = n
 ·rw [e]; exact hn
 ·rw [kR _ _ e] at hx; exact h x hx
theorem gw.nm {d : ah} {m : aX} (h : cL d m) (hn : gw m) : Nm d := fun e he => hn e.Name (by
 rw [← h.dy]
 unfold dL
 have hf := nH h.good (n := e.Name) (i := e.aO) he
 have hr := h.good.cQ e he
 rw [hf, if_neg (by omega)]
 simp)
def eu : Nat → List (List RecM) → List (Nat × List UInt8)
 | _, [] => []
 | q, r :: rs => (q, aQ r) :: eu (q + 1) rs
theorem za : ∀ (cs : List (List RecM)) (q : Nat), (eu q cs).length = cs.length
 | [], q => rfl
 | r :: cs, q => by rw [eu, List.length_cons, List.length_cons, za]
theorem wF : ∀ (cs : List (List RecM)) (q i : Nat), (eu q cs)[i]? = (cs[i]?).map fun r => (q + i, aQ r)
 | [], q, i => by simp [eu]
 | r :: cs, q, 0 => by simp [eu]
 | r :: cs, q, i + 1 => by
  rw [eu, List.getElem?_cons_succ, List.getElem?_cons_succ, wF cs (q + 1) i, show q + 1 + i = q + (i + 1) by omega]
theorem mD {cs : List (List RecM)} {q : Nat} {x : Nat × List UInt8} (h : x ∈ eu q cs) : q ≤ x.1 ∧ x.1 < q + cs.length ∧ ∃ r ∈ cs, x.2 = aQ r := by
 obtain ⟨i, hi⟩ := List.mem_iff_getElem?.1 h
 rw [wF, Option.map_eq_some_iff] at hi
 obtain ⟨r, hr, rfl⟩ := hi
 have := (List.getElem?_eq_some_iff.1 hr).1
 exact ⟨by simp only; omega, by simp only; omega, r, List.mem_of_getElem? hr, rfl⟩
theorem sy : ∀ (cs : List (List RecM)) (q : Nat), (eu q cs).Pairwise fun a b => a.1 < b.1
 | [], q => List.Pairwise.nil
 | r :: cs, q => by
  rw [eu, List.pairwise_cons]
  exact ⟨fun x hx => by have := mD hx; simp only; omega, sy cs (q + 1)⟩
theorem DI : ∀ (cs : List (List RecM)) (q : Nat), ec (eu q cs) = cY q (cs.map aQ)
 | [], q => rfl
 | r :: cs, q => by
  have := DI cs (q + 1)
  unfold ec at this ⊢
  rw [eu, List.map_cons, List.map_cons, cY, this]
  rfl
theorem fW.Z0 {u : Nat} {cs : List (List RecM)} {m : aX} (hu : 1 ≤ u ∧ u ≤ 999) (hl : cs.length ≤ 99999998) (h : fW u (cs.map aQ) m) : jj u (eu 1 cs) m := by
 intro n hp _
 rw [h n hp]
 have hq : nB (eu 1 cs) := ⟨sy cs 1, fun x hx => by have := mD hx; omega⟩
 cases hf : (eu 1 cs).find? fun x => decide (aT u x.1 = n) with
 | some x =>
  have h1 := List.find?_some hf
  simp only [decide_eq_true_eq] at h1
  have hm := List.mem_of_find?_eq_some hf
  have hr := hq.cQ x hm
  obtain ⟨i, hi⟩ := List.mem_iff_getElem?.1 hm
  rw [wF, Option.map_eq_some_iff] at hi
  obtain ⟨r, hr1, rfl⟩ := hi
  rw [← h1, nF hu hr]
  simp only [Nat.add_sub_cancel_left, List.getElem?_map, hr1]
  rfl
 | none =>
  cases hv : iT u (cs.map aQ) n with
  | none => rfl
  | some b =>
   obtain ⟨q, h1, h2, h3, _, h5⟩ := rC hv
   rw [List.length_map] at h2
   have := List.find?_eq_none.1 hf (q, aQ cs[q - 1]) (by
    refine List.mem_iff_getElem?.2 ⟨q - 1, ?_⟩
    rw [wF, List.getElem?_eq_getElem (by omega)]
    simp only [Option.map_some]
    congr 2
    omega)
   simp [h3] at this
theorem BU (n : ByteArray) : (R.cE n).data.toList = n.data.toList ++ R.gl.data.toList := by
 unfold R.cE
 rw [ByteArray.data_append, Array.toList_append]
theorem Dh (n : ByteArray) : (R.cE n).size = n.size + 2 := by
 unfold R.cE
 rw [ByteArray.size_append]; rfl
theorem Gx (n : ByteArray) : R.gU (R.cE n) R.gl = true := by
 unfold R.gU
 have h2 : R.gl.size = 2 := rfl
 simp only [Bool.and_eq_true, decide_eq_true_eq]
 rw [Dh, h2]
 refine ⟨by omega, ?_⟩
 apply ByteArray.ext
 apply Array.ext'
 have hn : n.size = n.data.toList.length := (dw n).symm
 rw [nr, BU, Nat.add_sub_cancel, hn, List.drop_left, List.take_of_length_le (by rw [dw]; omega)]
theorem Rc {u : Nat} {bs : List (List UInt8)} {m : aX} {n : ByteArray} (hu : 1 ≤ u ∧ u ≤ 999) (hl : bs.length ≤ 99999999) (h : fW u bs m) (hp : R.pre (R.cE n) (ba (front u)) = true) : m (R.cE n) = none := by
 rw [h _ hp]
 cases hv : iT u bs (R.cE n) with
 | none => rfl
 | some b =>
  obtain ⟨q, h1, h2, h3, _⟩ := rC hv
  have h4 := xJ hu (q := q) (by omega)
  rw [← h3, Gx] at h4
  cases h4
theorem aeY {n p : ByteArray} (h : R.pre n p = true) : R.pre (R.cE n) p = true := by
 rw [vP, decide_eq_true_eq] at h ⊢
 rw [BU]
 obtain ⟨t, ht⟩ := h
 exact ⟨t ++ R.gl.data.toList, by rw [← ht, List.append_assoc]⟩
theorem S1 {r : List RecM} {q : Int} (h : ∀ y ∈ r, fO y) : P.fA q (aQ r) = ⟨q, (aQ r).length, 0, dF 0 r⟩ := by
 unfold P.fA
 have h1 := BN r h
 unfold broken
 rw [h1, Cg]
 congr 1
 omega
theorem agp {x : RecM} (h : fO x) : cj x = 0 := by
 unfold cj
 rw [if_neg h.ne]
 have ha : (layout x.kind).all (fC x.f) = true := by
  rw [List.all_eq_true]
  intro p hp
  have := h.all p hp
  unfold fC
  simp only [Bool.and_eq_true, decide_eq_true_eq]
  exact this
 rw [if_neg (by rw [ha]; decide), if_neg (by have := h.data; omega), if_pos ?_]
 unfold gL
 rw [decide_eq_true_eq]
 refine ⟨h.bare, ?_⟩
 split
 ·rfl
 ·rename_i h6; exact h.d6 h6
theorem Oq {l : List bM} {c : bM} {n : Int} {W : List ey} {f : ey} (hl : xZ (fN l)) (hc : c.l = f :: W) (hk : f.x.kind = 1) (hb : lB f.x = n) (hs : c.seq = n) (hn : 0 ≤ n) (hW : ∀ g ∈ W, g.x.kind ≠ 1) : P.base (l ++ [c]) = n := by
 have h0 := BJ l hl
 unfold P.base at h0 ⊢
 rw [List.foldl_append, h0]
 simp only [List.foldl_cons, List.foldl_nil]
 unfold P.uQ
 rw [hc, List.foldl_cons]
 have h1 : P.iB c.seq 0 f = n := by
  unfold P.iB
  rw [if_pos ⟨hk, by rw [hb, hs]; exact Int.le_refl _⟩, hb]
  omega
 rw [h1]
 clear hc h1
 induction W with
 | nil => rfl
 | cons g W ih =>
  rw [List.foldl_cons]
  have : P.iB c.seq n g = n := by unfold P.iB; rw [if_neg (fun h => hW g (by simp) h.1)]
  rw [this]
  exact ih fun g hg => hW g (by simp [hg])
theorem aau {l : List bM} {c : bM} {n : Int} (hl : ∀ x ∈ l, x.seq < n) (hc : c.seq = n) : (l ++ [c]).dropWhile (fun c => decide (c.seq < n)) = [c] := by
 induction l with
 | nil => simp [hc]
 | cons x l ih =>
  rw [List.cons_append, List.dropWhile_cons, if_pos (by simpa using hl x (by simp))]
  exact ih fun y hy => hl y (by simp [hy])
end Go.Ph
end

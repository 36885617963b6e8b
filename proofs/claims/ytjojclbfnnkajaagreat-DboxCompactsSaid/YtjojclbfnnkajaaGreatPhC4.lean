/- Parts of the proof that pigeonholelaw18.DboxCompacts returns true at every input and leaves the input as it was: what the words of the functions tell, part 4. -/
import Derived.Test.YtjojclbfnnkajaaGreatPhC3
section
set_option linter.all false
namespace Go.Ph
theorem Tr {x : RecM} (h : fO x) (hd : x.data = []) : (bB x).length ≤ 77 := by
 have hp : (ek x).length ≤ 29 := by
  unfold ek
  rw [List.length_append, oZ, hd]
  have := wP x.kind
  simpa using this
 unfold bB wrap
 have := uc (UInt8.ofNat x.kind.toNat :: (aW (ek x).length 4 ++ (aW (crc 0#32 (UInt8.ofNat x.kind.toNat :: (aW (ek x).length 4 ++ ek x))).toNat 4 ++ ek x)))
 simp only [List.length_cons, List.length_append, dN] at this ⊢
 omega
theorem GL : ∀ (l : List RecM), (∀ y ∈ l, fO y ∧ y.data = []) → (aQ l).length ≤ 77 * l.length
 | [], _ => by simp [aQ]
 | y :: l, h => by
  have h1 := GL l fun z hz => h z (by simp [hz])
  have h2 := Tr (h y (by simp)).1 (h y (by simp)).2
  have : aQ (y :: l) = bB y ++ aQ l := by unfold aQ; rw [List.flatMap_cons]
  rw [this, List.length_append, List.length_cons]
  omega
theorem AS : ∀ (l : List bM), (∀ c ∈ l, c.broken = 0) → P.ig l = 0
 | [], _ => rfl
 | c :: l, h => by
  have := AS l fun x hx => h x (by simp [hx])
  unfold P.ig at this ⊢
  rw [List.map_cons, List.sum_cons, this, h c (by simp)]
  rfl
theorem CH : ∀ (cs : List (List RecM)) (q : Int), (∀ r ∈ cs, r ≠ [] ∧ ∀ y ∈ r, Wr y) → ∀ c ∈ cY q (cs.map aQ), c.broken = 0 ∧ c.seq < q + cs.length
 | [], q, _, c, h => by cases h
 | r :: cs, q, hr, c, h => by
  rw [List.map_cons, cY] at h
  rcases List.mem_cons.1 h with rfl | h
  ·rw [um q (hr r (by simp)).2]
   exact ⟨rfl, by simp only [List.length_cons]; omega⟩
  ·have := CH cs (q + 1) (fun r hr' => hr r (by simp [hr'])) c h
   rw [List.length_cons]
   exact ⟨this.1, by omega⟩
theorem Qb {l : List bM} (h : ∀ c ∈ l, 0 ≤ c.seq) : l.dropWhile (fun c => decide (c.seq < 0)) = l := by
 cases l with
 | nil => rfl
 | cons c l => rw [List.dropWhile_cons, if_neg (by have := h c (by simp); simpa using this)]
theorem FE {u : Nat} {cs : List (List RecM)} {m : aX} (hr : ∀ r ∈ cs, r ≠ [] ∧ ∀ y ∈ r, Wr y) (hl : cs.length ≤ 1000) (hm : jj u (eu 1 cs) m) : jo u cs.flatten m := by
 refine ⟨eu 1 cs, hm, ⟨sy cs 1, fun x hx => by have := mD hx; omega⟩, by rw [za]; omega, ?_⟩
 have hc := CH cs 1 hr
 have hwr : ∀ y ∈ cs.flatten, Wr y := fun y hy => by
  obtain ⟨r, h1, h2⟩ := List.mem_flatten.1 hy
  exact (hr r h1).2 y h2
 have hrec : fN (cY 1 (cs.map aQ)) = cs.flatten := by rw [qd, lT hr]
 have hb : P.base (cY 1 (cs.map aQ)) = 0 := BJ _ (by rw [hrec]; exact Af hwr)
 have hq : ec (eu 1 cs) = cY 1 (cs.map aQ) := DI cs 1
 rw [hq, hb, Qb fun c hc' => by have := Ai _ _ c hc'; omega]
 exact ⟨hrec, AS _ fun c hc' => (hc c hc').1⟩
theorem openNew {u : Nat} {cs : List (List RecM)} {m : aX} {q N : Nat} {L : List RecM} {h0 : RecM} (hr : ∀ r ∈ cs, r ≠ [] ∧ ∀ y ∈ r, Wr y) (hl : cs.length ≤ 1000) (hq : 1 ≤ q) (hN : q + cs.length ≤ N) (hN2 : N ≤ 99999999) (hL : ∀ y ∈ h0 :: L, fO y) (hk : h0.kind = 1) (hb : lB h0 = N) (hLk : ∀ y ∈ L, y.kind ≠ 1) (hm : jj u (eu q cs ++ [(N, aQ (h0 :: L))]) m) : jo u (h0 :: L) m := by
 refine ⟨_, hm, ⟨?_, fun x hx => ?_⟩, by rw [List.length_append, za]; simp; omega, ?_⟩
 ·rw [List.pairwise_append]
  refine ⟨sy cs q, by simp, fun a ha b hb' => ?_⟩
  simp at hb'
  have := mD ha
  rw [hb']; simp only; omega
 ·rcases List.mem_append.1 hx with hx | hx
  ·have := mD hx; omega
  ·simp at hx; rw [hx]; simp only; omega
 ·have hc := CH cs q hr
  have hwr : ∀ y ∈ cs.flatten, Wr y := fun y hy => by
   obtain ⟨r, h1, h2⟩ := List.mem_flatten.1 hy
   exact (hr r h1).2 y h2
  have hrec : fN (cY q (cs.map aQ)) = cs.flatten := by rw [qd, lT hr]
  have hcq : ec (eu q cs ++ [(N, aQ (h0 :: L))]) = cY q (cs.map aQ) ++ [P.fA N (aQ (h0 :: L))] := by
   have := DI cs q
   unfold ec at this ⊢
   rw [List.map_append, this]; rfl
  have hcf := S1 (q := (N : Int)) hL
  have hbase : P.base (cY q (cs.map aQ) ++ [P.fA N (aQ (h0 :: L))]) = N := by
   rw [hcf]
   refine Oq (f := ⟨0, (bB h0).length, h0⟩) (W := dF (0 + (bB h0).length) L) (by rw [hrec]; exact Af hwr) rfl hk hb rfl (by omega) fun g hg => ?_
   have : g.x ∈ (dF (0 + (bB h0).length) L).map (·.x) := List.mem_map_of_mem hg
   rw [pL] at this
   exact hLk _ this
  rw [hcq, hbase, aau (n := (N : Int)) (fun c hc' => by have := (hc c hc').2; omega) rfl, hcf]
  refine ⟨?_, AS _ fun c hc' => by simp at hc'; rw [hc']⟩
  unfold fN
  simp [pL]
theorem Qy {u q : Nat} {b : List UInt8} {qb : List (Nat × List UInt8)} {m : aX} (hu : 1 ≤ u ∧ u ≤ 999) (hq : nB ((q, b) :: qb)) (h : jj u ((q, b) :: qb) m) : jj u qb (bG m (aT u q) none) := by
 intro n hp hs
 have hqr := hq.cQ (q, b) (by simp)
 by_cases hn : n = aT u q
 ·rw [hn, oo]
  have : qb.find? (fun x => decide (aT u x.1 = aT u q)) = none := by
   rw [List.find?_eq_none]
   intro x hx
   have h1 := hq.sorted
   rw [List.pairwise_cons] at h1
   have h2 := h1.1 x hx
   have h3 := hq.cQ x (by simp [hx])
   simp only [decide_eq_true_eq]
   intro e
   have := xz hu h3 hqr e
   simp only at h2
   omega
  rw [this]; rfl
 ·rw [kR _ _ hn, h n hp hs, List.find?_cons, decide_eq_false (fun e => hn e.symm)]
def oJ (u N : Nat) (b : List UInt8) (cs0 : List (List RecM)) (m : aX) : Prop := gw m ∧ ∃ q cs, (∀ r ∈ cs, r ∈ cs0) ∧ cs.length ≤ cs0.length ∧ 1 ≤ q ∧ q + cs.length ≤ N ∧ jj u (eu q cs ++ [(N, b)]) m
theorem oJ.sub {u N : Nat} {b : List UInt8} {cs0 cs1 : List (List RecM)} {m : aX} (h : oJ u N b cs1 m) (hs : ∀ r ∈ cs1, r ∈ cs0) (hl : cs1.length ≤ cs0.length) : oJ u N b cs0 m := by
 obtain ⟨h1, q, cs, h2, h3, h4⟩ := h
 exact ⟨h1, q, cs, fun r hr => hs r (h2 r hr), by omega, h4⟩
theorem Lg {u N : Nat} {b : List UInt8} {s : Int} {k : Nat} (hu : 1 ≤ u ∧ u ≤ 999) (hN2 : N ≤ 99999999) : ∀ (cs : List (List RecM)) (q : Nat) (d : ah) (m : aX), cL d m → d.down = false → gw m → Rm d s k → 1 ≤ q → q + cs.length ≤ N → jj u (eu q cs ++ [(N, b)]) m →
  ((P.gQ u d (cY q (cs.map aQ))).down = false ∧ ∃ m', cL (P.gQ u d (cY q (cs.map aQ))) m' ∧ oJ u N b cs m') ∨ dg (P.gQ u d (cY q (cs.map aQ))) (oJ u N b cs)
 | [], q, d, m, h, hd, hn, hr, hq, hN, hm => .inl ⟨hd, m, h, hn, q, [], fun r hr => hr, Nat.le_refl _, hq, hN, hm⟩
 | r :: cs, q, d, m, h, hd, hn, hr, hq, hN, hm => by
  rw [List.length_cons] at hN
  have hqo : nB (eu q (r :: cs) ++ [(N, b)]) := by
   refine ⟨?_, fun x hx => ?_⟩
   ·rw [List.pairwise_append]
    refine ⟨sy _ q, by simp, fun a ha c hc => ?_⟩
    simp at hc
    have := mD ha
    rw [List.length_cons] at this
    rw [hc]; simp only; omega
   ·rcases List.mem_append.1 hx with hx | hx
    ·have := mD hx; rw [List.length_cons] at this; omega
    ·simp at hx; rw [hx]; simp only; omega
  have hqb : eu q (r :: cs) ++ [(N, b)] = (q, aQ r) :: (eu (q + 1) cs ++ [(N, b)]) := rfl
  have hqr : 1 ≤ q ∧ q ≤ 99999999 := by omega
  have hv : m (aT u q) = some (aQ r) := by
   rw [hm _ (ou hu hqr) (xJ hu hqr)]
   have := zZ hu hqo (x := (q, aQ r)) (by rw [hqb]; simp)
   simp only at this
   rw [this]; rfl
  rw [hqb] at hqo hm
  have hm2 := Qy hu hqo hm
  have hn2 : gw (bG m (aT u q) none) := hn.bG (by rw [kQ hu hqr]; decide) _
  have here : oJ u N b (r :: cs) m := ⟨hn, q, r :: cs, fun r hr => hr, Nat.le_refl _, hq, by rw [List.length_cons]; omega, by rw [hqb]; exact hm⟩
  rw [List.map_cons, cY, P.gQ]
  have hseq : (P.fA (q : Int) (aQ r)).seq = q := rfl
  rw [hseq]
  rcases Ub h hd hv hr with ⟨h1, h2⟩ | ⟨h1, h2, h3, h4⟩
  ·rw [if_pos (by rw [h1]; decide)]
   refine .inr (h2.imp fun m' e => ?_)
   rcases e with rfl | rfl
   ·exact here
   ·exact ⟨hn2, q + 1, cs, fun r hr => by simp [hr], by simp, by omega, by omega, hm2⟩
  ·rw [if_neg (by rw [h1]; decide)]
   have ih := Lg hu hN2 cs (q + 1) _ _ h3 h2 hn2 h4 (by omega) (by omega) hm2
   have hcast : ((q + 1 : Nat) : Int) = (q : Int) + 1 := by omega
   rw [hcast] at ih
   rcases ih with ⟨g1, m', g2, g3⟩ | g
   ·exact .inl ⟨g1, m', g2, g3.sub (fun r hr => by simp [hr]) (by simp)⟩
   ·exact .inr (g.imp fun m' g => g.sub (fun r hr => by simp [hr]) (by simp))
theorem acg {u q : Nat} (hu : 1 ≤ u ∧ u ≤ 999) (hq : 1 ≤ q ∧ q ≤ 99999999) : eF (R.cE (aT u q)) = true := by
 have h := CQ hu hq
 unfold eF at h ⊢
 simp only [Bool.and_eq_true, decide_eq_true_eq, List.all_eq_true] at h ⊢
 rw [Dh, kQ hu hq, BU]
 refine ⟨⟨by decide, by decide⟩, fun c hc => ?_⟩
 rcases List.mem_append.1 hc with hc | hc
 ·exact h.2 c hc
 ·have : c = 46 ∨ c = 110 := by simpa [R.gl] using hc
  rcases this with rfl | rfl <;> decide
set_option maxRecDepth 20000 in
theorem aad {u : Nat} {d : ah} {x : BoxM} {m : aX} {cs : List (List RecM)} {s : Int} {k : Nat} {W : List RecM} (h : Bx u d x m cs s (k + 1)) (hn : gw m) (hl : cs.length < 1000) (hW : ∀ y ∈ W, bS y = true ∧ Wr y) (hWl : W.length ≤ 100) (hs : 10000 ≤ s) :
  ((P.gn d x W).2.2 = 11 ∧ dg (P.gn d x W).1 (fun m' => gw m' ∧ (jo u cs.flatten m' ∨ jo u (P.dD x W) m'))) ∨
  ((P.gn d x W).2.2 = 0 ∧ (((P.gn d x W).1.down = false ∧ ∃ m', cL (P.gn d x W).1 m' ∧ gw m' ∧ jo u (P.dD x W) m') ∨ dg (P.gn d x W).1 (fun m' => gw m' ∧ jo u (P.dD x W) m'))) := by
 have hnx := h.nx
 have hseq : P.bI x.l + 1 = ((cs.length + 1 : Nat) : Int) := by rw [h.l, Jv, List.length_map]; omega
 have hcl : P.dD x W = P.cW x ((cs.length + 1 : Nat) : Int) ((cs.length + 1 : Nat) : Int) :: W := by unfold P.dD; rw [hseq]
 have hc : cj (P.cW x ((cs.length + 1 : Nat) : Int) ((cs.length + 1 : Nat) : Int)) = 0 := by
  have hu := h.hu
  have hus := h.user
  exact Mp (by omega) (by omega) hnx (by omega)
 have hchk : ∀ y ∈ P.dD x W, fO y ∧ y.data = [] := fun y hy => by
  rw [hcl] at hy
  rcases List.mem_cons.1 hy with rfl | hy
  ·exact ⟨iX hc, rfl⟩
  ·exact ⟨(hW y hy).2.mh, (hW y hy).2.data⟩
 have hsz := GL _ hchk
 have hll : (P.dD x W).length = W.length + 1 := rfl
 have hany : W.any P.gX = false := by
  cases e : W.any P.gX with
  | false => rfl
  | true =>
   obtain ⟨y, hy, hb⟩ := List.any_eq_true.1 e
   unfold P.gX at hb
   rw [(hW y hy).1, agp (hW y hy).2.mh] at hb
   simp at hb
 have hN : 1 ≤ cs.length + 1 ∧ cs.length + 1 ≤ 99999999 := by omega
 have hpre := ou h.hu hN
 have hnone : m (R.cE (aT u ((cs.length + 1 : Nat) : Int))) = none := Rc h.hu (by rw [List.length_map]; omega) h.im (aeY hpre)
 have hcq := h.im.Z0 h.hu (by omega)
 have hold : jo u cs.flatten m := FE h.rs (by omega) hcq
 have new : ∀ {cs1 : List (List RecM)} {m' : aX} {q : Nat}, (∀ r ∈ cs1, r ∈ cs) → cs1.length ≤ cs.length → 1 ≤ q → q + cs1.length ≤ cs.length + 1 → jj u (eu q cs1 ++ [(cs.length + 1, aQ (P.dD x W))]) m' → jo u (P.dD x W) m' := fun {cs1 m' q} h1 h2 h3 h4 h5 => by
  rw [hcl] at h5 ⊢
  refine openNew (fun r hr => h.rs r (h1 r hr)) (by omega) h3 h4 hN.2 (fun y hy => (hchk y (by rw [hcl]; exact hy)).1) rfl rfl (fun y hy => ?_) h5
  have := (hW y hy).1
  unfold bS at this
  simp only [Bool.or_eq_true, decide_eq_true_eq] at this
  omega
 have hcq2 : jj u (eu 1 cs ++ [(cs.length + 1, aQ (P.dD x W))]) (bG m (aT u ((cs.length + 1 : Nat) : Int)) (some (aQ (P.dD x W)))) := by
  intro n hp hsf
  rw [List.find?_append]
  by_cases hn' : n = aT u ((cs.length + 1 : Nat) : Int)
  ·rw [hn', oo]
   have hf : (eu 1 cs).find? (fun y => decide (aT u y.1 = aT u ((cs.length + 1 : Nat) : Int))) = none := by
    rw [List.find?_eq_none]
    intro y hy
    have hr := mD hy
    simp only [decide_eq_true_eq]
    intro e
    have := xz h.hu (i := y.1) (j := cs.length + 1) (by omega) hN e
    omega
   rw [hf]
   simp
  ·rw [kR _ _ hn', hcq n hp hsf]
   simp only [List.find?_cons, List.find?_nil]
   rw [decide_eq_false (fun e => hn' e.symm)]
   simp
 unfold P.gn
 rw [hseq, if_neg (by rw [hany]; simp; omega), if_neg (by rw [hc]; decide), if_neg (by omega)]
 have hcs : P.kI d x W = R.swap d (aT u ((cs.length + 1 : Nat) : Int)) ⟨(aQ (P.dD x W)).toArray⟩ := by unfold P.kI; rw [hseq, h.user]; rfl
 rw [hcs]
 have hn2 : gw (bG m (aT u ((cs.length + 1 : Nat) : Int)) (some (aQ (P.dD x W)))) := hn.bG (by rw [kQ h.hu hN]; decide) _
 rcases aeo (b := aQ (P.dD x W)) h.st h.up hnone (acg h.hu hN) (CQ h.hu hN) (by rw [kQ h.hu hN]; decide) h.rm (by omega) with ⟨h1, h2⟩ | ⟨h1, h2, h3, h4⟩
 ·rw [if_pos (by rw [h1]; decide)]
  refine .inl ⟨h1, h2.imp fun m' e => ?_⟩
  rcases e with rfl | ⟨k, rfl⟩ | rfl
  ·exact ⟨hn, .inl hold⟩
  ·refine ⟨hn.bG (by rw [Dh, kQ h.hu hN]; decide) _, .inl (FE h.rs (by omega) fun n hp hsf => ?_)⟩
   rw [kR _ _ fun e => by rw [e, Gx] at hsf; cases hsf]
   exact hcq n hp hsf
  ·exact ⟨hn2, .inr (new (fun r hr => hr) (Nat.le_refl _) (Nat.le_refl _) (by omega) hcq2)⟩
 ·rw [if_neg (by rw [h1]; decide)]
  refine .inr ⟨rfl, ?_⟩
  simp only
  rw [h.user, h.l]
  have := Lg (N := cs.length + 1) (b := aQ (P.dD x W)) h.hu hN.2 cs 1 _ _ h3 h2 hn2 h4 (Nat.le_refl _) (by omega) hcq2
  rcases this with ⟨g1, m', g2, g3, q, c1, g4, g5, g6, g7, g8⟩ | g
  ·exact .inl ⟨g1, m', g2, g3, new g4 g5 g6 g7 g8⟩
  ·exact .inr (g.imp fun m' ⟨g3, q, c1, g4, g5, g6, g7, g8⟩ => ⟨g3, new g4 g5 g6 g7 g8⟩)
end Go.Ph
end
section
set_option linter.all false
namespace Go.Ph
open S
def ie (l : List fY) (n : Int) (i : Nat) : List RecM := (List.range i).flatMap fun j => match l[j]? with | some x => if n < 2 ∨ Int.tmod (j : Nat) n ≠ 0 then [x.x] else [] | none => []
theorem CC {l : List fY} {n : Int} {i : Nat} {x : fY} (h : l[i]? = some x) : ie l n (i + 1) = ie l n i ++ if n < 2 ∨ Int.tmod (i : Nat) n ≠ 0 then [x.x] else [] := by
 unfold ie
 rw [List.range_succ, List.flatMap_append]
 simp only [List.flatMap_cons, List.flatMap_nil, List.append_nil, h]
theorem Be (l : List fY) (n : Int) : ∀ i, (ie l n i).length ≤ i
 | 0 => by simp [ie]
 | i + 1 => by
  have ih := Be l n i
  cases h : l[i]? with
  | some x => rw [CC h, List.length_append]; split <;> simp <;> omega
  | none =>
   have : ie l n (i + 1) = ie l n i := by
    unfold ie
    rw [List.range_succ, List.flatMap_append]
    simp only [List.flatMap_cons, List.flatMap_nil, List.append_nil, h]
   rw [this]; omega
theorem XC {l : List fY} {n : Int} {i : Nat} {y : RecM} (h : y ∈ ie l n i) : y ∈ l.map (·.x) := by
 unfold ie at h
 obtain ⟨j, _, hj⟩ := List.mem_flatMap.1 h
 split at hj
 ·rename_i x hx
  split at hj
  ·simp at hj; subst hj; exact List.mem_map_of_mem (List.mem_of_getElem? hx)
  ·cases hj
 ·cases hj
theorem JV {l : List fY} {n : Int} (hn : n < 2) : ∀ i, i ≤ l.length → ie l n i = (l.take i).map (·.x)
 | 0, _ => rfl
 | i + 1, h => by
  have hx : l[i]? = some l[i] := List.getElem?_eq_getElem (by omega)
  rw [CC hx, if_pos (.inl hn), JV hn i (by omega), List.take_add_one, hx, List.map_append]
  rfl
theorem Fk {s : St} {l : List fY} {sl : Sl} {n : Int} {K : Sl → HP} (h : Ls mA (s.w 0) l sl) (hl : l.length ≤ 10000000) (hK : ∀ s' o, Step [] s s' → Ls gT (s'.w 0) (ie l n l.length) o → K o s'.H) : nV sl n K s.H := by
 unfold nV
 have hlen := h.len
 refine cD (ι := Sl × Nat) (fun y => [.slice y.1.a y.1.len y.1.cap, .int .i64 y.2]) (fun y s' => y.2 ≤ l.length ∧ Step [own s] s s' ∧ bF gT (own s) s' (ie l n y.2) y.1) (fun y _ => l.length - y.2) (⟨none, 0, 0⟩, 0) rfl ⟨Nat.zero_le _, Step.refl, bF.nil⟩ ?_
 rintro ⟨o, i⟩ s1 ⟨hi, e1, b1⟩ G hG
 simp only [List.getD_cons_zero, List.getD_cons_succ, cI, cN, cK, cH, cJ, cO]
 simp only at hi b1
 have hz := e1.sz
 have hll := Be l n i
 refine aN (fun hlt => ?_) (fun hlt => ?_)
 ·have hil : i < l.length := by omega
  have hx : l[i]? = some l[i] := List.getElem?_eq_getElem hil
  have j1 : uW sl n o i (decide (n < 2 ∨ Int.tmod (i : Nat) n ≠ 0)) K G s1.H := by
   unfold uW
   have hs := CC (n := n) hx
   refine aN (fun hc => ?_) (fun hc => ?_)
   ·rw [if_pos hc] at hs
    refine bU (Ls.st h e1) (by omega) (by omega) fun bx ox z hz' he => ?_
    rw [Int.toNat_natCast, hx] at hz'
    have hzz := (Option.some.inj hz').symm
    subst hzz
    obtain ⟨_, ⟨sd, rfl, hzf, hzd⟩, ha⟩ := he
    refine Em ha hzf fun r hr hsd => ?_
    refine jv l[i].x b1 ⟨r.Data, rec_eq hr rfl, hzf, by rw [hsd]; exact hzd⟩ (fun s2 o2 e2 b2 => ?_) rfl rfl (by omega) (by omega) (by unfold own; omega)
    unfold vX
    rw [aY (by omega) (by omega)]
    exact hG (o2, i + 1) s2 ⟨hil, e1.trans e2, by rw [hs]; exact b2⟩ (by simp only; omega)
   ·rw [if_neg hc, List.append_nil] at hs
    unfold vX
    rw [aY (by omega) (by omega)]
    exact hG (o, i + 1) s1 ⟨hil, e1, by rw [hs]; exact b1⟩ (by simp only; omega)
  refine aN (fun h2 => ?_) (fun h2 => ?_)
  ·rw [decide_eq_true (.inl h2)] at j1; exact j1
  ·refine ⟨by omega, ?_⟩
   have : (!decide (Int.tmod (i : Nat) n = 0)) = decide (n < 2 ∨ Int.tmod (i : Nat) n ≠ 0) := by simp [h2]
   rw [this]; exact j1
 ·have : i = l.length := by omega
  subst this
  exact hK s1 o e1.loc b1.ls
theorem TV {d : ah} (n b : ByteArray) (h : Live d) : Live (R.append d n b).1 := by
 obtain ⟨h1, h2, _⟩ := pE h
 unfold R.append
 rw [if_neg (by rw [h1]; decide)]
 repeat (first | (split; exact h2) | exact h2 | exact ⟨h2.up, h2.fail, h2.br⟩)
theorem Xi {d : ah} (n : ByteArray) (h : Live d) : Live (R.sync d n).1 := by
 obtain ⟨h1, h2, _⟩ := pE h
 unfold R.sync
 rw [if_neg (by rw [h1]; decide)]
 repeat (first | (split; exact h2) | exact h2 | exact ⟨h2.up, h2.fail, h2.br⟩)
theorem acf {d : ah} (n : ByteArray) (h : Live d) : Live (R.create d n).1 := by
 obtain ⟨h1, h2, _⟩ := pE h
 unfold R.create
 rw [if_neg (by rw [h1]; decide)]
 repeat (first | (split; exact h2) | exact h2 | exact ⟨h2.up, h2.fail, h2.br⟩)
theorem Tw {d : ah} (n : ByteArray) (h : Live d) : Live (R.unlink d n).1 := by
 obtain ⟨h1, h2, _⟩ := pE h
 unfold R.unlink
 simp only
 rw [if_neg (by rw [h1]; decide)]
 split
 ·exact h2
 ·exact ⟨h2.up, h2.fail, h2.br⟩
theorem KA {op : ah → ah × Int} (ho : ∀ d, Live d → Live (op d).1) {d : ah} (h : Live d) : Live (R.again op d).1 := by
 unfold R.again
 split
 ·exact ho _ (ho _ h)
 ·exact ho _ h
theorem Db : ∀ (l : List (ah → ah × Int)) {d : ah}, (∀ f ∈ l, ∀ d, Live d → Live (f d).1) → Live d → Live (R.steps l d).1
 | [], d, _, h => h
 | f :: l, d, hf, h => by
  rw [R.steps]
  have h1 := hf f (by simp) d h
  split
  ·exact h1
  ·exact Db l (fun g hg => hf g (by simp [hg])) h1
theorem EV {d : ah} (n b : ByteArray) (h : Live d) : Live (R.cZ n b d).1 :=
 Db _ (fun f hf d hd => by
  simp only [List.mem_cons, List.not_mem_nil, or_false] at hf
  rcases hf with rfl | rfl
  ·exact TV n b hd
  ·exact KA (fun d hd => Xi n hd) hd) h
theorem MR {d : ah} (n b : ByteArray) (h : Live d) : Live (R.make d n b).1 := by
 unfold R.make
 have hc := acf n h
 have hs : Live (R.steps [R.cZ n b, R.again R.cy] (R.create d n).1).1 := Db _ (fun f hf d hd => by
  simp only [List.mem_cons, List.not_mem_nil, or_false] at hf
  rcases hf with rfl | rfl
  ·exact EV n b hd
  ·exact (IQ hd).2) hc
 split
 ·exact h
 ·split
  ·exact hc
  ·split
   ·exact KA (fun d hd => Tw n hd) hs
   ·exact hs
theorem wA {d : ah} (x : BoxM) (c : bM) (y : RecM) (h : Live d) : Live (P.add d x c y).1 := by
 unfold P.add
 have hs := EV (aT x.user c.seq) (ba (bB y)) h
 split
 ·exact h
 ·split
  ·exact hs
  ·exact hs
theorem Ak {d : ah} (x : BoxM) (h : Live d) : Live (P.fresh d x).1 := by
 unfold P.fresh
 split
 ·exact h
 ·split
  ·exact MR _ _ h
  ·exact MR _ _ h
theorem Qr {d : ah} (x : BoxM) (y : RecM) (h : Live d) : Live (P.put d x y).1 := by
 have hr : Live (P.room d x).1 := by
  unfold P.room
  split
  ·exact Ak x h
  ·split
   ·exact h
   ·split
    ·split
     ·exact wA _ _ _ h
     ·exact Ak _ (wA _ _ _ h)
    ·exact Ak x h
 unfold P.put
 split
 ·exact h
 ·split
  ·exact hr
  ·split
   ·exact hr
   ·split
    ·exact wA _ _ _ hr
    ·exact wA _ _ _ hr
theorem ZX {u : Nat} (hu : 1 ≤ u ∧ u ≤ 999) {bs : List (List UInt8)} {m : aX} (hc : fW u bs m) (hl : bs.length ≤ 1001) (hn : ∀ n, R.pre n (ba (front u)) = false → m n = none) : gw m := by
 intro n hin
 cases hp : R.pre n (ba (front u)) with
 | false => exact absurd (hn _ hp) hin
 | true =>
  rw [hc _ hp] at hin
  cases hv : iT u bs n with
  | none => exact absurd hv hin
  | some b =>
   obtain ⟨q, h1, h2, h3, _⟩ := rC hv
   rw [h3, kQ hu (by omega)]
   decide
theorem Bx.br {u : Nat} {d : ah} {x : BoxM} {m : aX} {cs : List (List RecM)} {s : Int} {k : Nat} (h : Bx u d x m cs s k) (n : Int) : Bx u (R.br d n) x m cs s k :=
 ⟨h.up, h.st.br n, h.im, h.l, h.next, h.user, h.hu, h.len, h.rs, ⟨h.rm.free, h.rm.files⟩⟩
end Go.Ph
end
section
set_option linter.all false
namespace Go.Ph
open S
theorem PY {l : List RecM} (h : ∀ y ∈ l, bS y = true) : l.filter bS = l := List.filter_eq_self.2 h
theorem agu {C : Cx} {kb : Nat} {s : St} {p : Nat} {x : BoxM} {dp : Option Addr} {n e bound : Int} {old : List fY} {want : List RecM} {osl wsl : Sl} {K : Bool → HP} (hb : dJ kb s p x dp) (hx : qL x) (hko : kb + 1 ≠ own s) (ho : Ls mA (s.w 0) old osl) (hw : Ls gT (s.w 0) want wsl) (hol : old.length ≤ 1000) (hwl : want.length ≤ 1000)
  (hF : (fN x.l).filter bS = want ∨ (e ≠ 0 ∧ (fN x.l).filter bS = old.map (·.x))) (hK : ∀ s', Step [] s s' → K true s'.H) : qH C osl wsl e (some ⟨p, 0, none⟩) false K s.H := by
 unfold qH
 refine bt ?_
 refine yA hb hx hko fun s1 o e1 l1 => ?_
 have hpl : ((P.places x.l).map (·.x)) = (fN x.l).filter bS := Cb x.l
 have hplen : (P.places x.l).length ≤ 1000 := by
  have := congrArg List.length hpl
  rw [List.length_map] at this
  rcases hF with h | ⟨_, h⟩
  ·rw [h] at this; omega
  ·rw [h, List.length_map] at this; omega
 refine Fk l1 (by omega) fun s2 g e2 l2 => ?_
 rw [JV (by decide) _ (Nat.le_refl _), List.take_length, hpl] at l2
 obtain ⟨got, hg⟩ : ∃ got, got = (fN x.l).filter bS := ⟨_, rfl⟩
 rw [← hg] at l2 hF
 have e12 := e1.trans e2
 have o2 := Ls.st ho e12
 have w2 := Ls.st hw e12
 have hgl := l2.len
 have hol2 := ho.len
 have hwl2 := hw.len
 have hgle : got.length ≤ 1000 := by
  rcases hF with h | ⟨_, h⟩
  ·rw [h]; exact hwl
  ·rw [h, List.length_map]; exact hol
 refine cD (ι := Bool × Bool × Nat) (fun y => [.bool y.1, .bool y.2.1, .int .i64 y.2.2]) (fun y s' => y.2.2 ≤ got.length ∧ Step [] s2 s' ∧ (y.1 = true → got.length = want.length) ∧ (y.2.1 = true → got.length = old.length) ∧ (got = want → y.1 = true) ∧ (got = old.map (·.x) → y.2.1 = true)) (fun y _ => got.length - y.2.2) (decide (((g.len : Nat) : Int) = (wsl.len : Nat)), decide (((g.len : Nat) : Int) = (osl.len : Nat)), 0) rfl
  ⟨Nat.zero_le _, Step.refl, fun h => by simp only [decide_eq_true_eq] at h; omega, fun h => by simp only [decide_eq_true_eq] at h; omega, fun h => by simp only [decide_eq_true_eq]; have := congrArg List.length h; omega, fun h => by simp only [decide_eq_true_eq]; have := congrArg List.length h; rw [List.length_map] at this; omega⟩ ?_
 rintro ⟨ba, bb, i⟩ s3 ⟨hi, e3, h1, h2, h3, h4⟩ G hG
 simp only [List.getD_cons_zero, List.getD_cons_succ, cI, cN, cK, cH, cJ, cO]
 simp only at hi h1 h2 h3 h4
 refine aN (fun hlt => ?_) (fun hlt => ?_)
 ·have hil : i < got.length := by omega
  have j4 : ∀ (s4 : St) (b1 : Bool), Step [] s3 s4 → (b1 = true → got.length = want.length) → (got = want → b1 = true) → vQ C osl wsl e g b1 bb i K G s4.H := fun s4 b1 e4 g1 g3 => by
   have e24 := e3.trans e4
   unfold vQ
   cases hbb : bb with
   | false =>
    refine bt ?_
    unfold w6
    rw [aY (by omega) (by omega)]
    exact hG (b1, false, i + 1) s4 ⟨hil, e24, g1, fun h => (by cases h), g3, fun h => by rw [hbb] at h4; exact h4 h⟩ (by simp only; omega)
   | true =>
    have hgo := h2 hbb
    refine bH ?_
    refine me (Ls.st l2 e24) (by omega) (by omega) fun y r hy ra => ?_
    rw [Int.toNat_natCast] at hy
    refine bU (Ls.st o2 e24) (by omega) (by omega) fun bx ox z hz he => ?_
    rw [Int.toNat_natCast] at hz
    obtain ⟨_, ⟨sd, rfl, hzf, hzd⟩, ha⟩ := he
    refine Em ha hzf fun r2 hr2 hs2 => ?_
    refine IS ra ⟨hr2, by rw [hs2]; exact hzd⟩ fun s5 e5 => ?_
    unfold w6
    rw [aY (by omega) (by omega)]
    refine hG (b1, decide (y.f = z.x.f ∧ y.data = z.x.data), i + 1) s5 ⟨hil, e24.trans e5, g1, fun _ => hgo, g3, fun h => ?_⟩ (by simp only; omega)
    rw [h, List.getElem?_map, hz] at hy
    have hyz : y = z.x := (Option.some.inj hy).symm
    exact decide_eq_true (by rw [hyz]; exact ⟨rfl, rfl⟩)
  cases hba : ba with
  | false =>
   refine bt ?_
   exact j4 s3 false Step.refl (fun h => (by cases h)) (fun h => by rw [hba] at h3; exact h3 h)
  | true =>
   have hgw := h1 hba
   refine bH ?_
   refine me (Ls.st l2 e3) (by omega) (by omega) fun y r hy ra => ?_
   rw [Int.toNat_natCast] at hy
   refine me (Ls.st w2 e3) (by omega) (by omega) fun z r2 hz ra2 => ?_
   rw [Int.toNat_natCast] at hz
   refine IS ra ra2 fun s4 e4 => ?_
   refine j4 s4 _ e4 (fun _ => hgw) fun h => ?_
   rw [h, hz] at hy
   have := Option.some.inj hy
   rw [this]
   simp
 ·have e03 := e12.trans e3
  cases hba : ba with
  | true => exact bH (hK s3 e03)
  | false =>
   refine bt ?_
   rcases hF with h | ⟨he, h⟩
   ·have := h3 h; rw [hba] at this; cases this
   ·rw [h4 h]
    refine bH ?_
    rw [decide_eq_false he]
    exact hK s3 e03
theorem P5 {C : Cx} {kd kb : Nat} {s : St} {b : Nat} {d : ah} {bound turns nx e : Int} {keep : List Int} {slk : Sl} {old : List fY} {want : List RecM} {osl wsl : Sl} {F1 F2 : List RecM} {K : Bool → HP} (h : DV kd s b d) (hko : Ko kd s) (hkb : Kb kb kd s) (hbd : 1 ≤ bound) (ho : Ls mA (s.w 0) old osl) (hw : Ls gT (s.w 0) want wsl) (hol : old.length ≤ 1000) (hwl : want.length ≤ 1000)
  (hl : Ls (tI .i64) (s.w 0) keep slk) (hkl : keep.length ≤ 1000) (hc : d.calls ≤ 90000)
  (hF : dg d (fun m => gw m ∧ (jo 1 F2 m ∨ (e ≠ 0 ∧ jo 1 F1 m)))) (h1 : F1.filter bS = old.map (·.x)) (h2 : F2.filter bS = want) (n1 : nx ≤ F1.foldl after 1) (n2 : nx ≤ F2.foldl after 1)
  (hK : ∀ s', Step (bN kd kb) s s' → K true s'.H) : oy C bound turns slk (some ⟨b, 0, none⟩) osl wsl nx e K s.H := by
 unfold oy
 obtain ⟨m, ⟨hm0, hm⟩, hst⟩ := hF.en turns keep
 refine X1 h hF.down hl (by omega) (by omega) hko fun s1 e1 v1 => ?_
 refine bK (fun hh => absurd rfl hh) (fun _ => ?_)
 have hlive : Live (R.en d turns keep) := ⟨rfl, by show (-1 : Int) < 0; decide, by show (-1 : Int) < 0; decide⟩
 obtain ⟨qb, hqb, hdis⟩ : ∃ qb, (jj 1 qb m ∧ nB qb) ∧ (P.ig ((ec qb).dropWhile fun c => decide (c.seq < P.base (ec qb))) = 0 ∧ (fN ((ec qb).dropWhile fun c => decide (c.seq < P.base (ec qb))) = F2 ∨ (e ≠ 0 ∧ fN ((ec qb).dropWhile fun c => decide (c.seq < P.base (ec qb))) = F1))) := by
  rcases hm with ⟨qb, g1, g2, _, g4, g5⟩ | ⟨he, qb, g1, g2, _, g4, g5⟩
  ·exact ⟨qb, ⟨g1, g2⟩, g5, .inl g4⟩
  ·exact ⟨qb, ⟨g1, g2⟩, g5, .inr ⟨he, g4⟩⟩
 obtain ⟨d', hop⟩ := YP (u := 1) (bound := bound) hst hlive hqb.1 hqb.2 ⟨by decide, by decide⟩ hbd
 have hop' : P.fe (R.en d turns keep) 1 bound = (d', some ⟨1, bound, P.next ((ec qb).dropWhile fun c => decide (c.seq < P.base (ec qb))), (ec qb).dropWhile fun c => decide (c.seq < P.base (ec qb))⟩, 0) := hop
 generalize ((ec qb).dropWhile fun c => decide (c.seq < P.base (ec qb))) = L at *
 have hcl2 : (R.en d turns keep).calls < 100000 := by show d.calls < 100000; omega
 have e1s : Step (bN kd kb) s s1 := e1.mono jK
 refine Dc (kb := kb) (u := 1) (bound := bound) v1 hcl2 (gw.nm hst hm0) (hko.mono e1) (hkb.mono e1) (fun s2 hn => ?_) (fun s2 p2 x2 hx e2 v2 b2 => ?_)
 ·rw [hop'] at hn; cases hn
 ·have bo := (M9 (u := 1) (bound := bound) (x := ⟨1, bound, P.next L, L⟩) v1.inv (by omega) (by rw [hop'])).1
  rw [hop'] at hx
  have hxx := (Option.some.inj (congrArg Prod.fst hx)).symm
  subst hxx
  have e12 := e1s.trans e2
  refine bt ?_
  refine bK (fun hh => absurd rfl hh) (fun _ => ?_)
  refine Bw b2 ?_
  have hge : nx ≤ P.next L := by
   unfold P.next
   rw [yV]
   rcases hdis.2 with g | ⟨_, g⟩
   ·rw [g]; exact n2
   ·rw [g]; exact n1
  refine aN (fun hh => absurd hh (by simp only; omega)) (fun _ => ?_)
  refine IX b2 bo fun s3 e3 => ?_
  simp only
  rw [hdis.1, decide_eq_true rfl]
  have hko2 := ((hkb.mono e12).mono e3).own
  have e03 : Step (bN kd kb) s s3 := e12.trans e3.n
  refine agu (n := 0) (bound := bound) (b2.st e3 (by simp) (by simp) (by simp)) bo (by omega) (Ls.st ho e03) (Ls.st hw e03) hol hwl ?_ fun s4 e4 => hK s4 (e03.trans e4.n)
  rcases hdis.2 with g | ⟨he, g⟩
  ·left; simp only; rw [g, h2]
  ·right; simp only; exact ⟨he, by rw [g, h1]⟩
end Go.Ph
end
section
set_option linter.all false
namespace Go.Ph
open S
structure Lb (kd kb b p : Nat) (i : Nat) (bound : Int) (s : St) (d : ah) (x : BoxM) : Prop where
 v : DV kd s b d
 bx : dJ kb s p x (some ⟨b, 0, none⟩)
 bb : fq (300000 * i) x
 xl : x.l.length ≤ i
 calls : d.calls ≤ 300 * i
 live : Live d
 bd : x.bound = bound
 st : ∃ m cs, Bx 1 d x m cs (1000000 - 300 * i) (100 - i) ∧ cs.length ≤ i ∧ (cs.flatten.filter bS).length ≤ i ∧ ∀ n, R.pre n (ba (front 1)) = false → m n = none
set_option maxRecDepth 20000 in
theorem PB {C : Cx} {kd kb b p i : Nat} {s : St} {d : ah} {x : BoxM} {bound n br turns : Int} {keep : List Int} {slk : Sl} {K : Bool → HP} (h : Lb kd kb b p i bound s d x) (hi : i ≤ 30) (hbd : 1 ≤ bound) (hko : Ko kd s) (hkb : Kb kb kd s) (hkb3 : Kb (kb + 3) kd s) (hcr : br < 9223372036854775808)
  (hl : Ls (tI .i64) (s.w 0) keep slk) (hkl : keep.length ≤ 1000) (hK : ∀ s', Step (kL kd kb (kb + 6) (kb + 7)) s s' → K true s'.H) :
  jE (some ⟨p, 0, none⟩) (fun t71 =>
 nV t71 n fun t74 =>
 jV (some ⟨p, 0, none⟩) fun t76 =>
 kr (some ⟨b, 0, none⟩) br (
 qp C (some ⟨p, 0, none⟩) t74 fun t82 =>
 jH (some ⟨b, 0, none⟩) fun t84 =>
 bif (!t84) then (
 kr (some ⟨b, 0, none⟩) 0 (
 kG (some ⟨b, 0, none⟩) fun t89 =>
 oy C bound turns slk (some ⟨b, 0, none⟩) t71 t74 t76 t82 K)) else
 oy C bound turns slk (some ⟨b, 0, none⟩) t71 t74 t76 t82 K)) s.H := by
 obtain ⟨m, cs, hbx, hcl, hkl2, hmn⟩ := h.st
 have hcalls := h.calls
 have hwr := hbx.wr
 have hkown := hkb.own
 have hop : P.fe d 1 bound = (d, some ⟨1, bound, ((cs.map aQ).flatMap gy).foldl after 1, cY 1 (cs.map aQ)⟩, 0) := My (u := 1) (bound := bound) hbx.st hbx.im hbx.up ⟨by decide, by decide⟩ hbd (by rw [List.length_map]; omega) (by rw [lT hbx.rs]; exact Af hwr)
 have hxe : x = ⟨1, bound, ((cs.map aQ).flatMap gy).foldl after 1, cY 1 (cs.map aQ)⟩ := by
  have h1 := hbx.l
  have h2 := hbx.next
  have h3 := hbx.user
  have h4 := h.bd
  rw [lT hbx.rs, ← h1, ← h2]
  cases x
  simp only at h1 h2 h3 h4 ⊢
  rw [h3, h4]
  rfl
 have bo := (M9 (u := 1) (bound := bound) (x := x) h.v.inv (by omega) (by rw [hop, ← hxe])).1
 refine yA h.bx bo (by omega) fun s1 o1 e1 l1 => ?_
 have hpr : (P.places x.l).map (·.x) = cs.flatten.filter bS := by rw [Cb, hbx.l, qd, lT hbx.rs]
 have hpl : (P.places x.l).length ≤ 30 := by
  have := congrArg List.length hpr
  rw [List.length_map] at this
  omega
 refine Fk l1 (by omega) fun s2 o2 e2 l2 => ?_
 have hWl := Be (P.places x.l) n (P.places x.l).length
 have hWm : ∀ y ∈ ie (P.places x.l) n (P.places x.l).length, bS y = true ∧ Wr y := fun y hy => by
  have := XC hy
  rw [hpr, List.mem_filter] at this
  exact ⟨this.2, hwr y this.1⟩
 generalize ie (P.places x.l) n (P.places x.l).length = W at *
 have e12 := e1.trans e2
 have b2 := h.bx.st e12 (by simp) (by simp) (by simp)
 refine Bw b2 ?_
 refine Hi (h.v.st e12 (by simp)) hcr (hko.mono e12) fun s3 e3 v3 => ?_
 have e3d : Step (dk kd) s2 s3 := e3.mono fun z hz => by simp at hz; subst hz; rw [fk]; omega
 have e13 : Step (dk kd) s s3 := e12.n.trans e3d
 have hclr := hkb.clear
 have b3 := h.bx.st e13 (hclr _ (by simp [cG])) (hclr _ (by simp [cG])) (hclr _ (by simp [cG]))
 have hcb := hbx.br br
 have hcb' : Bx 1 (R.br d br) x m cs (1000000 - 300 * i) ((99 - i) + 1) := by rw [show 99 - i + 1 = 100 - i by omega]; exact hcb
 have hcf := aad (W := W) hcb' (ZX ⟨by decide, by decide⟩ hbx.im (by rw [List.length_map]; omega) hmn) (by omega) hWm (by omega) (by omega)
 have hcc : (R.br d br).calls = d.calls := rfl
 refine S3 (W := W) v3 b3 h.bb (Ls.st l2 e3d) (by omega) (by omega) (hko.mono e13) (hkb.mono e13) fun s4 e4 v4 b4 => ?_
 have hccl : (P.gn (R.br d br) x W).1.calls ≤ d.calls + 1000 := by
  unfold P.gn
  split
  ·simp only; omega
  ·split
   ·simp only; omega
   ·split
    ·simp only; omega
    ·have hsc := C3 (R.br d br) (aT x.user (P.bI x.l + 1)) (ba (aQ (P.dD x W)))
     have hsw : R.swap (R.br d br) (aT x.user (P.bI x.l + 1)) (ba (aQ (P.dD x W))) = P.kI (R.br d br) x W := rfl
     rw [hsw] at hsc
     split
     ·simp only; omega
     ·have hda := Gn x.user x.l (P.kI (R.br d br) x W).1
      have := h.xl
      simp only; omega
 have e14 : Step (bN kd kb) s s4 := (e13.mono jK).trans e4
 have hf1 : cs.flatten.filter bS = (P.places x.l).map (·.x) := hpr.symm
 have hf2 : (P.dD x W).filter bS = W := by
  unfold P.dD
  rw [List.filter_cons, C6]
  exact PY fun y hy => (hWm y hy).1
 have hn1 : x.next ≤ cs.flatten.foldl after 1 := by rw [hbx.next]; exact Int.le_refl _
 have hn2 : x.next ≤ (P.dD x W).foldl after 1 := by
  unfold P.dD
  rw [List.foldl_cons]
  refine Int.le_trans ?_ (Ja W _)
  show x.next ≤ max (max 1 x.next) (0 + 1)
  omega
 have upS : ∀ z ∈ bN kd kb, z ∈ kL kd kb (kb + 6) (kb + 7) := zq
 have up3 : ∀ z ∈ bN kd (kb + 3), z ∈ kL kd kb (kb + 6) (kb + 7) := Xy
 have l14 := Ls.st (Ls.st l1 e2) (e3d.mono (S' := bN kd kb) jK |>.trans e4)
 have l24 := Ls.st (Ls.st l2 e3d) e4
 generalize P.gn (R.br d br) x W = r at *
 have hol : (P.places x.l).length ≤ 1000 := by omega
 refine Bn v4 ?_
 have down : ∀ s5 d5, Step (bN kd kb) s4 s5 → DV kd s5 b d5 → d5.calls ≤ 50000 → dg d5 (fun m => gw m ∧ (jo 1 (P.dD x W) m ∨ (r.2.2 ≠ 0 ∧ jo 1 cs.flatten m))) → oy C bound turns slk (some ⟨b, 0, none⟩) o1 o2 x.next r.2.2 K s5.H := fun s5 d5 e5 v5 c5 f5 => by
  have e15 := e14.trans e5
  exact P5 (kb := kb + 3) v5 (hko.mono e15) (hkb3.mono e15) hbd (Ls.st l14 e5) (Ls.st l24 e5) hol (by omega) (Ls.st hl e15) hkl (by omega) f5 hf1 hf2 hn1 hn2 fun s6 e6 => hK s6 ((e15.mono upS).trans (e6.mono up3))
 rcases hcf with ⟨g1, g2⟩ | ⟨g1, ⟨g2, m', g3, g4, g5⟩ | g2⟩
 ·rw [g2.down]
  refine bt (down s4 r.1 Step.refl v4 (by omega) (g2.imp fun m' ⟨q1, q2⟩ => ⟨q1, ?_⟩))
  rcases q2 with q | q
  ·exact .inr ⟨by rw [g1]; decide, q⟩
  ·exact .inl q
 ·rw [g2]
  refine bH ?_
  have hko4 := hko.mono e14
  refine Hi v4 (by decide) hko4 fun s5 e5 v5 => ?_
  have e5d : Step (dk kd) s4 s5 := e5.mono fun z hz => by simp at hz; subst hz; rw [fk]; omega
  have hrc : (R.br r.1 0).calls = r.1.calls := rfl
  refine wG v5 (by omega) (hko4.mono e5) fun s6 e6 v6 => ?_
  have hcut := g3.cut g2
  have hcl2 := R.jI (R.br r.1 0)
  exact down s6 _ ((e5d.trans e6).mono jK) v6 (by omega) (hcut.imp fun m2 e => by rw [e]; exact ⟨g4, .inl g5⟩)
 ·rw [g2.down]
  exact bt (down s4 r.1 Step.refl v4 (by omega) (g2.imp fun m' ⟨q1, q2⟩ => ⟨q1, .inl q2⟩))
set_option maxRecDepth 20000 in
theorem ac7 {C : Cx} {s : St} {recs : List RecM} {rsl slk : Sl} {bound n br turns : Int} {keep : List Int} {K : Bool → HP} (hr : Ls gT (s.w 0) recs rsl) (hl : Ls (tI .i64) (s.w 0) keep slk) (hcr : br < 9223372036854775808) (hK : ∀ s', Step [] s s' → K true s'.H) :
  tJ C bound rsl n br turns slk K s.H := by
 unfold tJ
 refine Zd fun s1 e1 => ?_
 refine bt ?_
 have hrl := hr.len
 have hkl := hl.len
 have jt : pq C bound rsl n br turns slk true K s1.H := by
  unfold pq
  exact bH (hK s1 e1)
 refine aN (fun _ => jt) (fun h30 => ?_)
 refine aN (fun _ => jt) (fun h60 => ?_)
 by_cases hb : bound < 1
 ·rw [decide_eq_true hb]; exact jt
 rw [decide_eq_false hb]
 unfold pq
 refine bt ?_
 have hown : own s1 = 1152921504606846976 + 1152921504606846976 * s1.H.size := rfl
 obtain ⟨kd, hkd⟩ : ∃ kd, kd = own s1 + 16 := ⟨_, rfl⟩
 obtain ⟨kb, hkb⟩ : ∃ kb, kb = own s1 + 4503599627370496 := ⟨_, rfl⟩
 have k1 : Ko kd s1 ∧ Kb kb kd s1 ∧ Kb (kb + 3) kd s1 := ⟨.inr ⟨by omega, by omega⟩, ⟨by omega, .inr ⟨by omega, by omega⟩, .inr (by omega)⟩, ⟨by omega, .inr ⟨by omega, by omega⟩, .inr (by omega)⟩⟩
 have fin : ∀ s', Step (kL kd kb (kb + 6) (kb + 7)) s1 s' → K true s'.H := fun s' es => by
  refine hK s' (e1.trans (es.Fe fun x hx => ?_))
  unfold kL bN cG at hx
  simp only [List.mem_cons, List.mem_append, fk, List.not_mem_nil, or_false] at hx
  omega
 refine Kt (k := kd) (files := []) Ls.iO (by omega) k1.1 (by simp) (fun h => by rw [M1] at h; cases h) (fun d hd s2 b e2 v2 => ?_)
 rw [M1] at hd
 have := Option.some.inj hd
 subst this
 refine bt ?_
 refine Dc (kb := kb) v2 (by decide) (fun e he => by cases he) (k1.1.mono e2) (k1.2.1.mono e2) (fun s3 hn => by rw [Jo (by decide) (by omega)] at hn; cases hn) (fun s3 p x hx e3 v3 b3 => ?_)
 rw [Jo (by decide) (by omega)] at hx v3
 have hxx := (Option.some.inj (congrArg Prod.fst hx)).symm
 subst hxx
 refine bt ?_
 have e23 : Step (bN kd kb) s1 s3 := (e2.mono jK).trans e3
 have hbx0 : Bx 1 dS ⟨1, bound, 1, []⟩ (fun _ => none) [] 1000000 100 := by
  have := bxS (u := 1) (bound := bound) (br := -1) (by decide)
  exact this
 have r3 := Ls.st (Ls.st hr e1) e23
 have l3 := Ls.st (Ls.st hl e1) e23
 have k3 := And.intro (k1.1.mono e23) (And.intro (k1.2.1.mono e23) (k1.2.2.mono e23))
 refine cD (fun i : Nat => [.int .i64 i]) (fun i s' => i ≤ recs.length ∧ Step (bN kd kb) s3 s' ∧ ∃ d x, Lb kd kb b p i bound s' d x) (fun i _ => recs.length - i) 0 rfl ⟨Nat.zero_le _, Step.refl, dS, _, v3, b3, ⟨Nat.zero_le _, by decide, Int.le_refl _, fun c hc => (by cases hc)⟩, Nat.le_refl _, Int.le_refl _, ⟨rfl, by show (-1 : Int) < 0; decide, by show (-1 : Int) < 0; decide⟩, rfl, _, [], hbx0, Nat.le_refl _, Nat.le_refl _, fun _ _ => rfl⟩ ?_
 rintro i s4 ⟨hi, e4, d, x, h⟩ G hG
 simp only [List.getD_cons_zero, List.getD_cons_succ, cI, cN, cK, cH, cJ, cO]
 have e14 := e23.trans e4
 have hcalls := h.calls
 have hxl := h.xl
 refine aN (fun hlt => ?_) (fun hlt => ?_)
 ·have hil : i < recs.length := by omega
  refine me (Ls.st r3 e4) (by omega) (by omega) fun y r0 hy ra0 => ?_
  rw [Int.toNat_natCast] at hy
  refine aaF ra0 fun s5 e5 => ?_
  refine js (fun _ => fin s5 ((e14.trans e5.n).mono zq)) (fun _ => ?_)
  refine me (Ls.st (Ls.st r3 e4) e5) (by omega) (by omega) fun y' r hy' ra => ?_
  have hyl := ra.len
  have bb' := PA (d := d) (y := y') h.bb (by omega) (by omega) hyl
  have hpl := O6 d x y'
  have hlv := Qr x y' h.live
  obtain ⟨m, cs, hbx, hcl, hkc, hmn⟩ := h.st
  have hbx' : Bx 1 d x m cs (1000000 - 300 * i) ((100 - (i + 1)) + 1) := by rw [show 100 - (i + 1) + 1 = 100 - i by omega]; exact hbx
  have hst : ∃ m cs, Bx 1 (P.put d x y').1 (P.put d x y').2.1 m cs (1000000 - 300 * (i + 1 : Nat)) (100 - (i + 1)) ∧ cs.length ≤ i + 1 ∧ (cs.flatten.filter bS).length ≤ i + 1 ∧ ∀ n, R.pre n (ba (front 1)) = false → m n = none := by
   rcases Qq hbx' (by omega) (by omega) hyl with h1 | ⟨h1, h2, h3, h4⟩ | ⟨h1, h2, m', cs', h3, h4, h5, h6⟩
   ·rw [h1]
    exact ⟨m, cs, ⟨hbx.up, hbx.st, hbx.im, hbx.l, hbx.next, hbx.user, hbx.hu, hbx.len, hbx.rs, hbx.rm.le (by omega) (by omega)⟩, by omega, by omega, hmn⟩
   ·have := h4.down; rw [hlv.up] at this; cases this
   ·exact ⟨m', cs', ⟨h4.up, h4.st, h4.im, h4.l, h4.next, h4.user, h4.hu, h4.len, h4.rs, h4.rm.le (by omega) (Nat.le_refl _)⟩, by omega, by rw [h5, List.length_append, List.length_singleton]; omega, fun n hn => (h3 n hn).trans (hmn n hn)⟩
  have go : ∀ s6, Step (bN kd kb) s5 s6 → DV kd s6 b (P.put d x y').1 → dJ kb s6 p (P.put d x y').2.1 (some ⟨b, 0, none⟩) → G [.int .i64 (ay ((i : Int) + 1))] s6.H := fun s6 e6 v6 b6 => by
   rw [aY (by omega) (by omega)]
   refine hG (i + 1) s6 ⟨hil, (e4.trans e5.n).trans e6, _, _, v6, b6, ?_, by omega, by omega, hlv, bb'.2.2.2.trans h.bd, hst⟩ (by omega)
   have := bb'.1
   rwa [show 300000 * i + 300000 = 300000 * (i + 1) by omega] at this
  have k5 := e14.trans e5.n
  refine Le (y := y') (h.v.st e5 (by simp)) (h.bx.st e5 (by simp) (by simp) (by simp)) h.bb (by omega) (by omega) ra (by omega) (k1.1.mono k5) (k1.2.1.mono k5) (fun s6 pr _ e6 v6 b6 => go s6 e6 v6 b6) (fun s6 pr qq _ e6 v6 b6 _ => go s6 e6 v6 b6)
 ·have hi30 : i ≤ 30 := by omega
  exact PB h hi30 (by omega) (k1.1.mono e14) (k1.2.1.mono e14) (k1.2.2.mono e14) hcr (Ls.st l3 e4) (by omega) fun s5 e5 => fin s5 ((e14.mono zq).trans e5)
end Go.Ph
end

/- pigeonholelaw18.DboxCompacts returns true at every input, and each argument reads behind the call as it read before; no condition. -/
import Derived.Test.YtjojclbfnnkajaaGreatPhC4
import Derived.Test.YtjojclbfnnkajaaGreatPhE
import Derived.Deep.SlicePairs
import Derived.ProofKit
import Derived.Carry
import Derived.OpenShut
import Derived.Test.YtjojclbfnnkajaaGreatRows
section
set_option linter.all false
namespace Go.Ph
open Go.ChangeShapes Go.WideShapes Go.RowKit
def gR (H : aP) : St := ⟨H, fun _ _ => 0, fun b i hb => by omega, fun b i h => absurd rfl h⟩
theorem aah {H : aP} {b i : Nat} {v : Value} (h : cell H ⟨b, i, none⟩ = some v) : (gR H).w 0 b i = some (.v v) := dP (EG h) rfl
theorem Q2 {H H' : aP} {b : Nat} (hb : b < H.size) (hp : ∀ i, pk H' b i = pk H b i) (hs : sh H' b = sh H b) : H'[b]? = H[b]? := by
 cases e : H[b]? with
 | none => have := Array.getElem?_eq_none_iff.1 e; omega
 | some o =>
  by_cases ho : Obj.cl o = false
  ·have h1 := hp 0
   rw [zG e ho] at h1
   exact (mU h1).1
  ·cases o with
   | cells c t f =>
    unfold sh at hs
    rw [e] at hs
    simp only at hs
    cases e2 : H'[b]? with
    | none => rw [e2] at hs; cases hs
    | some o' =>
     rw [e2] at hs
     cases o' with
     | cells c' t' f' =>
      simp only [Option.some.injEq, Prod.mk.injEq] at hs
      obtain ⟨rfl, rfl⟩ := hs
      have : c' = c := by
       apply Array.ext_getElem?
       intro i
       have h1 := hp i
       unfold pk at h1
       rw [e, e2] at h1
       simp only at h1
       cases e3 : c[i]? <;> cases e4 : c'[i]? <;> rw [e3, e4] at h1 <;> simp at h1 ⊢
       exact h1
      rw [this]
     | _ => cases hs
   | _ => exact absurd rfl ho
theorem XY {W W' : World} {s' : St} (h : Step [] (gR W.heap) s') (he : W'.heap = s'.H) (hs : cS W W') : Below W.heap.size W W' := by
 obtain ⟨h1, h2, h3⟩ := hs
 refine ⟨h1, h2, h3, by rw [he]; exact h.sz, fun k hk => ?_⟩
 rw [he]
 exact Q2 hk (fun i => (h.old k i hk (.inl rfl)).2) (h.gS k hk)
theorem aes {a : Addr} (h : a.spot = none) (n : Nat) : a.add n = ⟨a.block, a.off + n, none⟩ := by
 obtain ⟨b, o, sp⟩ := a
 simp only at h
 subst h
 exact dK b o n
theorem Qu {H : aP} {a : Addr} {v : Value} (h : cell H a = some v) : a.spot = none := by
 unfold cell at h
 split at h
 ·split at h
  ·cases h
  ·rename_i h1; simpa using h1
 ·cases h
theorem E4 {a : Addr} {n : Nat} (h : (a.add n).spot = none) (hn : n = 0) : a.spot = none := by
 subst hn; unfold Addr.add at h; simpa using h
section
variable {H : Type} {enc : TypeId × Value → H} {P : Program} {W : World}
end
end Go.Ph
end
section
set_option linter.all false
namespace Go.Ph
open Go.ChangeShapes Go.WideShapes Go.RowKit
section
variable {H : Type} {enc : TypeId × Value → H} {P : Program} {W : World}
theorem Dq {α : Type} (T : Ty α) {t e : TypeId} {n : Nat} {v : Value} {x : DataW H × List MemPlace} (ht : P.underlying t = some (.slice e)) (hn : P.cellsOf e = T.n) (hpos : 0 < T.n)
  (each : ∀ n' cs y, DataW.trod enc P W 0 (fun _ => true) true n' e cs = some y → cs.length = T.n → ∃ z, T.R ((gR W.heap).w 0) z cs)
  (h : DataW.trod enc P W 0 (fun _ => true) true n t [v] = some x) : ∃ (l : List α) (sl : Sl), v = .slice sl.a sl.len sl.cap ∧ Ls T ((gR W.heap).w 0) l sl := by
 rcases Deep.open_slice ht h with ⟨h1, _⟩ | ⟨a, len, cap, m, k, D, Pl, h1, _, hl, hm, hmm, _, hx⟩
 ·exact ⟨[], ⟨none, 0, 0⟩, by simpa using h1, Ls.iO⟩
 ·simp only [if_true] at hmm
  subst hmm
  have h1' : v = .slice (some a) len m := by simpa using h1
  have hcells : ∀ i, i < m → ∃ cs, cs.length = T.n ∧ (∀ j, j < T.n → W.cell? ((a.add (i * T.n)).add j) = cs[j]?) ∧ ∃ z, T.R ((gR W.heap).w 0) z cs := fun i hi => by
   obtain ⟨cs, g1, g2⟩ := hx i hi
   rw [hn] at g1
   obtain ⟨_, g3, g4⟩ := World.cells?_some g1
   exact ⟨cs, g3, g4, each _ _ _ g2 g3⟩
  have hsp : 0 < m → a.spot = none := fun h0 => by
   obtain ⟨cs, g1, g2, _⟩ := hcells 0 h0
   have := g2 0 hpos
   rw [List.getElem?_eq_getElem (by omega)] at this
   have h2 : cell W.heap ((a.add (0 * T.n)).add 0) = some cs[0] := this
   exact E4 (E4 (Qu h2) rfl) (by omega)
  by_cases h0 : m = 0
  ·have : len = 0 := by omega
   subst this
   exact ⟨[], ⟨some a, 0, m⟩, h1', ⟨rfl, hl, fun h => (by cases h), fun a' ha => ⟨fun h => by simp only at h; omega, fun j y hj => by simp at hj⟩⟩⟩
  ·have hsp := hsp (by omega)
   obtain ⟨cs0, _, _, z0, _⟩ := hcells 0 (by omega)
   have : Inhabited (List Value × α) := ⟨(cs0, z0)⟩
   obtain ⟨q, hq⟩ := Deep.choose_lt (fun i hi => show ∃ q : List Value × α, q.1.length = T.n ∧ (∀ j, j < T.n → W.cell? ((a.add (i * T.n)).add j) = q.1[j]?) ∧ T.R ((gR W.heap).w 0) q.2 q.1 by
    obtain ⟨cs, g1, g2, z, g3⟩ := hcells i hi
    exact ⟨(cs, z), g1, g2, g3⟩)
   refine ⟨(List.range len).map fun i => (q i).2, ⟨some a, len, m⟩, h1', ⟨by simp, hl, fun h => (by cases h), fun a' ha => ?_⟩⟩
   simp at ha; subst ha
   refine ⟨fun _ => hsp, fun j x hj => ?_⟩
   rw [List.getElem?_map] at hj
   by_cases hjl : j < len
   ·rw [List.getElem?_range hjl] at hj
    simp at hj; subst hj
    obtain ⟨g1, g2, g3⟩ := hq j (by omega)
    refine ⟨_, g3, fun i u hiu => ?_⟩
    have hil := (List.getElem?_eq_some_iff.1 hiu).1
    have := g2 i (by omega)
    rw [hiu, aes hsp, dK] at this
    exact aah this
   ·rw [List.getElem?_eq_none (by simp; omega)] at hj; cases hj
theorem HH {e : TypeId} {fs : Array Field} {n : Nat} {cs : List Value} {y : DataW H × List MemPlace} (he : P.underlying e = some (.struct fs)) (h : DataW.trod enc P W 0 (fun _ => true) true n e cs = some y) {j : Nat} {f : Field} (hf : fs[j]? = some f) (ho : f.offset < cs.length) (hc : P.cellsOf f.type = 1) :
  ∃ (v : Value) (n' : Nat) (z : DataW H × List MemPlace), cs[f.offset]? = some v ∧ DataW.trod enc P W 0 (fun _ => true) true n' f.type [v] = some z := by
 obtain ⟨xs, k, _, _, hl, hxl, hj⟩ := DataW.trod_struct he h
 have h1 := hj j f hf
 rw [hc] at h1
 have h2 : (cs.drop f.offset).take 1 = [cs[f.offset]] := by
  rw [List.drop_eq_getElem_cons ho]; rfl
 rw [h2] at h1
 have hlt : j < fs.size := (Array.getElem?_eq_some_iff.1 hf).1
 rw [List.getElem?_eq_getElem (by omega)] at h1
 exact ⟨_, k, _, List.getElem?_eq_getElem ho, h1⟩
def CY (P : Program) (fs : Array Field) (j : Nat) : Bool := match fs[j]? with
 | some f => Nat.beq f.offset j && Nat.beq (P.cellsOf f.type) 1 && (match P.underlying f.type with | some (.int .i64) => true | _ => false)
 | none => false
theorem VD {e : TypeId} {fs : Array Field} {n : Nat} {cs : List Value} {y : DataW H × List MemPlace} (he : P.underlying e = some (.struct fs)) (h : DataW.trod enc P W 0 (fun _ => true) true n e cs = some y) {j : Nat} (hj : CY P fs j = true) (hl : j < cs.length) : ∃ z, cs[j]? = some (.int .i64 z) := by
 unfold CY at hj
 split at hj
 ·rename_i f hf
  simp only [Bool.and_eq_true] at hj
  obtain ⟨⟨h1, h2⟩, h3⟩ := hj
  have h1 := Nat.eq_of_beq_eq_true h1
  have h2 := Nat.eq_of_beq_eq_true h2
  obtain ⟨v, n', z, g1, g2⟩ := HH he h hf (by omega) h2
  split at h3
  ·rename_i hu
   obtain ⟨m, hm, _⟩ := DataW.trod_int hu g2
   rw [h1] at g1
   exact ⟨m, by rw [g1]; simpa using hm⟩
  ·cases h3
 ·cases hj
theorem T3 {e b : TypeId} {fs : Array Field} {f : Field} (he : P.underlying e = some (.struct fs)) (hi : (List.range 11).all (CY P fs) = true) (hf : fs[11]? = some f) (ho : f.offset = 11) (hc : P.cellsOf f.type = 1) (hs : P.underlying f.type = some (.slice b)) (hb : P.underlying b = some (.int .u8)) (hcb : P.cellsOf b = 1) :
  ∀ n cs y, DataW.trod enc P W 0 (fun _ => true) true n e cs = some y → cs.length = 12 → ∃ z, gT.R ((gR W.heap).w 0) z cs := by
 intro n cs y h hl
 rw [List.all_eq_true] at hi
 have ints : ∀ j, j < 11 → ∃ z, cs[j]? = some (.int .i64 z) := fun j hj => VD he h (hi j (List.mem_range.2 hj)) (by omega)
 obtain ⟨v, n', z, g1, g2⟩ := HH he h hf (by omega) hc
 rw [ho] at g1
 obtain ⟨l, sl, rfl, hls⟩ := Dq bf hs hcb (by decide) (fun n1 cs1 y1 h1 hl1 => by
  obtain ⟨m, hm, _, hw⟩ := DataW.trod_int hb h1
  have hwb : 0 ≤ m ∧ m ≤ 255 := by simpa [Lit.wf, IntKind.min, IntKind.max, IntKind.signed, IntKind.bits] using hw
  refine ⟨m.toNat.toUInt8, ?_⟩
  show cs1 = _
  rw [hm]
  congr 2
  simp
  omega) g2
 obtain ⟨q, hq⟩ := Deep.choose_lt ints
 refine ⟨⟨(List.range 11).map q, l⟩, sl, ?_, by simp, hls⟩
 apply List.ext_getElem?
 intro i
 by_cases h11 : i < 11
 ·rw [fZ (by simpa using h11), hq i h11]
  simp [List.getD_eq_getElem?_getD, h11]
 ·by_cases h12 : i = 11
  ·subst h12
   rw [mI (by simp), g1]
  ·rw [List.getElem?_eq_none (by omega), List.getElem?_eq_none (by rw [nG]; simp; omega)]
theorem aet {e : TypeId} (he : P.underlying e = some (.int .i64)) : ∀ n cs y, DataW.trod enc P W 0 (fun _ => true) true n e cs = some y → cs.length = 1 → ∃ z, (tI .i64).R ((gR W.heap).w 0) z cs := by
 intro n cs y h _
 obtain ⟨m, hm, _⟩ := DataW.trod_int he h
 exact ⟨m, hm⟩
theorem HN {b : Nat} {t e : TypeId} {v : Value} (ht : P.underlying t = some (.slice e)) (hval : Value.okWide P W .any b t v) : v.cells.toList = [v] := by
 unfold Value.okWide Cell.okWide Cell.ok at hval
 rw [ht] at hval
 cases v
 case slice p l c => rfl
 all_goals exact absurd hval id
end
section
open Go.ChangeShapes
variable {H : Type} {enc : TypeId × Value → H} {P : Program} {w : World} {base : Nat} {spare : Nat → Bool} {held : Bool}
theorem adh {t0 t1 t2 t3 t4 t5 : TypeId} {args : Array Value} {ds : List (DataW H)} {ps : List MemPlace} (h : DataW.TrodAll enc P w base spare held [t0, t1, t2, t3, t4, t5] args.toList ds ps) :
  ∃ v0 v1 v2 v3 v4 v5 d0 d1 d2 d3 d4 d5 p0 p1 p2 p3 p4 p5, args = #[v0, v1, v2, v3, v4, v5] ∧ ds = [d0, d1, d2, d3, d4, d5] ∧ ps = p0 ++ p1 ++ p2 ++ p3 ++ p4 ++ p5 ∧ DataW.Trod enc P w base spare held t0 v0 d0 p0 ∧ DataW.Trod enc P w base spare held t1 v1 d1 p1 ∧ DataW.Trod enc P w base spare held t2 v2 d2 p2 ∧ DataW.Trod enc P w base spare held t3 v3 d3 p3 ∧ DataW.Trod enc P w base spare held t4 v4 d4 p4 ∧ DataW.Trod enc P w base spare held t5 v5 d5 p5 := by
 obtain ⟨v, vs, d, ds', p, q, hargs, rfl, rfl, hd, hrest⟩ := trodAll_cons h
 obtain ⟨v', vs', d', ds'', p', q', rfl, rfl, rfl, hd', hrest'⟩ := trodAll_cons hrest
 obtain ⟨v'', vs'', d'', ds''', p'', q'', rfl, rfl, rfl, hd'', hrest''⟩ := trodAll_cons hrest'
 obtain ⟨v3, vs3, d3, ds3, p3, q3, rfl, rfl, rfl, hd3, hrest3⟩ := trodAll_cons hrest''
 obtain ⟨v4, vs4, d4, ds4, p4, q4, rfl, rfl, rfl, hd4, hrest4⟩ := trodAll_cons hrest3
 obtain ⟨v5, vs5, d5, ds5, p5, q5, rfl, rfl, rfl, hd5, hrest5⟩ := trodAll_cons hrest4
 obtain ⟨rfl, rfl, rfl⟩ := trodAll_nil hrest5
 exact ⟨v, v', v'', v3, v4, v5, d, d', d'', d3, d4, d5, p, p', p'', p3, p4, p5, by cases args; simp_all, rfl, by simp, hd, hd', hd'', hd3, hd4, hd5⟩
theorem oQ {t : TypeId} {v : Value} {d : DataW H} {p : List MemPlace} {ts : List TypeId} {vs : List Value} {ds : List (DataW H)} {ps : List MemPlace} (h : DataW.Trod enc P w base spare held t v d p) (h' : DataW.TrodAll enc P w base spare held ts vs ds ps) : DataW.TrodAll enc P w base spare held (t :: ts) (v :: vs) (d :: ds) (p ++ ps) := ⟨p, ps, h, h', rfl⟩
end
end Go.Ph
end
section
set_option linter.all false
namespace Go.Proofs.YtjojclbfnnkajaaGreat
open Go.ChangeShapes Go.WideShapes Go.ChangeAt Go.RowKit Go.Ph
theorem Tryz.own : ownKnob Tryz.prog.godebug = none := by kernel_rfl
theorem Tryz.laidOut : laidOutB Tryz.prog = true := by kernel_rfl
theorem NX {f : Nat} {fn : Func} {args : List Value} {w : World} {K : Value → HP} {c : Code} (hf : Tryz.prog.funcs[f]? = some fn) (hn : (fn.name == "runtime.NumGoroutine") = false) (hb : fn.body = some c)
  (h : iY Tryz.prog f args w K) : Calls Tryz.prog f args.toArray w (wH w K) := by
 have e := enters_of hf hn hb args.toArray w
 rcases h with ⟨v, w', h1, _⟩ | ⟨g, ar, h1, h2⟩
 ·rw [e] at h1; cases h1
 ·rw [e] at h1
  cases h1
  exact h2
theorem ZW (W : World) (a0 : Int) (l1 : List RecM) (s1 : Sl) (a2 : Int) (a3 : Int) (a4 : Int) (l5 : List Int) (s5 : Sl) (w0 : (Lit.int .i64 a0).wf = true) (h1 : Ls (gT) ((gR W.heap).w 0) l1 s1) (w2 : (Lit.int .i64 a2).wf = true) (w3 : (Lit.int .i64 a3).wf = true) (w4 : (Lit.int .i64 a4).wf = true) (h5 : Ls (tI .i64) ((gR W.heap).w 0) l5 s5) :
  Calls Tryz.prog 5 #[.int .i64 a0, s1.v, .int .i64 a2, .int .i64 a3, .int .i64 a4, s5.v] W fun e W' => e = .returned (.bool true) ∧ Below W.heap.size W W' := by
 have b0 : a0 < 9223372036854775808 ∧ -9223372036854775808 ≤ a0 := by have := w0; simp [Lit.wf, IntKind.min, IntKind.max, IntKind.signed, IntKind.bits] at this; omega
 have b2 : a2 < 9223372036854775808 ∧ -9223372036854775808 ≤ a2 := by have := w2; simp [Lit.wf, IntKind.min, IntKind.max, IntKind.signed, IntKind.bits] at this; omega
 have b3 : a3 < 9223372036854775808 ∧ -9223372036854775808 ≤ a3 := by have := w3; simp [Lit.wf, IntKind.min, IntKind.max, IntKind.signed, IntKind.bits] at this; omega
 have b4 : a4 < 9223372036854775808 ∧ -9223372036854775808 ≤ a4 := by have := w4; simp [Lit.wf, IntKind.min, IntKind.max, IntKind.signed, IntKind.bits] at this; omega
 have hk := ac7 (s := gR W.heap) (K := fun r H' => r = true ∧ ∃ s', Step [] (gR W.heap) s' ∧ s'.H = H') (C := sH.cx) (bound := a0) (n := a2) (turns := a4) h1 h5 b3.1 fun s' e => ⟨rfl, s', e, rfl⟩
 have hc : iY Tryz.prog 5 [.int .i64 a0, s1.v, .int .i64 a2, .int .i64 a3, .int .i64 a4, s5.v] W (fun v H' => v = .bool true ∧ ∃ s', Step [] (gR W.heap) s' ∧ s'.H = H') := by
  refine E5.sound _ _ W ?_
  show S.tJ sH.cx a0 s1 a2 a3 a4 s5 (fun r => fun H' => Value.bool r = .bool true ∧ ∃ s', Step [] (gR W.heap) s' ∧ s'.H = H') W.heap
  have e : (fun (r : Bool) (H' : aP) => Value.bool r = .bool true ∧ ∃ s', Step [] (gR W.heap) s' ∧ s'.H = H') = fun r H' => r = true ∧ ∃ s', Step [] (gR W.heap) s' ∧ s'.H = H' := by
   funext r H'
   simp
  rw [e]
  exact hk
 refine (NX Tryz.func5 (by kernel_rfl) rfl hc).mono fun e W' ⟨v, he, hs, hv, s', st, hh⟩ => ?_
 subst hv
 exact ⟨he, XY st hh.symm hs⟩
set_option maxRecDepth 100000 in
theorem Z2 (os : Os) (started : os.Started) (H : Type) (enc : TypeId × Value → H) :
  ReturnsInHanded {} Tryz.checked os 5 .any (Rows.dboxCompactsSpec.pre6 enc Tryz.prog Tryz.f5 Rows.dboxCompactsRow.domain false) (Rows.dboxCompactsSpec.post enc Tryz.prog Tryz.f5 false true false false) := by
 refine returnsInHanded_of_change (C := Tryz.checked) Tryz.own started (by kernel_rfl) Tryz.func5
  (ChangeSpec.witness6 (enc := enc) (C := Tryz.checked) false ⟨#[], #[.int .i64 0, .slice none 0 0, .int .i64 0, .int .i64 0, .int .i64 0, .slice none 0 0], []⟩ 8 (by kernel_rfl) (by kernel_rfl) (by kernel_rfl) (by kernel_rfl)) ?_
 intro W base args ds gs before hval0 hW hcnd _
 have hval : ∀ (j : Nat) t v, Tryz.f5.params[j]? = some t → args[j]? = some v → Value.okWide Tryz.prog W .any base t v := hval0
 have hW' := hW
 obtain ⟨p, q, hA0, hV, rfl, hfz, hnd⟩ := hW
 have hA : DataW.TrodAll enc Tryz.prog W 0 (fun _ => true) true Tryz.f5.params.toList args.toList ds p := hA0
 rw [Tryz.params5] at hA hval
 obtain ⟨v0, v1, v2, v3, v4, v5, d0, d1, d2, d3, d4, d5, p0, p1, p2, p3, p4, p5, rfl, rfl, rfl, h0, h1, h2, h3, h4, h5⟩ := adh hA
 obtain ⟨rfl, rfl⟩ := trodVars_none hV
 obtain ⟨a0, rfl, rfl, rfl, w0⟩ := open_int Tryz.underlying3 (hval 0 3 v0 rfl rfl) h0
 obtain ⟨a2, rfl, rfl, rfl, w2⟩ := open_int Tryz.underlying3 (hval 2 3 v2 rfl rfl) h2
 obtain ⟨a3, rfl, rfl, rfl, w3⟩ := open_int Tryz.underlying3 (hval 3 3 v3 rfl rfl) h3
 obtain ⟨a4, rfl, rfl, rfl, w4⟩ := open_int Tryz.underlying3 (hval 4 3 v4 rfl rfl) h4
 have hv1 := HN Tryz.underlying40 (hval 1 40 v1 rfl rfl)
 obtain ⟨m1, k1⟩ := h1
 have k1' := k1
 rw [hv1] at k1'
 obtain ⟨l1, s1, rfl, g1⟩ := Dq (gT) Tryz.underlying40 (by kernel_rfl) (by decide) (T3 Tryz.underlying45 (by kernel_rfl) rfl rfl (by kernel_rfl) Tryz.underlying43 Tryz.underlying5 (by kernel_rfl)) k1'
 have hv5 := HN Tryz.underlying41 (hval 5 41 v5 rfl rfl)
 obtain ⟨m5, k5⟩ := h5
 have k5' := k5
 rw [hv5] at k5'
 obtain ⟨l5, s5, rfl, g5⟩ := Dq (tI .i64) Tryz.underlying41 (by kernel_rfl) (by decide) (aet Tryz.underlying3) k5'
 clear hA0 hval0
 refine (ZW W a0 l1 s1 a2 a3 a4 l5 s5 w0 g1 w2 w3 w4 g5).mono fun e W' ⟨he, hb⟩ => ?_
 subst he
 have hlt := hW'.lt
 refine ⟨_, rfl, _, _, _, [], _, [], hW', trodAll_mk1 (shut_bool Tryz.underlying4 _), oQ (shut_int Tryz.underlying3 w0) (oQ (Below.trod Tryz.laidOut (by kernel_rfl) (of_decide_eq_true (by kernel_rfl)) ⟨m1, k1⟩ hb (fun x hx => hlt x (by simp [hx]))) (oQ (shut_int Tryz.underlying3 w2) (oQ (shut_int Tryz.underlying3 w3) (oQ (shut_int Tryz.underlying3 w4) (oQ (Below.trod Tryz.laidOut (by kernel_rfl) (of_decide_eq_true (by kernel_rfl)) ⟨m5, k5⟩ hb (fun x hx => hlt x (by simp [hx]))) (trodAll_mk0)))))), rfl, ?_, fun h => nomatch h⟩
 exact hb.frame _
theorem dboxCompacts_holds : Rows.DboxCompactsSaid :=
 OpenClaim.holds_of_wide 5 Tryz.f5 rfl rfl rfl rfl rfl rfl rfl ⟨rfl, rfl, rfl, rfl, rfl⟩ rfl rfl rfl rfl rfl (by kernel_rfl) Tryz.func5 (by kernel_rfl)
  (of_decide_eq_true (by kernel_rfl)) (by unfold Func.isWrapper; first | (rw [if_pos (by decide +kernel)]; kernel_rfl) | (rw [if_neg (by decide +kernel)]; exact ⟨rfl, rfl⟩))
  (fun os started H enc _ => Z2 os started H enc)
end Go.Proofs.YtjojclbfnnkajaaGreat
end

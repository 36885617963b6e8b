/- pigeonholelaw18.DboxOpens returns true at every input, and each argument reads behind the call as it read before; no condition. -/
import Derived.Test.YtjojclbfnnkajaaGreatPhC3
import Derived.Test.YtjojclbfnnkajaaGreatPhE
import Derived.Deep.SlicePairs
import Derived.ProofKit
import Derived.OpenShut
import Derived.Test.YtjojclbfnnkajaaGreatRows
section
set_option linter.all false
namespace Go.Ph
open Go.ChangeShapes Go.WideShapes Go.RowKit
def st0 (H : Heap) : St := ⟨H, fun _ _ => 0, fun b i hb => by omega, fun b i h => absurd rfl h⟩
theorem st0_w {H : Heap} {b i : Nat} {v : Value} (h : cell H ⟨b, i, none⟩ = some v) : (st0 H).w 0 b i = some (.v v) := w_mk (cell_pk h) rfl
theorem blk_eq {H H' : Heap} {b : Nat} (hb : b < H.size) (hp : ∀ i, pk H' b i = pk H b i) (hs : sh H' b = sh H b) : H'[b]? = H[b]? := by
  cases e : H[b]? with
  | none => have := Array.getElem?_eq_none_iff.1 e; omega
  | some o =>
    by_cases ho : Obj.cl o = false
    · have h1 := hp 0
      rw [pk_obj e ho] at h1
      exact (obj_pk h1).1
    · cases o with
      | cells c t f =>
        unfold sh at hs
        rw [e] at hs
        simp only at hs
        cases e2 : H'[b]? with
        | none => rw [e2] at hs; cases hs
        | some o' =>
          rw [e2] at hs
          cases o' with
          | cells c' t' f' =>
            simp only [Option.some.injEq, Prod.mk.injEq] at hs
            obtain ⟨rfl, rfl⟩ := hs
            have : c' = c := by
              apply Array.ext_getElem?
              intro i
              have h1 := hp i
              unfold pk at h1
              rw [e, e2] at h1
              simp only at h1
              cases e3 : c[i]? <;> cases e4 : c'[i]? <;> rw [e3, e4] at h1 <;> simp at h1 ⊢
              exact h1
            rw [this]
          | _ => cases hs
      | _ => exact absurd rfl ho
theorem below_of {W W' : World} {s' : St} (h : Step [] (st0 W.heap) s') (he : W'.heap = s'.H) (hs : Same W W') : Below W.heap.size W W' := by
  obtain ⟨h1, h2, h3⟩ := hs
  refine ⟨h1, h2, h3, by rw [he]; exact h.sz, fun k hk => ?_⟩
  rw [he]
  exact blk_eq hk (fun i => (h.old k i hk (.inl rfl)).2) (h.shp k hk)
theorem add_at' {a : Addr} (h : a.spot = none) (n : Nat) : a.add n = ⟨a.block, a.off + n, none⟩ := by
  obtain ⟨b, o, sp⟩ := a
  simp only at h
  subst h
  exact add_at b o n
theorem cell_spot {H : Heap} {a : Addr} {v : Value} (h : cell H a = some v) : a.spot = none := by
  unfold cell at h
  split at h
  · split at h
    · cases h
    · rename_i h1; simpa using h1
  · cases h
theorem spot_add {a : Addr} {n : Nat} (h : (a.add n).spot = none) (hn : n = 0) : a.spot = none := by
  subst hn; unfold Addr.add at h; simpa using h
section
variable {H : Type} {enc : TypeId × Value → H} {P : Program} {W : World}
/-- bytes read -/
theorem bytes_of {t e : TypeId} {n : Nat} {v : Value} {x : DataW H × List MemPlace} (ht : P.underlying t = some (.slice e)) (he : P.underlying e = some (.int .u8)) (hc : P.cellsOf e = 1)
    (h : DataW.trod enc P W 0 (fun _ => true) true n t [v] = some x) : ∃ (d : ByteArray) (sl : Sl), v = .slice sl.a sl.len sl.cap ∧ BySl ((st0 W.heap).w 0) d.data.toList sl := by
  rcases open_ints ht he hc h with ⟨h1, _⟩ | ⟨a, len, cap, zs, h1, _, hl, hm, hz, _, hcell, hw⟩
  · exact ⟨⟨#[]⟩, ⟨none, 0, 0⟩, by simpa using h1, .ls Ls.nil_⟩
  · simp only [if_true] at hz
    refine ⟨⟨((zs.take len).map fun z => z.toNat.toUInt8).toArray⟩, ⟨some a, len, cap⟩, by simpa using h1, ?_⟩
    by_cases h0 : cap = 0
    · have : len = 0 := by omega
      subst this
      exact .no (by simp) rfl
    · have hsp : a.spot = none := spot_add (cell_spot (hcell 0 (by omega))) rfl
      refine .ls ⟨by simp; omega, hl, fun h => (by cases h), fun a' ha => ?_⟩
      simp at ha; subst ha
      refine ⟨hsp, fun j y hj => ⟨[.int .u8 y.toNat], rfl, fun i u hi => ?_⟩⟩
      have ei : i = 0 := by cases i with
        | zero => rfl
        | succ i => simp at hi
      subst ei
      simp at hi; subst hi
      simp only [List.getElem?_map, List.getElem?_take] at hj
      split at hj
      · rename_i hjl
        have hjz : j < zs.length := by omega
        rw [List.getElem?_eq_getElem hjz] at hj
        simp at hj
        have hc1 := hcell j hjz
        have hwz : (Lit.int .u8 zs[j]).wf = true := hw _ (List.getElem_mem hjz)
        have hb : 0 ≤ zs[j] ∧ zs[j] ≤ 255 := by simpa [Lit.wf, IntKind.min, IntKind.max, IntKind.signed, IntKind.bits] using hwz
        have e1 : zs.getD j 0 = zs[j] := by simp [List.getD, hjz]
        rw [e1] at hc1
        have hc2 : cell W.heap (a.add j) = some (.int .u8 zs[j]) := hc1
        rw [add_at' hsp] at hc2
        have := st0_w hc2
        simp only [tBy, Nat.mul_one, Nat.add_zero]
        rw [this]
        congr 3
        rw [← hj]
        simp
        omega
      · cases hj
/-- files read -/
theorem files_of {t e f : TypeId} {f0 f1 : Field} {b : Nat} {v : Value} {d : DataW H} {ps : List MemPlace} (ht : P.underlying t = some (.slice e)) (he : P.underlying e = some (.struct #[f0, f1]))
    (ce : P.cellsOf e = 2) (o0 : f0.offset = 0) (o1 : f1.offset = 1) (c0 : P.cellsOf f0.type = 1) (c1 : P.cellsOf f1.type = 1) (hs : P.underlying f0.type = some .string)
    (hb : P.underlying f1.type = some (.slice f)) (hi : P.underlying f = some (.int .u8)) (cf : P.cellsOf f = 1)
    (hval : Value.okWide P W .any b t v) (h : DataW.Trod enc P W 0 (fun _ => true) true t v d ps) :
    ∃ (files : List FileM) (sl : Sl), v = sl.v ∧ Ls tFileM ((st0 W.heap).w 0) files sl ∧ ∀ x ∈ files, x.name.size ≤ 9223372036854775807 := by
  obtain ⟨n, h⟩ := h
  have hv : v.cells.toList = [v] ∧ ∀ a l c, v = .slice (some a) l c → a.spot = none := by
    unfold Value.okWide Cell.okWide Cell.ok at hval
    rw [ht] at hval
    cases v
    case slice p l c =>
      refine ⟨rfl, fun a l' c' e => ?_⟩
      cases e
      exact hval.2.2.2.1
    all_goals exact absurd hval id
  obtain ⟨hv1, hv2⟩ := hv
  rw [hv1] at h
  rcases Deep.open_slice_pairs ht he ce o0 o1 c0 c1 h with ⟨h1, _⟩ | ⟨a, len, cap, m, k, V0, V1, D0, D1, P0, P1, h1, _, hl, hm, hmm, _, hx⟩
  · exact ⟨[], ⟨none, 0, 0⟩, by simpa using h1, Ls.nil_, by simp⟩
  · simp only [if_true] at hmm
    subst hmm
    have h1' : v = .slice (some a) len m := by simpa using h1
    have hsp := hv2 _ _ _ h1'
    have each : ∀ i, i < m → ∃ q : FileM × Sl, cell W.heap (a.add (i * 2)) = some (.string q.1.name) ∧ cell W.heap (a.add (i * 2 + 1)) = some (.slice q.2.a q.2.len q.2.cap) ∧ BySl ((st0 W.heap).w 0) q.1.data.data.toList q.2 ∧ q.1.name.size ≤ 9223372036854775807 := fun i hi' => by
      obtain ⟨g0, g1, g2, g3⟩ := hx i hi'
      obtain ⟨s, es, _, hsz⟩ := DataW.trod_string hs g2
      obtain ⟨dd, sl, ed, hd⟩ := bytes_of hb hi cf g3
      have es' : V0 i = .string s := by simpa using es
      rw [es'] at g0
      rw [ed] at g1
      exact ⟨(⟨s, dd⟩, sl), g0, g1, hd, by unfold maxLen at hsz; omega⟩
    have : Inhabited (FileM × Sl) := ⟨(⟨⟨#[]⟩, ⟨#[]⟩⟩, ⟨none, 0, 0⟩)⟩
    obtain ⟨q, hq⟩ := Deep.choose_lt each
    refine ⟨(List.range len).map fun i => (q i).1, ⟨some a, len, m⟩, h1', ⟨by simp, hl, fun h => (by cases h), fun a' ha => ?_⟩, fun x hx' => ?_⟩
    · simp at ha; subst ha
      refine ⟨hsp, fun j x hj => ?_⟩
      rw [List.getElem?_map] at hj
      by_cases hjl : j < len
      · rw [List.getElem?_range hjl] at hj
        simp at hj; subst hj
        obtain ⟨g0, g1, g2, g3⟩ := hq j (by omega)
        rw [add_at' hsp] at g0 g1
        refine ⟨_, ⟨(q j).2, rfl, g2⟩, fun i u hiu => ?_⟩
        have e2 : tFileM.n = 2 := rfl
        rw [e2]
        match i, hiu with
        | 0, hiu => simp at hiu; subst hiu; exact st0_w g0
        | 1, hiu => simp at hiu; subst hiu; exact st0_w g1
        | i + 2, hiu => simp at hiu
      · rw [List.getElem?_eq_none (by simp; omega)] at hj; cases hj
    · obtain ⟨i, hir, rfl⟩ := List.mem_map.1 hx'
      exact (hq i (by have := List.mem_range.1 hir; omega)).2.2.2
end
end Go.Ph
end
section
set_option linter.all false
namespace Go.Proofs.YtjojclbfnnkajaaGreat
open Go.ChangeShapes Go.WideShapes Go.ChangeAt Go.RowKit Go.Ph
theorem Tryz.own : ownKnob Tryz.prog.godebug = none := by kernel_rfl
theorem Tryz.laidOut : laidOutB Tryz.prog = true := by kernel_rfl
/-- an entry's run is a call -/
theorem calls_entry {f : Nat} {fn : Func} {args : List Value} {w : World} {K : Value → HP} {c : Code} (hf : Tryz.prog.funcs[f]? = some fn) (hn : (fn.name == "runtime.NumGoroutine") = false) (hb : fn.body = some c)
    (h : CallOk Tryz.prog f args w K) : Calls Tryz.prog f args.toArray w (RetK w K) := by
  have e := enters_of hf hn hb args.toArray w
  rcases h with ⟨v, w', h1, _⟩ | ⟨g, ar, h1, h2⟩
  · rw [e] at h1; cases h1
  · rw [e] at h1
    cases h1
    exact h2
theorem dboxOpens_walk (W : World) (files : List FileM) (sl : Sl) (u n : Int) (h : Ls tFileM ((st0 W.heap).w 0) files sl) (hfn : ∀ x ∈ files, x.name.size ≤ 9223372036854775807) :
    Calls Tryz.prog 3 #[sl.v, .int .i64 u, .int .i64 n] W fun e W' => e = .returned (.bool true) ∧ Below W.heap.size W W' := by
  have hk := DboxOpens_ok (C := tab3.cx) (K := fun r H' => r = true ∧ ∃ s', Step [] (st0 W.heap) s' ∧ s'.H = H') (u := u) (bound := n) h hfn fun s' e => ⟨rfl, s', e, rfl⟩
  have hc : CallOk Tryz.prog 3 [sl.v, .int .i64 u, .int .i64 n] W (fun v H' => v = .bool true ∧ ∃ s', Step [] (st0 W.heap) s' ∧ s'.H = H') := by
    refine E3.sound _ _ W ?_
    show S.lw18_DboxOpens tab3.cx sl u n (fun r => fun H' => Value.bool r = .bool true ∧ ∃ s', Step [] (st0 W.heap) s' ∧ s'.H = H') W.heap
    have e : (fun (r : Bool) (H' : Heap) => Value.bool r = .bool true ∧ ∃ s', Step [] (st0 W.heap) s' ∧ s'.H = H') = fun r H' => r = true ∧ ∃ s', Step [] (st0 W.heap) s' ∧ s'.H = H' := by
      funext r H'
      simp
    rw [e]
    exact hk
  refine (calls_entry Tryz.func3 (by kernel_rfl) rfl hc).mono fun e W' ⟨v, he, hs, hv, s', st, hh⟩ => ?_
  subst hv
  exact ⟨he, below_of st hh.symm hs⟩
set_option maxRecDepth 100000 in
theorem dboxOpens_lifted (os : Os) (started : os.Started) (H : Type) (enc : TypeId × Value → H) :
    ReturnsInHanded {} Tryz.checked os 3 .any (Rows.dboxOpensSpec.pre6 enc Tryz.prog Tryz.f3 Rows.dboxOpensRow.domain false) (Rows.dboxOpensSpec.post enc Tryz.prog Tryz.f3 false true false false) := by
  refine returnsInHanded_of_change (C := Tryz.checked) Tryz.own started (by kernel_rfl) Tryz.func3
    (ChangeSpec.witness6 (enc := enc) (C := Tryz.checked) false ⟨#[], #[.slice none 0 0, .int .i64 0, .int .i64 0], []⟩ 8 (by kernel_rfl) (by kernel_rfl) (by kernel_rfl) (by kernel_rfl)) ?_
  intro W base args ds gs before hval0 hW hcnd _
  have hval : ∀ (j : Nat) t v, Tryz.f3.params[j]? = some t → args[j]? = some v → Value.okWide Tryz.prog W .any base t v := hval0
  have hW' := hW
  obtain ⟨p, q, hA0, hV, rfl, hfz, hnd⟩ := hW
  have hA : DataW.TrodAll enc Tryz.prog W 0 (fun _ => true) true Tryz.f3.params.toList args.toList ds p := hA0
  rw [Tryz.params3] at hA hval
  obtain ⟨v0, v1, v2, d0, d1, d2, p0, p1, p2, rfl, rfl, rfl, h0, h1, h2⟩ := trodAll_three hA
  obtain ⟨rfl, rfl⟩ := trodVars_none hV
  obtain ⟨a, rfl, rfl, rfl, wa⟩ := open_int Tryz.underlying3 (hval 1 3 v1 rfl rfl) h1
  obtain ⟨b, rfl, rfl, rfl, wb⟩ := open_int Tryz.underlying3 (hval 2 3 v2 rfl rfl) h2
  obtain ⟨files, sl, rfl, hls, hfn⟩ := files_of Tryz.underlying22 Tryz.underlying64 (by kernel_rfl) rfl rfl (by kernel_rfl) (by kernel_rfl) Tryz.underlying9 Tryz.underlying43 Tryz.underlying5 (by kernel_rfl) (hval 0 22 v0 rfl rfl) h0
  clear hA0 hval0
  refine (dboxOpens_walk W files sl a b hls hfn).mono fun e W' ⟨he, hb⟩ => ?_
  subst he
  have hlt := hW'.lt
  refine ⟨_, rfl, _, _, _, [], _, [], hW', trodAll_mk1 (shut_bool Tryz.underlying4 _), trodAll_mk3 (Below.trod Tryz.laidOut (by kernel_rfl) (of_decide_eq_true (by kernel_rfl)) h0 hb (fun x hx => hlt x (by simp [hx]))) (shut_int Tryz.underlying3 wa) (shut_int Tryz.underlying3 wb), rfl, ?_, fun h => nomatch h⟩
  exact hb.frame _
theorem dboxOpens_holds : Rows.DboxOpensSaid :=
  OpenClaim.holds_of_wide 3 Tryz.f3 rfl rfl rfl rfl rfl rfl rfl ⟨rfl, rfl, rfl, rfl, rfl⟩ rfl rfl rfl rfl rfl (by kernel_rfl) Tryz.func3 (by kernel_rfl)
    (of_decide_eq_true (by kernel_rfl)) (by unfold Func.isWrapper; first | (rw [if_pos (by decide +kernel)]; kernel_rfl) | (rw [if_neg (by decide +kernel)]; exact ⟨rfl, rfl⟩))
    (fun os started H enc _ => dboxOpens_lifted os started H enc)
end Go.Proofs.YtjojclbfnnkajaaGreat
end

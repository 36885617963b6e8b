/- Parts of the proof that pigeonholelaw18.DboxOpens returns true at every input and leaves the input as it was: what the words of the functions tell, part 1. -/
import Derived.Test.YtjojclbfnnkajaaGreatPhC0
section
set_option linter.all false
namespace Go.Ph
open S
theorem newo_word {s : St} {o : Obj} {K : Nat → HP} (k : Nat) (hk : k < 2305843009213693952 + 1152921504606846976 * s.H.size) (ho : Obj.cl o = false) (h : ∀ (s' : St) (b : Nat), NewO s s' b k o → K b s'.H) : newo o K s.H :=
  newo_rule k hk ho h
structure FileM where
  name : ByteArray
  data : ByteArray
/-- bytes behind a slice that is only read -/
inductive BySl (V : View) (l : List UInt8) (sl : Sl) : Prop where
  | ls (h : Ls tBy V l sl)
  | no (h : l = []) (h0 : sl.len = 0)
theorem BySl.len {V : View} {l : List UInt8} {sl : Sl} (h : BySl V l sl) : sl.len = l.length := by
  cases h with
  | ls h => exact h.len
  | no h h0 => subst h; exact h0
theorem BySl.mono {V V' : View} {l : List UInt8} {sl : Sl} (h : BySl V l sl) (hV : VLe V V') : BySl V' l sl := by
  cases h with
  | ls h => exact .ls (LsW.mono h hV hV)
  | no h h0 => exact .no h h0
theorem BySl.st {s s' : St} {l : List UInt8} {sl : Sl} {S : List Nat} (h : BySl (s.w 0) l sl) (hs : Step S s s') : BySl (s'.w 0) l sl := h.mono hs.v0
theorem ldBySl {s : St} {l : List UInt8} {sl : Sl} {K : ByteArray → HP} (h : BySl (s.w 0) l sl) (hK : K ⟨l.toArray⟩ s.H) : ldBy sl K s.H := by
  cases h with
  | ls h => exact ldBy_rule h hK
  | no h h0 =>
    subst h
    refine ⟨⟨#[]⟩, ?_, hK⟩
    obtain ⟨a, n, c⟩ := sl
    simp only at h0
    subst h0
    cases a with
    | none => rfl
    | some a => exact ⟨rfl, fun j v hj => by simp [bcells] at hj⟩
def tFileM : Ty FileM := ⟨2, fun V x vs => ∃ sl : Sl, vs = [.string x.name, .slice sl.a sl.len sl.cap] ∧ BySl V x.data.data.toList sl, by rintro _ _ _ ⟨_, rfl, _⟩; rfl, by rintro _ _ _ _ h ⟨sl, rfl, h1⟩; exact ⟨sl, rfl, h1.mono h⟩, by rintro _ _ _ ⟨_, rfl, _⟩; simp [one]⟩
theorem newc_sts {s : St} {cs : Array Value} {vs : List Value} {K : Nat → HP} (hl : cs.size = vs.length) (hv : ∀ v ∈ vs, one v = true)
    (h : ∀ s' b, Step [] s s' → At (s'.w 0) b 0 vs → K b s'.H) : newc cs (fun b => sts (at0 b) 0 vs (K b)) s.H := by
  have hq0 : own s ≠ 0 := by unfold own; omega
  refine newc_k (own s) (by unfold own; omega) fun s1 b n1 a1 => ?_
  refine sts_rule (k := own s) (k' := 0) vs (fun j hj => ?_) hv (by omega) hq0 fun s2 h2 => ?_
  · have hj' : j < cs.toList.length := by simp; omega
    exact ⟨_, by have := a1 j _ (List.getElem?_eq_getElem hj'); simpa using this⟩
  · have e2 : Step [own s] s1 s2 := h2.step (q := own s) (by simp) hq0 fun i hi => by
      have hj' : i < cs.toList.length := by simp; omega
      have := a1 i _ (List.getElem?_eq_getElem hj')
      have := (w_some this).2
      simpa using this
    refine h s2 b ((n1.step.n.trans e2).loc) ?_
    have := h2.here
    simpa using this
namespace R
def newGo (cap : Int) : List FileM → RDisk → Int → Option RDisk
  | [], d, _ => some d
  | f :: l, d, used => if (!nameOk f.name || decide (0 ≤ find d.now f.name) || decide (cap - used < f.data.size)) = true then none
    else newGo cap l { d with files := d.files ++ [⟨f.data, f.data, []⟩], now := put d.now ⟨f.name, d.files.length⟩ } (used + f.data.size)
def new (files : List FileM) (cap : Int) : Option RDisk :=
  if cap < 1 ∨ 4194304 < cap ∨ 1024 < files.length then none
  else (newGo cap files ⟨[], [], [], [], cap, false, 0, -1, -1, 0⟩ 0).map fun d => { d with sure := d.now }
end R
theorem rNew_ok {k : Nat} {s : St} {files : List FileM} {sl : Sl} {cap : Int} {K : Option Addr → HP} (h : Ls tFileM (s.w 0) files sl) (hk0 : k ≠ 0) (hk : k < 2305843009213693952 + 1152921504606846976 * s.H.size) (hko : k ≠ own s)
    (h0 : R.new files cap = none → ∀ s', Step [k] s s' → K none s'.H)
    (h1 : ∀ d, R.new files cap = some d → ∀ s' b, Step [k] s s' → RD k s' b d → K (some ⟨b, 0, none⟩) s'.H) : rf04_New sl cap K s.H := by
  unfold rf04_New
  have hlen := h.len
  unfold R.new at h0 h1
  have j1t : (cap < 1 ∨ 4194304 < cap ∨ 1024 < files.length) → rf04_New_j1 sl cap true K s.H := fun hc => by
    unfold rf04_New_j1
    refine bif_t ?_
    rw [if_pos hc] at h0
    exact h0 rfl s Step.refl
  refine bif_dec (fun c1 => ?_) (fun c1 => ?_)
  · exact j1t (.inl c1)
  · refine bif_dec (fun c2 => ?_) (fun c2 => ?_)
    · exact j1t (.inr (.inl c2))
    · by_cases c3 : (1024 : Int) < (sl.len : Nat)
      · rw [decide_eq_true c3]; exact j1t (.inr (.inr (by omega)))
      · rw [decide_eq_false c3]
        have hn : ¬(cap < 1 ∨ 4194304 < cap ∨ 1024 < files.length) := by omega
        rw [if_neg hn] at h0 h1
        unfold rf04_New_j1
        refine bif_f ?_
        refine newc_k k hk fun s1 b n1 a1 => ?_
        have e1 := n1.step
        refine loop_rule (ι := Nat × RDisk × Int) (fun x => [.int .i64 x.2.2, .int .i64 x.1])
          (fun x s' => x.1 ≤ files.length ∧ Step [own s, k] s s' ∧ RD k s' b x.2.1 ∧ x.2.1.files.length = x.1 ∧ x.2.1.now.length ≤ x.1 ∧ 0 ≤ x.2.2 ∧ x.2.2 ≤ cap ∧
            R.newGo cap files ⟨[], [], [], [], cap, false, 0, -1, -1, 0⟩ 0 = R.newGo cap (files.drop x.1) x.2.1 x.2.2 ∧
            ∃ f n u w : Sl, At (s'.w k) b 0 [.slice f.a f.len f.cap, .slice n.a n.len n.cap, .slice u.a u.len u.cap, .slice w.a w.len w.cap, .int .i64 x.2.1.cap, .bool x.2.1.down, .int .i64 x.2.1.calls, .int .i64 x.2.1.fail, .int .i64 x.2.1.crash, .int .i64 x.2.1.err] ∧
              Bld tRFile (own s) s' x.2.1.files f ∧ Ls tEnt (s'.w 0) x.2.1.now n ∧ Ls tEnt (s'.w 0) x.2.1.sure u ∧ Ls tTurn (s'.w 0) x.2.1.waits w) (fun x _ => files.length - x.1) (0, ⟨[], [], [], [], cap, false, 0, -1, -1, 0⟩, 0) rfl
          ⟨Nat.zero_le _, e1.n, ⟨hk0, ⟨none, 0, 0⟩, ⟨none, 0, 0⟩, ⟨none, 0, 0⟩, ⟨none, 0, 0⟩, a1, Ls.nil_, Ls.nil_, Ls.nil_, Ls.nil_⟩, rfl, Nat.le_refl _, Int.le_refl _, by simp only; omega, by simp only [List.drop_zero],
            ⟨none, 0, 0⟩, ⟨none, 0, 0⟩, ⟨none, 0, 0⟩, ⟨none, 0, 0⟩, a1, Bld.nil, Ls.nil_, Ls.nil_, Ls.nil_⟩ ?_
        rintro ⟨i, d, used⟩ s2 ⟨hi, e2, r2, fl2, nl2, u0, uc, g2, f, n, u, w, a2, b2, l2, l3, l4⟩ G hG
        simp only [List.getD_cons_zero, List.getD_cons_succ, asI_v, asL_v, asS_v, asB_v, asM_v, asP_v]
        simp only at hi r2 fl2 nl2 u0 uc g2 a2 b2 l2 l3 l4
        refine bif_dec (fun hlt => ?_) (fun hlt => ?_)
        · refine ixL_rule (Ls.st h e2) (by omega) (by omega) fun b' o x hx he => ?_
          obtain ⟨_, ⟨xs, rfl, hxs⟩, ha⟩ := he
          rw [Int.toNat_natCast] at hx
          have hdr : files.drop i = x :: files.drop (i + 1) := by
            obtain ⟨q1, q2⟩ := List.getElem?_eq_some_iff.1 hx
            rw [List.drop_eq_getElem_cons q1, q2]
          rw [hdr] at g2
          unfold ld_G_api_File
          repeat (first|refine nn_at ?_|refine ldI_at ha rfl ?_|refine ldB_at ha rfl ?_|refine ldS_at ha rfl ?_|refine ldP_at ha rfl ?_|refine ldM_at ha rfl ?_|refine ldL_at ha rfl ?_)
          refine newc_sts rfl (by simp [one]) fun s3 t8 e3 a8 => ?_
          have e23 : Step [own s, k] s s3 := e2.trans e3.n
          repeat (first|refine nn_at ?_|refine ldI_at a8 rfl ?_|refine ldB_at a8 rfl ?_|refine ldS_at a8 rfl ?_|refine ldP_at a8 rfl ?_|refine ldM_at a8 rfl ?_|refine ldL_at a8 rfl ?_)
          have a23 := a2.mono (e3.view (k := k) (by simp))
          have bad : (!nameOk x.name || decide (0 ≤ R.find d.now x.name) || decide (cap - used < x.data.size)) = true → rf04_New_j2 sl cap b used i t8 true K G s3.H := fun hb => by
            unfold rf04_New_j2
            refine bif_t ?_
            simp only [R.newGo] at g2
            rw [if_pos hb] at g2
            rw [g2] at h0
            exact h0 rfl s3 e23.loc
          refine Name_ok ?_
          cases hnm : nameOk x.name
          · refine bif_t (bad (by rw [hnm]; rfl))
          · refine bif_f ?_
            repeat (first|refine nn_at ?_|refine ldI_at a23 rfl ?_|refine ldB_at a23 rfl ?_|refine ldS_at a23 rfl ?_|refine ldP_at a23 rfl ?_|refine ldM_at a23 rfl ?_|refine ldL_at a23 rfl ?_)
            repeat (first|refine nn_at ?_|refine ldI_at a8 rfl ?_|refine ldB_at a8 rfl ?_|refine ldS_at a8 rfl ?_|refine ldP_at a8 rfl ?_|refine ldM_at a8 rfl ?_|refine ldL_at a8 rfl ?_)
            refine find_ok (l2.st e3) (by omega) ?_
            by_cases hfd : 0 ≤ R.find d.now x.name
            · rw [decide_eq_true hfd]
              refine bif_t (bad (by rw [decide_eq_true hfd]; simp))
            · rw [decide_eq_false hfd]
              refine bif_f ?_
              repeat (first|refine nn_at ?_|refine ldI_at a8 rfl ?_|refine ldB_at a8 rfl ?_|refine ldS_at a8 rfl ?_|refine ldP_at a8 rfl ?_|refine ldM_at a8 rfl ?_|refine ldL_at a8 rfl ?_)
              have hxl := hxs.len
              have hxl' : xs.len = x.data.size := by rw [hxl, ba_len]
              rw [w64_id (by omega) (by omega)]
              by_cases hrm : cap - used < (xs.len : Nat)
              · rw [decide_eq_true hrm]
                refine bad ?_
                rw [hxl'] at hrm
                rw [decide_eq_true hrm]; simp
              · rw [decide_eq_false hrm]
                unfold rf04_New_j2
                refine bif_f ?_
                repeat (first|refine nn_at ?_|refine ldI_at a8 rfl ?_|refine ldB_at a8 rfl ?_|refine ldS_at a8 rfl ?_|refine ldP_at a8 rfl ?_|refine ldM_at a8 rfl ?_|refine ldL_at a8 rfl ?_)
                repeat (first|refine nn_at ?_|refine ldI_at a23 rfl ?_|refine ldB_at a23 rfl ?_|refine ldS_at a23 rfl ?_|refine ldP_at a23 rfl ?_|refine ldM_at a23 rfl ?_|refine ldL_at a23 rfl ?_)
                repeat (first|refine nn_at ?_|refine ldI_at a8 rfl ?_|refine ldB_at a8 rfl ?_|refine ldS_at a8 rfl ?_|refine ldP_at a8 rfl ?_|refine ldM_at a8 rfl ?_|refine ldL_at a8 rfl ?_)
                refine ldBySl (hxs.st e3) ?_
                repeat (first|refine nn_at ?_|refine ldI_at a8 rfl ?_|refine ldB_at a8 rfl ?_|refine ldS_at a8 rfl ?_|refine ldP_at a8 rfl ?_|refine ldM_at a8 rfl ?_|refine ldL_at a8 rfl ?_)
                refine ldBySl (hxs.st e3) ?_
                refine newc_0 fun s4 b4 n4 a4 => ?_
                have e4 := n4.step
                have a24 := a23.mono (e4.view (k := k) (by simp))
                refine held_rule (ldL_at a24 rfl rfl) ?_
                have b24 := (b2.st e3 (by simp)).st e4 (by simp)
                have hz2 := e2.sz
                have hz3 := e3.sz
                have hz4 := e4.sz
                have hxd : (⟨x.data.data.toList.toArray⟩ : ByteArray) = x.data := by apply ba_ext; simp
                rw [hxd] at a4
                refine app_rule b24 (Ls.single (t := tRFile) (x := ⟨x.data, x.data, []⟩) ⟨⟨none, 0, 0⟩, rfl, Ls.nil_⟩ a4) fun s5 sl5 e5 b5 => ?_
                have a25 := a24.mono (e5.view (k := k) (by simpa using hko))
                repeat (first|refine nn_at ?_|refine ldI_at a25 rfl ?_|refine ldB_at a25 rfl ?_|refine ldS_at a25 rfl ?_|refine ldP_at a25 rfl ?_|refine ldM_at a25 rfl ?_|refine ldL_at a25 rfl ?_)
                refine fld_rule a25 (by simp) rfl hk0 fun s6 e6 z6 a6 o6 => ?_
                simp only [List.set_cons_succ, List.set_cons_zero] at a6
                repeat (first|refine nn_at ?_|refine ldI_at a6 rfl ?_|refine ldB_at a6 rfl ?_|refine ldS_at a6 rfl ?_|refine ldP_at a6 rfl ?_|refine ldM_at a6 rfl ?_|refine ldL_at a6 rfl ?_)
                have e36 : Step [own s, k] s3 s6 := (e4.n.trans (e5.mono (by simp))).trans (e6.mono (by simp))
                have a86 := a8.mono e36.v0
                repeat (first|refine nn_at ?_|refine ldI_at a86 rfl ?_|refine ldB_at a86 rfl ?_|refine ldS_at a86 rfl ?_|refine ldP_at a86 rfl ?_|refine ldM_at a86 rfl ?_|refine ldL_at a86 rfl ?_)
                have l26 := l2.st (e3.n.trans e36)
                refine put_ok l26 (by omega) fun s7 r7 e7 l7 => ?_
                have a7 := a6.mono (e7.view (k := k) (by simp))
                repeat (first|refine nn_at ?_|refine ldI_at a7 rfl ?_|refine ldB_at a7 rfl ?_|refine ldS_at a7 rfl ?_|refine ldP_at a7 rfl ?_|refine ldM_at a7 rfl ?_|refine ldL_at a7 rfl ?_)
                refine fld_rule a7 (by simp) rfl hk0 fun s8 e8 z8 a88 o8 => ?_
                simp only [List.set_cons_succ, List.set_cons_zero] at a88
                have e38 : Step [own s, k] s3 s8 := (e36.trans e7.n).trans (e8.mono (by simp))
                have e28 := e23.trans e38
                have b8 := ((b5.st e6 (by simpa using hko.symm)).st e7 (by simp)).st e8 (by simpa using hko.symm)
                have l8 := l7.st e8
                have l38 := l3.st (e3.n.trans e38)
                have l48 := l4.st (e3.n.trans e38)
                simp only
                rw [w64_id (n := used + (xs.len : Nat)) (by omega) (by omega), w64_id (n := (i : Int) + 1) (by omega) (by omega)]
                have hpl := put_len d.now ⟨x.name, (i : Int)⟩
                have hgo : R.newGo cap files ⟨[], [], [], [], cap, false, 0, -1, -1, 0⟩ 0 = R.newGo cap (files.drop (i + 1)) { d with files := d.files ++ [⟨x.data, x.data, []⟩], now := R.put d.now ⟨x.name, (i : Int)⟩ } (used + x.data.size) := by
                  rw [g2]
                  simp only [R.newGo]
                  rw [if_neg (by rw [hnm, decide_eq_false hfd, decide_eq_false (by omega)]; simp), fl2]
                refine hG (i + 1, { d with files := d.files ++ [⟨x.data, x.data, []⟩], now := R.put d.now ⟨x.name, (i : Int)⟩ }, used + (xs.len : Nat)) s8 ⟨by omega, e28, ⟨hk0, sl5, r7, u, w, a88, b8.ls, l8, l38, l48⟩, by simp [fl2], by simp only; omega, by simp only; omega, by simp only; omega, by rw [hxl']; exact hgo, sl5, r7, u, w, a88, b8, l8, l38, l48⟩ (by simp only; omega)
        · have : i = files.length := by omega
          subst this
          rw [List.drop_length] at g2
          simp only [R.newGo] at g2
          rw [g2] at h0 h1
          repeat (first|refine nn_at ?_|refine ldI_at a2 rfl ?_|refine ldB_at a2 rfl ?_|refine ldS_at a2 rfl ?_|refine ldP_at a2 rfl ?_|refine ldM_at a2 rfl ?_|refine ldL_at a2 rfl ?_)
          refine fld_rule a2 (by simp) rfl hk0 fun s3 e3 z3 a3 o3 => ?_
          simp only [List.set_cons_succ, List.set_cons_zero] at a3
          have e13 : Step [own s, k] s s3 := e2.trans (e3.mono (by simp))
          exact h1 _ rfl s3 b e13.loc ⟨hk0, f, n, n, w, a3, b2.ls.st e3, l2.st e3, l2.st e3, l4.st e3⟩
/-- a disk that is being made -/
structure Mk (v : VDisk) (d : RDisk) (cap used : Int) (i : Nat) : Prop where
  v0 : v.room = cap ∧ v.sure = [] ∧ v.moves = [] ∧ v.off = false ∧ v.count = 0 ∧ v.fl = -1 ∧ v.fc = 0 ∧ v.cl = -1 ∧ v.cc = 0
  d0 : d.cap = cap ∧ d.sure = [] ∧ d.waits = [] ∧ d.down = false ∧ d.calls = 0 ∧ d.fail = -1 ∧ d.crash = -1 ∧ d.err = 0
  len : v.nodes.length = i ∧ d.files.length = i
  names : NamesSim i v.seen d.now
  sum : (v.seen.map fun x => V.size v x.2).sum = used
  used : 0 ≤ used ∧ used ≤ cap ∧ cap ≤ 4194304
  same : ∀ (j : Nat) (x : VNode) (f : RFile), v.nodes[j]? = some x → d.files[j]? = some f → SameF x f
  ok : ∀ x ∈ v.nodes, NodeOk 0 x ∧ x.fresh = false
  nl : d.now.length ≤ i
theorem Mk.add {v : VDisk} {d : RDisk} {cap used : Int} {i : Nat} (h : Mk v d cap used i) (x : FileM) (hf : R.find d.now x.name < 0) (hr : (x.data.size : Int) ≤ cap - used) :
    Mk { v with nodes := v.nodes ++ [⟨x.data, x.data, [], false⟩], seen := mset v.seen x.name i } { d with files := d.files ++ [⟨x.data, x.data, []⟩], now := R.put d.now ⟨x.name, (d.files.length : Int)⟩ } cap (used + x.data.size) (i + 1) := by
  obtain ⟨g1, g2, g3, g4, g5, g6, g7, g8, g9⟩ := h
  have hl : look v.seen x.name = none := by
    cases e : look v.seen x.name with
    | none => rfl
    | some j => have := (g4.find x.name).1 j e; omega
  have hms : mset v.seen x.name i = v.seen ++ [(x.name, (i : Int))] := by simp [mset, hl]
  refine ⟨g1, g2, ⟨by simp [g3.1], by simp [g3.2]⟩, ?_, ?_, by omega, ?_, ?_, ?_⟩
  · rw [g3.2]
    refine (g4.more (Nat.le_succ i)).set ⟨by omega, by omega⟩ fun e he => ?_
    have := g4.good.rng e he
    omega
  · simp only
    rw [hms, List.map_append, List.sum_append]
    have e1 : (v.seen.map fun y => V.size { v with nodes := v.nodes ++ [⟨x.data, x.data, [], false⟩], seen := v.seen ++ [(x.name, (i : Int))] } y.2) = v.seen.map fun y => V.size v y.2 := by
      apply List.map_congr_left
      intro y hy
      have := g4.good.rng _ ((g4.mem y.1 y.2).1 hy)
      simp only at this
      unfold V.size
      simp only
      rw [List.getElem?_append_left (by omega)]
    rw [e1, g5]
    have : V.size { v with nodes := v.nodes ++ [⟨x.data, x.data, [], false⟩], seen := v.seen ++ [(x.name, (i : Int))] } (i : Int) = x.data.size := by
      unfold V.size
      simp only [Int.toNat_natCast]
      rw [List.getElem?_append_right (by omega)]
      simp [g3.1]
    simp [this]
  · intro j y f hy hfl
    simp only at hy hfl
    by_cases e : j < i
    · rw [List.getElem?_append_left (by omega)] at hy hfl
      exact g7 j y f hy hfl
    · rw [List.getElem?_append_right (by omega)] at hy hfl
      have hj : j = i := by
        have := (List.getElem?_eq_some_iff.1 hy).1
        simp at this; omega
      subst hj
      simp [g3.1] at hy
      simp [g3.2] at hfl
      subst hy hfl
      exact ⟨rfl, rfl, rfl⟩
  · intro y hy
    simp only [List.mem_append, List.mem_singleton] at hy
    rcases hy with hy | rfl
    · exact g8 y hy
    · exact ⟨⟨by simp only; omega, by simp only; omega, by simp, by simp⟩, rfl⟩
  · have := put_len d.now ⟨x.name, (d.files.length : Int)⟩
    simp only; omega
theorem Mk.free {v : VDisk} {d : RDisk} {cap used : Int} {i : Nat} (h : Mk v d cap used i) : V.free v = cap - used := by
  unfold V.free; rw [h.sum, h.v0.1]
theorem Mk.sim {v : VDisk} {d : RDisk} {cap used : Int} {i : Nat} (h : Mk v d cap used i) (hi : i ≤ 1024) : Sim { v with sure := v.seen } { d with sure := d.now } := by
  obtain ⟨⟨a1, a2, a3, a4, a5, a6, a7, a8, a9⟩, ⟨b1, b2, b3, b4, b5, b6, b7, b8⟩, g3, g4, g5, g6, g7, g8, g9⟩ := h
  refine ⟨⟨by simp only; omega, by simp only; omega, by simp only; omega⟩, by simp only [a4, b4], ⟨by simp only; omega, by simp only; omega⟩, ⟨.inl (by simp only; omega), by simp only; omega, by simp only; omega, by simp only; omega, by simp only; omega⟩, by simp only; omega,
    ⟨.inl (by simp only; omega), by simp only; omega, by simp only; omega, by simp only; omega, by simp only; omega⟩, ⟨by simp only; omega, by simp only; omega⟩, ⟨by simp only [a3, b3]; rfl, by simp only [a3]; simp; omega⟩, by simp only [a3]; rfl, by simp only [b3]; rfl, ?_, ?_, by simp only [b3]; simp, fun j x f hx hf _ => g7 j x f hx hf, fun x hx => by simp only [b5]; exact (g8 x hx).1⟩
  · intro j hj
    simp only [a3, List.length_nil, Nat.le_zero] at hj
    subst hj
    simp only [List.take_zero, List.foldl_nil]
    exact ⟨by rw [g3.1]; exact g4, by omega⟩
  · intro j x hx
    simp only [b3, (g8 x (List.mem_of_getElem? hx)).2]
    simp
theorem vNew_ok {k : Nat} {s : St} {files : List FileM} {sl : Sl} {cap : Int} {K : Option Addr → HP} (h : Ls tFileM (s.w 0) files sl) (hk0 : k ≠ 0) (hko : Ko k s) (hfn : ∀ f ∈ files, f.name.size ≤ 9223372036854775807)
    (h0 : R.new files cap = none → ∀ s', Step (dk k) s s' → K none s'.H)
    (h1 : ∀ d, R.new files cap = some d → ∀ s' b, Step (dk k) s s' → DV k s' b d → K (some ⟨b, 0, none⟩) s'.H) : vdisk_New sl cap K s.H := by
  unfold vdisk_New
  have hlen := h.len
  unfold R.new at h0 h1
  have j1t : (cap < 1 ∨ 4194304 < cap ∨ 1024 < files.length) → vdisk_New_j1 sl cap true K s.H := fun hc => by
    unfold vdisk_New_j1
    refine bif_t ?_
    rw [if_pos hc] at h0
    exact h0 rfl s Step.refl
  refine bif_dec (fun c1 => ?_) (fun c1 => ?_)
  · exact j1t (.inl c1)
  · refine bif_dec (fun c2 => ?_) (fun c2 => ?_)
    · exact j1t (.inr (.inl c2))
    · by_cases c3 : (1024 : Int) < (sl.len : Nat)
      · rw [decide_eq_true c3]; exact j1t (.inr (.inr (by omega)))
      · rw [decide_eq_false c3]
        have hn : ¬(cap < 1 ∨ 4194304 < cap ∨ 1024 < files.length) := by omega
        rw [if_neg hn] at h0 h1
        unfold vdisk_New_j1
        refine bif_f ?_
        refine newo_word (k + 3) (by unfold Ko own at hko; omega) rfl fun s0 ms n0 => ?_
        have e0 := n0.step
        have hko0 := hko.mono e0
        have hm0 : MapAt (k + 3) s0 ms [] 0 [] := ⟨n0.here, ⟨rfl, by simp⟩, by simp, by simp⟩
        refine newc_k (s := s0) k (by unfold Ko own at hko0; omega) fun s1 b n1 a1 => ?_
        have e1 := n1.step
        have hnk : ∀ j, j < 1125899906842624 → k + j ≠ own s := fun j hj => by unfold Ko at hko; omega
        refine loop_rule (ι := Nat × VDisk × RDisk × Int × List (Option Addr)) (fun x => [.int .i64 x.1])
          (fun x s' => x.1 ≤ files.length ∧ Step (dk k) s s' ∧ VDp k s' b x.2.1 x.2.2.2.2 ∧ Mk x.2.1 x.2.2.1 cap x.2.2.2.1 x.1 ∧
            R.newGo cap files ⟨[], [], [], [], cap, false, 0, -1, -1, 0⟩ 0 = R.newGo cap (files.drop x.1) x.2.2.1 x.2.2.2.1 ∧
            ∃ (n m : Sl), At (s'.w k) b 0 [.int .i64 x.2.1.room, .slice n.a n.len n.cap, .map (some ms), .map none, .slice m.a m.len m.cap, .bool x.2.1.off, .int .i64 x.2.1.count, .int .i64 x.2.1.fl, .int .i64 x.2.1.fc, .int .i64 x.2.1.cl, .int .i64 x.2.1.cc] ∧
              Bld tP (k + 1) s' x.2.2.2.2 n ∧ Bld tMove (k + 2) s' x.2.1.moves m ∧ (∃ es cl, MapAt (k + 3) s' ms es cl x.2.1.seen) ∧ Nodes k s' x.2.1.nodes x.2.2.2.2) (fun x _ => files.length - x.1)
          (0, ⟨cap, [], [], [], [], false, 0, -1, 0, -1, 0⟩, ⟨[], [], [], [], cap, false, 0, -1, -1, 0⟩, 0, []) rfl
          ⟨Nat.zero_le _, e0.n.trans e1.n, ⟨hk0, ⟨⟨none, 0, 0⟩, ⟨none, 0, 0⟩, ms, none, a1, Bld.nil, Bld.nil, ⟨[], 0, hm0.st e1 (by simp)⟩, .inl ⟨rfl, rfl⟩⟩, ⟨rfl, fun j x hx => by simp at hx⟩⟩,
            ⟨by simp, by simp, ⟨rfl, rfl⟩, ⟨⟨by simp, by simp, by simp⟩, by simp, by simp⟩, rfl, ⟨Int.le_refl _, by show (0 : Int) ≤ cap; omega, by omega⟩, by simp, by simp, by simp⟩, by simp only [List.drop_zero],
            ⟨none, 0, 0⟩, ⟨none, 0, 0⟩, a1, Bld.nil, Bld.nil, ⟨[], 0, hm0.st e1 (by simp)⟩, ⟨rfl, fun j x hx => by simp at hx⟩⟩ ?_
        rintro ⟨i, v, d, used, ps⟩ s2 ⟨hi, e2, v2, mk, g2, n, m, a2, b2, c2, ⟨es, cl, m2⟩, nd2⟩ G hG
        simp only [List.getD_cons_zero, List.getD_cons_succ, asI_v, asL_v, asS_v, asB_v, asM_v, asP_v]
        simp only at hi v2 mk g2 a2 b2 c2 m2 nd2
        have hko2 := hko.mono e2
        refine bif_dec (fun hlt => ?_) (fun hlt => ?_)
        · refine ixL_rule (Ls.st h e2) (by omega) (by omega) fun b' o x hx he => ?_
          obtain ⟨_, ⟨xs, rfl, hxs⟩, ha⟩ := he
          rw [Int.toNat_natCast] at hx
          have hdr : files.drop i = x :: files.drop (i + 1) := by
            obtain ⟨q1, q2⟩ := List.getElem?_eq_some_iff.1 hx
            rw [List.drop_eq_getElem_cons q1, q2]
          rw [hdr] at g2
          unfold ld_G_api_File
          repeat (first|refine nn_at ?_|refine ldI_at ha rfl ?_|refine ldB_at ha rfl ?_|refine ldS_at ha rfl ?_|refine ldP_at ha rfl ?_|refine ldM_at ha rfl ?_|refine ldL_at ha rfl ?_)
          refine newc_sts rfl (by simp [one]) fun s3 t7 e3 a7 => ?_
          have a23 := a2.mono (e3.view (k := k) (by simp))
          have m23 := m2.st e3 (by simp)
          have e23 : Step (dk k) s s3 := e2.trans e3.n
          have bad : (!nameOk x.name || decide (0 ≤ R.find d.now x.name) || decide (cap - used < x.data.size)) = true → ∀ s4, Step [] s3 s4 → vdisk_New_j3 b t7 sl (sl.len : Nat) i true K G s4.H := fun hb s4 e4 => by
            unfold vdisk_New_j3
            refine bif_t ?_
            simp only [R.newGo] at g2
            rw [if_pos hb] at g2
            rw [g2] at h0
            exact h0 rfl s4 (e23.trans e4.n)
          repeat (first|refine nn_at ?_|refine ldI_at a23 rfl ?_|refine ldB_at a23 rfl ?_|refine ldS_at a23 rfl ?_|refine ldP_at a23 rfl ?_|refine ldM_at a23 rfl ?_|refine ldL_at a23 rfl ?_)
          repeat (first|refine nn_at ?_|refine ldI_at a7 rfl ?_|refine ldB_at a7 rfl ?_|refine ldS_at a7 rfl ?_|refine ldP_at a7 rfl ?_|refine ldM_at a7 rfl ?_|refine ldL_at a7 rfl ?_)
          have hfd := mk.names.find x.name
          refine mget_rule m23 (fun hl => ?_) (fun j hl => ?_)
          · have hneg := hfd.2 hl
            unfold vdisk_New_j2
            refine bif_f ?_
            repeat (first|refine nn_at ?_|refine ldI_at a7 rfl ?_|refine ldB_at a7 rfl ?_|refine ldS_at a7 rfl ?_|refine ldP_at a7 rfl ?_|refine ldM_at a7 rfl ?_|refine ldL_at a7 rfl ?_)
            refine named_ok (hfn x (List.mem_of_getElem? hx)) ?_
            cases hnm : nameOk x.name
            · refine bif_t (held_rule trivial (bad (by rw [hnm]; rfl) s3 Step.refl))
            · refine bif_f ?_
              refine ldL_at a7 rfl ?_
              have v23 := v2.st e3 (by simp)
              have hrng : ∀ y ∈ v.seen, 0 ≤ y.2 ∧ y.2 < (v.nodes.length : Int) := fun y hy => by
                have := mk.names.good.rng _ ((mk.names.mem y.1 y.2).1 hy)
                simp only at this
                rw [mk.len.1]; exact this
              have hlen1 := mk.len.1
              have hlen2 := mk.len.2
              refine free_ok v23 (by have := mk.used; have := mk.v0.1; omega) (by rw [mk.names.len]; have := mk.nl; omega) hrng (fun y hy => ((mk.ok y hy).1).seen) (by omega) (hko.mono e23) fun s4 e4 => ?_
              have e24 := e3.trans e4
              have a24 := a23.mono (e4.view (k := k) (by simp))
              have a74 := a7.mono e4.v0
              refine held_rule (ldL_at a74 rfl rfl) ?_
              have hxl := hxs.len
              have hxl' : xs.len = x.data.size := by rw [hxl, ba_len]
              rw [mk.free]
              by_cases hrm : cap - used < (xs.len : Nat)
              · rw [decide_eq_true hrm]
                refine bad ?_ s4 e4
                rw [hxl'] at hrm
                rw [decide_eq_true hrm]; simp
              · rw [decide_eq_false hrm]
                unfold vdisk_New_j3
                refine bif_f ?_
                repeat (first|refine nn_at ?_|refine ldI_at a24 rfl ?_|refine ldB_at a24 rfl ?_|refine ldS_at a24 rfl ?_|refine ldP_at a24 rfl ?_|refine ldM_at a24 rfl ?_|refine ldL_at a24 rfl ?_)
                repeat (first|refine nn_at ?_|refine ldI_at a74 rfl ?_|refine ldB_at a74 rfl ?_|refine ldS_at a74 rfl ?_|refine ldP_at a74 rfl ?_|refine ldM_at a74 rfl ?_|refine ldL_at a74 rfl ?_)
                repeat (first|refine nn_at ?_|refine ldI_at a24 rfl ?_|refine ldB_at a24 rfl ?_|refine ldS_at a24 rfl ?_|refine ldP_at a24 rfl ?_|refine ldM_at a24 rfl ?_|refine ldL_at a24 rfl ?_)
                refine mput_rule (m2.st e24 (by simp)) (by omega) fun s5 es5 cl5 e5 z5 o5 m5 => ?_
                have a25 := a24.mono (e5.view (k := k) (by simp))
                repeat (first|refine nn_at ?_|refine ldI_at a25 rfl ?_|refine ldB_at a25 rfl ?_|refine ldS_at a25 rfl ?_|refine ldP_at a25 rfl ?_|refine ldM_at a25 rfl ?_|refine ldL_at a25 rfl ?_)
                have a75 := a74.mono e5.v0
                have hx5 := (hxs.st e24).st e5
                repeat (first|refine nn_at ?_|refine ldI_at a75 rfl ?_|refine ldB_at a75 rfl ?_|refine ldS_at a75 rfl ?_|refine ldP_at a75 rfl ?_|refine ldM_at a75 rfl ?_|refine ldL_at a75 rfl ?_)
                refine ldBySl hx5 ?_
                repeat (first|refine nn_at ?_|refine ldI_at a75 rfl ?_|refine ldB_at a75 rfl ?_|refine ldS_at a75 rfl ?_|refine ldP_at a75 rfl ?_|refine ldM_at a75 rfl ?_|refine ldL_at a75 rfl ?_)
                refine ldBySl hx5 ?_
                have hxd : (⟨x.data.data.toList.toArray⟩ : ByteArray) = x.data := by apply ba_ext; simp
                rw [hxd]
                have hko5 := (hko2.mono e24).mono e5
                refine newc_k (s := s5) (k + 10 + 2 * i) (by unfold Ko own at hko5; omega) fun s6 p6 n6 a6 => ?_
                have e6 := n6.step
                have a26 := a25.mono (e6.view (k := k) (by simp))
                refine held_rule (ldL_at a26 rfl rfl) ?_
                refine newc_0 fun s7 b7 n7 a77 => ?_
                have e7 := n7.step
                have a27 := a26.mono (e7.view (k := k) (by simp))
                refine held_rule (ldL_at a27 rfl rfl) ?_
                have hko7 := (hko5.mono e6).mono e7
                have b27 := (((b2.st e24 (by simp)).st e5 (by simp)).st e6 (by simp)).st e7 (by simp)
                have hpl : ps.length = i := by rw [nd2.len]; exact hlen1
                refine app_rule b27 (Ls.single (t := tP) (x := some ⟨p6, 0, none⟩) rfl a77) (fun s8 sl8 e8 b8 => ?_) (hq := by unfold Ko own at hko7; omega)
                have a28 := a27.mono (e8.view (k := k) (by simp))
                repeat (first|refine nn_at ?_|refine ldI_at a28 rfl ?_|refine ldB_at a28 rfl ?_|refine ldS_at a28 rfl ?_|refine ldP_at a28 rfl ?_|refine ldM_at a28 rfl ?_|refine ldL_at a28 rfl ?_)
                refine fld_rule a28 (by simp) rfl hk0 fun s9 e9 z9 a9 o9 => ?_
                simp only [List.set_cons_succ, List.set_cons_zero] at a9
                have e59 : Step [k, k + 1] s5 s9 := ((e6.n.trans e7.n).trans (e8.mono (by simp))).trans (e9.mono (by simp))
                have e49 : Step [k, k + 1, k + 3] s4 s9 := e5.tr e59
                have e29 : Step [k, k + 1, k + 3] s2 s9 := e24.n.trans e49
                have e69 : Step [k, k + 1] s6 s9 := (e7.n.trans (e8.mono (by simp))).trans (e9.mono (by simp))
                have hdk : ∀ y, y ∈ [k, k + 1, k + 3] → y ∈ dk k := by intro y hy; simp at hy; rw [mem_dk]; omega
                rw [w64_id (by omega) (by omega)]
                have hN : Nodes k s9 (v.nodes ++ [⟨x.data, x.data, [], false⟩]) (ps ++ [some ⟨p6, 0, none⟩]) := by
                  refine ⟨by simp [nd2.len], fun j y hy => ?_⟩
                  by_cases ej : j < v.nodes.length
                  · rw [List.getElem?_append_left ej] at hy
                    obtain ⟨p', q1, q2⟩ := nd2.at_ j y hy
                    exact ⟨p', by rw [List.getElem?_append_left (by omega)]; exact q1, q2.st e29 (by simp; omega) (by simp; omega)⟩
                  · rw [List.getElem?_append_right (by omega)] at hy
                    have hj : j = v.nodes.length := by
                      have := (List.getElem?_eq_some_iff.1 hy).1
                      simp at this; omega
                    subst hj
                    simp at hy; subst hy
                    refine ⟨p6, by rw [List.getElem?_append_right (by omega)]; simp [hpl, hlen1], ⟨none, 0, 0⟩, ?_, Bld.nil⟩
                    have := a6.mono (e69.view (k := k + 10 + 2 * i) (by simp; omega))
                    rw [hlen1]
                    exact this
                have hmk := mk.add x (by have := hfd.2 hl; omega) (by omega)
                have hnl : n.len = i := by rw [b2.ls.len, hpl]
                rw [hnl] at m5
                have m9 := m5.st e59 (by simp)
                have c9 := c2.st e29 (by simp)
                refine hG (i + 1, { v with nodes := v.nodes ++ [⟨x.data, x.data, [], false⟩], seen := mset v.seen x.name i }, { d with files := d.files ++ [⟨x.data, x.data, []⟩], now := R.put d.now ⟨x.name, (d.files.length : Int)⟩ }, used + x.data.size, ps ++ [some ⟨p6, 0, none⟩]) s9
                  ⟨by omega, e2.trans (e29.mono hdk), ⟨hk0, ⟨sl8, m, ms, none, a9, b8.st e9 (by simp), c9, ⟨es5, cl5, m9⟩, .inl ⟨rfl, mk.v0.2.1⟩⟩, hN⟩, hmk, ?_, sl8, m, a9, b8.st e9 (by simp), c9, ⟨es5, cl5, m9⟩, hN⟩ (by simp only; omega)
                rw [g2]
                simp only [R.newGo]
                rw [if_neg (by rw [hnm, decide_eq_false (show ¬0 ≤ R.find d.now x.name by have := hfd.2 hl; omega), decide_eq_false (by omega)]; simp)]
          · refine ⟨_, rfl, ?_⟩
            have hpos := (hfd.1 j hl)
            unfold vdisk_New_j2
            refine bif_t (held_rule trivial (bad (by rw [decide_eq_true (show 0 ≤ R.find d.now x.name by omega)]; simp) s3 Step.refl))
        · have : i = files.length := by omega
          subst this
          rw [List.drop_length] at g2
          simp only [R.newGo] at g2
          rw [g2] at h1
          repeat (first|refine nn_at ?_|refine ldI_at a2 rfl ?_|refine ldB_at a2 rfl ?_|refine ldS_at a2 rfl ?_|refine ldP_at a2 rfl ?_|refine ldM_at a2 rfl ?_|refine ldL_at a2 rfl ?_)
          refine Clone_ok (k' := k + 4) m2 (by unfold Ko own at hko2; omega) fun s3 mu e3 z3 m3 => ?_
          have a3 := a2.mono (e3.view (k := k) (by simp))
          repeat (first|refine nn_at ?_|refine ldI_at a3 rfl ?_|refine ldB_at a3 rfl ?_|refine ldS_at a3 rfl ?_|refine ldP_at a3 rfl ?_|refine ldM_at a3 rfl ?_|refine ldL_at a3 rfl ?_)
          refine fld_rule a3 (by simp) rfl hk0 fun s4 e4 z4 a4 o4 => ?_
          simp only [List.set_cons_succ, List.set_cons_zero] at a4
          have e24 : Step [k] s2 s4 := e3.n.trans e4
          have hs := mk.sim (by omega)
          exact h1 _ rfl s4 b (e2.trans (e24.mono dk0)) ⟨{ v with sure := v.seen }, ps, ⟨hk0, ⟨n, m, ms, some mu, a4, b2.st e24 (by simp), c2.st e24 (by simp), ⟨es, cl, m2.st e24 (by simp)⟩, .inr ⟨mu, es, cl, rfl, m3.st e4 (by simp)⟩⟩, nd2.st e24 (fun j => by simp; omega)⟩, hs⟩
end Go.Ph
end
section
set_option linter.all false
namespace Go.Ph
open S
theorem zrowC_get {α : Type} {t : Ty α} {zero : Array Value} (hz : zero.size = t.n) : ∀ (n j i : Nat) (v : Value), j < n → zero.toList[i]? = some v → (zrow zero n)[j * t.n + i]? = some v
  | 0, j, i, v, h, hv => by omega
  | n + 1, 0, i, v, h, hv => by
    simp only [zrow, Nat.zero_mul, Nat.zero_add]
    rw [List.getElem?_append_left (List.getElem?_eq_some_iff.1 hv).1]; exact hv
  | n + 1, j + 1, i, v, h, hv => by
    simp only [zrow]
    have hl : zero.toList.length = t.n := by simp [hz]
    rw [List.getElem?_append_right (by rw [hl, Nat.add_mul]; omega), hl]
    rw [show (j + 1) * t.n + i - t.n = j * t.n + i by rw [Nat.add_mul]; omega]
    exact zrowC_get hz n j i v (by omega) hv
/-- a new row of one thing, of colour q -/
theorem mkSl_rule {α : Type} {t : Ty α} {s : St} {z : α} {zero : Array Value} {bytes : Nat} {n : Int} {K : Sl → HP} (q : Nat) (hq : q < 2305843009213693952 + 1152921504606846976 * s.H.size) (hR : t.R (s.w 0) z zero.toList)
    (h0 : 0 ≤ n) (hb : bytes * n ≤ 281474976710656) (hn : n ≤ 9223372036854775807)
    (hK : ∀ s' sl, Step [] s s' → s'.H.size = s.H.size + 1 → LsW t (s'.w 0) (s'.w q) (List.replicate n.toNat z) sl → K sl s'.H) : mkSl bytes zero n n K s.H := by
  have hz : zero.size = t.n := by have := t.len hR; simpa using this
  refine ⟨⟨h0, Int.le_refl _, hb, hn⟩, fun ty => ?_⟩
  refine newc_f (K := fun b => K ⟨some (at0 b), n.toNat, n.toNat⟩) (lo := 0) (hi := 0) (fun _ => q) (fun _ => hq) (fun i _ => by simp) fun s' b hn => ?_
  refine hK s' _ hn.step hn.sz ⟨by simp, Nat.le_refl _, fun h => (by cases h), fun a ha => ?_⟩
  simp at ha; subst ha
  refine ⟨rfl, fun j x hj => ⟨zero.toList, ?_, fun i v hi => ?_⟩⟩
  · rw [List.getElem?_replicate] at hj
    split at hj
    · simp at hj; subst hj; exact t.mono hn.step.v0 hR
    · cases hj
  · have hj' := (List.getElem?_eq_some_iff.1 hj).1
    simp at hj'
    refine w_mk ?_ (hn.col _)
    simp only [Nat.zero_add]
    rw [hn.here, zrowC_get hz n.toNat j i v (by omega) hi]
    rfl
theorem ixLw_rule {α : Type} {t : Ty α} {V W : View} {l : List α} {sl : Sl} {size : Nat} {i : Int} {K : Addr → HP} {H : Heap} (h : LsW t V W l sl) (h0 : 0 ≤ i) (h1 : i < l.length)
    (hK : ∀ b o x, sl.a = some ⟨b, o, none⟩ → l[i.toNat]? = some x → El t V W x b (o + i.toNat * t.n) → K ⟨b, o + i.toNat * t.n, none⟩ H) (hn : size = t.n := by rfl) : ixL sl size i K H := by
  subst hn
  obtain ⟨b, o, ha⟩ := Ls.lt h (j := i.toNat) (by omega)
  refine ⟨_, ha, h0, by rw [h.len]; exact h1, ?_⟩
  rw [add_at]
  have hx : l[i.toNat]? = some (l[i.toNat]'(by omega)) := List.getElem?_eq_getElem _
  exact hK _ _ _ ha hx ((h.at_ _ ha).2 _ _ hx)
/-- an element is written -/
theorem setL_rule {α : Type} {t : Ty α} {s : St} {q b o i : Nat} {l : List α} {sl : Sl} {x : α} {vs : List Value} {K : HP} (h : LsW t (s.w 0) (s.w q) l sl) (ha : sl.a = some ⟨b, o, none⟩) (hi : i < l.length) (hR : t.R (s.w 0) x vs) (hq0 : q ≠ 0) (hn : 0 < t.n)
    (hK : ∀ s', Step [q] s s' → s'.H.size = s.H.size → LsW t (s'.w 0) (s'.w q) (l.set i x) sl → K s'.H) : sts ⟨b, o + i * t.n, none⟩ 0 vs K s.H := by
  have hvl := t.len hR
  have hall := (h.at_ _ ha).2
  simp only at hall
  obtain ⟨ws, w1, w2⟩ := hall i l[i] (List.getElem?_eq_getElem hi)
  have hwl := t.len w1
  have hc : ∀ j, j < vs.length → ∃ v0, s.w q b (o + i * t.n + 0 + j) = some (.v v0) := fun j hj => by
    exact ⟨_, by have := w2 j _ (List.getElem?_eq_getElem (by omega)); simpa using this⟩
  obtain ⟨v0, hv0⟩ := hc 0 (by omega)
  have hqlt : q < 1152921504606846976 + 1152921504606846976 * s.H.size := by rw [← (w_some hv0).2]; exact s.wf _ _ (w_lt hv0)
  refine sts_rule (k := q) (k' := q) vs hc (t.one hR) hqlt hq0 fun s' h' => ?_
  have hst : Step [q] s s' := h'.step (q := q) (by simp) hq0 fun j hj => by
    obtain ⟨v, hv⟩ := hc j hj
    exact (w_some hv).2
  refine hK s' hst h'.sz ⟨by simp [h.len], h.cap, h.nil, fun a ha' => ?_⟩
  rw [ha] at ha'
  simp at ha'; subst ha'
  refine ⟨rfl, fun j y hj => ?_⟩
  by_cases e : i = j
  · subst e
    rw [List.getElem?_set_self hi] at hj
    simp at hj; subst hj
    exact ⟨vs, t.mono hst.v0 hR, by have := h'.here; simpa using this⟩
  · rw [List.getElem?_set_ne e] at hj
    obtain ⟨us, u1, u2⟩ := hall j y hj
    have hul := t.len u1
    refine ⟨us, t.mono hst.v0 u1, fun a v hav => ?_⟩
    have hlt := (List.getElem?_eq_some_iff.1 hav).1
    have hu := u2 a v hav
    have := h'.old b (o + j * t.n + a) (fun ⟨_, h1, h2⟩ => by
      rcases Nat.lt_or_gt_of_ne e with e1 | e1
      · have : (i + 1) * t.n ≤ j * t.n := Nat.mul_le_mul_right _ e1
        rw [Nat.add_mul] at this; omega
      · have : (j + 1) * t.n ≤ i * t.n := Nat.mul_le_mul_right _ e1
        rw [Nat.add_mul] at this; omega)
    exact w_mk (this.2.trans (w_some hu).1) (this.1.trans (w_some hu).2)
theorem LsW.st {α : Type} {t : Ty α} {s s' : St} {q : Nat} {l : List α} {sl : Sl} {S : List Nat} (h : LsW t (s.w 0) (s.w q) l sl) (hs : Step S s s') (hq : q ∉ S) : LsW t (s'.w 0) (s'.w q) l sl := h.mono hs.v0 (hs.view hq)
def V.mark (m : List (ByteArray × Int)) (base : List Bool) : List Bool := (List.range base.length).map fun j => base.getD j false || m.any fun x => decide (x.2 = (j : Int))
def valIs (j : Int) : Value → Bool
  | .int _ i => decide (i = j)
  | _ => false
def marked (es : List MapEntry) (seen : List Nat) (base : List Bool) : List Bool := (List.range base.length).map fun j => base.getD j false || es.any fun e => decide (e.born ∈ seen) && valIs (j : Int) e.val
theorem any_kv {es : List MapEntry} {m : List (ByteArray × Int)} (h : Ents es m) (j : Int) : (es.any fun e => valIs j e.val) = m.any fun x => decide (x.2 = j) := by
  have e1 : (es.any fun e => valIs j e.val) = (es.map (fun e => (e.key, e.val))).any fun x => valIs j x.2 := by rw [List.any_map]; rfl
  rw [e1, h.kv, List.any_map]
  rfl
theorem marked_nil (es : List MapEntry) (base : List Bool) : marked es [] base = base := by
  apply List.ext_getElem?
  intro j
  simp only [marked, List.getElem?_map, List.not_mem_nil, decide_false, Bool.false_and]
  by_cases e : j < base.length
  · rw [List.getElem?_range e]; simp [e]
  · rw [List.getElem?_eq_none (by simp; omega), List.getElem?_eq_none (by omega)]; rfl
theorem marked_add {es : List MapEntry} {seen : List Nat} {base : List Bool} {e : MapEntry} {i : Nat} (he : e ∈ es) (hu : (es.map (·.born)).Nodup) (hv : ∃ k, e.val = .int k (i : Int)) (hi : i < base.length) :
    marked es (seen ++ [e.born]) base = (marked es seen base).set i true := by
  obtain ⟨k, hv⟩ := hv
  have hb : ∀ x ∈ es, x.born = e.born → x = e := fun x hx hxe => by
    obtain ⟨a, ha⟩ := List.mem_iff_getElem?.1 hx
    obtain ⟨c, hc⟩ := List.mem_iff_getElem?.1 he
    have : a = c := nodup_idx hu (x := e.born) (by simp [ha, hxe]) (by simp [hc])
    subst this
    rw [ha] at hc; simpa using hc
  apply List.ext_getElem?
  intro j
  by_cases ej : j < base.length
  · by_cases e1 : i = j
    · subst e1
      rw [List.getElem?_set_self (by simp [marked]; omega)]
      simp only [marked, List.getElem?_map, List.getElem?_range ej, Option.map_some, Option.some.injEq]
      have : (es.any fun x => decide (x.born ∈ seen ++ [e.born]) && valIs (i : Int) x.val) = true := by
        rw [List.any_eq_true]
        exact ⟨e, he, by simp [hv, valIs]⟩
      rw [this, Bool.or_true]
    · rw [List.getElem?_set_ne e1]
      simp only [marked, List.getElem?_map, List.getElem?_range ej, Option.map_some, Option.some.injEq]
      congr 1
      rw [Bool.eq_iff_iff, List.any_eq_true, List.any_eq_true]
      constructor
      · rintro ⟨x, hx, hxx⟩
        refine ⟨x, hx, ?_⟩
        simp only [Bool.and_eq_true, decide_eq_true_eq, List.mem_append, List.mem_singleton] at hxx ⊢
        refine ⟨?_, hxx.2⟩
        rcases hxx.1 with h | h
        · exact h
        · have := hb x hx h
          subst this
          rw [hv] at hxx
          simp [valIs] at hxx
          exact absurd hxx (by omega)
      · rintro ⟨x, hx, hxx⟩
        refine ⟨x, hx, ?_⟩
        simp only [Bool.and_eq_true, decide_eq_true_eq, List.mem_append, List.mem_singleton] at hxx ⊢
        exact ⟨.inl hxx.1, hxx.2⟩
  · rw [List.getElem?_eq_none (by simp [marked]; omega), List.getElem?_eq_none (by simp [marked]; omega)]
theorem marked_all {es : List MapEntry} {m : List (ByteArray × Int)} {seen : List Nat} {base : List Bool} (h : Ents es m) (ha : ∀ e ∈ es, e.born ∈ seen) : marked es seen base = V.mark m base := by
  unfold marked V.mark
  apply List.map_congr_left
  intro j _
  congr 1
  rw [← any_kv h]
  rw [Bool.eq_iff_iff, List.any_eq_true, List.any_eq_true]
  constructor
  · rintro ⟨x, hx, hxx⟩; exact ⟨x, hx, by simpa [ha x hx] using hxx⟩
  · rintro ⟨x, hx, hxx⟩; exact ⟨x, hx, by simpa [ha x hx] using hxx⟩
theorem mrng_none {K : Nat → HP} {H : Heap} (h : newo (.mapIter none 0 #[] 0) K H) : mrng none K H := h
theorem mark_ok {k q : Nat} {s : St} {r : Option Nat} {m : List (ByteArray × Int)} {base : List Bool} {has : Sl} {K : HP} (h : SureAt k s r m) (hB : LsW tB (s.w 0) (s.w q) base has) (hk : k ≠ q ∧ k ≠ q + 1) (hq0 : q ≠ 0) (hq : q + 1 < 2305843009213693952 + 1152921504606846976 * s.H.size)
    (hr : ∀ x ∈ m, 0 ≤ x.2 ∧ x.2 < base.length) (hK : ∀ s', Step [q, q + 1] s s' → LsW tB (s'.w 0) (s'.w q) (V.mark m base) has → K s'.H) :
    mrng r (fun t32 => loop (σ := List Value) (fun R2 vs2 =>
      mnext t32 K fun t33k t33v =>
      ment t32 fun t35k t35v =>
      inS t35k fun t35k =>
      inI .i64 t35v fun t35v =>
      ixL has 1 t35v fun t39 =>
      sts t39 0 [.bool true] (
      R2 [])) []) s.H := by
  rcases h with ⟨rfl, rfl⟩ | ⟨r, es, cl, rfl, h⟩
  · refine mrng_none ?_
    refine newo_word (q + 1) hq rfl fun s1 it n1 => ?_
    refine loop_rule (ι := Unit) (fun _ => []) (fun _ s' => s' = s1) (fun _ _ => 0) () rfl rfl ?_
    rintro _ s' rfl G hG
    have ho := (obj_pk (w_some n1.here).1).1
    unfold mnext
    rw [ho]
    refine hK s' n1.step.n ?_
    have : V.mark [] base = base := by
      have := marked_nil [] base
      simpa [marked, V.mark] using this
    rw [this]
    exact hB.mono n1.step.v0 (n1.step.view (by simp))
  · refine mrng_rule h (q + 1) hq fun s1 it e1 z1 i1 => ?_
    refine loop_rule (ι := List Nat) (fun _ => []) (fun seen s' => Step [q, q + 1] s s' ∧ Iter (q + 1) s' it r cl cl seen ∧ LsW tB (s'.w 0) (s'.w q) (marked es seen base) has) (fun seen _ => unseen cl seen) [] rfl
      ⟨e1.n, i1, by rw [marked_nil]; exact hB.st e1 (by simp)⟩ ?_
    rintro seen s2 ⟨e2, i2, b2⟩ G hG
    have h2 := h.st e2 (by simpa using hk)
    refine mnext_rule i2 h2 hk.2 (by omega) h.born ?_ ?_
    · intro ha
      rw [marked_all h.ents ha] at b2
      exact hK s2 e2 b2
    · intro e he hns s3 e3 z3 i3
      obtain ⟨a, ha⟩ := List.mem_iff_getElem?.1 he
      have hlen := congrArg List.length h.ents.kv
      simp at hlen
      have hlt := (List.getElem?_eq_some_iff.1 ha).1
      have hma : m[a]? = some (m[a]'(by omega)) := List.getElem?_eq_getElem _
      have hkv := congrArg (fun l => l[a]?) h.ents.kv
      simp only [List.getElem?_map, ha, hma, Option.map_some, Option.some.injEq, Prod.mk.injEq] at hkv
      refine ⟨_, hkv.1, _, hkv.2, ?_⟩
      have hin := hr _ (List.mem_iff_getElem?.2 ⟨a, hma⟩)
      have b3 := b2.st e3 (by simp)
      have hml : (marked es seen base).length = base.length := by simp [marked]
      refine ixLw_rule b3 hin.1 (by rw [hml]; exact hin.2) fun b o x hsl hx hel => ?_
      refine setL_rule b3 hsl (by rw [hml]; omega) (x := true) rfl hq0 (by decide) fun s4 e4 z4 b4 => ?_
      have e24 : Step [q, q + 1] s2 s4 := (e3.mono (by simp)).trans (e4.mono (by simp))
      refine hG (seen ++ [e.born]) s4 ⟨e2.trans e24, i3.st e4 (by simp), ?_⟩ (unseen_lt (h.born e he) hns)
      rw [marked_add he h.uniq ⟨.i64, by rw [hkv.2, Int.toNat_of_nonneg hin.1]⟩ (by omega)]
      exact b4
def V.flags (v : VDisk) : List Bool := V.mark v.sure (V.mark v.seen (List.replicate v.nodes.length false))
def V.kn (v : VDisk) (j : Nat) : Bool := (V.flags v).getD j false || match v.nodes[j]? with | some x => x.fresh | none => false
def V.knownIdx (v : VDisk) (i : Nat) : List Nat := (List.range i).filter (V.kn v)
theorem mark_len (m : List (ByteArray × Int)) (b : List Bool) : (V.mark m b).length = b.length := by simp [V.mark]
theorem Step.loc2 {a b : St} {q : Nat} {S : List Nat} (h : Step (q :: (q + 1) :: S) a b) (hq : own a ≤ q) : Step S a b := (h.loc hq).loc (by omega)
theorem known_ok {k : Nat} {s : St} {b : Nat} {v : VDisk} {ps : List (Option Addr)} {K : Sl → HP} (h : VDp k s b v ps) (hn : v.nodes.length ≤ 1000000000000) (hko : Ko k s)
    (hr : ∀ x ∈ v.seen, 0 ≤ x.2 ∧ x.2 < v.nodes.length) (hr' : ∀ x ∈ v.sure, 0 ≤ x.2 ∧ x.2 < v.nodes.length)
    (hK : ∀ s' sl, Step [] s s' → Ls tP (s'.w 0) ((V.knownIdx v v.nodes.length).map fun j => ps.getD j none) sl → K sl s'.H) : vdisk_Disk_known (some ⟨b, 0, none⟩) K s.H := by
  have hh := h
  obtain ⟨k0, ⟨n, m, ms, mu, h1, h2, h3, ⟨es, cl, h4⟩, h5⟩, h6⟩ := h
  have hlen := h6.len
  have hnl : n.len = v.nodes.length := by rw [h2.ls.len, hlen]
  have hq0 : own s ≠ 0 := by unfold own; omega
  have hnk : ∀ j, j < 1125899906842624 → k + j ≠ own s ∧ k + j ≠ own s + 1 := fun j hj => by unfold Ko at hko; omega
  unfold vdisk_Disk_known
  repeat (first|refine nn_at ?_|refine ldI_at h1 rfl ?_|refine ldB_at h1 rfl ?_|refine ldS_at h1 rfl ?_|refine ldP_at h1 rfl ?_|refine ldM_at h1 rfl ?_|refine ldL_at h1 rfl ?_)
  rw [hnl]
  refine mkSl_rule (t := tB) (z := false) (n := (v.nodes.length : Int)) (own s) (by unfold own; omega) rfl (by omega) (by omega) (by omega) fun s1 has e1 z1 b1 => ?_
  rw [Int.toNat_natCast] at b1
  have a1 := h1.mono (e1.view (k := k) (by simp))
  repeat (first|refine nn_at ?_|refine ldI_at a1 rfl ?_|refine ldB_at a1 rfl ?_|refine ldS_at a1 rfl ?_|refine ldP_at a1 rfl ?_|refine ldM_at a1 rfl ?_|refine ldL_at a1 rfl ?_)
  refine newc_0 fun s2 b2 n2 a2 => ?_
  have e2 := n2.step
  have b12 := b1.st e2 (by simp)
  have hseen : SureAt (k + 3) s (some ms) v.seen := .inr ⟨ms, es, cl, rfl, h4⟩
  refine loop_rule (fun i : Nat => [.int .i64 i]) (fun i s' => i ≤ 2 ∧ Step [own s, own s + 1] s s' ∧ At (s'.w 0) b2 0 [.map (some ms), .map mu] ∧
    LsW tB (s'.w 0) (s'.w (own s)) (if i = 0 then List.replicate v.nodes.length false else if i = 1 then V.mark v.seen (List.replicate v.nodes.length false) else V.flags v) has) (fun i _ => 2 - i) 0 rfl
    ⟨by omega, (e1.trans e2).n, a2, b12⟩ ?_
  rintro i s3 ⟨hi, e3, a3, b3⟩ G hG
  simp only [List.getD_cons_zero, List.getD_cons_succ, asI_v, asL_v, asS_v, asB_v, asM_v, asP_v]
  have hz3 := e3.sz
  refine bif_dec (fun hlt => ?_) (fun hlt => ?_)
  · have hls : LsW tM (s3.w 0) (s3.w 0) [some ms, mu] ⟨some (at0 b2), 2, 2⟩ := ⟨rfl, Nat.le_refl _, fun h => (by cases h), fun a e => by
      simp at e; subst e
      refine ⟨rfl, fun j y hj => ?_⟩
      match j, hj with
      | 0, hj => simp at hj; subst hj; exact ⟨_, rfl, fun i v hi => by
          have e : i = 0 := by cases i with
            | zero => rfl
            | succ i => simp at hi
          subst e; simp at hi; subst hi; exact a3 0 _ rfl⟩
      | 1, hj => simp at hj; subst hj; exact ⟨_, rfl, fun i v hi => by
          have e : i = 0 := by cases i with
            | zero => rfl
            | succ i => simp at hi
          subst e; simp at hi; subst hi; exact a3 1 _ rfl⟩
      | j + 2, hj => simp at hj⟩
    refine ixL_rule hls (by omega) (by simp; omega) fun b' o x hx he => ?_
    obtain ⟨_, rfl, ha⟩ := he
    rw [Int.toNat_natCast] at hx
    refine ldM_at0 ha rfl ?_
    match i, hlt, hx, b3, hG with
    | 0, hlt, hx, b3, hG =>
      simp at hx; subst hx
      rw [if_pos rfl] at b3
      refine mark_ok (hseen.st e3 (by have := hnk 3 (by omega); simpa using this)) b3 (hnk 3 (by omega)) hq0 (by unfold own; omega) (by simpa using hr) fun s4 e4 b4 => ?_
      rw [w64_id (by omega) (by omega)]
      refine hG 1 s4 ⟨by omega, e3.trans e4, a3.mono e4.v0, ?_⟩ (by omega)
      simpa using b4
    | 1, hlt, hx, b3, hG =>
      simp at hx; subst hx
      rw [if_neg (by omega), if_pos rfl] at b3
      refine mark_ok (h5.st e3 (by have := hnk 4 (by omega); simpa using this)) b3 (hnk 4 (by omega)) hq0 (by unfold own; omega) (by simpa [mark_len] using hr') fun s4 e4 b4 => ?_
      rw [w64_id (by omega) (by omega)]
      refine hG 2 s4 ⟨by omega, e3.trans e4, a3.mono e4.v0, ?_⟩ (by omega)
      simpa [V.flags] using b4
    | j + 2, hlt, hx, b3, hG => omega
  · have h2i : i = 2 := by omega
    subst h2i
    rw [if_neg (by omega), if_neg (by omega)] at b3
    have hcl : ∀ j, j < 1125899906842624 → k + j ∉ [own s, own s + 1] := fun j hj => by have := hnk j hj; simp; omega
    have a13 := h1.mono (e3.view (k := k) (by simpa using hcl 0 (by omega)))
    repeat (first|refine nn_at ?_|refine ldI_at a13 rfl ?_|refine ldB_at a13 rfl ?_|refine ldS_at a13 rfl ?_|refine ldP_at a13 rfl ?_|refine ldM_at a13 rfl ?_|refine ldL_at a13 rfl ?_)
    have hfl : (V.flags v).length = v.nodes.length := by simp [V.flags, mark_len]
    have b23 := h2.st e3 (hcl 1 (by omega))
    have hN := h6
    have hkl : ∀ i, (V.knownIdx v i).length ≤ i := fun i => Nat.le_trans (List.length_filter_le _ _) (by simp)
    refine loop_rule (ι := Sl × Nat) (fun x => [.slice x.1.a x.1.len x.1.cap, .int .i64 x.2]) (fun x s' => x.2 ≤ v.nodes.length ∧ Step [own s + 2] s3 s' ∧ Bld tP (own s + 2) s' ((V.knownIdx v x.2).map fun j => ps.getD j none) x.1) (fun x _ => v.nodes.length - x.2) (⟨none, 0, 0⟩, 0) rfl
      ⟨Nat.zero_le _, Step.refl, Bld.nil⟩ ?_
    rintro ⟨t, i⟩ s4 ⟨hi4, e4, b4⟩ G3 hG3
    simp only [List.getD_cons_zero, List.getD_cons_succ, asI_v, asL_v, asS_v, asB_v, asM_v, asP_v]
    simp only at hi4 b4
    rw [hnl]
    have hz4 := e4.sz
    have e34 : Step [own s, own s + 1, own s + 2] s s4 := e3.tr e4
    have hcl3 : ∀ j, j < 1125899906842624 → k + j ∉ [own s, own s + 1, own s + 2] := fun j hj => by unfold Ko at hko; simp; omega
    refine bif_dec (fun hlt4 => ?_) (fun hlt4 => ?_)
    · refine ixL_rule (Ls.st b23.ls e4) (by omega) (by omega) fun b' o x hx he => ?_
      obtain ⟨_, rfl, ha⟩ := he
      rw [Int.toNat_natCast] at hx
      refine ldP_at0 ha rfl ?_
      refine ixL_rule (b3.st e4 (by simp)) (by omega) (by omega) fun b'' o' y hy he => ?_
      obtain ⟨_, rfl, hay⟩ := he
      rw [Int.toNat_natCast] at hy
      refine ldB_at0 hay rfl ?_
      have hilt : i < v.nodes.length := by omega
      obtain ⟨p, hp1, hp2⟩ := h6.at_ i _ (List.getElem?_eq_getElem hilt)
      rw [hx] at hp1
      simp at hp1
      subst hp1
      obtain ⟨sl, q1, q2⟩ := hp2
      have hadd : V.knownIdx v (i + 1) = V.knownIdx v i ++ (if V.kn v i then [i] else []) := by
        rw [V.knownIdx, List.range_succ, List.filter_append]
        simp [V.knownIdx, List.filter_cons]
      have hkn : V.kn v i = (y || v.nodes[i].fresh) := by
        simp only [V.kn, List.getD_eq_getElem?_getD, hy, List.getElem?_eq_getElem hilt]
        rfl
      have nxt : ∀ t' : Bool, t' = V.kn v i → vdisk_Disk_known_j1 has t (some ⟨p, 0, none⟩) n (v.nodes.length : Nat) i t' K G3 s4.H := fun t' ht => by
        unfold vdisk_Disk_known_j1 vdisk_Disk_known_j2
        rw [← ht] at hadd
        rw [w64_id (by omega) (by omega)]
        cases t'
        · refine bif_f ?_
          refine hG3 (t, i + 1) s4 ⟨hilt, e4, ?_⟩ (by simp only; omega)
          rw [hadd]; simpa using b4
        · refine bif_t ?_
          have := hkl i
          refine app1_rule (t := tP) ((some ⟨p, 0, none⟩ : Option Addr)) b4 rfl fun s5 sl5 e5 b5 => ?_
          refine hG3 (sl5, i + 1) s5 ⟨hilt, e4.trans e5, ?_⟩ (by simp only; omega)
          rw [hadd]
          simpa [List.getD_eq_getElem?_getD, hx] using b5
      cases y
      · refine bif_f ?_
        have q3 := q1.mono (e34.view (by have := hcl3 (10 + 2 * i) (by omega); rwa [← Nat.add_assoc] at this))
        repeat (first|refine nn_at ?_|refine ldI_at q3 rfl ?_|refine ldB_at q3 rfl ?_|refine ldS_at q3 rfl ?_|refine ldP_at q3 rfl ?_|refine ldM_at q3 rfl ?_|refine ldL_at q3 rfl ?_)
        exact nxt _ (by rw [hkn]; rfl)
      · refine bif_t ?_
        exact nxt true (by rw [hkn]; rfl)
    · have : i = v.nodes.length := by omega
      subst this
      refine hK s4 t ?_ b4.ls
      exact ((e34.loc (Nat.le_refl _)).loc (by omega)).loc (by omega)
end Go.Ph
end
section
set_option linter.all false
namespace Go.Ph
open S
def V.pl (v : VDisk) (j : Nat) : Int := match v.nodes[j]? with | some x => x.patches.length | none => 0
def V.writes (v : VDisk) : Int := ((V.knownIdx v v.nodes.length).map (V.pl v)).sum
theorem sum_bd (f : Nat → Int) (c : Int) (l : List Nat) (h : ∀ j ∈ l, 0 ≤ f j ∧ f j ≤ c) : 0 ≤ (l.map f).sum ∧ (l.map f).sum ≤ c * l.length := by
  induction l with
  | nil => simp
  | cons x l ih =>
    simp only [List.map_cons, List.sum_cons, List.length_cons]
    have := h x (by simp)
    have := ih (fun j hj => h j (by simp [hj]))
    push_cast
    rw [Int.mul_add]
    omega
theorem Waits_ok {k : Nat} {s : St} {b : Nat} {d : RDisk} {v : VDisk} {ps : List (Option Addr)} {K : Int → Int → HP} (h : VDp k s b v ps) (hs : Sim v d) (hc : d.calls ≤ 1000000) (hko : Ko k s)
    (hK : ∀ s', Step [] s s' → K (if v.off then 0 else v.moves.length) (if v.off then 0 else V.writes v) s'.H) : vdisk_Disk_Waits (some ⟨b, 0, none⟩) K s.H := by
  have hh := h
  obtain ⟨k0, ⟨n, m, ms, mu, h1, h2, h3, ⟨es, cl, h4⟩, h5⟩, h6⟩ := h
  unfold vdisk_Disk_Waits
  repeat (first|refine nn_at ?_|refine ldI_at h1 rfl ?_|refine ldB_at h1 rfl ?_|refine ldS_at h1 rfl ?_|refine ldP_at h1 rfl ?_|refine ldM_at h1 rfl ?_|refine ldL_at h1 rfl ?_)
  cases ho : v.off
  case true =>
    refine bif_t ?_
    simp only [ho, if_true] at hK
    exact hK s Step.refl
  case false =>
  simp only [ho, Bool.false_eq_true, if_false] at hK
  refine bif_f ?_
  have hnn := hs.nodes
  have hns := hs.ns.1
  have hn0 := (hs.names 0 (Nat.zero_le _)).1
  simp only [List.take_zero, List.foldl_nil] at hn0
  have hco := hs.count.2
  refine known_ok hh (by omega) hko (fun x hx => hns.good.rng _ ((hns.mem x.1 x.2).1 hx)) (fun x hx => hn0.good.rng _ ((hn0.mem x.1 x.2).1 hx)) fun s1 sl e1 l1 => ?_
  have hkl : (V.knownIdx v v.nodes.length).length ≤ v.nodes.length := Nat.le_trans (List.length_filter_le _ _) (by simp)
  have hlen := l1.len
  rw [List.length_map] at hlen
  have hpb : ∀ j, 0 ≤ V.pl v j ∧ V.pl v j ≤ 1000000 := fun j => by
    unfold V.pl
    split
    · rename_i x hx
      have := (hs.sizes x (List.mem_of_getElem? hx)).len
      omega
    · omega
  refine loop_rule (ι := Nat) (fun i => [.int .i64 (((V.knownIdx v v.nodes.length).take i).map (V.pl v)).sum, .int .i64 i]) (fun i s' => s' = s1 ∧ i ≤ (V.knownIdx v v.nodes.length).length) (fun i _ => (V.knownIdx v v.nodes.length).length - i) 0 rfl ⟨rfl, Nat.zero_le _⟩ ?_
  rintro i s' ⟨rfl, hi⟩ G hG
  simp only [List.getD_cons_zero, List.getD_cons_succ, asI_v, asL_v, asS_v, asB_v, asM_v, asP_v]
  refine bif_dec (fun hlt => ?_) (fun hlt => ?_)
  · refine ixL_rule l1 (by omega) (by rw [List.length_map]; omega) fun b' o x hx he => ?_
    obtain ⟨_, rfl, ha⟩ := he
    rw [Int.toNat_natCast, List.getElem?_map, Option.map_eq_some_iff] at hx
    obtain ⟨j, hj, rfl⟩ := hx
    have hjm : j ∈ V.knownIdx v v.nodes.length := List.mem_of_getElem? hj
    have hjl : j < v.nodes.length := by
      have := (List.mem_filter.1 hjm).1
      simpa using this
    obtain ⟨p, hp1, hp2⟩ := h6.at_ j _ (List.getElem?_eq_getElem hjl)
    refine ldP_at0 ha rfl ?_
    rw [List.getD_eq_getElem?_getD, hp1]
    obtain ⟨sl', q1, q2⟩ := hp2
    have q3 := q1.mono (e1.view (by simp))
    simp only [Option.getD_some]
    repeat (first|refine nn_at ?_|refine ldI_at q3 rfl ?_|refine ldB_at q3 rfl ?_|refine ldS_at q3 rfl ?_|refine ldP_at q3 rfl ?_|refine ldM_at q3 rfl ?_|refine ldL_at q3 rfl ?_)
    have hpl : V.pl v j = (sl'.len : Nat) := by
      rw [q2.ls.len]
      unfold V.pl
      rw [List.getElem?_eq_getElem hjl]
    have hta : (V.knownIdx v v.nodes.length).take (i + 1) = (V.knownIdx v v.nodes.length).take i ++ [j] := by rw [List.take_add_one, hj]; rfl
    have hsum : (((V.knownIdx v v.nodes.length).take (i + 1)).map (V.pl v)).sum = (((V.knownIdx v v.nodes.length).take i).map (V.pl v)).sum + (sl'.len : Nat) := by
      rw [hta, List.map_append, List.sum_append, ← hpl]; simp
    have hbd := sum_bd (V.pl v) 1000000 ((V.knownIdx v v.nodes.length).take (i + 1)) (fun j _ => hpb j)
    rw [hsum] at hbd
    have : ((V.knownIdx v v.nodes.length).take (i + 1)).length ≤ v.nodes.length := by simp; omega
    rw [w64_id (by omega) (by omega), w64_id (by omega) (by omega), ← hsum]
    exact hG (i + 1) s' ⟨rfl, by omega⟩ (by omega)
  · have : i = (V.knownIdx v v.nodes.length).length := by omega
    subst this
    have a1 := h1.mono (e1.view (k := k) (by simp))
    repeat (first|refine nn_at ?_|refine ldI_at a1 rfl ?_|refine ldB_at a1 rfl ?_|refine ldS_at a1 rfl ?_|refine ldP_at a1 rfl ?_|refine ldM_at a1 rfl ?_|refine ldL_at a1 rfl ?_)
    have := hK s' e1
    rw [h3.ls.len, List.take_length]
    exact this
/-! the reference's -/
namespace R
def known (d : RDisk) (i : Nat) : Bool := d.now.any (fun e => decide (e.File = (i : Int))) || d.sure.any (fun e => decide (e.File = (i : Int))) || d.waits.any (fun e => decide (e.File = (i : Int)))
def wl (d : RDisk) (j : Nat) : Int := match d.files[j]? with | some x => x.waits.length | none => 0
def writes (d : RDisk) : Int := (((List.range d.files.length).filter (known d)).map (wl d)).sum
end R
theorem any_take {α : Type} {p : α → Bool} {l : List α} {i : Nat} {x : α} (h : l[i]? = some x) (ha : (l.take i).any p = false) : (l.take (i + 1)).any p = p x := by
  rw [List.take_add_one, h]
  simp only [Option.toList, List.any_append, ha, List.any_cons, List.any_nil, Bool.or_false, Bool.false_or]
theorem any_true {α : Type} {p : α → Bool} {l : List α} {i : Nat} {x : α} (h : l[i]? = some x) (hp : p x = true) : l.any p = true := List.any_eq_true.2 ⟨x, List.mem_of_getElem? h, hp⟩
theorem rKnown_ok {k : Nat} {s : St} {b : Nat} {d : RDisk} {i : Nat} {K : Bool → HP} (h : RD k s b d) (hd : d.Ok) (hK : K (R.known d i) s.H) : rf04_Disk_Known (some ⟨b, 0, none⟩) i K s.H := by
  obtain ⟨k0, f, n, u, w, h1, h2, h3, h4, h5⟩ := h
  have := hd.now
  have := hd.sure
  have := hd.waits
  have := hd.calls
  unfold rf04_Disk_Known
  refine loop_rule (fun i : Nat => [.int .i64 i]) (fun j s' => s' = s ∧ j ≤ d.now.length ∧ (d.now.take j).any (fun e => decide (e.File = (i : Int))) = false) (fun j _ => d.now.length - j) 0 rfl ⟨rfl, Nat.zero_le _, rfl⟩ ?_
  rintro j s' ⟨rfl, hj, ha⟩ G hG
  simp only [List.getD_cons_zero, List.getD_cons_succ, asI_v, asL_v, asS_v, asB_v, asM_v, asP_v]
  repeat (first|refine nn_at ?_|refine ldI_at h1 rfl ?_|refine ldB_at h1 rfl ?_|refine ldS_at h1 rfl ?_|refine ldP_at h1 rfl ?_|refine ldM_at h1 rfl ?_|refine ldL_at h1 rfl ?_)
  rw [h3.len]
  refine bif_dec (fun hlt => ?_) (fun hlt => ?_)
  · repeat (first|refine nn_at ?_|refine ldI_at h1 rfl ?_|refine ldB_at h1 rfl ?_|refine ldS_at h1 rfl ?_|refine ldP_at h1 rfl ?_|refine ldM_at h1 rfl ?_|refine ldL_at h1 rfl ?_)
    refine ixL_rule h3 (by omega) (by omega) fun b' o x hx he => ?_
    obtain ⟨_, rfl, hax⟩ := he
    rw [Int.toNat_natCast] at hx
    repeat (first|refine nn_at ?_|refine ldI_at hax rfl ?_|refine ldB_at hax rfl ?_|refine ldS_at hax rfl ?_|refine ldP_at hax rfl ?_|refine ldM_at hax rfl ?_|refine ldL_at hax rfl ?_)
    refine bif_dec (fun hc => ?_) (fun hc => ?_)
    · have := any_true (p := fun e : EntM => decide (e.File = (i : Int))) hx (by simpa using hc)
      simpa [R.known, this] using hK
    · rw [w64_id (by omega) (by omega)]
      exact hG (j + 1) s' ⟨rfl, by omega, by rw [any_take hx ha]; simpa using hc⟩ (by omega)
  · have e1 : j = d.now.length := by omega
    subst e1
    rw [List.take_length] at ha
    refine loop_rule (fun i : Nat => [.int .i64 i]) (fun j s2 => s2 = s' ∧ j ≤ d.sure.length ∧ (d.sure.take j).any (fun e => decide (e.File = (i : Int))) = false) (fun j _ => d.sure.length - j) 0 rfl ⟨rfl, Nat.zero_le _, rfl⟩ ?_
    rintro j s2 ⟨rfl, hj2, ha2⟩ G2 hG2
    simp only [List.getD_cons_zero, List.getD_cons_succ, asI_v, asL_v, asS_v, asB_v, asM_v, asP_v]
    repeat (first|refine nn_at ?_|refine ldI_at h1 rfl ?_|refine ldB_at h1 rfl ?_|refine ldS_at h1 rfl ?_|refine ldP_at h1 rfl ?_|refine ldM_at h1 rfl ?_|refine ldL_at h1 rfl ?_)
    rw [h4.len]
    refine bif_dec (fun hlt2 => ?_) (fun hlt2 => ?_)
    · repeat (first|refine nn_at ?_|refine ldI_at h1 rfl ?_|refine ldB_at h1 rfl ?_|refine ldS_at h1 rfl ?_|refine ldP_at h1 rfl ?_|refine ldM_at h1 rfl ?_|refine ldL_at h1 rfl ?_)
      refine ixL_rule h4 (by omega) (by omega) fun b' o x hx he => ?_
      obtain ⟨_, rfl, hax⟩ := he
      rw [Int.toNat_natCast] at hx
      repeat (first|refine nn_at ?_|refine ldI_at hax rfl ?_|refine ldB_at hax rfl ?_|refine ldS_at hax rfl ?_|refine ldP_at hax rfl ?_|refine ldM_at hax rfl ?_|refine ldL_at hax rfl ?_)
      refine bif_dec (fun hc => ?_) (fun hc => ?_)
      · have := any_true (p := fun e : EntM => decide (e.File = (i : Int))) hx (by simpa using hc)
        simpa [R.known, this] using hK
      · rw [w64_id (by omega) (by omega)]
        exact hG2 (j + 1) s2 ⟨rfl, by omega, by rw [any_take hx ha2]; simpa using hc⟩ (by omega)
    · have e2 : j = d.sure.length := by omega
      subst e2
      rw [List.take_length] at ha2
      refine loop_rule (fun i : Nat => [.int .i64 i]) (fun j s3 => s3 = s2 ∧ j ≤ d.waits.length ∧ (d.waits.take j).any (fun e => decide (e.File = (i : Int))) = false) (fun j _ => d.waits.length - j) 0 rfl ⟨rfl, Nat.zero_le _, rfl⟩ ?_
      rintro j s3 ⟨rfl, hj3, ha3⟩ G3 hG3
      simp only [List.getD_cons_zero, List.getD_cons_succ, asI_v, asL_v, asS_v, asB_v, asM_v, asP_v]
      repeat (first|refine nn_at ?_|refine ldI_at h1 rfl ?_|refine ldB_at h1 rfl ?_|refine ldS_at h1 rfl ?_|refine ldP_at h1 rfl ?_|refine ldM_at h1 rfl ?_|refine ldL_at h1 rfl ?_)
      rw [h5.len]
      refine bif_dec (fun hlt3 => ?_) (fun hlt3 => ?_)
      · repeat (first|refine nn_at ?_|refine ldI_at h1 rfl ?_|refine ldB_at h1 rfl ?_|refine ldS_at h1 rfl ?_|refine ldP_at h1 rfl ?_|refine ldM_at h1 rfl ?_|refine ldL_at h1 rfl ?_)
        refine ixL_rule h5 (by omega) (by omega) fun b' o x hx he => ?_
        obtain ⟨_, rfl, hax⟩ := he
        rw [Int.toNat_natCast] at hx
        repeat (first|refine nn_at ?_|refine ldI_at hax rfl ?_|refine ldB_at hax rfl ?_|refine ldS_at hax rfl ?_|refine ldP_at hax rfl ?_|refine ldM_at hax rfl ?_|refine ldL_at hax rfl ?_)
        refine bif_dec (fun hc => ?_) (fun hc => ?_)
        · have := any_true (p := fun e : TurnM => decide (e.File = (i : Int))) hx (by simpa using hc)
          simpa [R.known, this] using hK
        · rw [w64_id (by omega) (by omega)]
          exact hG3 (j + 1) s3 ⟨rfl, by omega, by rw [any_take hx ha3]; simpa using hc⟩ (by omega)
      · have e3 : j = d.waits.length := by omega
        subst e3
        rw [List.take_length] at ha3
        simpa [R.known, ha, ha2, ha3] using hK
theorem rWrites_ok {k : Nat} {s : St} {b : Nat} {d : RDisk} {K : Int → HP} (h : RD k s b d) (hd : d.Ok) (hw : ∀ j, R.known d j = true → R.wl d j ≤ 1000000) (hf : d.files.length ≤ 1001024) (hK : K (R.writes d) s.H) : rf04_Disk_Writes (some ⟨b, 0, none⟩) K s.H := by
  have hh := h
  obtain ⟨k0, f, n, u, w, h1, h2, h3, h4, h5⟩ := h
  have hwb : ∀ j, R.known d j = true → 0 ≤ R.wl d j ∧ R.wl d j ≤ 1000000 := fun j hj => ⟨by unfold R.wl; split <;> omega, hw j hj⟩
  unfold rf04_Disk_Writes
  refine loop_rule (fun i : Nat => [.int .i64 (((List.range i).filter (R.known d)).map (R.wl d)).sum, .int .i64 i]) (fun i s' => s' = s ∧ i ≤ d.files.length) (fun i _ => d.files.length - i) 0 rfl ⟨rfl, Nat.zero_le _⟩ ?_
  rintro i s' ⟨rfl, hi⟩ G hG
  simp only [List.getD_cons_zero, List.getD_cons_succ, asI_v, asL_v, asS_v, asB_v, asM_v, asP_v]
  repeat (first|refine nn_at ?_|refine ldI_at h1 rfl ?_|refine ldB_at h1 rfl ?_|refine ldS_at h1 rfl ?_|refine ldP_at h1 rfl ?_|refine ldM_at h1 rfl ?_|refine ldL_at h1 rfl ?_)
  rw [h2.len]
  refine bif_dec (fun hlt => ?_) (fun hlt => ?_)
  · refine rKnown_ok hh hd ?_
    have hb := fun i => sum_bd (R.wl d) 1000000 ((List.range i).filter (R.known d)) (fun j hj => hwb j (List.mem_filter.1 hj).2)
    have hl : ∀ i, ((List.range i).filter (R.known d)).length ≤ i := fun i => Nat.le_trans (List.length_filter_le _ _) (by simp)
    have hadd : (((List.range (i + 1)).filter (R.known d)).map (R.wl d)).sum = (((List.range i).filter (R.known d)).map (R.wl d)).sum + (if R.known d i then R.wl d i else 0) := by
      rw [List.range_succ, List.filter_append, List.map_append, List.sum_append]
      cases e : R.known d i <;> simp [List.filter_cons, e]
    have b1 := hb (i + 1)
    have l1 := hl (i + 1)
    unfold rf04_Disk_Writes_j1
    refine bif_rule (fun hk => ?_) (fun hk => ?_)
    · rw [hk, if_pos rfl] at hadd
      rw [hadd] at b1
      repeat (first|refine nn_at ?_|refine ldI_at h1 rfl ?_|refine ldB_at h1 rfl ?_|refine ldS_at h1 rfl ?_|refine ldP_at h1 rfl ?_|refine ldM_at h1 rfl ?_|refine ldL_at h1 rfl ?_)
      refine ixL_rule h2 (by omega) (by omega) fun b' o x hx he => ?_
      obtain ⟨_, ⟨sl, rfl, hsl⟩, hax⟩ := he
      rw [Int.toNat_natCast] at hx
      repeat (first|refine nn_at ?_|refine ldI_at hax rfl ?_|refine ldB_at hax rfl ?_|refine ldS_at hax rfl ?_|refine ldP_at hax rfl ?_|refine ldM_at hax rfl ?_|refine ldL_at hax rfl ?_)
      have : R.wl d i = (sl.len : Nat) := by
        unfold R.wl
        rw [hx, hsl.len]
      rw [this] at hadd b1
      rw [w64_id (by omega) (by omega), w64_id (by omega) (by omega), ← hadd]
      exact hG (i + 1) s' ⟨rfl, by omega⟩ (by omega)
    · rw [hk] at hadd
      simp only [Bool.false_eq_true, if_false, Int.add_zero] at hadd
      rw [w64_id (by omega) (by omega), ← hadd]
      exact hG (i + 1) s' ⟨rfl, by omega⟩ (by omega)
  · have : i = d.files.length := by omega
    subst this
    exact hK
theorem kn_eq {v : VDisk} {d : RDisk} (h : Sim v d) (j : Nat) (hj : j < v.nodes.length) : V.kn v j = R.known d j := by
  have hn0 := (h.names 0 (Nat.zero_le _)).1
  simp only [List.take_zero, List.foldl_nil] at hn0
  have hns := h.ns.1
  have an : ∀ (m : List (ByteArray × Int)) (l : List EntM), NamesSim v.nodes.length m l → (m.any fun x => decide (x.2 = (j : Int))) = l.any fun e => decide (e.File = (j : Int)) := fun m l hml => by
    rw [Bool.eq_iff_iff, List.any_eq_true, List.any_eq_true]
    constructor
    · rintro ⟨⟨a, i⟩, h1, h2⟩; exact ⟨⟨a, i⟩, (hml.mem _ _).1 h1, h2⟩
    · rintro ⟨⟨a, i⟩, h1, h2⟩; exact ⟨⟨a, i⟩, (hml.mem _ _).2 h1, h2⟩
  have hx : v.nodes[j]? = some v.nodes[j] := List.getElem?_eq_getElem hj
  have hfr : v.nodes[j].fresh = d.waits.any fun t => decide (t.File = (j : Int)) := by
    rw [Bool.eq_iff_iff, h.fresh j _ hx, List.any_eq_true]
    constructor
    · rintro ⟨t, h1, h2⟩; exact ⟨t, h1, by simpa using h2⟩
    · rintro ⟨t, h1, h2⟩; exact ⟨t, h1, by simpa using h2⟩
  unfold V.kn R.known V.flags
  rw [hx]
  simp only
  rw [hfr]
  congr 1
  rw [← an _ _ hns, ← an _ _ hn0]
  simp only [V.mark, List.getD_eq_getElem?_getD, List.getElem?_map, List.length_map, List.length_range, List.length_replicate, List.getElem?_range hj, Option.map_some, Option.getD_some, List.getElem?_replicate]
  split <;> simp
theorem writes_eq {v : VDisk} {d : RDisk} (h : Sim v d) : V.writes v = R.writes d := by
  unfold V.writes R.writes V.knownIdx
  rw [← h.nodes.1]
  have e1 : (List.range v.nodes.length).filter (V.kn v) = (List.range v.nodes.length).filter (R.known d) := List.filter_congr fun j hj => kn_eq h j (by simpa using hj)
  rw [← e1]
  congr 1
  apply List.map_congr_left
  intro j hj
  obtain ⟨hj1, hj2⟩ := List.mem_filter.1 hj
  have hlt : j < v.nodes.length := by simpa using hj1
  have hlt2 : j < d.files.length := by rw [← h.nodes.1]; exact hlt
  have hx := List.getElem?_eq_getElem hlt
  have hf := List.getElem?_eq_getElem hlt2
  have hkn : Known v j := by
    rw [kn_eq h j hlt] at hj2
    have hn0 := (h.names 0 (Nat.zero_le _)).1
    simp only [List.take_zero, List.foldl_nil] at hn0
    simp only [R.known, Bool.or_eq_true, List.any_eq_true, decide_eq_true_eq] at hj2
    rcases hj2 with (⟨e, he, hee⟩ | ⟨e, he, hee⟩) | hfr
    · exact .inl ⟨e.Name, (h.ns.1.mem _ _).2 (by rw [← hee]; exact he)⟩
    · exact .inr (.inl ⟨e.Name, (hn0.mem _ _).2 (by rw [← hee]; exact he)⟩)
    · exact .inr (.inr ⟨_, hx, (h.fresh j _ hx).2 hfr⟩)
  have := (h.cont j _ _ hx hf hkn).2.2
  unfold V.pl R.wl
  rw [hx, hf]
  simp only
  have := congrArg List.length this
  simp at this
  omega
theorem wl_bd {v : VDisk} {d : RDisk} (h : Sim v d) (hc : d.calls ≤ 1000000) (j : Nat) (hk : R.known d j = true) : R.wl d j ≤ 1000000 := by
  unfold R.wl
  split
  · rename_i f hf
    have hlt2 := (List.getElem?_eq_some_iff.1 hf).1
    have hlt : j < v.nodes.length := by rw [h.nodes.1]; exact hlt2
    have hx := List.getElem?_eq_getElem hlt
    have hn0 := (h.names 0 (Nat.zero_le _)).1
    simp only [List.take_zero, List.foldl_nil] at hn0
    have hkn : Known v j := by
      simp only [R.known, Bool.or_eq_true, List.any_eq_true, decide_eq_true_eq] at hk
      rcases hk with (⟨e, he, hee⟩ | ⟨e, he, hee⟩) | hfr
      · exact .inl ⟨e.Name, (h.ns.1.mem _ _).2 (by rw [← hee]; exact he)⟩
      · exact .inr (.inl ⟨e.Name, (hn0.mem _ _).2 (by rw [← hee]; exact he)⟩)
      · exact .inr (.inr ⟨_, hx, (h.fresh j _ hx).2 hfr⟩)
    have h1 := (h.cont j _ _ hx hf hkn).2.2
    have h2 := (h.sizes _ (List.getElem_mem hlt)).len
    have := congrArg List.length h1
    simp at this
    omega
  · omega
/-- both disks stand for one: they tell the same files -/
theorem Apart_ok {C : Cx} {k k2 : Nat} {s : St} {b b2 : Nat} {d : RDisk} {K : Int → HP} (h : DV k s b d) (h2 : RD k2 s b2 d) (hnm : ∀ e ∈ d.now, e.Name.size ≤ 9223372036854775807) (hc : d.calls ≤ 1000000) (hko : Ko k s)
    (hK : ∀ s', Step [] s s' → K 0 s'.H) : lw16_Apart C (some ⟨b, 0, none⟩) (some ⟨b2, 0, none⟩) K s.H := by
  have hinv := h.inv
  have hok := hinv.ok (by omega)
  obtain ⟨k0, f, n, u, w, a1, l1, l2, l3, l4⟩ := h2
  unfold lw16_Apart lw16_same
  refine nn_at ?_
  refine ldB_at a1 rfl ?_
  refine vDownD_ok h ?_
  refine held_rule (ldB_at a1 rfl rfl) ?_
  rw [beq_self_eq_true]
  refine bif_f ?_
  refine nn_at ?_
  refine ldI_at a1 rfl ?_
  refine vCallsD_ok h ?_
  refine held_rule (ldI_at a1 rfl rfl) ?_
  rw [decide_eq_true rfl]
  unfold lw16_same_j1
  refine bif_f ?_
  refine vNamesD_ok h hnm fun s1 r e1 lr => ?_
  have a11 := a1.mono (e1.view (k := k2) (by simp))
  have hd1 := h.st e1 (by simp)
  have hr1 : RD k2 s1 b2 d := ⟨k0, f, n, u, w, a11, l1.st e1, l2.st e1, l3.st e1, l4.st e1⟩
  have hrl := lr.len
  refine nn_at ?_
  refine ldB_at a11 rfl ?_
  cases hdn : d.down
  case true =>
    refine bif_t ?_
    rw [hdn] at hrl
    simp only [if_true, List.length_nil] at hrl
    rw [hrl]
    rw [decide_eq_true (by rfl)]
    exact bif_t (hK s1 e1)
  case false =>
  refine bif_f ?_
  rw [hdn] at lr hrl
  simp only [Bool.false_eq_true, if_false, List.length_map] at lr hrl
  obtain ⟨v, ps, hv, hs⟩ := hd1
  refine Waits_ok hv hs hc (hko.mono e1) fun s2 e2 => ?_
  have hoff : v.off = false := by rw [hs.off]; exact hdn
  rw [hoff]
  simp only [Bool.false_eq_true, if_false]
  have e02 := e1.trans e2
  have a12 := a1.mono (e02.view (k := k2) (by simp))
  have hr2 := hr1.st e2 (by simp)
  refine nn_at ?_
  refine ldL_at a12 rfl ?_
  rw [l2.len, hrl, decide_eq_true rfl]
  refine bif_f ?_
  refine nn_at ?_
  refine ldL_at a12 rfl ?_
  rw [l4.len, hs.mvl.1, decide_eq_true rfl]
  refine bif_f ?_
  have hnn := hs.nodes
  refine rWrites_ok hr2 hok (wl_bd hs hc) (by omega) ?_
  rw [writes_eq hs, decide_eq_true rfl]
  unfold lw16_same_j2
  refine bif_f ?_
  have hnow := hok.now
  have hd2 := h.st e02 (by simp)
  refine loop_rule (fun i : Nat => [.int .i64 i]) (fun i s' => i ≤ d.now.length ∧ Step [] s2 s') (fun i _ => d.now.length - i) 0 rfl ⟨Nat.zero_le _, Step.refl⟩ ?_
  rintro i s3 ⟨hi, e3⟩ G hG
  simp only [List.getD_cons_zero, List.getD_cons_succ, asI_v, asL_v, asS_v, asB_v, asM_v, asP_v]
  have e03 := e02.trans e3
  have hd3 := h.st e03 (by simp)
  refine bif_dec (fun hlt => ?_) (fun hlt => ?_)
  · have lr3 := (lr.st e2).st e3
    refine ixL_rule lr3 (by omega) (by rw [List.length_map]; omega) fun b' o x hx he => ?_
    obtain ⟨_, rfl, hax⟩ := he
    rw [Int.toNat_natCast, List.getElem?_map, Option.map_eq_some_iff] at hx
    obtain ⟨e, hee, rfl⟩ := hx
    refine ldS_at0 hax rfl ?_
    refine vRead_ok hd3 fun s4 r4 e4 l4' => ?_
    have e04 := e03.trans e4
    have a14 := a1.mono (e04.view (k := k2) (by simp))
    refine ixL_rule (lr3.st e4) (by omega) (by rw [List.length_map]; omega) fun b' o x hx he => ?_
    obtain ⟨_, rfl, hax4⟩ := he
    rw [Int.toNat_natCast, List.getElem?_map, hee] at hx
    simp at hx; subst hx
    refine ldS_at0 hax4 rfl ?_
    repeat (first|refine nn_at ?_|refine ldI_at a14 rfl ?_|refine ldB_at a14 rfl ?_|refine ldS_at a14 rfl ?_|refine ldP_at a14 rfl ?_|refine ldM_at a14 rfl ?_|refine ldL_at a14 rfl ?_)
    refine ixL_rule (l2.st e04) (by omega) (by omega) fun b' o x hx he => ?_
    obtain ⟨_, rfl, hay⟩ := he
    rw [Int.toNat_natCast, hee] at hx
    simp at hx; subst hx
    refine ldS_at hay rfl ?_
    rw [decide_eq_true rfl]
    refine bif_f ?_
    refine ldBy_rule l4' ?_
    repeat (first|refine nn_at ?_|refine ldI_at a14 rfl ?_|refine ldB_at a14 rfl ?_|refine ldS_at a14 rfl ?_|refine ldP_at a14 rfl ?_|refine ldM_at a14 rfl ?_|refine ldL_at a14 rfl ?_)
    refine ixL_rule (l2.st e04) (by omega) (by omega) fun b' o x hx he => ?_
    obtain ⟨_, rfl, hay⟩ := he
    rw [Int.toNat_natCast, hee] at hx
    simp at hx; subst hx
    refine ldI_at hay rfl ?_
    have hem := List.mem_of_getElem? hee
    have hrg := hs.ns.1.good.rng _ hem
    have hfnd := find_mem hs.ns.1.good (n := e.Name) (i := e.File) hem
    have hfl := hs.nodes.1
    refine ixL_rule (l1.st e04) hrg.1 (by omega) fun b' o y hy he => ?_
    obtain ⟨_, ⟨sl, rfl, _⟩, haf⟩ := he
    refine ldS_at haf rfl ?_
    have htx : (R.text d e.Name).1 = y.now := by
      unfold R.text R.data
      rw [hdn, hfnd, hy]
      rw [if_neg (by simp), if_neg (by omega)]
    have : (⟨(R.text d e.Name).1.data.toList.toArray⟩ : ByteArray) = y.now := by rw [htx]
    rw [this, decide_eq_true rfl]
    unfold lw16_same_j3
    refine bif_f ?_
    rw [w64_id (by omega) (by omega)]
    exact hG (i + 1) s4 ⟨by omega, e3.trans e4⟩ (by omega)
  · exact bif_t (hK s3 e03)
end Go.Ph
end
section
set_option linter.all false
namespace Go.Ph
open S
theorem wr_u8 {n : Int} (h : 0 ≤ n) (h2 : n < 256) : wr .u8 n = n := by
  unfold wr IntKind.wrap
  simp [IntKind.bits, IntKind.signed]
  omega
def digit (n : Nat) : UInt8 := UInt8.ofNat (48 + n % 10)
theorem digit_nat (n : Nat) : (digit n).toNat = 48 + n % 10 := by unfold digit; rw [UInt8.toNat_ofNat']; omega
/-- the last digits of a number -/
def low (n : Nat) : Nat → List UInt8
  | 0 => []
  | i + 1 => digit (n / 10 ^ i) :: low n i
theorem low_len (n : Nat) : ∀ i, (low n i).length = i
  | 0 => rfl
  | i + 1 => by simp [low, low_len n i]
def ba (l : List UInt8) : ByteArray := ⟨l.toArray⟩
theorem ba_size (l : List UInt8) : (ba l).size = l.length := by simp [ba, ByteArray.size]
theorem ba_app (a b : List UInt8) : ba a ++ ba b = ba (a ++ b) := by apply ba_ext; simp [ba]
theorem rDigits_ok {s : St} {n : Nat} {w : Nat} {K : ByteArray → HP} (hn : n < 9223372036854775808) (hw : w ≤ 1000) (hK : ∀ s', Step [] s s' → K (ba (low n w)) s'.H) : rf18_digits n w K s.H := by
  unfold rf18_digits
  refine loop_rule (fun i : Nat => [.int .i64 ((n / 10 ^ i : Nat) : Int), .string (ba (low n i)), .int .i64 i]) (fun i s' => i ≤ w ∧ Step [] s s') (fun i _ => w - i) 0 (by simp [low, ba]) ⟨Nat.zero_le _, Step.refl⟩ ?_
  rintro i s1 ⟨hi, e1⟩ G hG
  simp only [List.getD_cons_zero, List.getD_cons_succ, asI_v, asL_v, asS_v, asB_v, asM_v, asP_v]
  refine bif_dec (fun hlt => ?_) (fun hlt => ?_)
  · have hG' := hG (i + 1)
    simp only [low] at hG'
    have hp : n / 10 ^ (i + 1) = n / 10 ^ i / 10 := by rw [Nat.pow_succ, ← Nat.div_div_eq_div_mul]
    have hq : n / 10 ^ i ≤ n := Nat.div_le_self _ _
    rw [hp] at hG'
    generalize n / 10 ^ i = q at *
    refine ⟨by decide, ?_⟩
    have hm : Int.tmod (q : Int) 10 = ((q % 10 : Nat) : Int) := by
      rw [Int.tmod_eq_emod_of_nonneg (by omega)]; omega
    have hd : Int.tdiv (q : Int) 10 = ((q / 10 : Nat) : Int) := by
      rw [Int.tdiv_eq_ediv_of_nonneg (by omega)]; omega
    rw [hm, hd, w64_id (n := 48 + ((q % 10 : Nat) : Int)) (by omega) (by omega), wr_u8 (by omega) (by omega)]
    refine newc_0 fun s2 b n2 a2 => ?_
    have hls : LsW tBy (s2.w 0) (s2.w 0) [digit q] ⟨some (at0 b), 1, 1⟩ := Ls.single (x := digit q) rfl (by rw [digit_nat]; exact a2)
    refine ldBy_rule hls ?_
    refine cat_rule (by rw [ba_size, low_len]; show 1 + _ ≤ _; omega) ?_
    refine ⟨by decide, ?_⟩
    rw [w64_id (by omega) (by omega), w64_id (by omega) (by omega)]
    rw [show (⟨[digit q].toArray⟩ : ByteArray) ++ ba (low n i) = ba (digit q :: low n i) from ba_app [_] _]
    exact hG' s2 ⟨by omega, e1.trans n2.step⟩ (by omega)
  · have : i = w := by omega
    subst this
    exact hK s1 e1
/-- a row is copied into another one -/
theorem cpy_rule {α : Type} {t : Ty α} {s : St} {q kx : Nat} {l m : List α} {d x : Sl} {size : Nat} {K : Int → HP} (hd : LsW t (s.w 0) (s.w q) l d) (hx : LsW t (s.w 0) (s.w kx) m x) (hq0 : q ≠ 0)
    (hK : ∀ s', Step [q] s s' → s'.H.size = s.H.size → LsW t (s'.w 0) (s'.w q) (m.take (min m.length l.length) ++ l.drop (min m.length l.length)) d → (∀ a, d.a = some a → ∀ x i, ¬(x = a.block ∧ a.off ≤ i ∧ i < a.off + min m.length l.length * t.n) → s'.c x i = s.c x i ∧ pk s'.H x i = pk s.H x i) → K (min m.length l.length : Nat) s'.H) (hn : size = t.n := by rfl) : cpy size d x K s.H := by
  subst hn
  have hdl := hd.len
  have hxl := hx.len
  obtain ⟨new, n1, n2, n3, n4⟩ := (hx.take (min m.length l.length) (Nat.min_le_left _ _)).row
  simp only [List.length_take] at n1
  have hc : min x.len d.len = min m.length l.length := by rw [hdl, hxl]
  refine ⟨new, by rw [hc]; exact n2, ?_⟩
  unfold cpyC
  rw [hc]
  generalize hcc : min m.length l.length = c at *
  cases e : d.a with
  | none =>
    have h0 := hd.nil e
    have hcap := hd.cap
    have hl0 : l = [] := List.eq_nil_of_length_eq_zero (by omega)
    subst hl0
    have : c = 0 := by simp at hcc; omega
    subst this
    exact hK s Step.refl rfl (by simpa using hd) (fun _ _ _ _ _ => ⟨rfl, rfl⟩)
  | some a =>
    obtain ⟨g1, g2⟩ := hd.at_ a e
    obtain ⟨b, o, sp⟩ := a
    simp at g1; subst g1
    simp only at g2 ⊢
    have hnl : new.length = c * t.n := by rw [n1]; congr 1; omega
    have hcells : ∀ j, j < new.length → ∃ v0, s.w q b (o + 0 + j) = some (.v v0) := fun j hj => by
      have hpos : 0 < t.n := by
        rcases Nat.eq_zero_or_pos t.n with h | h
        · rw [h] at hnl; omega
        · exact h
      have hjl : j / t.n < l.length := by
        have : j / t.n < c := Nat.div_lt_of_lt_mul (by rw [Nat.mul_comm]; omega)
        omega
      obtain ⟨ws, w1, w2⟩ := g2 (j / t.n) _ (List.getElem?_eq_getElem hjl)
      have hwl := t.len w1
      have hm := Nat.mod_lt j hpos
      have := w2 (j % t.n) _ (List.getElem?_eq_getElem (by omega))
      have hdm := Nat.div_add_mod j t.n
      rw [Nat.mul_comm] at hdm
      rw [show o + j / t.n * t.n + j % t.n = o + 0 + j by omega] at this
      exact ⟨_, this⟩
    have hqlt : new.length ≠ 0 → q < 1152921504606846976 + 1152921504606846976 * s.H.size := fun h => by
      obtain ⟨v0, hv0⟩ := hcells 0 (by omega)
      rw [← (w_some hv0).2]; exact s.wf _ _ (w_lt hv0)
    by_cases hz : new.length = 0
    · have : new = [] := List.eq_nil_of_length_eq_zero hz
      subst this
      simp only [sts]
      refine hK s Step.refl rfl ⟨by simp; omega, hd.cap, hd.nil, fun a ha => ?_⟩ (fun _ _ _ _ _ => ⟨rfl, rfl⟩)
      rw [e] at ha; simp at ha; subst ha
      refine ⟨rfl, fun j y hj => ?_⟩
      by_cases ej : j < c
      · rw [List.getElem?_append_left (by simp; omega)] at hj
        exact n4 _ _ _ (fun i v hi => by simp at hi) j y hj
      · rw [List.getElem?_append_right (by simp; omega), List.getElem?_drop] at hj
        have : c + (j - (List.take c m).length) = j := by simp; omega
        rw [this] at hj
        exact g2 j y hj
    · refine sts_rule (k := q) (k' := q) new hcells n3 (hqlt hz) hq0 fun s' h' => ?_
      have hst : Step [q] s s' := h'.step (q := q) (by simp) hq0 fun j hj => by
        obtain ⟨v, hv⟩ := hcells j hj
        exact (w_some hv).2
      refine hK s' hst h'.sz ⟨by simp; omega, hd.cap, hd.nil, fun a ha => ?_⟩ (fun a ha x i hn => by
        rw [e] at ha; simp at ha; subst ha
        refine h'.old x i fun ⟨q1, q2, q3⟩ => hn ⟨q1, q2, ?_⟩
        rw [hnl] at q3; exact q3)
      rw [e] at ha; simp at ha; subst ha
      refine ⟨rfl, fun j y hj => ?_⟩
      simp only
      by_cases ej : j < c
      · rw [List.getElem?_append_left (by simp; omega)] at hj
        have := n4 (s'.w q) b o (by have := h'.here; rwa [Nat.add_zero] at this) j y hj
        exact this.mono hst.v0 (VLe.refl _)
      · rw [List.getElem?_append_right (by simp; omega), List.getElem?_drop] at hj
        have : c + (j - (List.take c m).length) = j := by simp; omega
        rw [this] at hj
        obtain ⟨ws, w1, w2⟩ := g2 j y hj
        refine ⟨ws, t.mono hst.v0 w1, fun a v hav => ?_⟩
        have hu := w2 a v hav
        have hcj : c * t.n ≤ j * t.n := Nat.mul_le_mul_right _ (by omega)
        have := h'.old b (o + j * t.n + a) (fun ⟨_, h1, h2⟩ => by omega)
        exact w_mk (this.2.trans (w_some hu).1) (this.1.trans (w_some hu).2)
/-- values as they are -/
def tV : Ty Value := ⟨1, fun _ v vs => vs = [v] ∧ one v = true, by rintro _ _ _ ⟨rfl, _⟩; rfl, fun _ h => h, by rintro _ _ _ ⟨rfl, h⟩; simpa using h⟩
/-- what is a function's own changes no more -/
theorem freeze (s : St) (q : Nat) : ∃ s' : St, s'.H = s.H ∧ Step [q] s s' ∧ VLe (s.w q) (s'.w 0) := by
  refine ⟨⟨s.H, fun b i => if s.c b i = q then 0 else s.c b i, fun b i hb => ?_, fun b i hb => ?_⟩, rfl, ⟨Nat.le_refl _, fun b i hb hn => ?_, fun _ _ => rfl⟩, fun b i x hx => ?_⟩
  · split
    · omega
    · exact s.wf b i hb
  · split at hb
    · exact absurd rfl hb
    · exact s.fz b i hb
  · refine ⟨?_, rfl⟩
    show (if s.c b i = q then 0 else s.c b i) = s.c b i
    split
    · rename_i h
      rcases hn with h0 | h0
      · exact h0.symm
      · exact absurd (by rw [h]; simp) h0
    · rfl
  · obtain ⟨h1, h2⟩ := w_some hx
    exact w_mk h1 (by show (if s.c b i = q then 0 else s.c b i) = 0; rw [if_pos h2])
theorem make_rule {s : St} {n : Int} {K : Sl → HP} (q : Nat) (hq : q < 2305843009213693952 + 1152921504606846976 * s.H.size) (h0 : 0 ≤ n ∧ n ≤ 281474976710656)
    (hK : ∀ s' sl l, Step [] s s' → s'.H.size = s.H.size + 1 → LsW tV (s'.w 0) (s'.w q) l sl → l.length = n.toNat → K sl s'.H) : internal_bytealg_MakeNoZero n K s.H := by
  refine ⟨h0, fun cap ty cs hc hl => ?_⟩
  refine newc_f (K := fun b => K ⟨some (at0 b), n.toNat, cap⟩) (lo := 0) (hi := 0) (fun _ => q) (fun _ => hq) (fun i _ => by simp) fun s' b hn => ?_
  refine hK s' _ ((cs.map (Value.int .u8)).take n.toNat) hn.step hn.sz ⟨by simp; omega, hc, fun h => (by cases h), fun a ha => ?_⟩ (by simp; omega)
  simp at ha; subst ha
  refine ⟨rfl, fun j x hj => ⟨[x], ⟨rfl, ?_⟩, fun i v hi => ?_⟩⟩
  · rw [List.getElem?_take] at hj
    split at hj
    · rw [List.getElem?_map, Option.map_eq_some_iff] at hj
      obtain ⟨y, _, rfl⟩ := hj
      rfl
    · cases hj
  · have e : i = 0 := by cases i with
      | zero => rfl
      | succ i => simp at hi
    subst e
    simp at hi; subst hi
    refine w_mk ?_ (hn.col _)
    simp only [tV, Nat.zero_add, Nat.mul_one, Nat.add_zero]
    rw [hn.here]
    rw [List.getElem?_take] at hj
    split at hj
    · rw [hj]; rfl
    · cases hj
theorem LsW.bytes {V W : View} {l : List UInt8} {sl : Sl} (h : LsW tV V W (l.map fun c => Value.int .u8 c.toNat) sl) : LsW tBy V W l sl :=
  ⟨by have := h.len; simpa using this, h.cap, h.nil, fun a ha => ⟨(h.at_ a ha).1, fun j x hj => by
    obtain ⟨ws, ⟨rfl, _⟩, w2⟩ := (h.at_ a ha).2 j (.int .u8 x.toNat) (by rw [List.getElem?_map, hj]; rfl)
    exact ⟨_, rfl, w2⟩⟩⟩
theorem LsW.vals {V W : View} {l : List UInt8} {sl : Sl} (h : LsW tBy V W l sl) : LsW tV V W (l.map fun c => Value.int .u8 c.toNat) sl :=
  ⟨by have := h.len; simpa using this, h.cap, h.nil, fun a ha => ⟨(h.at_ a ha).1, fun j x hj => by
    rw [List.getElem?_map, Option.map_eq_some_iff] at hj
    obtain ⟨y, hy, rfl⟩ := hj
    obtain ⟨ws, w1, w2⟩ := (h.at_ a ha).2 j y hy
    exact ⟨ws, ⟨w1, rfl⟩, w2⟩⟩⟩
theorem mul_ok {n : Int} {K : Int → Int → HP} {H : Heap} (hn : n = 3 ∨ n = 8) (hK : K 0 n H) : math_bits_Mul (wr .u64 ((1 : Nat) : Int)) (wr .u64 n) K H := by
  unfold math_bits_Mul math_bits_Mul64
  refine ⟨by decide, ⟨by decide, ⟨by decide, ⟨by decide, ⟨by decide, ?_⟩⟩⟩⟩⟩
  rcases hn with rfl | rfl
  · exact hK
  · exact hK
/-- a part of a row was written: the row -/
theorem part_rule {α : Type} {t : Ty α} {s s' : St} {q i c : Nat} {l r : List α} {sl sub : Sl} {b o : Nat} (h : LsW t (s.w 0) (s.w q) l sl) (ha : sl.a = some ⟨b, o, none⟩) (hst : Step [q] s s')
    (hs : LsW t (s'.w 0) (s'.w q) r sub) (hsa : sub.a = some ⟨b, o + i * t.n, none⟩) (hr : i + r.length = l.length) (hc : c ≤ r.length)
    (hold : ∀ x j, ¬(x = b ∧ o + i * t.n ≤ j ∧ j < o + i * t.n + c * t.n) → s'.c x j = s.c x j ∧ pk s'.H x j = pk s.H x j) : LsW t (s'.w 0) (s'.w q) (l.take i ++ r) sl := by
  refine ⟨by rw [h.len]; simp; omega, h.cap, h.nil, fun a ha' => ?_⟩
  rw [ha] at ha'; simp at ha'; subst ha'
  refine ⟨rfl, fun j y hj => ?_⟩
  simp only
  have hil : (l.take i).length = i := by simp; omega
  by_cases ej : j < i
  · rw [List.getElem?_append_left (by omega), List.getElem?_take_of_lt ej] at hj
    obtain ⟨ws, w1, w2⟩ := (h.at_ _ ha).2 j y hj
    have hwl := t.len w1
    refine ⟨ws, t.mono hst.v0 w1, fun a v hav => ?_⟩
    have hlt := (List.getElem?_eq_some_iff.1 hav).1
    have hu := w2 a v hav
    have hcj : (j + 1) * t.n ≤ i * t.n := Nat.mul_le_mul_right _ (by omega)
    rw [Nat.add_mul] at hcj
    have := hold b (o + j * t.n + a) (fun ⟨_, h1, h2⟩ => by omega)
    exact w_mk (this.2.trans (w_some hu).1) (this.1.trans (w_some hu).2)
  · rw [List.getElem?_append_right (by omega), hil] at hj
    have := (hs.at_ _ hsa).2 (j - i) y hj
    simp only at this
    have e2 : o + i * t.n + (j - i) * t.n = o + j * t.n := by
      rw [Nat.sub_mul]
      have : i * t.n ≤ j * t.n := Nat.mul_le_mul_right _ (by omega)
      omega
    rwa [e2] at this
theorem slLw_rule {α : Type} {t : Ty α} {V W : View} {l : List α} {sl : Sl} {size : Nat} {lo hi mx : Int} {b o : Nat} {K : Sl → HP} {H : Heap} (h : LsW t V W l sl) (ha : sl.a = some ⟨b, o, none⟩) (h0 : 0 ≤ lo) (h1 : lo ≤ hi) (h2 : hi ≤ l.length) (h3 : hi ≤ mx) (h4 : mx ≤ sl.cap) (h5 : lo < mx)
    (hK : ∀ sl', LsW t V W ((l.take hi.toNat).drop lo.toNat) sl' → sl'.cap = mx.toNat - lo.toNat → sl'.a = some ⟨b, o + lo.toNat * t.n, none⟩ → K sl' H) (hn : size = t.n := by rfl) : slL sl size lo hi mx K H := by
  subst hn
  refine slL_rule (K := fun sl' H => sl'.a = some ⟨b, o + lo.toNat * t.n, none⟩ → K sl' H) h h0 h1 h2 h3 h4 (fun sl' g1 g2 g3 => hK sl' g1 g2 g3) |> fun hh => ⟨hh.1, hh.2 ?_⟩
  simp only
  rw [if_neg (by omega), ha]
  simp [add_at]
theorem Repeat_ok {s : St} {c : UInt8} {sl : Sl} {n : Int} {kx q : Nat} {K : Sl → HP} (h : LsW tBy (s.w 0) (s.w kx) [c] sl) (hq : q < 2305843009213693952 + 1152921504606846976 * s.H.size) (hq0 : q ≠ 0) (hkx : kx ≠ q) (hn : n = 3 ∨ n = 8)
    (hK : ∀ s' r, Step [q] s s' → LsW tBy (s'.w 0) (s'.w q) (List.replicate n.toNat c) r → K r s'.H) : bytes_Repeat sl n K s.H := by
  have hl1 : sl.len = 1 := h.len
  unfold bytes_Repeat
  refine bif_dec (fun h => by omega) (fun _ => ?_)
  refine bif_dec (fun h => by omega) (fun _ => ?_)
  rw [hl1]
  refine mul_ok hn ?_
  rw [decide_eq_false (show ¬(0 : Int) < 0 by omega)]
  refine bif_f ?_
  rw [decide_eq_false (show ¬(9223372036854775807 : Int) < n by omega)]
  unfold bytes_Repeat_j1
  refine bif_f ?_
  refine bif_dec (fun h => by omega) (fun _ => ?_)
  rw [w64_id (by omega) (by omega)]
  refine bif_dec (fun h => by omega) (fun _ => ?_)
  unfold bytes_Repeat_j2
  refine make_rule q hq (by omega) fun s1 t54 l e1 z1 b1 hl => ?_
  obtain ⟨b, o, ha⟩ := Ls.lt b1 (j := 0) (by omega)
  have hcap := b1.cap
  have hlen := b1.len
  refine slLw_rule b1 ha (by omega) (by omega) (by omega) (by omega) (by omega) (by omega) fun t57 b2 c2 a2 => ?_
  have e0 : o + (0 : Int).toNat * tV.n = o := by simp
  rw [e0] at a2
  have hN : ∃ N : Nat, n = N ∧ (N = 3 ∨ N = 8) := ⟨n.toNat, by omega, by omega⟩
  obtain ⟨N, rfl, hN⟩ := hN
  simp only [Int.toNat_natCast, Int.toNat_zero, List.drop_zero] at b2 c2 hl hK
  rw [List.take_of_length_le (by omega)] at b2
  have hv : LsW tV (s1.w 0) (s1.w kx) [Value.int .u8 c.toNat] sl := LsW.vals (h.mono e1.v0 (e1.view (by simp)))
  refine cpy_rule b2 hv hq0 fun s2 e2 z2 b3 _ => ?_
  have hm : min [Value.int .u8 c.toNat].length l.length = 1 := by simp; omega
  rw [hm] at b3 ⊢
  refine loop_rule (ι := Nat × List Value) (fun x => [.int .i64 x.1]) (fun x s' => 1 ≤ x.1 ∧ x.1 ≤ N ∧ Step [q] s s' ∧ LsW tV (s'.w 0) (s'.w q) x.2 t57 ∧ x.2.length = N ∧ x.2.take x.1 = List.replicate x.1 (Value.int .u8 c.toNat)) (fun x _ => N - x.1) (1, _) rfl
    ⟨Nat.le_refl _, by omega, e1.n.trans e2, b3, by simp; omega, by simp⟩ ?_
  rintro ⟨i, r⟩ s3 ⟨hi1, hi, e3, b4, hrl, hrt⟩ G hG
  simp only [List.getD_cons_zero, List.getD_cons_succ, asI_v, asL_v, asS_v, asB_v, asM_v, asP_v]
  simp only at hi1 hi b4 hrl hrt
  have h57 := b4.len
  refine bif_dec (fun hlt => ?_) (fun hlt => ?_)
  · refine slLw_rule b4 a2 (by omega) (by omega) (by omega) (by omega) (by omega) (by omega) fun t70 b70 c70 a70 => ?_
    refine slLw_rule b4 a2 (by omega) (by split <;> omega) (by split <;> omega) (by split <;> omega) (by omega) (by omega) fun t73 b73 c73 a73 => ?_
    have hmin : (if (N : Int) < (i : Int) then (N : Int) else i) = (i : Int) := by rw [if_neg (by omega)]
    rw [hmin] at b73
    simp only [Int.toNat_natCast, Int.toNat_zero, List.drop_zero] at b70 b73 a70
    rw [List.take_of_length_le (by omega)] at b70
    rw [hrt] at b73
    refine cpy_rule b70 b73 hq0 fun s4 e4 z4 b5 f5 => ?_
    have hml : min (List.replicate i (Value.int .u8 c.toNat)).length (r.drop i).length = min i (N - i) := by simp [hrl]
    rw [hml] at b5 f5 ⊢
    have hp := part_rule b4 a2 e4 b5 a70 (by simp <;> omega) (c := min i (N - i)) (by simp <;> omega) (fun x j hx => f5 _ a70 x j (by simpa using hx))
    rw [w64_id (by omega) (by omega)]
    have := hG (i + min i (N - i), r.take i ++ ((List.replicate i (Value.int .u8 c.toNat)).take (min i (N - i)) ++ (r.drop i).drop (min i (N - i)))) s4 ⟨by simp only; omega, by simp only; omega, e3.trans e4, hp, by simp; omega, ?_⟩ (by simp only; omega)
    · exact this
    · simp only
      rw [hrt, List.take_replicate, ← List.append_assoc, List.replicate_append_replicate]
      rw [List.take_append_of_le_length (by simp <;> omega), List.take_replicate]
      congr 1; omega
  · have : i = N := by omega
    subst this
    rw [List.take_of_length_le (by omega)] at hrt
    subst hrt
    refine hK s3 t57 e3 (LsW.bytes ?_)
    simpa using b4
theorem low_zero {n : Nat} : ∀ (j d : Nat), n / 10 ^ j = 0 → low n (j + d) = List.replicate d 48 ++ low n j
  | j, 0, h => by simp
  | j, d + 1, h => by
    have e : n / 10 ^ (j + d) = 0 := by rw [Nat.pow_add, ← Nat.div_div_eq_div_mul, h, Nat.zero_div]
    rw [show j + (d + 1) = j + d + 1 by omega, low, e, low_zero j d h, List.replicate_succ]
    rfl
theorem digits_ok {s : St} {n : Nat} {w : Nat} {K : ByteArray → HP} (hn : n < 9223372036854775808) (hw : w = 3 ∨ w = 8) (hK : ∀ s', Step [] s s' → K (ba (low n w)) s'.H) : dbox_digits n w K s.H := by
  have hq0 : own s ≠ 0 := by unfold own; omega
  unfold dbox_digits
  refine newc_0 fun s1 b1 n1 a1 => ?_
  have e1 := n1.step
  have hz := n1.sz
  have h1 : LsW tBy (s1.w 0) (s1.w 0) [(48 : UInt8)] ⟨some (at0 b1), 1, 1⟩ := Ls.single rfl a1
  refine Repeat_ok (q := own s) h1 (by unfold own; omega) hq0 (by omega) (by omega) fun s2 r e2 b2 => ?_
  rw [Int.toNat_natCast] at b2
  have hrl := b2.len
  rw [List.length_replicate] at hrl
  refine loop_rule (ι := Nat) (fun j => [.int .i64 ((n / 10 ^ j : Nat) : Int), .int .i64 ((w : Int) - 1 - j)]) (fun j s' => j ≤ w ∧ Step [own s] s s' ∧ LsW tBy (s'.w 0) (s'.w (own s)) (List.replicate (w - j) 48 ++ low n j) r) (fun j _ => w - j) 0
    (by rw [w64_id (by omega) (by omega)]; simp) ⟨Nat.zero_le _, e1.n.trans e2, by simpa [low] using b2⟩ ?_
  rintro j s3 ⟨hj, e3, b3⟩ G hG
  simp only [List.getD_cons_zero, List.getD_cons_succ, asI_v, asL_v, asS_v, asB_v, asM_v, asP_v]
  have fin : low n w = List.replicate (w - j) 48 ++ low n j → dbox_digits_j1 (n / 10 ^ j : Nat) r ((w : Int) - 1 - j) false K G s3.H := fun he => by
    unfold dbox_digits_j1
    refine bif_f ?_
    refine ldBy_rule b3 ?_
    rw [← he]
    exact hK s3 e3.loc
  have hp : n / 10 ^ (j + 1) = n / 10 ^ j / 10 := by rw [Nat.pow_succ, ← Nat.div_div_eq_div_mul]
  have hqn : n / 10 ^ j ≤ n := Nat.div_le_self _ _
  refine bif_dec (fun hpos => ?_) (fun hpos => ?_)
  · by_cases h0 : (0 : Int) ≤ (w : Int) - 1 - j
    · rw [decide_eq_true h0]
      have hG' := hG (j + 1)
      simp only [low] at hG'
      rw [hp] at hG'
      clear fin
      generalize n / 10 ^ j = q at *
      unfold dbox_digits_j1
      refine bif_t ?_
      refine ⟨by decide, ?_⟩
      have hm : Int.tmod (q : Int) 10 = ((q % 10 : Nat) : Int) := by
        rw [Int.tmod_eq_emod_of_nonneg (by omega)]; omega
      have hd : Int.tdiv (q : Int) 10 = ((q / 10 : Nat) : Int) := by
        rw [Int.tdiv_eq_ediv_of_nonneg (by omega)]; omega
      rw [hm, hd, w64_id (n := 48 + ((q % 10 : Nat) : Int)) (by omega) (by omega), wr_u8 (by omega) (by omega)]
      have hll : (List.replicate (w - j) (48 : UInt8) ++ low n j).length = w := by simp [low_len]; omega
      refine ixLw_rule b3 h0 (by rw [hll]; omega) fun b o x ha hx _ => ?_
      refine setL_rule (x := digit q) b3 ha (by rw [hll]; omega) (by show [_] = [_]; rw [digit_nat]; rfl) hq0 (by decide) fun s4 e4 z4 b4 => ?_
      refine ⟨by decide, ?_⟩
      rw [w64_id (by omega) (by omega), w64_id (by omega) (by omega)]
      have := hG' s4 ⟨by omega, e3.trans e4, ?_⟩ (by omega)
      · rw [show (w : Int) - 1 - j - 1 = (w : Int) - 1 - (j + 1 : Nat) by omega]
        exact this
      · have e1 : (List.replicate (w - j) (48 : UInt8) ++ low n j).set ((w : Int) - 1 - j).toNat (digit q) = List.replicate (w - (j + 1)) 48 ++ digit q :: low n j := by
          rw [show ((w : Int) - 1 - j).toNat = w - j - 1 by omega]
          rw [show w - j = (w - (j + 1)) + 1 by omega, List.replicate_succ', List.append_assoc]
          rw [List.set_append_right _ _ (by simp)]
          simp
        rw [e1] at b4
        exact b4
    · rw [decide_eq_false h0]
      exact fin (by rw [show w - j = 0 by omega, show w = j by omega]; rfl)
  · have h0 : n / 10 ^ j = 0 := by
      clear fin hG hp hqn
      generalize n / 10 ^ j = q at hpos ⊢
      omega
    refine fin ?_
    have := low_zero j (w - j) h0
    rwa [show j + (w - j) = w by omega] at this
end Go.Ph
end
section
set_option linter.all false
namespace Go.Ph
open S
def front (u : Nat) : List UInt8 := 99 :: (low u 3 ++ [45])
def cname (u q : Nat) : List UInt8 := front u ++ low q 8
/-- a container's name; none: it is empty -/
def cnameI (u q : Int) : ByteArray := if 1 ≤ u ∧ u ≤ 999 ∧ 1 ≤ q ∧ q ≤ 99999999 then ba (cname u.toNat q.toNat) else ⟨#[]⟩
theorem front_len (u : Nat) : (front u).length = 5 := by simp [front, low_len]
theorem cname_len (u q : Nat) : (cname u q).length = 13 := by simp [cname, front_len, low_len]
theorem front_ok {s : St} {u : Nat} {K : ByteArray → HP} (hu : u < 9223372036854775808) (hK : ∀ s', Step [] s s' → K (ba (front u)) s'.H) : dbox_front u K s.H := by
  unfold dbox_front
  refine digits_ok hu (.inl rfl) fun s1 e1 => ?_
  refine cat_rule (by rw [ba_size, low_len]; show 1 + 3 ≤ _; omega) ?_
  have h1 : (⟨#[99]⟩ : ByteArray) ++ ba (low u 3) = ba (99 :: low u 3) := ba_app [99] _
  rw [h1]
  refine cat_rule (by rw [ba_size, List.length_cons, low_len]; show 4 + 1 ≤ _; omega) ?_
  have h2 : ba (99 :: low u 3) ++ (⟨#[45]⟩ : ByteArray) = ba (front u) := ba_app _ [45]
  rw [h2]
  exact hK s1 e1
theorem CName_ok {s : St} {u q : Int} {K : ByteArray → HP} (hK : ∀ s', Step [] s s' → K (cnameI u q) s'.H) : dbox_Name u q K s.H := by
  unfold dbox_Name dbox_isUser dbox_isSeq
  have bad : ¬(1 ≤ u ∧ u ≤ 999 ∧ 1 ≤ q ∧ q ≤ 99999999) → dbox_Name_j1 u q true K s.H := fun h => by
    unfold dbox_Name_j1
    refine bif_t ?_
    have := hK s Step.refl
    rwa [cnameI, if_neg h] at this
  have seq : 1 ≤ u → u ≤ 999 → (bif decide ((1 : Int) ≤ q) then (fun t10 => dbox_Name_j1 u q (!t10) K) (decide (q ≤ 99999999)) else (fun t10 => dbox_Name_j1 u q (!t10) K) false) s.H := fun h1 h2 => by
    refine bif_dec (fun h3 => ?_) (fun h3 => ?_)
    · by_cases h4 : q ≤ 99999999
      · simp only [decide_eq_true h4, Bool.not_true]
        unfold dbox_Name_j1
        refine bif_f ?_
        obtain ⟨u, rfl⟩ := Int.eq_ofNat_of_zero_le (show 0 ≤ u by omega)
        obtain ⟨q, rfl⟩ := Int.eq_ofNat_of_zero_le (show 0 ≤ q by omega)
        refine front_ok (by omega) fun s1 e1 => ?_
        refine digits_ok (by omega) (.inr rfl) fun s2 e2 => ?_
        refine cat_rule (by rw [ba_size, ba_size, front_len, low_len]; decide) ?_
        rw [ba_app]
        have := hK s2 (e1.trans e2)
        rwa [cnameI, if_pos ⟨h1, h2, h3, h4⟩] at this
      · simp only [decide_eq_false h4, Bool.not_false]
        exact bad fun h => h4 h.2.2.2
    · simp only [Bool.not_false]
      exact bad fun h => h3 h.2.2.1
  refine bif_dec (fun h1 => ?_) (fun h1 => ?_)
  · by_cases h2 : u ≤ 999
    · simp only [decide_eq_true h2, Bool.not_true]
      exact bif_f (seq h1 h2)
    · simp only [decide_eq_false h2, Bool.not_false]
      exact bif_t (bad fun h => h2 h.2.1)
  · simp only [Bool.not_false]
    exact bif_t (bad fun h => h1 h.1)
theorem rCName_ok {s : St} {u q : Int} {K : ByteArray → HP} (hK : ∀ s', Step [] s s' → K (cnameI u q) s'.H) : rf18_Name u q K s.H := by
  unfold rf18_Name
  have bad : ¬(1 ≤ u ∧ u ≤ 999 ∧ 1 ≤ q ∧ q ≤ 99999999) → rf18_Name_j1 u q true K s.H := fun h => by
    unfold rf18_Name_j1
    refine bif_t ?_
    have := hK s Step.refl
    rwa [cnameI, if_neg h] at this
  refine bif_dec (fun h1 => ?_) (fun h1 => ?_)
  · exact bad (by omega)
  · refine bif_dec (fun h2 => ?_) (fun h2 => ?_)
    · exact bad (by omega)
    · refine bif_dec (fun h3 => ?_) (fun h3 => ?_)
      · exact bad (by omega)
      · by_cases h4 : (99999999 : Int) < q
        · rw [decide_eq_true h4]; exact bad (by omega)
        · rw [decide_eq_false h4]
          unfold rf18_Name_j1
          refine bif_f ?_
          obtain ⟨u, rfl⟩ := Int.eq_ofNat_of_zero_le (show 0 ≤ u by omega)
          obtain ⟨q, rfl⟩ := Int.eq_ofNat_of_zero_le (show 0 ≤ q by omega)
          refine rDigits_ok (w := 3) (by omega) (by omega) fun s1 e1 => ?_
          refine cat_rule (by rw [ba_size, low_len]; show 1 + 3 ≤ _; omega) ?_
          have g1 : (⟨#[99]⟩ : ByteArray) ++ ba (low u 3) = ba (99 :: low u 3) := ba_app [99] _
          rw [g1]
          refine cat_rule (by rw [ba_size, List.length_cons, low_len]; show 4 + 1 ≤ _; omega) ?_
          have g2 : ba (99 :: low u 3) ++ (⟨#[45]⟩ : ByteArray) = ba (front u) := ba_app _ [45]
          rw [g2]
          refine rDigits_ok (w := 8) (by omega) (by omega) fun s2 e2 => ?_
          refine cat_rule (by rw [ba_size, ba_size, front_len, low_len]; decide) ?_
          rw [ba_app]
          have := hK s2 (e1.trans e2)
          rwa [cnameI, if_pos ⟨by omega, by omega, by omega, by omega⟩] at this
end Go.Ph
end
section
set_option linter.all false
namespace Go.Ph
open S
def isDig (c : UInt8) : Bool := decide (48 ≤ c.toNat) && decide (c.toNat ≤ 57)
/-- the number that digits tell -/
def num : List UInt8 → Nat := fun l => l.foldl (fun n c => 10 * n + (c.toNat - 48)) 0
theorem num_app (l : List UInt8) (c : UInt8) : num (l ++ [c]) = 10 * num l + (c.toNat - 48) := by simp [num]
theorem snoc_ind {α : Type} {P : List α → Prop} (h0 : P []) (h1 : ∀ l c, P l → P (l ++ [c])) (l : List α) : P l := by
  have : ∀ r : List α, P r.reverse := fun r => by
    induction r with
    | nil => exact h0
    | cons c r ih => rw [List.reverse_cons]; exact h1 _ _ ih
  have := this l.reverse
  rwa [List.reverse_reverse] at this
theorem num_lt (l : List UInt8) : (∀ c ∈ l, isDig c = true) → num l < 10 ^ l.length := by
  refine snoc_ind (P := fun l => (∀ c ∈ l, isDig c = true) → num l < 10 ^ l.length) (fun _ => by decide) (fun l c ih h => ?_) l
  have h1 := ih fun c hc => h c (by simp [hc])
  have h2 := h c (by simp)
  rw [num_app, List.length_append, List.length_singleton, Nat.pow_succ]
  simp [isDig] at h2
  omega
theorem foldl_num (l : List UInt8) : ∀ a : Nat, l.foldl (fun n c => 10 * n + (c.toNat - 48)) a = a * 10 ^ l.length + num l := by
  refine snoc_ind (P := fun l => ∀ a : Nat, l.foldl (fun n c => 10 * n + (c.toNat - 48)) a = a * 10 ^ l.length + num l) (fun a => by simp [num]) (fun l c ih a => ?_) l
  rw [List.foldl_append, List.foldl_cons, List.foldl_nil, ih a, num_app, List.length_append, List.length_singleton, Nat.pow_succ, Nat.mul_add, ← Nat.mul_assoc a, Nat.mul_comm (a * 10 ^ l.length) 10]
  omega
theorem num_cons (c : UInt8) (r : List UInt8) : num (c :: r) = (c.toNat - 48) * 10 ^ r.length + num r := by
  have := foldl_num r (10 * 0 + (c.toNat - 48))
  simpa [num] using this
theorem low_mod (n : Nat) : ∀ i m, n % 10 ^ i = m % 10 ^ i → low n i = low m i
  | 0, m, h => rfl
  | i + 1, m, h => by
    have h1 : n % 10 ^ i = m % 10 ^ i := by
      have := congrArg (· % 10 ^ i) h
      simp only [Nat.pow_succ] at this
      rwa [Nat.mod_mul_right_mod, Nat.mod_mul_right_mod] at this
    have h2 : n / 10 ^ i % 10 = m / 10 ^ i % 10 := by
      have := congrArg (· / 10 ^ i) h
      simp only [Nat.pow_succ] at this
      rwa [Nat.mod_mul_right_div_self, Nat.mod_mul_right_div_self] at this
    simp only [low]
    rw [low_mod n i m h1]
    congr 1
    unfold digit
    rw [h2]
theorem low_num : ∀ (l : List UInt8), (∀ c ∈ l, isDig c = true) → low (num l) l.length = l
  | [], h => rfl
  | c :: r, h => by
    have hr : ∀ c ∈ r, isDig c = true := fun c hc => h c (by simp [hc])
    have hc := h c (by simp)
    have h1 := num_lt r hr
    have h2 := low_num r hr
    simp only [List.length_cons, low]
    rw [num_cons]
    have e1 : ((c.toNat - 48) * 10 ^ r.length + num r) / 10 ^ r.length = c.toNat - 48 := by
      rw [Nat.mul_comm, Nat.mul_add_div (Nat.pow_pos (by decide)), Nat.div_eq_of_lt h1]; omega
    have e2 : low ((c.toNat - 48) * 10 ^ r.length + num r) r.length = low (num r) r.length := low_mod _ _ _ (by rw [Nat.mul_comm, Nat.mul_add_mod])
    rw [e1, e2, h2]
    congr 1
    unfold digit
    simp [isDig] at hc
    rw [show 48 + (c.toNat - 48) % 10 = c.toNat by omega]
    simp
theorem ext_list (a : ByteArray) (i j : Nat) : (a.extract i j).data.toList = (a.data.toList.drop i).take (j - i) := by simp
theorem pre_list (s p : ByteArray) : R.pre s p = decide (p.data.toList <+: s.data.toList) := by
  unfold R.pre
  rw [Bool.eq_iff_iff]
  simp only [Bool.and_eq_true, decide_eq_true_eq]
  constructor
  · rintro ⟨h1, h2⟩
    have : (s.extract 0 p.size).data.toList = p.data.toList := by rw [h2]
    rw [ext_list, Nat.sub_zero, List.drop_zero] at this
    rw [← this]
    exact List.take_prefix _ _
  · rintro ⟨r, hr⟩
    have hl := congrArg List.length hr
    rw [List.length_append, ba_len, ba_len] at hl
    refine ⟨by omega, ba_ext ?_⟩
    rw [ext_list, Nat.sub_zero, List.drop_zero, ← hr]
    rw [List.take_append_of_le_length (by rw [ba_len]; exact Nat.le_refl _), List.take_of_length_le (by rw [ba_len]; exact Nat.le_refl _)]
def numberOf (r : List UInt8) : Int := if r.length = 8 ∧ r.all isDig = true then num r else 0
theorem ba_list (l : List UInt8) : (ba l).data.toList = l := by simp [ba]
theorem list_ba (b : ByteArray) : ba b.data.toList = b := by apply ba_ext; simp [ba]
theorem num_take {r : List UInt8} {i : Nat} {c : UInt8} (h : r[i]? = some c) : num (r.take (i + 1)) = 10 * num (r.take i) + (c.toNat - 48) := by
  rw [List.take_succ, h]; simp [num_app]
theorem dig_take {r : List UInt8} {i : Nat} {c : UInt8} (h : r[i]? = some c) (ha : ∀ x ∈ r.take i, isDig x = true) (hc : isDig c = true) : ∀ x ∈ r.take (i + 1), isDig x = true := by
  rw [List.take_succ, h]; intro x hx; simp at hx
  rcases hx with hx | hx
  · exact ha x hx
  · rw [hx]; exact hc
theorem number_end {u : Nat} {r : List UInt8} (hu : 1 ≤ u ∧ u ≤ 999) (ha : ∀ x ∈ r, isDig x = true) : (if cnameI u (num r) = ba (front u ++ r) then (num r : Int) else 0) = numberOf r := by
  have hal : r.all isDig = true := List.all_eq_true.2 ha
  have hlt := num_lt r ha
  unfold numberOf cnameI
  by_cases h8 : r.length = 8
  · rw [if_pos (And.intro h8 hal)]
    rw [h8] at hlt
    by_cases h0 : num r = 0
    · rw [h0]; simp
    · rw [if_pos (c := _ ∧ _) ⟨by omega, by omega, by omega, by omega⟩]
      have := low_num r ha
      rw [h8] at this
      rw [if_pos]
      simp only [cname, Int.toNat_natCast, this]
  · rw [if_neg (c := r.length = 8 ∧ _) (fun h => h8 h.1)]
    rw [if_neg]
    intro h
    have hz := congrArg ByteArray.size h
    rw [ba_size, List.length_append, front_len] at hz
    split at hz
    · rw [ba_size, cname_len] at hz; omega
    · have : (⟨#[]⟩ : ByteArray).size = 0 := rfl
      omega
theorem number_ok {s : St} {u : Nat} {r : List UInt8} {K : Int → HP} (hu : 1 ≤ u ∧ u ≤ 999) (hr : r.length ≤ 1000000000000)
    (hK : ∀ s', Step [] s s' → K (numberOf r) s'.H) : dbox_number u (ba (front u ++ r)) K s.H := by
  unfold dbox_number
  refine front_ok (by omega) fun s1 e1 => ?_
  have hp : R.pre (ba (front u ++ r)) (ba (front u)) = true := by rw [pre_list, ba_list, ba_list]; exact decide_eq_true (List.prefix_append _ _)
  unfold strings_TrimPrefix internal_stringslite_TrimPrefix
  refine pre_ok (H := s1.H) (K := fun t7 => bif t7 then _ else _) ?_
  rw [hp]
  refine bif_t (slS_rule (by rw [ba_size, ba_size, front_len, List.length_append, front_len]; omega) ?_)
  have hx : (ba (front u ++ r)).extract (((ba (front u)).size : Int)).toNat (((ba (front u ++ r)).size : Int)).toNat = ba r := by
    apply ba_ext
    rw [ext_list, ba_list, ba_list, ba_size, ba_size, Int.toNat_natCast, Int.toNat_natCast, List.drop_left, List.length_append]
    exact List.take_of_length_le (by omega)
  rw [hx]
  refine s2b_rule 0 (by omega) fun s2 sl e2 z2 hb => ?_
  rw [ba_list] at hb
  have hls : Ls tBy (s2.w 0) r sl := hb.1
  have hlen := hls.len
  refine loop_rule (fun i : Nat => [.int .i64 (num (r.take i) : Nat), .int .i64 i]) (fun i s' => i ≤ r.length ∧ Step [] s s' ∧ Ls tBy (s'.w 0) r sl ∧ (∀ x ∈ r.take i, isDig x = true) ∧ num (r.take i) ≤ 1000000009) (fun i _ => r.length - i) 0 (by simp [num]) ⟨Nat.zero_le _, e1.trans e2, hls, by simp, by simp [num]⟩ ?_
  rintro i s3 ⟨hi, e3, l3, ha, hn⟩ G hG
  simp only [List.getD_cons_zero, List.getD_cons_succ, asI_v, asL_v, asS_v, asB_v, asM_v, asP_v]
  have bad : numberOf r = 0 → dbox_number_j1 u (ba (front u ++ r)) (num (r.take i)) 0 sl 0 i true K G s3.H := fun h => by
    unfold dbox_number_j1
    have := hK s3 e3
    rw [h] at this
    exact bif_t this
  refine bif_dec (fun hlt => ?_) (fun hlt => ?_)
  · have hlt' : i < r.length := by omega
    obtain ⟨c, hc⟩ : ∃ c, r[i]? = some c := ⟨_, List.getElem?_eq_getElem hlt'⟩
    have hcm : c ∈ r := List.mem_of_getElem? hc
    refine ixL_rule l3 (by omega) (by omega) fun b o x hx hel => ?_
    have hxc : x = c := by rw [Int.toNat_natCast, hc] at hx; exact (Option.some.inj hx).symm
    subst hxc
    obtain ⟨vs, rfl, hat⟩ := hel
    refine ldI_at0 hat rfl ?_
    have nod : isDig x = false → numberOf r = 0 := fun h => by
      unfold numberOf
      rw [if_neg]
      rintro ⟨-, h2⟩
      rw [List.all_eq_true] at h2
      rw [h2 x hcm] at h
      cases h
    refine bif_dec (fun h1 => ?_) (fun h1 => ?_)
    · exact bad (nod (by simp [isDig]; omega))
    · refine bif_dec (fun h2 => ?_) (fun h2 => ?_)
      · exact bad (nod (by simp [isDig]; omega))
      · by_cases h3 : (99999999 : Int) < num (r.take i)
        · rw [decide_eq_true h3]
          refine bad ?_
          have := num_lt (r.take i) ha
          unfold numberOf
          rw [if_neg]
          rintro ⟨h4, -⟩
          have hl : (r.take i).length ≤ 7 := by rw [List.length_take]; omega
          have : 10 ^ (r.take i).length ≤ 10 ^ 7 := Nat.pow_le_pow_right (by decide) hl
          omega
        · rw [decide_eq_false h3]
          unfold dbox_number_j1
          refine bif_f ?_
          have h48 : wr .u8 ((x.toNat : Int) - 48) = ((x.toNat - 48 : Nat) : Int) := by rw [wr_u8 (by omega) (by omega)]; omega
          rw [h48, w64_id (n := ((x.toNat - 48 : Nat) : Int)) (by omega) (by omega), w64_id (n := 10 * _) (by omega) (by omega), w64_id (by omega) (by omega), w64_id (by omega) (by omega)]
          have hG' := hG (i + 1) s3 ⟨by omega, e3, l3, dig_take hc ha (by simp [isDig]; omega), by rw [num_take hc]; omega⟩ (by omega)
          rw [num_take hc] at hG'
          exact hG'
  · have : i = r.length := by omega
    subst this
    rw [List.take_of_length_le (Nat.le_refl _)] at *
    refine CName_ok fun s4 e4 => ?_
    have := hK s4 (e3.trans e4)
    rw [← number_end hu ha] at this
    refine bif_ndec (fun h => ?_) (fun h => ?_)
    · rwa [if_neg h] at this
    · rwa [if_pos h] at this
/-- a container's number by its name in the document; -1: another beginning -/
def seqOf (u : Nat) (n : ByteArray) : Int := if R.pre n (ba (front u)) then (if n.size = 5 then 0 else numberOf (n.data.toList.drop 5)) else -1
theorem seqOf_ok {s : St} {u : Nat} {n : ByteArray} {K : Int → HP} (hu : 1 ≤ u ∧ u ≤ 999) (hr : n.size ≤ 1000000000000)
    (hK : ∀ s', Step [] s s' → K (seqOf u n) s'.H) : rf18_seqOf u n K s.H := by
  unfold rf18_seqOf
  refine rDigits_ok (w := 3) (by omega) (by omega) fun s1 e1 => ?_
  refine cat_rule (by rw [ba_size, low_len]; show 1 + 3 ≤ _; omega) ?_
  have g1 : (⟨#[99]⟩ : ByteArray) ++ ba (low u 3) = ba (99 :: low u 3) := ba_app [99] _
  rw [g1]
  refine cat_rule (by rw [ba_size, List.length_cons, low_len]; show 4 + 1 ≤ _; omega) ?_
  have g2 : ba (99 :: low u 3) ++ (⟨#[45]⟩ : ByteArray) = ba (front u) := ba_app _ [45]
  rw [g2]
  have hK1 := fun s' e => hK s' (e1.trans e)
  have bad : R.pre n (ba (front u)) = false → rf18_seqOf_j1 n true K s1.H := fun h => by
    unfold rf18_seqOf_j1
    refine bif_t ?_
    have := hK1 s1 Step.refl
    rwa [seqOf, h] at this
  have hf5 : (ba (front u)).size = 5 := by rw [ba_size, front_len]
  refine bif_dec (fun h5 => ?_) (fun h5 => ?_)
  · refine bad ?_
    unfold R.pre
    rw [decide_eq_false (by omega)]; rfl
  · refine slS_rule (by omega) ?_
    have hpre : R.pre n (ba (front u)) = decide (n.extract (0 : Int).toNat (5 : Int).toNat = ba (front u)) := by
      unfold R.pre
      rw [decide_eq_true (p := (ba (front u)).size ≤ n.size) (by omega), hf5]
      simp
    by_cases hp : n.extract (0 : Int).toNat (5 : Int).toNat = ba (front u)
    · rw [decide_eq_true hp] at hpre ⊢
      unfold rf18_seqOf_j1
      refine bif_f ?_
      generalize hrr : n.data.toList.drop 5 = r at *
      have hrl : r.length = n.size - 5 := by rw [← hrr, List.length_drop, ba_len]
      have hget : ∀ i, n.data.toList[5 + i]? = r[i]? := fun i => by rw [← hrr, List.getElem?_drop]
      have hsq : seqOf u n = if n.size = 5 then 0 else numberOf r := by unfold seqOf; rw [hpre, if_pos rfl, hrr]
      rw [hsq] at hK1
      refine loop_rule (fun i : Nat => [.int .i64 (num (r.take i) : Nat), .int .i64 ((5 + i : Nat) : Int)]) (fun i s' => i ≤ r.length ∧ Step [] s1 s' ∧ (i ≠ 0 → r.length = 8) ∧ (∀ x ∈ r.take i, isDig x = true)) (fun i _ => r.length - i) 0 (by simp [num]) ⟨Nat.zero_le _, Step.refl, by simp, by simp⟩ ?_
      rintro i s3 ⟨hi, e3, h8, ha⟩ G hG
      simp only [List.getD_cons_zero, List.getD_cons_succ, asI_v, asL_v, asS_v, asB_v, asM_v, asP_v]
      have bad : numberOf r = 0 → rf18_seqOf_j2 n (num (r.take i)) (5 + i : Nat) true K G s3.H := fun h => by
        unfold rf18_seqOf_j2
        have := hK1 s3 e3
        rw [h] at this
        simp only [ite_self] at this
        exact bif_t this
      refine bif_dec (fun hlt => ?_) (fun hlt => ?_)
      · have hlt' : i < r.length := by omega
        obtain ⟨c, hc⟩ : ∃ c, r[i]? = some c := ⟨_, List.getElem?_eq_getElem hlt'⟩
        have hcm : c ∈ r := List.mem_of_getElem? hc
        have nod : isDig c = false → numberOf r = 0 := fun h => by
          unfold numberOf
          rw [if_neg]
          rintro ⟨-, h2⟩
          rw [List.all_eq_true] at h2
          rw [h2 c hcm] at h
          cases h
        have hnc : n.data.toList[((5 + i : Nat) : Int).toNat]? = some c := by rw [Int.toNat_natCast, hget, hc]
        refine ixS_rule (by omega) (by omega) fun x hx => ?_
        have hxc : x = c := by rw [hnc] at hx; exact (Option.some.inj hx).symm
        subst hxc
        refine bif_dec (fun h1 => ?_) (fun h1 => ?_)
        · exact bad (nod (by simp [isDig]; omega))
        · refine ixS_rule (by omega) (by omega) fun x2 hx2 => ?_
          have hxc : x2 = x := by rw [hnc] at hx2; exact (Option.some.inj hx2).symm
          subst hxc
          refine bif_dec (fun h2 => ?_) (fun h2 => ?_)
          · exact bad (nod (by simp [isDig]; omega))
          · by_cases h3 : ((n.size : Nat) : Int) = 13
            · rw [decide_eq_true h3]
              unfold rf18_seqOf_j2
              refine bif_f ?_
              refine ixS_rule (by omega) (by omega) fun x3 hx3 => ?_
              have hxc : x3 = x2 := by rw [hnc] at hx3; exact (Option.some.inj hx3).symm
              subst hxc
              have hnl := num_lt _ ha
              have hl : (r.take i).length ≤ 7 := by rw [List.length_take]; omega
              have : 10 ^ (r.take i).length ≤ 10 ^ 7 := Nat.pow_le_pow_right (by decide) hl
              rw [w64_id (n := (x3.toNat : Int)) (by omega) (by omega), w64_id (n := 10 * _) (by omega) (by omega), w64_id (n := _ + (x3.toNat : Int)) (by omega) (by omega), w64_id (by omega) (by omega), w64_id (by omega) (by omega)]
              have hG' := hG (i + 1) s3 ⟨by omega, e3, fun _ => by omega, dig_take hc ha (by simp [isDig]; omega)⟩ (by omega)
              rw [num_take hc] at hG'
              rw [show ((10 * num (r.take i) + (x3.toNat - 48) : Nat) : Int) = 10 * (num (r.take i) : Int) + x3.toNat - 48 by omega, show (((5 + (i + 1) : Nat)) : Int) = ((5 + i : Nat) : Int) + 1 by omega] at hG'
              exact hG'
            · rw [decide_eq_false h3]
              exact bad (by unfold numberOf; rw [if_neg]; omega)
      · have : i = r.length := by omega
        subst this
        rw [List.take_of_length_le (Nat.le_refl _)] at *
        have := hK1 s3 e3
        by_cases h0 : n.size = 5
        · rw [if_pos h0] at this
          have hr0 : r = [] := List.eq_nil_of_length_eq_zero (by omega)
          rw [hr0]
          exact this
        · rw [if_neg h0] at this
          unfold numberOf at this
          rwa [if_pos ⟨h8 (by omega), List.all_eq_true.2 ha⟩] at this
    · rw [decide_eq_false hp] at hpre ⊢
      exact bad hpre
end Go.Ph
end
section
set_option linter.all false
namespace Go.Ph
open S
/-- the number that bytes tell -/
def be (l : List UInt8) : Nat := l.foldl (fun n c => 256 * n + c.toNat) 0
theorem be_app (l : List UInt8) (c : UInt8) : be (l ++ [c]) = 256 * be l + c.toNat := by simp [be]
theorem be_take {r : List UInt8} {i : Nat} {c : UInt8} (h : r[i]? = some c) : be (r.take (i + 1)) = 256 * be (r.take i) + c.toNat := by
  rw [List.take_succ, h]; simp [be_app]
theorem be_lt (l : List UInt8) : be l < 256 ^ l.length := by
  refine snoc_ind (P := fun l => be l < 256 ^ l.length) (by decide) (fun l c ih => ?_) l
  rw [be_app, List.length_append, List.length_singleton, Nat.pow_succ]
  have := c.toNat_lt
  omega
theorem pow_le (i : Nat) (h : i ≤ 7) : 256 ^ i ≤ 72057594037927936 := Nat.pow_le_pow_right (n := 256) (by decide) h
theorem wr_u64 {n : Int} (h : 0 ≤ n) (h2 : n < 18446744073709551616) : wr .u64 n = n := by
  unfold wr IntKind.wrap
  simp [IntKind.bits, IntKind.signed]
  omega
theorem wr_u32 {n : Int} (h : 0 ≤ n) (h2 : n < 4294967296) : wr .u32 n = n := by
  unfold wr IntKind.wrap
  simp [IntKind.bits, IntKind.signed]
  omega
theorem or_byte {n c : Nat} (hn : n < 72057594037927936) (hc : c < 256) : ior .u64 (ishl .u64 n 8) c = ((256 * n + c : Nat) : Int) := by
  unfold ior ishl
  have h1 : IntKind.wrap .u64 ((n : Int) * 2 ^ (min (8 : Int).toNat (IntKind.bits .u64))) = ((n * 256 : Nat) : Int) := by
    show IntKind.wrap .u64 ((n : Int) * 2 ^ 8) = _
    have : (n : Int) * 2 ^ 8 = ((n * 256 : Nat) : Int) := by omega
    rw [this]; exact wr_u64 (by omega) (by omega)
  rw [h1]
  have h2 : (BitVec.ofInt (IntKind.bits .u64) ((n * 256 : Nat) : Int) ||| BitVec.ofInt (IntKind.bits .u64) (c : Int)).toNat = 256 * n + c := by
    rw [BitVec.toNat_or, BitVec.ofInt_natCast, BitVec.ofInt_natCast, BitVec.toNat_ofNat, BitVec.toNat_ofNat]
    show (n * 256) % 2 ^ 64 ||| c % 2 ^ 64 = _
    rw [Nat.mod_eq_of_lt (by omega), Nat.mod_eq_of_lt (by omega)]
    have := Nat.shiftLeft_add_eq_or_of_lt (a := n) (b := c) (i := 8) (by omega)
    rw [Nat.shiftLeft_eq, show (2:Nat) ^ 8 = 256 from rfl] at this
    omega
  rw [h2]
  exact wr_u64 (by omega) (by omega)
/-- the number at a place -/
def getI (l : List UInt8) (at_ k : Int) : Int := if 1 ≤ k ∧ k ≤ 8 ∧ 0 ≤ at_ ∧ at_ + k ≤ l.length then be ((l.drop at_.toNat).take k.toNat) else 0
def getB (l : List UInt8) (at_ k : Int) : Bool := decide (1 ≤ k ∧ k ≤ 8 ∧ 0 ≤ at_ ∧ at_ + k ≤ l.length)
theorem getI_bd (l : List UInt8) (a k : Int) : 0 ≤ getI l a k ∧ getI l a k < 18446744073709551616 := by
  unfold getI
  split
  · have := be_lt ((l.drop a.toNat).take k.toNat)
    have h2 : ((l.drop a.toNat).take k.toNat).length ≤ 8 := by rw [List.length_take]; omega
    have : 256 ^ ((l.drop a.toNat).take k.toNat).length ≤ 256 ^ 8 := Nat.pow_le_pow_right (by decide) h2
    omega
  · omega
theorem rGet_ok {s : St} {k0 : Nat} {l : List UInt8} {sl : Sl} {a k : Int} {K : Int → Bool → HP} (h : LsW tBy (s.w 0) (s.w k0) l sl) (hl : l.length ≤ 9000000000000000000) (hk : -100 ≤ a ∧ a < 9223372036854775808)
    (hK : K (getI l a k) (getB l a k) s.H) : rf01_Get sl a k K s.H := by
  unfold rf01_Get
  have hlen := h.len
  unfold getI getB at hK
  have bad : ¬(1 ≤ k ∧ k ≤ 8 ∧ 0 ≤ a ∧ a + k ≤ l.length) → rf01_Get_j1 sl a k true K s.H := fun hn => by
    unfold rf01_Get_j1
    rw [if_neg hn, decide_eq_false hn] at hK
    exact bif_t hK
  refine bif_dec (fun h1 => ?_) (fun h1 => ?_)
  · exact bad (by omega)
  refine bif_dec (fun h2 => ?_) (fun h2 => ?_)
  · exact bad (by omega)
  refine bif_dec (fun h3 => ?_) (fun h3 => ?_)
  · exact bad (by omega)
  refine bif_dec (fun h4 => ?_) (fun h4 => ?_)
  · exact bad (by omega)
  rw [w64_id (n := (sl.len : Nat) - a) (by omega) (by omega)]
  by_cases h5 : ((sl.len : Nat) : Int) - a < k
  · rw [decide_eq_true h5]
    exact bad (by omega)
  rw [decide_eq_false h5]
  rw [if_pos (by omega), decide_eq_true (by omega)] at hK
  unfold rf01_Get_j1
  refine bif_f ?_
  generalize hr : (l.drop a.toNat).take k.toNat = r at *
  have hrl : r.length = k.toNat := by rw [← hr, List.length_take, List.length_drop]; omega
  refine loop_rule (fun i : Nat => [.int .u64 (be (r.take i) : Nat), .int .i64 i]) (fun i s' => i ≤ r.length ∧ s' = s) (fun i _ => r.length - i) 0 (by simp [be]) ⟨Nat.zero_le _, rfl⟩ ?_
  rintro i s3 ⟨hi, rfl⟩ G hG
  simp only [List.getD_cons_zero, List.getD_cons_succ, asI_v, asL_v, asS_v, asB_v, asM_v, asP_v]
  refine bif_dec (fun hlt => ?_) (fun hlt => ?_)
  · rw [w64_id (by omega) (by omega), w64_id (by omega) (by omega)]
    refine ixL_rule h (by omega) (by omega) fun b o x hx hel => ?_
    obtain ⟨vs, rfl, hat⟩ := hel
    refine ldI_at0 hat rfl ?_
    have hrx : r[i]? = some x := by
      rw [← hr, List.getElem?_take, if_pos (by omega), List.getElem?_drop, ← hx]
      congr 1; omega
    have hb := be_lt (r.take i)
    have hp := pow_le (r.take i).length (by rw [List.length_take]; omega)
    have hxl := x.toNat_lt
    rw [wr_u64 (n := (x.toNat : Int)) (by omega) (by omega), wr_u64 (n := 256 * _) (by omega) (by omega), wr_u64 (by omega) (by omega)]
    have hG' := hG (i + 1) s3 ⟨by omega, rfl⟩ (by omega)
    rw [be_take hrx] at hG'
    exact hG'
  · have : i = r.length := by omega
    subst this
    rw [List.take_of_length_le (Nat.le_refl _)]
    exact hK
theorem Get_ok {s : St} {k0 : Nat} {l : List UInt8} {sl : Sl} {a k : Int} {K : Int → Bool → HP} (h : LsW tBy (s.w 0) (s.w k0) l sl) (hl : l.length ≤ 9000000000000000000) (hk : -100 ≤ a ∧ a < 9223372036854775808)
    (hK : K (getI l a k) (getB l a k) s.H) : octet_Get sl a k K s.H := by
  unfold octet_Get octet_good
  have hlen := h.len
  have hcap := h.cap
  unfold getI getB at hK
  have bad : ¬(1 ≤ k ∧ k ≤ 8 ∧ 0 ≤ a ∧ a + k ≤ l.length) → octet_Get_j1 sl a k true K s.H := fun hn => by
    unfold octet_Get_j1
    rw [if_neg hn, decide_eq_false hn] at hK
    exact bif_t hK
  refine bif_dec (fun h1 => ?_) (fun h1 => bif_t (bad (by omega)))
  refine bif_ndec (fun h2 => ?_) (fun h2 => ?_)
  · exact bad (by omega)
  refine bif_dec (fun h3 => ?_) (fun h3 => ?_)
  · exact bad (by omega)
  refine bif_dec (fun h4 => ?_) (fun h4 => ?_)
  · exact bad (by omega)
  rw [w64_id (n := (sl.len : Nat) - a) (by omega) (by omega)]
  by_cases h5 : ((sl.len : Nat) : Int) - a < k
  · rw [decide_eq_true h5]
    exact bad (by omega)
  rw [decide_eq_false h5]
  rw [if_pos (by omega), decide_eq_true (by omega)] at hK
  unfold octet_Get_j1
  refine bif_f ?_
  rw [w64_id (n := a + k) (by omega) (by omega)]
  refine slL_rule h (by omega) (by omega) (by omega) (by omega) (by omega) fun sl' hs hc => ?_
  have hrr : (l.take (a + k).toNat).drop a.toNat = (l.drop a.toNat).take k.toNat := by rw [List.drop_take]; congr 1; omega
  rw [hrr] at hs
  generalize hr : (l.drop a.toNat).take k.toNat = r at *
  have hrl : r.length = k.toNat := by rw [← hr, List.length_take, List.length_drop]; omega
  have hsl := hs.len
  refine loop_rule (fun i : Nat => [.int .u64 (be (r.take i) : Nat), .int .i64 i]) (fun i s' => i ≤ r.length ∧ s' = s) (fun i _ => r.length - i) 0 (by simp [be]) ⟨Nat.zero_le _, rfl⟩ ?_
  rintro i s3 ⟨hi, rfl⟩ G hG
  simp only [List.getD_cons_zero, List.getD_cons_succ, asI_v, asL_v, asS_v, asB_v, asM_v, asP_v]
  refine bif_dec (fun hlt => ?_) (fun hlt => ?_)
  · refine ixL_rule hs (by omega) (by omega) fun b o x hx hel => ?_
    obtain ⟨vs, rfl, hat⟩ := hel
    refine ldI_at0 hat rfl ?_
    have hrx : r[i]? = some x := by rw [← hx]; congr 1
    have hb := be_lt (r.take i)
    have hp := pow_le (r.take i).length (by rw [List.length_take]; omega)
    have hxl := x.toNat_lt
    refine ⟨by decide, ?_⟩
    rw [wr_u64 (n := (x.toNat : Int)) (by omega) (by omega), or_byte (by omega) (by omega), w64_id (by omega) (by omega)]
    have hG' := hG (i + 1) s3 ⟨by omega, rfl⟩ (by omega)
    rw [be_take hrx] at hG'
    exact hG'
  · have : i = r.length := by omega
    subst this
    rw [List.take_of_length_le (Nat.le_refl _)]
    exact hK
/-! check sums -/
/-- one step -/
def st1 (c : BitVec 32) : BitVec 32 := (c >>> 1) ^^^ (if c.getLsbD 0 then 3988292384#32 else 0#32)
def st4 (c : BitVec 32) : BitVec 32 := st1 (st1 (st1 (st1 c)))
def st8 (c : BitVec 32) : BitVec 32 := st4 (st4 c)
theorem st1_xor (a b : BitVec 32) : st1 (a ^^^ b) = st1 a ^^^ st1 b := by
  unfold st1
  rw [BitVec.ushiftRight_xor_distrib, BitVec.getLsbD_xor]
  cases a.getLsbD 0 <;> cases b.getLsbD 0 <;> simp [BitVec.xor_assoc]
  · rw [BitVec.xor_comm]
  · generalize a >>> 1 = x; generalize b >>> 1 = y
    rw [BitVec.xor_comm y, ← BitVec.xor_assoc (3988292384#32)]; simp
theorem st4_xor (a b : BitVec 32) : st4 (a ^^^ b) = st4 a ^^^ st4 b := by simp only [st4, st1_xor]
theorem st1_shl (c : BitVec 32) (i : Nat) (hi : i < 4) : st1 ((c >>> 4) <<< (i + 1)) = (c >>> 4) <<< i := by
  unfold st1
  have h0 : ((c >>> 4) <<< (i + 1)).getLsbD 0 = false := by simp
  rw [h0]
  simp only [Bool.false_eq_true, if_false, BitVec.xor_zero]
  apply BitVec.eq_of_getLsbD_eq
  intro j hj
  simp only [BitVec.getLsbD_ushiftRight, BitVec.getLsbD_shiftLeft]
  by_cases h1 : j < i
  · simp [h1, show 1 + j < i + 1 by omega]
  · by_cases h2 : 1 + j < 32
    · simp [h1, h2, hj, show ¬(1 + j < i + 1) by omega, show 4 + (1 + j - (i + 1)) = 4 + (j - i) by omega]
    · have : j = 31 := by omega
      subst this
      simp [h1]
      have : c.getLsbD (4 + (31 - i)) = false := BitVec.getLsbD_of_ge _ _ (by omega)
      simpa using this
theorem st4_shl (c : BitVec 32) : st4 ((c >>> 4) <<< 4) = c >>> 4 := by
  unfold st4
  rw [st1_shl c 3 (by decide), st1_shl c 2 (by decide), st1_shl c 1 (by decide), st1_shl c 0 (by decide)]
  simp
theorem split4 (c : BitVec 32) : c = ((c >>> 4) <<< 4) ^^^ (c &&& 15#32) := by
  apply BitVec.eq_of_getLsbD_eq
  intro j hj
  simp only [BitVec.getLsbD_xor, BitVec.getLsbD_shiftLeft, BitVec.getLsbD_ushiftRight, BitVec.getLsbD_and]
  by_cases h : j < 4
  · have : (15#32).getLsbD j = true := by
      match j, h with
      | 0, _ => rfl
      | 1, _ => rfl
      | 2, _ => rfl
      | 3, _ => rfl
    simp [h, this]
  · have : (15#32).getLsbD j = false := by
      obtain ⟨k, rfl⟩ := Nat.exists_eq_add_of_le (show 4 ≤ j by omega)
      unfold BitVec.getLsbD
      show Nat.testBit 15 (4 + k) = false
      apply Nat.testBit_lt_two_pow
      have : 2 ^ 4 ≤ 2 ^ (4 + k) := Nat.pow_le_pow_right (by decide) (by omega)
      omega
    rw [this]
    simp [h, hj, -BitVec.getLsbD_eq_getElem, show 4 + (j - 4) = j by omega]
theorem st4_eq (c : BitVec 32) : st4 c = st4 (c &&& 15#32) ^^^ (c >>> 4) := by
  conv => lhs; rw [split4 c, st4_xor, st4_shl]
  exact BitVec.xor_comm _ _
end Go.Ph
end
section
set_option linter.all false
namespace Go.Ph
open S
theorem ofInt_nat (a : BitVec 32) : BitVec.ofInt (IntKind.bits .u32) (a.toNat : Int) = a := by
  show BitVec.ofInt 32 _ = a
  rw [BitVec.ofInt_natCast]; exact BitVec.ofNat_toNat .. |>.trans (by simp)
/-- a whole row is written -/
theorem row_rule {s : St} {k b : Nat} {vs ws : List Value} {K : HP} (k' : Nat) (h : At (s.w k) b 0 vs) (hl : ws.length = vs.length) (hv : ∀ v ∈ ws, one v = true) (hk : k ≠ 0) (hk' : k' = k ∨ k' = 0)
    (hK : ∀ s' : St, Step [k] s s' → s'.H.size = s.H.size → At (s'.w k') b 0 ws → Oth b s s' → K s'.H) : sts (at0 b) 0 ws K s.H := by
  cases hw : ws with
  | nil =>
    rw [hw] at hK
    exact hK s Step.refl rfl At.nil (fun _ _ _ => ⟨rfl, rfl⟩)
  | cons w0 wr0 =>
    rw [← hw]
    have hpos : 0 < vs.length := by rw [← hl, hw]; simp
    have h0 := h 0 _ (List.getElem?_eq_getElem hpos)
    have hc0 := s.wf b (0 + 0) (w_lt h0)
    rw [(w_some h0).2] at hc0
    refine sts_rule (k := k) (k' := k') ws (fun j hj => ⟨_, by have := h j _ (List.getElem?_eq_getElem (by omega)); simpa using this⟩) hv (by rcases hk' with h | h <;> omega) hk fun s2 h2 => ?_
    refine hK s2 (h2.step (q := k) (by simp) hk fun i hi => by
      have := h i _ (List.getElem?_eq_getElem (by omega))
      have := (w_some this).2
      simpa using this) h2.sz (by have := h2.here; simpa using this) (fun x i hx => h2.old x i (fun ⟨q, _⟩ => hx q))
theorem wr_bv (a : BitVec 32) : IntKind.wrap .u32 (a.toNat : Int) = (a.toNat : Int) := wr_u32 (by omega) (by have := a.isLt; omega)
theorem x32 (a b : BitVec 32) : ixor .u32 (a.toNat : Int) (b.toNat : Int) = ((a ^^^ b).toNat : Int) := by
  unfold ixor; rw [ofInt_nat, ofInt_nat]; exact wr_bv (a ^^^ b)
theorem n32 (a : BitVec 32) : iand .u32 (a.toNat : Int) 15 = ((a &&& 15#32).toNat : Int) := by
  unfold iand; rw [ofInt_nat]; exact wr_bv (a &&& 15#32)
theorem one32 (a : BitVec 32) : iand .u32 (a.toNat : Int) 1 = ((a &&& 1#32).toNat : Int) := by
  unfold iand; rw [ofInt_nat]; exact wr_bv (a &&& 1#32)
theorem p32 (a : BitVec 32) : ixor .u32 (a.toNat : Int) 3988292384 = ((a ^^^ 3988292384#32).toNat : Int) := by
  unfold ixor; rw [ofInt_nat]; exact wr_bv (a ^^^ 3988292384#32)
theorem s4_32 (a : BitVec 32) : ishr .u32 (a.toNat : Int) 4 = ((a >>> 4).toNat : Int) := by
  unfold ishr
  show Int.fdiv _ (2 ^ 4) = _
  rw [BitVec.toNat_ushiftRight, Nat.shiftRight_eq_div_pow, Int.fdiv_eq_ediv_of_nonneg _ (by decide)]; omega
theorem s1_32 (a : BitVec 32) : ishr .u32 (a.toNat : Int) 1 = ((a >>> 1).toNat : Int) := by
  unfold ishr
  show Int.fdiv _ (2 ^ 1) = _
  rw [BitVec.toNat_ushiftRight, Nat.shiftRight_eq_div_pow, Int.fdiv_eq_ediv_of_nonneg _ (by decide)]; omega
theorem not32 (a : BitVec 32) : ixor .u32 (if IntKind.signed .u32 then -1 else IntKind.max .u32) (a.toNat : Int) = ((~~~a).toNat : Int) := by
  have : (if IntKind.signed .u32 then -1 else IntKind.max .u32) = (((4294967295#32 : BitVec 32).toNat : Nat) : Int) := by decide
  rw [this, x32]
  congr 2
theorem sub32 (a : BitVec 32) : wr .u32 (4294967295 - (a.toNat : Int)) = ((~~~a).toNat : Int) := by
  have := a.isLt
  rw [wr_u32 (by omega) (by omega), BitVec.toNat_not]; omega
def bx (x : UInt8) : BitVec 32 := BitVec.ofNat 32 x.toNat
theorem b32 (x : UInt8) : wr .u32 (x.toNat : Int) = ((bx x).toNat : Int) := by
  have := x.toNat_lt
  rw [wr_u32 (by omega) (by omega)]; unfold bx; rw [BitVec.toNat_ofNat, Nat.mod_eq_of_lt (by omega)]
theorem st1_nat (c : BitVec 32) : (st1 c) = if c.toNat % 2 = 1 then (c >>> 1) ^^^ 3988292384#32 else c >>> 1 := by
  unfold st1
  have : c.getLsbD 0 = decide (c.toNat % 2 = 1) := by
    unfold BitVec.getLsbD; rw [Nat.testBit_zero]
  rw [this]
  by_cases h : c.toNat % 2 = 1 <;> simp [h]
/-- the sum of bytes that had a sum, and some more -/
def crcF (c : BitVec 32) (l : List UInt8) : BitVec 32 := l.foldl (fun c x => st8 (c ^^^ bx x)) c
def crc (c : BitVec 32) (l : List UInt8) : BitVec 32 := ~~~ (crcF (~~~ c) l)
theorem crcF_take {r : List UInt8} {i : Nat} {x : UInt8} (h : r[i]? = some x) (c : BitVec 32) : crcF c (r.take (i + 1)) = st8 (crcF c (r.take i) ^^^ bx x) := by
  rw [List.take_succ, h]; simp [crcF, List.foldl_append]
theorem crc_app (c : BitVec 32) (a b : List UInt8) : crc (crc c a) b = crc c (a ++ b) := by
  unfold crc crcF
  rw [BitVec.not_not, List.foldl_append]
theorem rStep_ok {s : St} {c : BitVec 32} {K : Int → HP} (hK : K ((st1 c).toNat : Int) s.H) : rf02_step (c.toNat : Int) K s.H := by
  unfold rf02_step
  have h1 : Int.tmod (c.toNat : Int) 2 = ((c.toNat % 2 : Nat) : Int) := by rw [Int.tmod_eq_emod_of_nonneg (by omega)]; omega
  have h2 : wr .u32 (Int.tdiv (c.toNat : Int) 2) = ((c >>> 1).toNat : Int) := by
    have := c.isLt
    rw [Int.tdiv_eq_ediv_of_nonneg (by omega), wr_u32 (by omega) (by omega), BitVec.toNat_ushiftRight, Nat.shiftRight_eq_div_pow]; omega
  rw [h1, h2, p32]
  rw [st1_nat] at hK
  refine ⟨by decide, ?_⟩
  refine bif_dec (fun h => ?_) (fun h => ?_)
  · refine ⟨by decide, ?_⟩
    rwa [if_pos (by omega)] at hK
  · refine ⟨by decide, ?_⟩
    rwa [if_neg (by omega)] at hK
def stn (c : BitVec 32) : Nat → BitVec 32
  | 0 => c
  | n + 1 => st1 (stn c n)
theorem st8_stn (c : BitVec 32) : st8 c = stn c 8 := rfl
theorem rMore_ok {s : St} {k0 : Nat} {l : List UInt8} {sl : Sl} {c : BitVec 32} {K : Int → HP} (h : LsW tBy (s.w 0) (s.w k0) l sl) (hl : l.length ≤ 9000000000000000000)
    (hK : K ((crc c l).toNat : Int) s.H) : rf02_More (c.toNat : Int) sl K s.H := by
  unfold rf02_More
  have hlen := h.len
  rw [sub32]
  refine loop_rule (fun i : Nat => [.int .u32 ((crcF (~~~ c) (l.take i)).toNat : Nat), .int .i64 i]) (fun i s' => i ≤ l.length ∧ s' = s) (fun i _ => l.length - i) 0 (by simp [crcF]) ⟨Nat.zero_le _, rfl⟩ ?_
  rintro i s3 ⟨hi, rfl⟩ G hG
  simp only [List.getD_cons_zero, List.getD_cons_succ, asI_v, asL_v, asS_v, asB_v, asM_v, asP_v]
  refine bif_dec (fun hlt => ?_) (fun hlt => ?_)
  · refine ixL_rule h (by omega) (by omega) fun b o x hx hel => ?_
    obtain ⟨vs, rfl, hat⟩ := hel
    refine ldI_at0 hat rfl ?_
    have hG' := hG (i + 1) s3 ⟨by omega, rfl⟩ (by omega)
    rw [crcF_take (by simpa using hx), st8_stn] at hG'
    rw [b32, x32]
    generalize crcF (~~~ c) (l.take i) ^^^ bx x = e at *
    refine loop_rule (fun j : Nat => [.int .u32 ((stn e j).toNat : Nat), .int .i64 j]) (fun j s' => j ≤ 8 ∧ s' = s3) (fun j _ => 8 - j) 0 rfl ⟨by decide, rfl⟩ ?_
    rintro j s4 ⟨hj, rfl⟩ G2 hG2
    simp only [List.getD_cons_zero, List.getD_cons_succ, asI_v, asL_v, asS_v, asB_v, asM_v, asP_v]
    refine bif_dec (fun hlt2 => ?_) (fun hlt2 => ?_)
    · refine rStep_ok ?_
      rw [w64_id (by omega) (by omega)]
      exact hG2 (j + 1) s4 ⟨by omega, rfl⟩ (by omega)
    · have : j = 8 := by omega
      subst this
      rw [w64_id (by omega) (by omega)]
      exact hG'
  · have : i = l.length := by omega
    subst this
    rw [List.take_of_length_le (Nat.le_refl _), sub32]
    exact hK
def T16 : List Value := (List.range 16).map fun i => .int .u32 ((st4 (BitVec.ofNat 32 i)).toNat : Nat)
theorem row_ok {s : St} {K : G_A16_uint32 → HP}
    (hK : ∀ s' (t : G_A16_uint32), Step [] s s' → T16 = [.int .u32 t.c0, .int .u32 t.c1, .int .u32 t.c2, .int .u32 t.c3, .int .u32 t.c4, .int .u32 t.c5, .int .u32 t.c6, .int .u32 t.c7, .int .u32 t.c8, .int .u32 t.c9, .int .u32 t.c10, .int .u32 t.c11, .int .u32 t.c12, .int .u32 t.c13, .int .u32 t.c14, .int .u32 t.c15] → K t s'.H) : crc_row K s.H := by
  unfold crc_row
  have hq0 : own s ≠ 0 := by unfold own; omega
  refine newc_k (own s) (by unfold own; omega) fun s1 b n1 a1 => ?_
  refine loop_rule (fun i : Nat => [.int .i64 i]) (fun i s' => i ≤ 16 ∧ Step [own s] s s' ∧ s'.H.size = s1.H.size ∧ At (s'.w (own s)) b 0 (T16.take i ++ List.replicate (16 - i) (.int .u32 0))) (fun i _ => 16 - i) 0 rfl ⟨by decide, n1.step.n, rfl, a1⟩ ?_
  rintro i s2 ⟨hi, e2, z2, a2⟩ G hG
  simp only [List.getD_cons_zero, List.getD_cons_succ, asI_v, asL_v, asS_v, asB_v, asM_v, asP_v]
  refine bif_dec (fun hlt => ?_) (fun hlt => ?_)
  · have hi' : wr .u32 (i : Int) = ((BitVec.ofNat 32 i).toNat : Int) := by rw [wr_u32 (by omega) (by omega), BitVec.toNat_ofNat, Nat.mod_eq_of_lt (by omega)]
    rw [hi']
    refine loop_rule (fun j : Nat => [.int .u32 ((stn (BitVec.ofNat 32 i) j).toNat : Nat), .int .i64 j]) (fun j s' => j ≤ 4 ∧ s' = s2) (fun j _ => 4 - j) 0 rfl ⟨by decide, rfl⟩ ?_
    rintro j s4 ⟨hj, rfl⟩ G2 hG2
    simp only [List.getD_cons_zero, List.getD_cons_succ, asI_v, asL_v, asS_v, asB_v, asM_v, asP_v]
    refine bif_dec (fun hlt2 => ?_) (fun hlt2 => ?_)
    · rw [one32, s1_32, p32]
      unfold crc_row_j1
      rw [w64_id (by omega) (by omega)]
      have hG2' := hG2 (j + 1) s4 ⟨by omega, rfl⟩ (by omega)
      simp only [stn] at hG2'
      rw [st1_nat] at hG2'
      have ha : (stn (BitVec.ofNat 32 i) j &&& 1#32).toNat = (stn (BitVec.ofNat 32 i) j).toNat % 2 := by
        rw [BitVec.toNat_and]; exact Nat.and_one_is_mod _
      rw [ha]
      refine bif_dec (fun h => ?_) (fun h => ?_)
      · refine ⟨by decide, ?_⟩
        rwa [if_pos (by omega)] at hG2'
      · refine ⟨by decide, ?_⟩
        rwa [if_neg (by omega)] at hG2'
    · have : j = 4 := by omega
      subst this
      refine ⟨by omega, by omega, ?_⟩
      rw [Int.toNat_natCast, Nat.mul_one]
      have hlen : (T16.take i ++ List.replicate (16 - i) (Value.int .u32 0)).length = 16 := by simp [T16]; omega
      have hT : T16[i]? = some (.int .u32 ((stn (BitVec.ofNat 32 i) 4).toNat : Nat)) := by
        unfold T16; rw [List.getElem?_map, List.getElem?_range (by omega)]; rfl
      refine fld_rule a2 (by rw [hlen]; omega) rfl hq0 (fun s5 e5 z5 a5 _ => ?_)
      rw [w64_id (by omega) (by omega)]
      refine hG (i + 1) s5 ⟨by omega, e2.tr e5, by omega, ?_⟩ (by omega)
      have hs : (T16.take i ++ List.replicate (16 - i) (Value.int .u32 0)).set i (.int .u32 ((stn (BitVec.ofNat 32 i) 4).toNat : Nat)) = T16.take (i + 1) ++ List.replicate (16 - (i + 1)) (.int .u32 0) := by
        have ht : (T16.take i).length = i := by rw [List.length_take]; simp [T16]; omega
        rw [List.set_append_right _ _ (by omega), ht, Nat.sub_self, List.take_succ, hT]
        rw [show 16 - i = (16 - (i + 1)) + 1 by omega, List.replicate_succ]
        simp
      rwa [hs] at a5
  · have : i = 16 := by omega
    subst this
    have a3 : At (s2.w (own s)) b 0 T16 := by
      have : T16.take 16 = T16 := List.take_of_length_le (by simp [T16])
      rw [this] at a2
      simpa using a2
    unfold ld_G_A16_uint32
    repeat (first|refine nn_at ?_|refine ldI_at a3 rfl ?_|refine ldB_at a3 rfl ?_|refine ldS_at a3 rfl ?_|refine ldP_at a3 rfl ?_|refine ldM_at a3 rfl ?_|refine ldL_at a3 rfl ?_)
    refine row_rule (own s) a3 rfl (by simp [one]) hq0 (.inl rfl) fun s3 e3 z3 a4 _ => ?_
    repeat (first|refine nn_at ?_|refine ldI_at a4 rfl ?_|refine ldB_at a4 rfl ?_|refine ldS_at a4 rfl ?_|refine ldP_at a4 rfl ?_|refine ldM_at a4 rfl ?_|refine ldL_at a4 rfl ?_)
    exact hK s3 _ ((e2.tr e3 (S := [own s])).loc) rfl
theorem More_ok {s : St} {k0 : Nat} {l : List UInt8} {sl : Sl} {c : BitVec 32} {K : Int → HP} (h : LsW tBy (s.w 0) (s.w k0) l sl) (hl : l.length ≤ 9000000000000000000)
    (hK : ∀ s', Step [] s s' → K ((crc c l).toNat : Int) s'.H) : crc_More (c.toNat : Int) sl K s.H := by
  unfold crc_More
  refine row_ok fun s1 t e1 hT => ?_
  refine newc_sts rfl (by simp [one]) fun s2 b e2 a2 => ?_
  rw [← hT] at a2
  rw [not32]
  have hlen := h.len
  have hls : LsW tBy (s2.w 0) (s2.w k0) l sl := h.mono (e1.trans e2).v0 ((e1.trans e2).view (by simp))
  refine loop_rule (fun i : Nat => [.int .u32 ((crcF (~~~ c) (l.take i)).toNat : Nat), .int .i64 i]) (fun i s' => i ≤ l.length ∧ s' = s2) (fun i _ => l.length - i) 0 (by simp [crcF]) ⟨Nat.zero_le _, rfl⟩ ?_
  rintro i s3 ⟨hi, rfl⟩ G hG
  simp only [List.getD_cons_zero, List.getD_cons_succ, asI_v, asL_v, asS_v, asB_v, asM_v, asP_v]
  refine bif_dec (fun hlt => ?_) (fun hlt => ?_)
  · refine ixL_rule hls (by omega) (by omega) fun b o x hx hel => ?_
    obtain ⟨vs, rfl, hat⟩ := hel
    refine ldI_at0 hat rfl ?_
    have hG' := hG (i + 1) s3 ⟨by omega, rfl⟩ (by omega)
    rw [crcF_take (by simpa using hx)] at hG'
    rw [b32, x32]
    generalize crcF (~~~ c) (l.take i) ^^^ bx x = e at *
    have hT2 : ∀ e : BitVec 32, T16[(e &&& 15#32).toNat]? = some (.int .u32 ((st4 (e &&& 15#32)).toNat : Nat)) ∧ (e &&& 15#32).toNat < 16 := fun e => by
      have : (e &&& 15#32).toNat < 16 := by
        rw [BitVec.toNat_and]
        exact Nat.lt_of_le_of_lt Nat.and_le_right (by decide)
      refine ⟨?_, this⟩
      unfold T16; rw [List.getElem?_map, List.getElem?_range this]
      simp
    rw [n32]
    refine ⟨by omega, by have := (hT2 e).2; omega, ?_⟩
    rw [Int.toNat_natCast, Nat.mul_one]
    refine ldI_at a2 (hT2 e).1 ?_
    refine ⟨by decide, ?_⟩
    rw [s4_32, x32, ← st4_eq, n32]
    refine ⟨by omega, by have := (hT2 (st4 e)).2; omega, ?_⟩
    rw [Int.toNat_natCast, Nat.mul_one]
    refine ldI_at a2 (hT2 (st4 e)).1 ?_
    refine ⟨by decide, ?_⟩
    rw [s4_32, x32, ← st4_eq, w64_id (by omega) (by omega)]
    exact hG'
  · have : i = l.length := by omega
    subst this
    rw [List.take_of_length_le (Nat.le_refl _), not32]
    exact hK s3 (e1.trans e2)
theorem Of_ok {s : St} {k0 : Nat} {l : List UInt8} {sl : Sl} {K : Int → HP} (h : LsW tBy (s.w 0) (s.w k0) l sl) (hl : l.length ≤ 9000000000000000000)
    (hK : ∀ s', Step [] s s' → K ((crc 0#32 l).toNat : Int) s'.H) : crc_Of sl K s.H := More_ok (c := 0#32) h hl hK
theorem rOf_ok {s : St} {k0 : Nat} {l : List UInt8} {sl : Sl} {K : Int → HP} (h : LsW tBy (s.w 0) (s.w k0) l sl) (hl : l.length ≤ 9000000000000000000)
    (hK : K ((crc 0#32 l).toNat : Int) s.H) : rf02_Of sl K s.H := rMore_ok (c := 0#32) h hl hK
theorem sum_ok {s : St} {k0 k1 : Nat} {l m : List UInt8} {sl sm : Sl} {K : Int → HP} (h : LsW tBy (s.w 0) (s.w k0) l sl) (h1 : LsW tBy (s.w 0) (s.w k1) m sm) (hl : l.length ≤ 9000000000000000000) (hm : m.length ≤ 9000000000000000000)
    (hK : ∀ s', Step [] s s' → K ((crc 0#32 (l ++ m)).toNat : Int) s'.H) : frame_sum sl sm K s.H := by
  unfold frame_sum
  refine Of_ok h hl fun s1 e1 => ?_
  refine More_ok (h1.st e1 (by simp)) hm fun s2 e2 => ?_
  rw [crc_app]
  exact hK s2 (e1.trans e2)
end Go.Ph
end
section
set_option linter.all false
namespace Go.Ph
/-- a number's bytes -/
def putB (n : Nat) : Nat → List UInt8
  | 0 => []
  | k + 1 => putB (n / 256) k ++ [UInt8.ofNat (n % 256)]
theorem putB_len (n k : Nat) : (putB n k).length = k := by
  induction k generalizing n with
  | zero => rfl
  | succ k ih => simp [putB, ih]
theorem be_putB (n k : Nat) (h : n < 256 ^ k) : be (putB n k) = n := by
  induction k generalizing n with
  | zero => simp at h; subst h; rfl
  | succ k ih =>
    rw [Nat.pow_succ] at h
    rw [putB, be_app, ih _ (by omega), UInt8.toNat_ofNat']
    omega
theorem putB_be (l : List UInt8) : putB (be l) l.length = l := by
  refine snoc_ind (P := fun l => putB (be l) l.length = l) rfl (fun l c ih => ?_) l
  have hc := c.toNat_lt
  rw [List.length_append, List.length_singleton, putB, be_app]
  rw [show (256 * be l + c.toNat) / 256 = be l by omega, show (256 * be l + c.toNat) % 256 = c.toNat by omega, ih]
  simp
/-- bytes without the mark -/
def veil1 (c : UInt8) : List UInt8 := if c = 80 then [81, 0] else if c = 81 then [81, 1] else [c]
def veil (l : List UInt8) : List UInt8 := l.flatMap veil1
theorem veil_app (a b : List UInt8) : veil (a ++ b) = veil a ++ veil b := by simp [veil]
theorem veil_nil : veil [] = [] := rfl
theorem veil_cons (c : UInt8) (l : List UInt8) : veil (c :: l) = veil1 c ++ veil l := by simp [veil]
theorem veil1_inj (c d : UInt8) (a b : List UInt8) (h : veil1 c ++ a = veil1 d ++ b) : c = d ∧ a = b := by
  unfold veil1 at h
  by_cases h1 : c = 80 <;> by_cases h2 : d = 80 <;> by_cases h3 : c = 81 <;> by_cases h4 : d = 81 <;> simp_all
  all_goals first | exact absurd h.1.symm ‹_› | exact absurd h.1 ‹_›
theorem veil1_ne (c : UInt8) : veil1 c ≠ [] := by unfold veil1; repeat (first | split | simp)
theorem veil_inj : ∀ (a b : List UInt8), veil a = veil b → a = b
  | [], [], _ => rfl
  | [], d :: b, h => by rw [veil_nil, veil_cons] at h; have := veil1_ne d; simp at h; exact absurd h.1 this
  | c :: a, [], h => by rw [veil_nil, veil_cons] at h; have := veil1_ne c; simp at h; exact absurd h.1 this
  | c :: a, d :: b, h => by
    rw [veil_cons, veil_cons] at h
    obtain ⟨h1, h2⟩ := veil1_inj c d _ _ h
    rw [h1, veil_inj a b h2]
/-- a veiled byte is read: what is wrong, or the byte and where the next one begins -/
def rd (b : List UInt8) (i : Nat) : Except Int (UInt8 × Nat) :=
  match b[i]? with
  | none => .error 2
  | some c => if c = 80 then .error 3 else if c = 81 then (match b[i + 1]? with
    | none => .error 2
    | some d => if d = 0 then .ok (80, i + 2) else if d = 1 then .ok (81, i + 2) else .error 3) else .ok (c, i + 1)
theorem rd_err {b : List UInt8} {i : Nat} {e : Int} (h : rd b i = .error e) : e ≠ 0 := by
  unfold rd at h
  split at h
  · cases h; decide
  · split at h
    · cases h; decide
    · split at h
      · split at h
        · cases h; decide
        · split at h
          · cases h
          · split at h
            · cases h
            · cases h; decide
      · cases h
theorem take_two {α : Type} {l : List α} {i : Nat} {x : α} (h : l[i]? = some x) : l.drop i = x :: l.drop (i + 1) := by
  have hi : i < l.length := by
    rcases Nat.lt_or_ge i l.length with h1 | h1
    · exact h1
    · rw [List.getElem?_eq_none h1] at h; cases h
  rw [List.drop_eq_getElem_cons hi]
  rw [List.getElem?_eq_getElem hi] at h
  rw [Option.some.inj h]
theorem rd_ok {b : List UInt8} {i k : Nat} {c : UInt8} (h : rd b i = .ok (c, k)) : i < k ∧ k ≤ b.length ∧ k ≤ i + 2 ∧ (b.drop i).take (k - i) = veil1 c := by
  have lt : ∀ {j : Nat} {x : UInt8}, b[j]? = some x → j < b.length := fun {j x} h1 => by
    rcases Nat.lt_or_ge j b.length with h2 | h2
    · exact h2
    · rw [List.getElem?_eq_none h2] at h1; cases h1
  unfold rd at h
  split at h
  · cases h
  · rename_i x hx
    split at h
    · cases h
    · split at h
      · rename_i h80 h81
        split at h
        · cases h
        · rename_i y hy
          have h2 := lt hy
          have hd : b.drop i = x :: y :: b.drop (i + 2) := by rw [take_two hx, take_two hy]
          split at h
          · cases h
            refine ⟨by omega, by omega, by omega, ?_⟩
            rw [hd, show i + 2 - i = 2 by omega]
            subst_vars; rfl
          · split at h
            · cases h
              refine ⟨by omega, by omega, by omega, ?_⟩
              rw [hd, show i + 2 - i = 2 by omega]
              subst_vars; rfl
            · cases h
      · rename_i h80 h81
        cases h
        have h2 := lt hx
        refine ⟨by omega, by omega, by omega, ?_⟩
        rw [take_two hx, show i + 1 - i = 1 by omega]
        simp [veil1, h80, h81]
/-- so many bytes more are read -/
def rdN (b : List UInt8) : Nat → Nat → List UInt8 → Except Int (List UInt8 × Nat)
  | 0, i, out => .ok (out, i)
  | n + 1, i, out => match rd b i with
    | .error e => .error e
    | .ok x => rdN b n x.2 (out ++ [x.1])
theorem rdN_err {b : List UInt8} {e : Int} : ∀ (n i : Nat) (out : List UInt8), rdN b n i out = .error e → e ≠ 0
  | 0, i, out, h => by cases h
  | n + 1, i, out, h => by
    unfold rdN at h
    split at h
    · cases h; exact rd_err ‹_›
    · exact rdN_err n _ _ h
theorem rdN_ok {b : List UInt8} : ∀ (n i k : Nat) (out all : List UInt8), i ≤ b.length → rdN b n i out = .ok (all, k) → ∃ more, all = out ++ more ∧ more.length = n ∧ i ≤ k ∧ k ≤ b.length ∧ (b.drop i).take (k - i) = veil more
  | 0, i, k, out, all, hi, h => by
    cases h
    exact ⟨[], by simp, rfl, Nat.le_refl _, hi, by simp [veil]⟩
  | n + 1, i, k, out, all, hi, h => by
    unfold rdN at h
    split at h
    · cases h
    · rename_i x hx
      obtain ⟨c, j⟩ := x
      obtain ⟨r1, r2, r4, r3⟩ := rd_ok hx
      obtain ⟨more, m1, m2, m3, m4, m5⟩ := rdN_ok n _ _ _ _ r2 h
      refine ⟨c :: more, by rw [m1]; simp, by simp [m2], by omega, m4, ?_⟩
      rw [veil_cons, ← r3, ← m5]
      have hs : k - i = (j - i) + (k - j) := by omega
      rw [hs, List.take_add, List.drop_drop, show i + (j - i) = j by omega]
/-- a frame -/
structure FrM where
  at_ : Nat
  len : Nat
  kind : Nat
  pay : List UInt8
def frame2 (b : List UInt8) (i : Nat) (all : List UInt8) (k : Nat) : Except Int FrM :=
  if ((crc 0#32 (all.take 5 ++ all.drop 9)).toNat : Int) = getI all 5 4 then .ok ⟨i, k - i, (all.getD 0 0).toNat, all.drop 9⟩ else .error 5
def frame1 (b : List UInt8) (i : Nat) (out : List UInt8) (k : Nat) : Except Int FrM :=
  if 65536 < getI out 1 4 then .error 4 else match rdN b (4 + (getI out 1 4).toNat) k out with
    | .error e => .error e
    | .ok x => frame2 b i x.1 x.2
/-- the frame at a place -/
def frameAt (b : List UInt8) (i : Nat) : Except Int FrM :=
  match b[i]? with
  | none => .error 2
  | some c => if c = 80 then (match rdN b 5 (i + 1) [] with
    | .error e => .error e
    | .ok x => frame1 b i x.1 x.2) else .error 3
theorem frameAt_err {b : List UInt8} {i : Nat} {e : Int} (h : frameAt b i = .error e) : e ≠ 0 := by
  unfold frameAt at h
  split at h
  · cases h; decide
  · split at h
    · split at h
      · cases h; exact rdN_err _ _ _ ‹_›
      · unfold frame1 at h
        split at h
        · cases h; decide
        · split at h
          · cases h; exact rdN_err _ _ _ ‹_›
          · unfold frame2 at h
            split at h
            · cases h
            · cases h; decide
    · cases h; decide
/-- what is read is as it is told -/
structure Got (b : List UInt8) (i k : Nat) (all : List UInt8) : Prop where
  le : i + 1 ≤ k
  len : k ≤ b.length
  cut : (b.drop (i + 1)).take (k - (i + 1)) = veil all
theorem Got.app {b : List UInt8} {i k k2 n : Nat} {all all2 : List UInt8} (h : Got b i k all) (h2 : rdN b n k all = .ok (all2, k2)) : Got b i k2 all2 ∧ all2.length = all.length + n ∧ all2.take all.length = all := by
  obtain ⟨more, m1, m2, m3, m4, m5⟩ := rdN_ok n _ _ _ _ h.len h2
  have hle := h.le
  refine ⟨⟨by omega, m4, ?_⟩, by rw [m1, List.length_append, m2], by rw [m1, List.take_left]⟩
  rw [m1, veil_app, ← m5, ← h.cut]
  have hs : k2 - (i + 1) = (k - (i + 1)) + (k2 - k) := by omega
  rw [hs, List.take_add, List.drop_drop, show i + 1 + (k - (i + 1)) = k by omega]
def wrap (kind : UInt8) (pay : List UInt8) : List UInt8 :=
  80 :: veil (kind :: (putB pay.length 4 ++ (putB (crc 0#32 (kind :: (putB pay.length 4 ++ pay))).toNat 4 ++ pay)))
theorem getI_take {l : List UInt8} {a k : Nat} (hk : 1 ≤ k ∧ k ≤ 8) (h : a + k ≤ l.length) : getI l a k = be ((l.drop a).take k) := by
  unfold getI
  rw [if_pos ⟨by omega, by omega, by omega, by omega⟩, Int.toNat_natCast, Int.toNat_natCast]
theorem frame2_eq {b : List UInt8} {i k : Nat} {c : UInt8} {all : List UInt8} (h : Got b i k all) (hb : b[i]? = some 80) (h0 : all[0]? = some c) (hl : (all.length : Int) = 9 + getI all 1 4) :
    (wrap c (all.drop 9) = (b.drop i).take (k - i)) ↔ ((crc 0#32 (all.take 5 ++ all.drop 9)).toNat : Int) = getI all 5 4 := by
  have hn := getI_bd all 1 4
  have hle := h.le
  have h9 : 9 ≤ all.length := by omega
  have e1 : getI all 1 4 = be ((all.drop 1).take 4) := getI_take (a := 1) (k := 4) (by decide) (by omega)
  have e5 : getI all 5 4 = be ((all.drop 5).take 4) := getI_take (a := 5) (k := 4) (by decide) (by omega)
  have hpl : (all.drop 9).length = be ((all.drop 1).take 4) := by rw [List.length_drop]; omega
  have d0 : all = c :: all.drop 1 := by have := take_two h0; simpa using this
  have t4 : ((all.drop 1).take 4).length = 4 := by rw [List.length_take, List.length_drop]; omega
  have t5 : ((all.drop 5).take 4).length = 4 := by rw [List.length_take, List.length_drop]; omega
  have p4 : putB (all.drop 9).length 4 = (all.drop 1).take 4 := by rw [hpl]; have := putB_be ((all.drop 1).take 4); rwa [t4] at this
  have s1 : all.take 5 = c :: (all.drop 1).take 4 := by conv => lhs; rw [d0, List.take_succ_cons]
  have s2 : all = all.take 5 ++ ((all.drop 5).take 4 ++ all.drop 9) := by
    have h1 := (List.take_append_drop 5 all).symm
    have h2 := (List.take_append_drop 4 (all.drop 5)).symm
    rw [List.drop_drop] at h2
    rw [← h2]; exact h1
  have hcut : (b.drop i).take (k - i) = 80 :: veil all := by
    rw [take_two hb, ← h.cut, show k - i = (k - (i + 1)) + 1 by omega, List.take_succ_cons]
  rw [hcut, wrap, p4]
  have hcr : c :: ((all.drop 1).take 4 ++ all.drop 9) = all.take 5 ++ all.drop 9 := by rw [s1]; simp
  rw [hcr, e5]
  generalize hcc : (crc 0#32 (all.take 5 ++ all.drop 9)).toNat = cr
  have hlt : cr < 256 ^ 4 := by rw [← hcc]; exact BitVec.isLt _
  have hsa : c :: ((all.drop 1).take 4 ++ (putB cr 4 ++ all.drop 9)) = all.take 5 ++ (putB cr 4 ++ all.drop 9) := by rw [s1]; simp
  rw [hsa]
  constructor
  · intro he
    have := veil_inj _ _ (List.cons.inj he).2
    rw [s2] at this
    conv at this => lhs; rw [← s2]
    have h3 := List.append_cancel_left (this.trans (by rw [← s2] : _ = all.take 5 ++ ((all.drop 5).take 4 ++ all.drop 9)))
    have h4 := (List.append_inj h3 (by rw [putB_len, t5])).1
    rw [← h4, be_putB _ _ hlt]
  · intro he
    have he' : cr = be ((all.drop 5).take 4) := by omega
    have : putB cr 4 = (all.drop 5).take 4 := by rw [he']; have := putB_be ((all.drop 5).take 4); rwa [t5] at this
    rw [this, ← s2]
end Go.Ph
end
section
set_option linter.all false
namespace Go.Ph
open S
theorem u8_is {c : UInt8} {n : Nat} (h : (c.toNat : Int) = (n : Int)) (hn : n < 256 := by decide) : c = UInt8.ofNat n := by
  apply UInt8.toNat_inj.1
  rw [UInt8.toNat_ofNat']; omega
theorem readEnd_ok {s : St} {q q2 b0 i : Nat} {sl o : Sl} {out : List UInt8} {c : UInt8} {n : Int} {K : Int → HP} {G : List Value → HP} (hq : q ≠ 0 ∧ q2 ≠ 0 ∧ q ≠ q2) (hq2 : q2 < 2305843009213693952 + 1152921504606846976 * s.H.size)
    (ha : At (s.w q) b0 0 [.slice sl.a sl.len sl.cap, .int .i64 i, .slice o.a o.len o.cap]) (hB : Bld tBy q2 s out o) (hl : out.length ≤ 1000000000000)
    (hG : ∀ s' o', Step [q, q2] s s' → At (s'.w q) b0 0 [.slice sl.a sl.len sl.cap, .int .i64 i, .slice o'.a o'.len o'.cap] → Bld tBy q2 s' (out ++ [c]) o' → G [] s'.H) :
    frame_reader_read_j1 (some ⟨b0, 0, none⟩) n (c.toNat : Int) K G s.H := by
  unfold frame_reader_read_j1
  repeat (first|refine nn_at ?_|refine ldI_at ha rfl ?_|refine ldB_at ha rfl ?_|refine ldS_at ha rfl ?_|refine ldP_at ha rfl ?_|refine ldM_at ha rfl ?_|refine ldL_at ha rfl ?_)
  refine app1_rule c hB rfl (fun s1 o1 e1 b1 => ?_) rfl rfl (by omega) (by omega) hq2 hq.2.1
  have a1 := ha.mono (e1.view (by simpa using hq.2.2))
  refine nn_at ?_
  refine fld_rule a1 (by simp) rfl hq.1 (fun s2 e2 z2 a2 _ => ?_)
  exact hG s2 o1 (e1.tr e2) a2 (b1.st e2 (by simpa using fun h => hq.2.2 h.symm))
theorem read_ok {s : St} {q q2 b0 : Nat} {b out : List UInt8} {sl o : Sl} {i m n : Nat} {K : Int → HP} (hq : q ≠ 0 ∧ q2 ≠ 0 ∧ q ≠ q2) (hq2 : q2 < 2305843009213693952 + 1152921504606846976 * s.H.size)
    (ha : At (s.w q) b0 0 [.slice sl.a sl.len sl.cap, .int .i64 i, .slice o.a o.len o.cap]) (hb : Ls tBy (s.w 0) b sl) (hB : Bld tBy q2 s out o) (hn : n = out.length + m) (hbl : b.length ≤ 1000000000000) (hnl : n ≤ 1000000000000) (hi : i ≤ b.length)
    (hE : ∀ e s', rdN b m i out = .error e → Step [q, q2] s s' → K e s'.H)
    (hO : ∀ all k s' o', rdN b m i out = .ok (all, k) → Step [q, q2] s s' → At (s'.w q) b0 0 [.slice sl.a sl.len sl.cap, .int .i64 k, .slice o'.a o'.len o'.cap] → Bld tBy q2 s' all o' → K 0 s'.H) :
    frame_reader_read (some ⟨b0, 0, none⟩) n K s.H := by
  unfold frame_reader_read
  have hlen := hb.len
  refine loop_rule (ι := Nat × Nat × List UInt8) (fun _ => []) (fun x s' => Step [q, q2] s s' ∧ rdN b m i out = rdN b x.1 x.2.1 x.2.2 ∧ n = x.2.2.length + x.1 ∧ x.2.1 ≤ b.length ∧ ∃ o', At (s'.w q) b0 0 [.slice sl.a sl.len sl.cap, .int .i64 x.2.1, .slice o'.a o'.len o'.cap] ∧ Bld tBy q2 s' x.2.2 o') (fun x _ => x.1) (m, i, out) rfl ⟨Step.refl, rfl, hn, hi, o, ha, hB⟩ ?_
  rintro ⟨m, i, out⟩ s1 ⟨e1, hr, hn, hi, o1, a1, b1⟩ G hG
  simp only at hr hn hi a1 b1
  have hol := b1.ls.len
  have hb1 := Ls.st hb e1
  repeat (first|refine nn_at ?_|refine ldI_at a1 rfl ?_|refine ldB_at a1 rfl ?_|refine ldS_at a1 rfl ?_|refine ldP_at a1 rfl ?_|refine ldM_at a1 rfl ?_|refine ldL_at a1 rfl ?_)
  refine bif_dec (fun hlt => ?_) (fun hlt => ?_)
  · obtain ⟨m, rfl⟩ : ∃ m', m = m' + 1 := ⟨m - 1, by omega⟩
    simp only [rdN] at hr
    have hz1 := e1.sz
    have err : ∀ e, rd b i = .error e → K e s1.H := fun e he => by
      rw [he] at hr
      exact hE e s1 hr e1
    have go : ∀ (c : UInt8) k, rd b i = .ok (c, k) → At (s1.w q) b0 0 [.slice sl.a sl.len sl.cap, .int .i64 i, .slice o1.a o1.len o1.cap] → sts (Addr.add ⟨b0, 0, none⟩ 1) 0 [.int .i64 k] (frame_reader_read_j1 (some ⟨b0, 0, none⟩) n (c.toNat : Int) K G) s1.H := fun c k hc a1 => by
      rw [hc] at hr
      refine fld_rule a1 (by simp) rfl hq.1 (fun s2 e2 z2 a2 _ => ?_)
      refine readEnd_ok hq (by omega) a2 (b1.st e2 (by simpa using fun h => hq.2.2 h.symm)) (by omega) fun s3 o3 e3 a3 b3 => ?_
      have hk := rd_ok hc
      exact hG (m, k, out ++ [c]) s3 ⟨(e1.tr e2 (S := [q, q2])).tr e3, hr, by simp; omega, hk.2.1, o3, a3, b3⟩ (by simp)
    have hnn : ∀ {K' : Addr → HP}, K' ⟨b0, 0, none⟩ s1.H → nn (some ⟨b0, 0, none⟩) K' s1.H := fun h => nn_at h
    repeat (first|refine nn_at ?_|refine ldI_at a1 rfl ?_|refine ldB_at a1 rfl ?_|refine ldS_at a1 rfl ?_|refine ldP_at a1 rfl ?_|refine ldM_at a1 rfl ?_|refine ldL_at a1 rfl ?_)
    refine bif_dec (fun h1 => ?_) (fun h1 => ?_)
    · refine err 2 ?_
      unfold rd; rw [List.getElem?_eq_none (by omega)]
    · repeat (first|refine nn_at ?_|refine ldI_at a1 rfl ?_|refine ldB_at a1 rfl ?_|refine ldS_at a1 rfl ?_|refine ldP_at a1 rfl ?_|refine ldM_at a1 rfl ?_|refine ldL_at a1 rfl ?_)
      refine ixL_rule hb1 (by omega) (by omega) fun bx ox x hx hel => ?_
      obtain ⟨vs, rfl, hat⟩ := hel
      rw [Int.toNat_natCast] at hx
      refine ldI_at0 hat rfl ?_
      refine bif_dec (fun h2 => ?_) (fun h2 => ?_)
      · refine err 3 ?_
        have : x = 80 := u8_is (n := 80) h2
        unfold rd; rw [hx]; simp [this]
      · have n80 : x ≠ 80 := fun h => h2 (by rw [h]; rfl)
        refine bif_ndec (fun h3 => ?_) (fun h3 => ?_)
        · have n81 : x ≠ 81 := fun h => h3 (by rw [h]; rfl)
          repeat (first|refine nn_at ?_|refine ldI_at a1 rfl ?_|refine ldB_at a1 rfl ?_|refine ldS_at a1 rfl ?_|refine ldP_at a1 rfl ?_|refine ldM_at a1 rfl ?_|refine ldL_at a1 rfl ?_)
          rw [w64_id (by omega) (by omega)]
          exact go x (i + 1) (by unfold rd; rw [hx]; simp [n80, n81]) a1
        · have h81 : x = 81 := u8_is (n := 81) h3
          repeat (first|refine nn_at ?_|refine ldI_at a1 rfl ?_|refine ldB_at a1 rfl ?_|refine ldS_at a1 rfl ?_|refine ldP_at a1 rfl ?_|refine ldM_at a1 rfl ?_|refine ldL_at a1 rfl ?_)
          rw [w64_id (by omega) (by omega)]
          refine bif_dec (fun h4 => ?_) (fun h4 => ?_)
          · refine err 2 ?_
            unfold rd; rw [hx]; simp only [n80, h81, if_true, if_false]
            rw [List.getElem?_eq_none (by omega)]; rfl
          · repeat (first|refine nn_at ?_|refine ldI_at a1 rfl ?_|refine ldB_at a1 rfl ?_|refine ldS_at a1 rfl ?_|refine ldP_at a1 rfl ?_|refine ldM_at a1 rfl ?_|refine ldL_at a1 rfl ?_)
            rw [w64_id (n := (i : Int) + 1) (by omega) (by omega)]
            refine ixL_rule hb1 (by omega) (by omega) fun bx2 ox2 y hy hel2 => ?_
            obtain ⟨vs, rfl, hat2⟩ := hel2
            have hy' : b[i + 1]? = some y := by rw [← hy]; congr 1
            refine ldI_at0 hat2 rfl ?_
            have hrd : rd b i = if y = 0 then .ok (80, i + 2) else if y = 1 then .ok (81, i + 2) else .error 3 := by
              unfold rd; rw [hx]; simp only [n80, h81, if_true, if_false, hy']; rfl
            refine bif_dec (fun h5 => ?_) (fun h5 => ?_)
            · refine err 3 ?_
              rw [hrd, if_neg (fun h => by rw [h] at h5; exact absurd h5 (by decide)), if_neg (fun h => by rw [h] at h5; exact absurd h5 (by decide))]
            · repeat (first|refine nn_at ?_|refine ldI_at a1 rfl ?_|refine ldB_at a1 rfl ?_|refine ldS_at a1 rfl ?_|refine ldP_at a1 rfl ?_|refine ldM_at a1 rfl ?_|refine ldL_at a1 rfl ?_)
              rw [w64_id (n := (i : Int) + 1) (by omega) (by omega)]
              refine ixL_rule hb1 (by omega) (by omega) fun bx3 ox3 z hz hel3 => ?_
              obtain ⟨vs, rfl, hat3⟩ := hel3
              have hzy : z = y := by rw [hy] at hz; exact (Option.some.inj hz).symm
              subst hzy
              refine ldI_at0 hat3 rfl ?_
              repeat (first|refine nn_at ?_|refine ldI_at a1 rfl ?_|refine ldB_at a1 rfl ?_|refine ldS_at a1 rfl ?_|refine ldP_at a1 rfl ?_|refine ldM_at a1 rfl ?_|refine ldL_at a1 rfl ?_)
              rw [w64_id (n := (i : Int) + 2) (by omega) (by omega)]
              by_cases h6 : z = 0
              · subst h6
                exact go 80 (i + 2) (by rw [hrd]; rfl) a1
              · have h7 : z = 1 := u8_is (n := 1) (by
                  have : z.toNat ≠ 0 := fun h => h6 (u8_is (n := 0) (by omega))
                  omega)
                subst h7
                exact go 81 (i + 2) (by rw [hrd]; rfl) a1
  · have : m = 0 := by omega
    subst this
    exact hO out i s1 o1 hr e1 a1 b1
/-- a frame in memory -/
structure FrAt (V : View) (f : FrM) (r : G_api_Frame) : Prop where
  at_ : r.At = f.at_
  len : r.Len = f.len
  kind : r.Kind = f.kind
  pay : Ls tBy V f.pay r.Payload
theorem FrAt.st {s s' : St} {f : FrM} {r : G_api_Frame} {S : List Nat} (h : FrAt (s.w 0) f r) (hs : Step S s s') : FrAt (s'.w 0) f r := ⟨h.1, h.2, h.3, Ls.st h.4 hs⟩
theorem frEnd {s : St} {q b : Nat} {vs : List Value} {x0 x1 x2 : Int} {x3 : Sl} {K : G_api_Frame → HP} (h : At (s.w q) b 0 vs) (hl : vs.length = 4) (hq : q ≠ 0)
    (hK : ∀ s', Step [q] s s' → K ⟨x0, x1, x2, x3⟩ s'.H) : sts (at0 b) 0 [.int .i64 x0, .int .i64 x1, .int .i64 x2, .slice x3.a x3.len x3.cap] (ld_G_api_Frame (at0 b) fun r => K r) s.H := by
  refine row_rule q h (by rw [hl]; rfl) (by simp [one]) hq (.inl rfl) fun s1 e1 z1 a1 _ => ?_
  unfold ld_G_api_Frame
  repeat (first|refine nn_at ?_|refine ldI_at a1 rfl ?_|refine ldB_at a1 rfl ?_|refine ldS_at a1 rfl ?_|refine ldP_at a1 rfl ?_|refine ldM_at a1 rfl ?_|refine ldL_at a1 rfl ?_)
  exact hK s1 e1
theorem frEnd2 {s : St} {q b : Nat} {x0 x1 x2 : Int} {x3 : Sl} {K : G_api_Frame → HP} (h : At (s.w q) b 0 [.int .i64 x0, .int .i64 x1, .int .i64 x2, .slice x3.a x3.len x3.cap]) (hq : q ≠ 0)
    (hK : ∀ s', Step [q] s s' → K ⟨x0, x1, x2, x3⟩ s'.H) : ld_G_api_Frame (at0 b) (fun t => sts (at0 b) 0 [.int .i64 t.At, .int .i64 t.Len, .int .i64 t.Kind, .slice t.Payload.a t.Payload.len t.Payload.cap] (ld_G_api_Frame (at0 b) fun r => K r)) s.H := by
  unfold ld_G_api_Frame
  repeat (first|refine nn_at ?_|refine ldI_at h rfl ?_|refine ldB_at h rfl ?_|refine ldS_at h rfl ?_|refine ldP_at h rfl ?_|refine ldM_at h rfl ?_|refine ldL_at h rfl ?_)
  exact frEnd h rfl hq hK
theorem loc3 {a b : St} {S : List Nat} (h : Step (own a :: (own a + 1) :: (own a + 2) :: S) a b) : Step S a b := ((h.loc).loc (by omega)).loc (by omega)
theorem At_ok {s : St} {b : List UInt8} {sl : Sl} {i : Nat} {K : G_api_Frame → Int → HP} (hb : Ls tBy (s.w 0) b sl) (hbl : b.length ≤ 1000000000) (hi : i < b.length)
    (hE : ∀ e fr s', frameAt b i = .error e → e ≠ 0 → Step [] s s' → K fr e s'.H)
    (hO : ∀ f fr s', frameAt b i = .ok f → Step [] s s' → FrAt (s'.w 0) f fr → K fr 0 s'.H) : frame_At sl i K s.H := by
  unfold frame_At
  have hlen := hb.len
  have hq0 : own s ≠ 0 := by unfold own; omega
  refine newc_k (own s) (by unfold own; omega) fun s1 p n1 a1 => ?_
  have e1 := n1.step
  refine bif_dec (fun h1 => ?_) (fun h1 => ?_)
  · omega
  rw [decide_eq_false (by omega)]
  unfold frame_At_j1
  refine bif_f ?_
  have hb1 := Ls.st hb e1
  have err : ∀ {e : Int} {s' : St}, frameAt b i = .error e → Step [own s, own s + 1, own s + 2] s s' → At (s'.w (own s)) p 0 [.int .i64 0, .int .i64 0, .int .i64 0, .slice none 0 0] → 
      ld_G_api_Frame (at0 p) (fun t => sts (at0 p) 0 [.int .i64 t.At, .int .i64 t.Len, .int .i64 t.Kind, .slice t.Payload.a t.Payload.len t.Payload.cap] (ld_G_api_Frame (at0 p) fun r => K r e)) s'.H := fun {e s'} he es ha =>
    frEnd2 (x3 := ⟨none, 0, 0⟩) ha hq0 fun s'' e'' => hE e _ s'' he (frameAt_err he) (loc3 (es.tr e''))
  refine bif_dec (fun h2 => ?_) (fun h2 => ?_)
  · omega
  refine ixL_rule hb1 (by omega) (by omega) fun bx ox x hx hel => ?_
  obtain ⟨vs, rfl, hat⟩ := hel
  rw [Int.toNat_natCast] at hx
  refine ldI_at0 hat rfl ?_
  refine bif_ndec (fun h3 => ?_) (fun h3 => ?_)
  · refine err ?_ e1.n a1
    unfold frameAt; rw [hx]
    simp only
    rw [if_neg (fun h => h3 (by rw [h]; rfl))]
  have h80 : x = 80 := u8_is (n := 80) h3
  subst h80
  have hfa : frameAt b i = match rdN b 5 (i + 1) [] with | .error e => .error e | .ok x => frame1 b i x.1 x.2 := by
    unfold frameAt; rw [hx]; rfl
  rw [w64_id (by omega) (by omega)]
  have hz1 := e1.sz
  refine newc_k (own s + 1) (by unfold own; omega) fun s2 r n2 a2 => ?_
  have e2 := n2.step
  have hb2 := Ls.st hb1 e2
  have a21 := a1.mono (e2.view (by simp))
  have hz2 := e2.sz
  have e12 : Step [own s, own s + 1, own s + 2] s s2 := (e1.trans e2).n
  refine read_ok (q := own s + 1) (q2 := own s + 2) (i := i + 1) (m := 5) (n := 5) (o := ⟨none, 0, 0⟩) (out := []) ⟨by omega, by omega, by omega⟩ (by unfold own; omega) a2 hb2 Bld.nil rfl (by omega) (by omega) (by omega) ?_ ?_
  · intro e s3 hr e3
    rw [hr] at hfa
    have he := frameAt_err hfa
    refine bif_ndec (fun h4 => ?_) (fun h4 => absurd h4 he)
    exact err hfa (e12.tr e3) (a21.mono (e3.view (by simp <;> omega)))
  · intro out k s3 o3 hr e3 a3 b3
    rw [hr] at hfa
    simp only [frame1] at hfa
    refine bif_ndec (fun h4 => absurd rfl h4) (fun _ => ?_)
    have hg5 : Got b i k out ∧ out.length = 0 + 5 ∧ _ := Got.app (b := b) (i := i) (k := i + 1) (all := []) ⟨Nat.le_refl _, by omega, by simp [veil]⟩ hr
    obtain ⟨g5, l5, -⟩ := hg5
    have es3 : Step [own s, own s + 1, own s + 2] s s3 := e12.tr e3
    have hz3 := es3.sz
    have a31 := a21.mono (e3.view (by simp <;> omega))
    repeat (first|refine nn_at ?_|refine ldI_at a3 rfl ?_|refine ldB_at a3 rfl ?_|refine ldS_at a3 rfl ?_|refine ldP_at a3 rfl ?_|refine ldM_at a3 rfl ?_|refine ldL_at a3 rfl ?_)
    refine Get_ok b3.ls (by omega) (by omega) ?_
    have hbd := getI_bd out 1 4
    refine bif_dec (fun h5 => ?_) (fun h5 => ?_)
    · rw [if_pos h5] at hfa
      exact err hfa es3 a31
    rw [if_neg h5] at hfa
    rw [w64_id (n := getI out 1 4) (by omega) (by omega), w64_id (n := 9 + getI out 1 4) (by omega) (by omega)]
    have hn : 9 + getI out 1 4 = ((9 + (getI out 1 4).toNat : Nat) : Int) := by omega
    rw [hn]
    refine read_ok (q := own s + 1) (q2 := own s + 2) (i := k) (m := 4 + (getI out 1 4).toNat) (out := out) ⟨by omega, by omega, by omega⟩ (by unfold own; omega) a3 (Ls.st hb2 e3) b3 (by omega) (by omega) (by omega) g5.len ?_ ?_
    · intro e s4 hr2 e4
      rw [hr2] at hfa
      have he := frameAt_err hfa
      refine bif_ndec (fun h4 => ?_) (fun h4 => absurd h4 he)
      exact err hfa (es3.tr e4) (a31.mono (e4.view (by simp <;> omega)))
    · intro all k2 s4 o4 hr2 e4 a4 b4
      rw [hr2] at hfa
      refine bif_ndec (fun h4 => absurd rfl h4) (fun _ => ?_)
      obtain ⟨g9, l9, -⟩ := g5.app hr2
      have es4 : Step [own s, own s + 1, own s + 2] s s4 := es3.tr e4
      have a41 := a31.mono (e4.view (by simp <;> omega))
      have ho4 := b4.ls.len
      have hc4 := b4.ls.cap
      have hk2 := g9.len
      have hk3 := g9.le
      repeat (first|refine nn_at ?_|refine ldI_at a4 rfl ?_|refine ldB_at a4 rfl ?_|refine ldS_at a4 rfl ?_|refine ldP_at a4 rfl ?_|refine ldM_at a4 rfl ?_|refine ldL_at a4 rfl ?_)
      refine Get_ok b4.ls (by omega) (by omega) ?_
      repeat (first|refine nn_at ?_|refine ldI_at a4 rfl ?_|refine ldB_at a4 rfl ?_|refine ldS_at a4 rfl ?_|refine ldP_at a4 rfl ?_|refine ldM_at a4 rfl ?_|refine ldL_at a4 rfl ?_)
      refine slL_rule b4.ls (by omega) (by omega) (by omega) (by omega) (by omega) fun sA hA cA => ?_
      repeat (first|refine nn_at ?_|refine ldI_at a4 rfl ?_|refine ldB_at a4 rfl ?_|refine ldS_at a4 rfl ?_|refine ldP_at a4 rfl ?_|refine ldM_at a4 rfl ?_|refine ldL_at a4 rfl ?_)
      refine slL_rule b4.ls (by omega) (by omega) (by omega) (by omega) (by omega) fun sB hB cB => ?_
      have eA : (all.take (5 : Int).toNat).drop (0 : Int).toNat = all.take 5 := by simp
      have eB : (all.take ((o4.len : Nat) : Int).toNat).drop (9 : Int).toNat = all.drop 9 := by rw [Int.toNat_natCast, ho4, List.take_of_length_le (Nat.le_refl _)]; rfl
      rw [eA] at hA
      rw [eB] at hB
      refine sum_ok hA hB (by rw [List.length_take]; omega) (by rw [List.length_drop]; omega) fun s5 e5 => ?_
      have es5 : Step [own s, own s + 1, own s + 2] s s5 := es4.trans e5.n
      have a51 := a41.mono (e5.view (by simp))
      have a52 := a4.mono (e5.view (by simp))
      have b5 := b4.st e5 (by simp)
      have hcl := (crc 0#32 (all.take 5 ++ all.drop 9)).isLt
      rw [wr_u64 (by omega) (by omega)]
      unfold frame2 at hfa
      simp only at hfa
      refine bif_ndec (fun h6 => ?_) (fun h6 => ?_)
      · rw [if_neg h6] at hfa
        exact err hfa es5 a51
      rw [if_pos h6] at hfa
      repeat (first|refine nn_at ?_|refine ldI_at a52 rfl ?_|refine ldB_at a52 rfl ?_|refine ldS_at a52 rfl ?_|refine ldP_at a52 rfl ?_|refine ldM_at a52 rfl ?_|refine ldL_at a52 rfl ?_)
      refine ixL_rule b5.ls (by omega) (by omega) fun bx0 ox0 x0 hx0 hel0 => ?_
      obtain ⟨vs, rfl, hat0⟩ := hel0
      refine ldI_at0 hat0 rfl ?_
      repeat (first|refine nn_at ?_|refine ldI_at a52 rfl ?_|refine ldB_at a52 rfl ?_|refine ldS_at a52 rfl ?_|refine ldP_at a52 rfl ?_|refine ldM_at a52 rfl ?_|refine ldL_at a52 rfl ?_)
      refine slL_rule b5.ls (by omega) (by omega) (by omega) (by omega) (by omega) fun sC hC cC => ?_
      rw [eB] at hC
      have hx0l := x0.toNat_lt
      rw [w64_id (n := (k2 : Int) - i) (by omega) (by omega), w64_id (n := (x0.toNat : Int)) (by omega) (by omega)]
      refine frEnd a51 rfl hq0 fun s6 e6 => ?_
      refine hO _ _ s6 hfa (loc3 (es5.tr e6)) ⟨rfl, by simp only; omega, ?_, Ls.st hC e6⟩
      have : all.getD 0 0 = x0 := by rw [List.getD_eq_getElem?_getD]; rw [show all[0]? = some x0 from hx0]; rfl
      simp only [this]
end Go.Ph
end
section
set_option linter.all false
namespace Go.Ph
open S
theorem putB_front (n : Nat) : ∀ i, putB n (i + 1) = UInt8.ofNat (n / 256 ^ i % 256) :: putB n i := by
  intro i
  induction i generalizing n with
  | zero => simp [putB]
  | succ i ih =>
    rw [putB, ih (n / 256), putB, List.cons_append, Nat.div_div_eq_div_mul, Nat.pow_succ, Nat.mul_comm]
theorem tdiv256 (n : Nat) : Int.tdiv (n : Int) 256 = ((n / 256 : Nat) : Int) := by rw [Int.tdiv_eq_ediv_of_nonneg (by omega)]; omega
theorem tmod256 (n : Nat) : Int.tmod (n : Int) 256 = ((n % 256 : Nat) : Int) := by rw [Int.tmod_eq_emod_of_nonneg (by omega)]; omega
theorem rFits_ok {s : St} {n k : Nat} {K : Bool → HP} (hn : n < 18446744073709551616) (hk : k ≤ 100) (hK : K (decide (n / 256 ^ k = 0)) s.H) : rf01_fits n k K s.H := by
  unfold rf01_fits
  refine loop_rule (fun i : Nat => [.int .u64 ((n / 256 ^ i : Nat) : Int), .int .i64 i]) (fun i s' => i ≤ k ∧ s' = s) (fun i _ => k - i) 0 (by simp) ⟨Nat.zero_le _, rfl⟩ ?_
  rintro i s3 ⟨hi, rfl⟩ G hG
  simp only [List.getD_cons_zero, List.getD_cons_succ, asI_v, asL_v, asS_v, asB_v, asM_v, asP_v]
  have hq : n / 256 ^ i ≤ n := Nat.div_le_self _ _
  refine bif_dec (fun hlt => ?_) (fun hlt => ?_)
  · refine ⟨by decide, ?_⟩
    have hG' := hG (i + 1) s3 ⟨by omega, rfl⟩ (by omega)
    have hp : n / 256 ^ (i + 1) = n / 256 ^ i / 256 := by rw [Nat.pow_succ, ← Nat.div_div_eq_div_mul]
    rw [hp] at hG'
    generalize n / 256 ^ i = q at *
    rw [tdiv256, wr_u64 (by omega) (by omega), w64_id (by omega) (by omega)]
    exact hG'
  · have : i = k := by omega
    subst this
    have : decide (((n / 256 ^ i : Nat) : Int) = 0) = decide (n / 256 ^ i = 0) := by
      generalize n / 256 ^ i = q
      rw [decide_eq_decide]; omega
    rw [this]
    exact hK
theorem rPut_ok {s : St} {n k : Nat} {K : Sl → Bool → HP} (hn : n < 256 ^ k) (hk : 1 ≤ k ∧ k ≤ 8)
    (hK : ∀ s' o, Step [] s s' → Ls tBy (s'.w 0) (putB n k) o → K o true s'.H) : rf01_Put n k K s.H := by
  unfold rf01_Put
  have hn8 : n < 18446744073709551616 := Nat.lt_of_lt_of_le hn (Nat.pow_le_pow_right (n := 256) (by decide) hk.2)
  refine bif_dec (fun h1 => ?_) (fun h1 => ?_)
  · omega
  refine bif_dec (fun h2 => ?_) (fun h2 => ?_)
  · omega
  refine rFits_ok hn8 (by omega) ?_
  rw [Nat.div_eq_of_lt hn]
  unfold rf01_Put_j1
  refine bif_f ?_
  refine loop_rule (ι := Nat × Sl) (fun x => [.int .u64 ((n / 256 ^ x.1 : Nat) : Int), .slice x.2.a x.2.len x.2.cap, .int .i64 x.1]) (fun x s' => x.1 ≤ k ∧ Step [] s s' ∧ Ls tBy (s'.w 0) (putB n x.1) x.2) (fun x _ => k - x.1) (0, ⟨none, 0, 0⟩) (by simp) ⟨Nat.zero_le _, Step.refl, Ls.nil_⟩ ?_
  rintro ⟨i, o⟩ s1 ⟨hi, e1, l1⟩ G hG
  simp only at hi l1
  simp only [List.getD_cons_zero, List.getD_cons_succ, asI_v, asL_v, asS_v, asB_v, asM_v, asP_v]
  have hq : n / 256 ^ i ≤ n := Nat.div_le_self _ _
  refine bif_dec (fun hlt => ?_) (fun hlt => ?_)
  · refine ⟨by decide, ?_⟩
    have hG' := fun o' s' => hG (i + 1, o') s'
    have hp : n / 256 ^ (i + 1) = n / 256 ^ i / 256 := by rw [Nat.pow_succ, ← Nat.div_div_eq_div_mul]
    simp only [hp, putB_front] at hG'
    generalize n / 256 ^ i = q at *
    rw [tdiv256, tmod256, wr_u64 (by omega) (by omega), w64_id (by omega) (by omega), wr_u8 (by omega) (by omega)]
    refine newc_0 fun s2 b n2 a2 => ?_
    have e2 := n2.step
    have hb : Bld tBy (own s) s2 [UInt8.ofNat (q % 256)] ⟨some (at0 b), 1, 1⟩ := ⟨Ls.single rfl (by rw [UInt8.toNat_ofNat']; rw [Nat.mod_eq_of_lt (by omega)]; exact a2), fun a ha i h1 h2 => by simp [tBy] at h1 h2; omega⟩
    have hz := (e1.trans e2).sz
    refine app_rule (q := own s) hb (Ls.st l1 e2) (fun s3 o3 e3 b3 => ?_) rfl rfl (by simp only [List.length_singleton, putB_len]; omega) (by simp only [List.length_singleton, putB_len]; omega) (by unfold own; omega) (by unfold own; omega)
    refine ⟨by decide, ?_⟩
    exact hG' o3 s3 ⟨by omega, ((e1.trans e2).n.trans e3).loc, b3.ls⟩ (by omega)
  · have : i = k := by omega
    subst this
    exact hK s1 o e1 l1
theorem rNumber_ok {s : St} {n k : Nat} {K : ByteArray → HP} (hn : n < 256 ^ k) (hk : 1 ≤ k ∧ k ≤ 8)
    (hK : ∀ s', Step [] s s' → K (ba (putB n k)) s'.H) : rf03_number n k K s.H := by
  unfold rf03_number
  exact rPut_ok hn hk fun s1 o e1 l1 => ldBy_rule l1 (hK s1 e1)
theorem veil_take {l : List UInt8} {i : Nat} {c : UInt8} (h : l[i]? = some c) : veil (l.take (i + 1)) = veil (l.take i) ++ veil1 c := by
  rw [List.take_succ, h, veil_app]; simp [veil]
theorem veil_len (l : List UInt8) : (veil l).length ≤ 2 * l.length := by
  induction l with
  | nil => simp [veil]
  | cons c l ih => rw [veil_cons, List.length_append, List.length_cons]; have : (veil1 c).length ≤ 2 := by { unfold veil1; repeat (first | split | simp) }; omega
theorem two_ls {V : View} {c d : UInt8} {b : Nat} (h : At V b 0 [.int .u8 c.toNat, .int .u8 d.toNat]) : Ls tBy V [c, d] ⟨some (at0 b), 2, 2⟩ :=
  ⟨rfl, Nat.le_refl _, fun h => (by cases h), fun a e => by
    simp at e; subst e
    refine ⟨rfl, fun j y hj => ?_⟩
    match j, hj with
    | 0, hj => simp at hj; subst hj; exact ⟨_, rfl, fun i v hi => by
        cases i with
        | zero => have := h 0 _ rfl; simp at hi; subst hi; simpa using this
        | succ i => simp at hi⟩
    | 1, hj => simp at hj; subst hj; exact ⟨_, rfl, fun i v hi => by
        cases i with
        | zero => have := h 1 _ rfl; simp at hi; subst hi; simpa [tBy] using this
        | succ i => simp at hi⟩
    | j + 2, hj => simp at hj⟩
theorem rVeil_ok {s : St} {k0 : Nat} {l : List UInt8} {sl : Sl} {K : Sl → HP} (h : Ls tBy (s.w 0) l sl) (hl : l.length ≤ 10000000000)
    (hK : ∀ s' o, Step [] s s' → Ls tBy (s'.w 0) (veil l) o → K o s'.H) : rf03_Veil sl K s.H := by
  unfold rf03_Veil
  have hlen := h.len
  refine loop_rule (ι := Nat × Sl) (fun x => [.slice x.2.a x.2.len x.2.cap, .int .i64 x.1]) (fun x s' => x.1 ≤ l.length ∧ Step [own s] s s' ∧ Bld tBy (own s) s' (veil (l.take x.1)) x.2) (fun x _ => l.length - x.1) (0, ⟨none, 0, 0⟩) rfl ⟨Nat.zero_le _, Step.refl, Bld.nil⟩ ?_
  rintro ⟨i, o⟩ s1 ⟨hi, e1, b1⟩ G hG
  simp only at hi b1
  simp only [List.getD_cons_zero, List.getD_cons_succ, asI_v, asL_v, asS_v, asB_v, asM_v, asP_v]
  have h1 := Ls.st h e1
  have hz1 := e1.sz
  refine bif_dec (fun hlt => ?_) (fun hlt => ?_)
  · have hvl := veil_len (l.take i)
    have htl : (l.take i).length ≤ i := by rw [List.length_take]; omega
    refine ixL_rule h1 (by omega) (by omega) fun bx ox x hx hel => ?_
    obtain ⟨vs, rfl, hat⟩ := hel
    have hG' := fun o' s' => hG (i + 1, o') s'
    simp only [veil_take (by simpa using hx)] at hG'
    have rest : ∀ s2 o2, Step [own s] s1 s2 → Bld tBy (own s) s2 (veil (l.take i) ++ veil1 x) o2 → rf03_Veil_j1 sl o2 i K G s2.H := fun s2 o2 e2 b2 => by
      unfold rf03_Veil_j1
      rw [w64_id (by omega) (by omega)]
      exact hG' o2 s2 ⟨by omega, e1.trans e2, b2⟩ (by omega)
    refine ldI_at0 hat rfl ?_
    refine bif_dec (fun h2 => ?_) (fun h2 => ?_)
    · have h80 : x = 80 := u8_is (n := 80) h2
      subst h80
      refine newc_0 fun s2 b n2 a2 => ?_
      have e2 := n2.step
      have hz2 := e2.sz
      refine app_rule (b1.st e2 (by simp)) (two_ls (c := 81) (d := 0) a2) (fun s3 o3 e3 b3 => rest s3 o3 (e2.n.trans e3) b3) rfl rfl (by simp; omega) (by simp; omega) (by unfold own; omega)
    · have n80 : x ≠ 80 := fun h => h2 (by rw [h]; rfl)
      refine ixL_rule h1 (by omega) (by omega) fun bx2 ox2 x2 hx2 hel2 => ?_
      obtain ⟨vs, rfl, hat2⟩ := hel2
      have : x2 = x := by rw [hx] at hx2; exact (Option.some.inj hx2).symm
      subst this
      refine ldI_at0 hat2 rfl ?_
      refine bif_dec (fun h3 => ?_) (fun h3 => ?_)
      · have h81 : x2 = 81 := u8_is (n := 81) h3
        subst h81
        refine newc_0 fun s2 b n2 a2 => ?_
        have e2 := n2.step
        have hz2 := e2.sz
        refine app_rule (b1.st e2 (by simp)) (two_ls (c := 81) (d := 1) a2) (fun s3 o3 e3 b3 => rest s3 o3 (e2.n.trans e3) b3) rfl rfl (by simp; omega) (by simp; omega) (by unfold own; omega)
      · have n81 : x2 ≠ 81 := fun h => h3 (by rw [h]; rfl)
        refine ixL_rule h1 (by omega) (by omega) fun bx3 ox3 x3 hx3 hel3 => ?_
        obtain ⟨vs, rfl, hat3⟩ := hel3
        have : x3 = x2 := by rw [hx] at hx3; exact (Option.some.inj hx3).symm
        subst this
        refine ldI_at0 hat3 rfl ?_
        have hv1 : veil1 x3 = [x3] := by simp [veil1, n80, n81]
        rw [hv1] at rest
        refine app1_rule x3 b1 rfl (fun s2 o2 e2 b2 => rest s2 o2 e2 b2) rfl rfl (by omega) (by omega) (by unfold own; omega)
  · have : i = l.length := by omega
    subst this
    rw [List.take_of_length_le (Nat.le_refl _)] at b1
    exact hK s1 o e1.loc b1.ls
theorem rWrap_ok {s : St} {c : UInt8} {l : List UInt8} {sl : Sl} {K : Sl → Int → HP} (h : Ls tBy (s.w 0) l sl) (hl : l.length ≤ 65536)
    (hK : ∀ s' o, Step [] s s' → Ls tBy (s'.w 0) (wrap c l) o → K o 0 s'.H) : rf03_Wrap c.toNat sl K s.H := by
  unfold rf03_Wrap
  have hlen := h.len
  have hc := c.toNat_lt
  refine bif_dec (fun h1 => ?_) (fun h1 => ?_)
  · omega
  rw [decide_eq_false (by omega)]
  unfold rf03_Wrap_j1
  refine bif_f ?_
  refine bif_dec (fun h2 => ?_) (fun h2 => ?_)
  · omega
  rw [wr_u64 (n := (c.toNat : Int)) (by omega) (by omega), wr_u64 (n := ((sl.len : Nat) : Int)) (by omega) (by omega)]
  refine rNumber_ok (n := c.toNat) (k := 1) (by omega) (by decide) fun s1 e1 => ?_
  refine rNumber_ok (n := sl.len) (k := 4) (by omega) (by decide) fun s2 e2 => ?_
  have p1 : putB c.toNat 1 = [c] := by have := putB_be [c]; simpa [be] using this
  have hz : ∀ a : List UInt8, (ba a).size = a.length := ba_size
  refine cat_rule (by rw [hz, hz, putB_len, putB_len]; decide) ?_
  rw [ba_app, p1, hlen]
  have e12 := e1.trans e2
  refine ldBy_rule (Ls.st h e12) ?_
  refine cat_rule (by rw [hz, List.length_append, putB_len]; show _ + (ba l).size ≤ _; rw [hz]; simp; omega) ?_
  show s2b (ba ([c] ++ putB l.length 4) ++ ba l) _ _
  rw [ba_app]
  refine s2b_rule 0 (by omega) fun s3 o3 e3 z3 b3 => ?_
  rw [ba_list] at b3
  refine rOf_ok b3.ls (by simp [putB_len]; omega) ?_
  have hcr : [c] ++ putB l.length 4 ++ l = c :: (putB l.length 4 ++ l) := rfl
  rw [hcr]
  have e13 := e12.trans e3
  have h3 := Ls.st h e13
  refine ldBy_rule h3 ?_
  have hlt := (crc 0#32 (c :: (putB l.length 4 ++ l))).isLt
  have hwr : wrap c l = [80] ++ veil ([c] ++ putB l.length 4 ++ (putB (crc 0#32 (c :: (putB l.length 4 ++ l))).toNat 4) ++ l) := by unfold wrap; simp
  generalize (crc 0#32 (c :: (putB l.length 4 ++ l))).toNat = cr at *
  rw [wr_u64 (n := (cr : Int)) (by omega) (by omega)]
  generalize hw : [c] ++ putB l.length 4 ++ putB cr 4 ++ l = w at *
  have hwl : w.length = 9 + l.length := by rw [← hw]; simp [putB_len]; omega
  have hcat1 : (ba ([c] ++ putB l.length 4)).size + (ba (putB cr 4)).size ≤ 9223372036854775807 := by rw [hz, hz, List.length_append, putB_len, putB_len]; show 1 + 4 + 4 ≤ _; decide
  have hcat2 : (ba ([c] ++ putB l.length 4 ++ putB cr 4)).size + (ba l).size ≤ 9223372036854775807 := by rw [hz, hz]; simp [putB_len]; omega
  have hld : ∀ {s' : St}, Step [] s s' → ldBy sl (fun x _ => Value.string x = Value.string (ba l)) s'.H := fun e => ldBy_rule (Ls.st h e) rfl
  have hvl := veil_len w
  have fin : ∀ (s' : St) (b : Nat) (o : Sl), Step [] s s' → At (s'.w 0) b 0 [.int .u8 80] → Ls tBy (s'.w 0) (veil w) o → app 1 1 #[.int .u8 0] (⟨some (at0 b), 1, 1⟩ : Sl) o (fun t => K t 0) s'.H := fun s' b o es ha hv => by
    have hb : Bld tBy (own s) s' [80] ⟨some (at0 b), 1, 1⟩ := ⟨Ls.single rfl ha, fun a ha i h1 h2 => by simp [tBy] at h1 h2; omega⟩
    have hz := es.sz
    refine app_rule hb hv (fun s2 o2 e2 b2 => ?_) rfl rfl (by simp; omega) (by simp; omega) (by unfold own; omega) (by unfold own; omega)
    have := b2.ls
    rw [← hwr] at this
    exact hK s2 o2 ((es.n.trans e2).loc) this
  have A0 : ∀ {s4 s5 : St} {b : Nat}, At (s4.w 0) b 0 (#[Value.int .u8 80].toList) → Step [] s4 s5 → At (s5.w 0) b 0 [.int .u8 80] := fun h e => At.mono h e.v0
  have step4 : ∀ {s4 : St} {K' : ByteArray → HP}, (∀ s5, Step [] s4 s5 → K' (ba (putB cr 4)) s5.H) → rf03_number cr 4 K' s4.H := fun h => rNumber_ok (n := cr) (k := 4) (by omega) (by decide) h
  have cats : ∀ {s5 : St} {K' : ByteArray → HP}, K' (ba w) s5.H → cat (ba ([c] ++ putB l.length 4)) (ba (putB cr 4)) (fun t => cat t (ba l) K') s5.H := fun hk => by
    refine cat_rule hcat1 ?_
    rw [ba_app]
    refine cat_rule hcat2 ?_
    rw [ba_app, hw]
    exact hk
  have tob : ∀ {s5 : St} {K' : Sl → HP}, (∀ s6 o6, Step [] s5 s6 → Ls tBy (s6.w 0) w o6 → K' o6 s6.H) → s2b (ba w) K' s5.H := fun hk =>
    s2b_rule 0 (by omega) fun s6 o6 e6 z6 b6 => by rw [ba_list] at b6; exact hk s6 o6 e6 b6.ls
  refine both_rule ?_ ?_
  · refine newc_0 fun s4 b n4 a4 => ?_
    have e4 := e13.trans n4.step
    refine held_rule (hld e4) ?_
    refine step4 fun s5 e5 => ?_
    refine held_rule (hld (e4.trans e5)) ?_
    refine cats ?_
    refine tob fun s6 o6 e6 l6 => ?_
    refine rVeil_ok (k0 := 0) l6 (by omega) fun s7 o7 e7 l7 => ?_
    exact fin s7 b o7 (((e4.trans e5).trans e6).trans e7) (A0 a4 ((e5.trans e6).trans e7)) l7
  · refine step4 fun s5 e5 => ?_
    have e5' := e13.trans e5
    refine held_rule (hld e5') ?_
    refine cats ?_
    refine both_rule ?_ ?_
    · refine newc_0 fun s4 b n4 a4 => ?_
      have e4 := e5'.trans n4.step
      refine held_rule (hld e4) ?_
      refine tob fun s6 o6 e6 l6 => ?_
      refine rVeil_ok (k0 := 0) l6 (by omega) fun s7 o7 e7 l7 => ?_
      exact fin s7 b o7 ((e4.trans e6).trans e7) (A0 a4 (e6.trans e7)) l7
    · refine tob fun s6 o6 e6 l6 => ?_
      have e6' := e5'.trans e6
      refine both_rule ?_ ?_
      · refine newc_0 fun s4 b n4 a4 => ?_
        have e4 := e6'.trans n4.step
        refine held_rule (hld e4) ?_
        refine rVeil_ok (k0 := 0) (Ls.st l6 n4.step) (by omega) fun s7 o7 e7 l7 => ?_
        exact fin s7 b o7 (e4.trans e7) (A0 a4 e7) l7
      · refine rVeil_ok (k0 := 0) l6 (by omega) fun s7 o7 e7 l7 => ?_
        refine newc_0 fun s4 b n4 a4 => ?_
        have e4 := (e6'.trans e7).trans n4.step
        refine held_rule (hld e4) ?_
        exact fin s4 b o7 e4 a4 (Ls.st l7 n4.step)
theorem plEnd {s : St} {q b : Nat} {vs : List Value} {x0 x1 x2 : Int} {K : G_rf03_Plain → HP} (h : At (s.w q) b 0 vs) (hl : vs.length = 3) (hq : q ≠ 0)
    (hK : ∀ s', Step [q] s s' → K ⟨x0, x1, x2⟩ s'.H) : sts (at0 b) 0 [.int .u8 x0, .int .i64 x1, .int .i64 x2] (ld_G_rf03_Plain (at0 b) fun r => K r) s.H := by
  refine row_rule q h (by rw [hl]; rfl) (by simp [one]) hq (.inl rfl) fun s1 e1 z1 a1 _ => ?_
  unfold ld_G_rf03_Plain
  repeat (first|refine nn_at ?_|refine ldI_at a1 rfl ?_|refine ldB_at a1 rfl ?_|refine ldS_at a1 rfl ?_|refine ldP_at a1 rfl ?_|refine ldM_at a1 rfl ?_|refine ldL_at a1 rfl ?_)
  exact hK s1 e1
theorem rRead_ok {s : St} {b : List UInt8} {sl : Sl} {i : Nat} {K : G_rf03_Plain → HP} (hb : Ls tBy (s.w 0) b sl) (hbl : b.length ≤ 1000000000) (hi : i ≤ b.length)
    (hE : ∀ e s', rd b i = .error e → e ≠ 0 → Step [] s s' → K ⟨0, 0, e⟩ s'.H)
    (hO : ∀ (c : UInt8) (k : Nat) s', rd b i = .ok (c, k) → Step [] s s' → K ⟨c.toNat, k, 0⟩ s'.H) : rf03_read sl i K s.H := by
  unfold rf03_read
  have hlen := hb.len
  have hq0 : own s ≠ 0 := by unfold own; omega
  refine newc_k (own s) (by unfold own; omega) fun s1 p n1 a1 => ?_
  have e1 := n1.step
  have hb1 := Ls.st hb e1
  have err : ∀ e, rd b i = .error e → sts (at0 p) 0 [.int .u8 0, .int .i64 0, .int .i64 e] (ld_G_rf03_Plain (at0 p) fun r => K r) s1.H := fun e he =>
    plEnd a1 rfl hq0 fun s2 e2 => hE e s2 he (rd_err he) ((e1.n.trans e2).loc)
  have go : ∀ (c : UInt8) (k : Nat), rd b i = .ok (c, k) → sts (at0 p) 0 [.int .u8 c.toNat, .int .i64 k, .int .i64 0] (ld_G_rf03_Plain (at0 p) fun r => K r) s1.H := fun c k he =>
    plEnd a1 rfl hq0 fun s2 e2 => hO c k s2 he ((e1.n.trans e2).loc)
  refine bif_dec (fun h1 => ?_) (fun h1 => ?_)
  · refine err 2 ?_
    unfold rd; rw [List.getElem?_eq_none (by omega)]
  have ld : ∀ {j : Nat} {y : UInt8} {K' : Int → HP}, b[j]? = some y → K' y.toNat s1.H → ixL sl 1 (j : Int) (fun t => ldI .u8 t K') s1.H := fun {j y K'} hy hk => by
    have hj : j < b.length := by
      rcases Nat.lt_or_ge j b.length with h | h
      · exact h
      · rw [List.getElem?_eq_none h] at hy; cases hy
    refine ixL_rule hb1 (by omega) (by omega) fun bx ox x hx hel => ?_
    obtain ⟨vs, rfl, hat⟩ := hel
    rw [Int.toNat_natCast, hy] at hx
    have := Option.some.inj hx
    subst this
    exact ldI_at0 hat rfl hk
  obtain ⟨x, hx⟩ : ∃ x, b[i]? = some x := ⟨_, List.getElem?_eq_getElem (by omega)⟩
  refine ld hx ?_
  refine bif_dec (fun h2 => ?_) (fun h2 => ?_)
  · refine err 3 ?_
    have : x = 80 := u8_is (n := 80) h2
    unfold rd; rw [hx]; simp [this]
  have n80 : x ≠ 80 := fun h => h2 (by rw [h]; rfl)
  refine ld hx ?_
  refine bif_ndec (fun h3 => ?_) (fun h3 => ?_)
  · have n81 : x ≠ 81 := fun h => h3 (by rw [h]; rfl)
    refine ld hx ?_
    rw [w64_id (by omega) (by omega)]
    exact go x (i + 1) (by unfold rd; rw [hx]; simp [n80, n81])
  have h81 : x = 81 := u8_is (n := 81) h3
  rw [w64_id (n := (i : Int) + 1) (by omega) (by omega), w64_id (n := (i : Int) + 2) (by omega) (by omega)]
  refine bif_dec (fun h4 => ?_) (fun h4 => ?_)
  · refine err 2 ?_
    unfold rd; rw [hx]; simp only [n80, h81, if_true, if_false]
    rw [List.getElem?_eq_none (by omega)]; rfl
  obtain ⟨y, hy⟩ : ∃ y, b[i + 1]? = some y := ⟨_, List.getElem?_eq_getElem (by omega)⟩
  have hrd : rd b i = if y = 0 then .ok (80, i + 2) else if y = 1 then .ok (81, i + 2) else .error 3 := by
    unfold rd; rw [hx]; simp only [n80, h81, if_true, if_false, hy]; rfl
  refine ld (j := i + 1) hy ?_
  refine bif_dec (fun h5 => ?_) (fun h5 => ?_)
  · have : y = 0 := u8_is (n := 0) h5
    subst this
    exact go 80 (i + 2) (by rw [hrd]; rfl)
  have n0 : y ≠ 0 := fun h => h5 (by rw [h]; rfl)
  refine ld (j := i + 1) hy ?_
  refine bif_dec (fun h6 => ?_) (fun h6 => ?_)
  · have : y = 1 := u8_is (n := 1) h6
    subst this
    exact go 81 (i + 2) (by rw [hrd]; rfl)
  have n1' : y ≠ 1 := fun h => h6 (by rw [h]; rfl)
  exact err 3 (by rw [hrd, if_neg n0, if_neg n1'])
end Go.Ph
end
section
set_option linter.all false
namespace Go.Ph
open S
theorem getI_snoc {l : List UInt8} {c : UInt8} (h : 5 ≤ l.length) : getI (l ++ [c]) 1 4 = getI l 1 4 := by
  have h1 := getI_take (l := l ++ [c]) (a := 1) (k := 4) (by decide) (by simp; omega)
  have h2 := getI_take (l := l) (a := 1) (k := 4) (by decide) (by omega)
  rw [show ((1 : Nat) : Int) = 1 from rfl, show ((4 : Nat) : Int) = 4 from rfl] at h1 h2
  rw [h1, h2, List.drop_append_of_le_length (by omega), List.take_append_of_le_length (by rw [List.length_drop]; omega)]
theorem ba_inj {a b : List UInt8} : ba a = ba b ↔ a = b := by
  constructor
  · intro h; rw [← ba_list a, ← ba_list b, h]
  · rintro rfl; rfl
theorem Got.snoc {b : List UInt8} {i k k2 : Nat} {all : List UInt8} {c : UInt8} (h : Got b i k all) (h2 : rd b k = .ok (c, k2)) : Got b i k2 (all ++ [c]) := by
  have : rdN b 1 k all = .ok (all ++ [c], k2) := by simp only [rdN, h2]
  exact (h.app this).1
/-- how far the document's reading is -/
def Far (b : List UInt8) (i k : Nat) (all : List UInt8) (need : Nat) : Prop :=
  (all.length ≤ 5 ∧ need = 9 ∧ frameAt b i = (match rdN b (5 - all.length) k all with | .error e => .error e | .ok x => frame1 b i x.1 x.2)) ∨
  (5 < all.length ∧ (need : Int) = 9 + getI all 1 4 ∧ getI all 1 4 ≤ 65536 ∧ all.length ≤ need ∧ frameAt b i = (match rdN b (need - all.length) k all with | .error e => .error e | .ok x => frame2 b i x.1 x.2))
/-- the row for an answer is written -/
theorem rAt_ok {s : St} {b : List UInt8} {sl : Sl} {i : Nat} {K : G_api_Frame → Int → HP} (hb : Ls tBy (s.w 0) b sl) (hbl : b.length ≤ 1000000000) (hi : i < b.length)
    (hE : ∀ e s', frameAt b i = .error e → e ≠ 0 → Step [] s s' → K ⟨0, 0, 0, ⟨none, 0, 0⟩⟩ e s'.H)
    (hO : ∀ f fr s', frameAt b i = .ok f → Step [] s s' → FrAt (s'.w 0) f fr → K fr 0 s'.H) : rf03_At sl i K s.H := by
  unfold rf03_At
  have hlen := hb.len
  have hcap := hb.cap
  have hq0 : own s ≠ 0 := by unfold own; omega
  refine newc_k (own s) (by unfold own; omega) fun s1 p n1 a1 => ?_
  have e1 := n1.step
  refine bif_dec (fun h1 => ?_) (fun h1 => ?_)
  · omega
  rw [decide_eq_false (by omega)]
  unfold rf03_At_j1
  refine bif_f ?_
  have hb1 := Ls.st hb e1
  have err : ∀ {e : Int} {s' : St}, frameAt b i = .error e → Step [own s, own s + 1] s s' → At (s'.w (own s)) p 0 [.int .i64 0, .int .i64 0, .int .i64 0, .slice none 0 0] → 
      sts (at0 p) 0 [.int .i64 0, .int .i64 0, .int .i64 0, .slice none 0 0] (ld_G_api_Frame (at0 p) fun r => K r e) s'.H := fun {e s'} he es ha =>
    frEnd (x3 := ⟨none, 0, 0⟩) ha rfl hq0 fun s'' e'' => hE e s'' he (frameAt_err he) ((es.tr e'' (S := [own s, own s + 1])).loc2 (Nat.le_refl _))
  refine bif_dec (fun h2 => ?_) (fun h2 => ?_)
  · omega
  refine ixL_rule hb1 (by omega) (by omega) fun bx ox x hx hel => ?_
  obtain ⟨vs, rfl, hat⟩ := hel
  rw [Int.toNat_natCast] at hx
  refine ldI_at0 hat rfl ?_
  refine bif_ndec (fun h3 => ?_) (fun h3 => ?_)
  · refine err ?_ e1.n a1
    unfold frameAt; rw [hx]
    simp only
    rw [if_neg (fun h => h3 (by rw [h]; rfl))]
  have h80 : x = 80 := u8_is (n := 80) h3
  subst h80
  have hfa : frameAt b i = match rdN b 5 (i + 1) [] with | .error e => .error e | .ok x => frame1 b i x.1 x.2 := by
    unfold frameAt; rw [hx]; rfl
  rw [w64_id (by omega) (by omega)]
  refine loop_rule (ι := Nat × List UInt8 × Sl × Nat) (fun x => [.int .i64 x.1, .slice x.2.2.1.a x.2.2.1.len x.2.2.1.cap, .int .i64 x.2.2.2])
    (fun x s' => Step [own s, own s + 1] s s' ∧ At (s'.w (own s)) p 0 [.int .i64 0, .int .i64 0, .int .i64 0, .slice none 0 0] ∧ Got b i x.1 x.2.1 ∧ Bld tBy (own s + 1) s' x.2.1 x.2.2.1 ∧ Far b i x.1 x.2.1 x.2.2.2)
    (fun x _ => 70000 - x.2.1.length) (i + 1, [], ⟨none, 0, 0⟩, 9) (by simp) ⟨e1.n, a1, ⟨Nat.le_refl _, by simp only; omega, by simp [veil]⟩, Bld.nil, .inl ⟨Nat.zero_le _, rfl, hfa⟩⟩ ?_
  rintro ⟨k, all, o, need⟩ s2 ⟨e2, a2, g2, b2, f2⟩ G hG
  simp only at a2 g2 b2 f2
  have hol := b2.ls.len
  have hoc := b2.ls.cap
  have hb2 := Ls.st hb e2
  have hz2 := e2.sz
  have hkl := g2.len
  have hki := g2.le
  simp only [List.getD_cons_zero, List.getD_cons_succ, asI_v, asL_v, asS_v, asB_v, asM_v, asP_v]
  refine bif_dec (fun hlt => ?_) (fun hlt => ?_)
  · have step : ∀ (need2 : Nat) (F : UInt8 × Nat → Except Int FrM), all.length ≤ 66000 → (frameAt b i = match rd b k with | .error e => .error e | .ok x => F x) → (∀ c k2, rd b k = .ok (c, k2) → Far b i k2 (all ++ [c]) need2) →
        rf03_At_j2 sl i p k o need2 K G s2.H := fun need2 F hal hf hn => by
      unfold rf03_At_j2
      refine rRead_ok hb2 hbl hkl ?_ ?_
      · intro e s3 he hne e3
        refine newc_sts rfl (by simp [one]) fun s4 p4 e4 a4 => ?_
        repeat (first|refine nn_at ?_|refine ldI_at a4 rfl ?_|refine ldB_at a4 rfl ?_|refine ldS_at a4 rfl ?_|refine ldP_at a4 rfl ?_|refine ldM_at a4 rfl ?_|refine ldL_at a4 rfl ?_)
        refine bif_ndec (fun _ => ?_) (fun h => absurd h hne)
        repeat (first|refine nn_at ?_|refine ldI_at a4 rfl ?_|refine ldB_at a4 rfl ?_|refine ldS_at a4 rfl ?_|refine ldP_at a4 rfl ?_|refine ldM_at a4 rfl ?_|refine ldL_at a4 rfl ?_)
        have e34 := e3.trans e4
        have hz := e34.sz
        rw [he] at hf
        refine row_rule (own s) (a2.mono (e34.view (by simp))) rfl (by simp [one]) hq0 (.inl rfl) fun s5 e5 z5 a5 _ => ?_
        have a45 := a4.mono e5.v0
        refine held_rule ?_ ?_
        · repeat (first|refine nn_at ?_|refine ldI_at a45 rfl ?_|refine ldB_at a45 rfl ?_|refine ldS_at a45 rfl ?_|refine ldP_at a45 rfl ?_|refine ldM_at a45 rfl ?_|refine ldL_at a45 rfl ?_)
          rfl
        unfold ld_G_api_Frame
        repeat (first|refine nn_at ?_|refine ldI_at a5 rfl ?_|refine ldB_at a5 rfl ?_|refine ldS_at a5 rfl ?_|refine ldP_at a5 rfl ?_|refine ldM_at a5 rfl ?_|refine ldL_at a5 rfl ?_)
        refine ldL_at (n := ⟨none, 0, 0⟩) a5 rfl ?_
        exact hE e s5 hf hne (((e2.trans e34.n).tr e5 (S := [own s, own s + 1])).loc2 (Nat.le_refl _))
      · intro c k2 s3 he e3
        refine newc_sts rfl (by simp [one]) fun s4 p4 e4 a4 => ?_
        repeat (first|refine nn_at ?_|refine ldI_at a4 rfl ?_|refine ldB_at a4 rfl ?_|refine ldS_at a4 rfl ?_|refine ldP_at a4 rfl ?_|refine ldM_at a4 rfl ?_|refine ldL_at a4 rfl ?_)
        have e34 := e3.trans e4
        have hz := e34.sz
        have e24 : Step [own s, own s + 1] s s4 := e2.trans e34.n
        refine app1_rule c (b2.st e34 (by simp)) rfl (fun s5 o5 e5 b5 => ?_) rfl rfl (by omega) (by omega) (by unfold own; omega) (by unfold own; omega)
        have a45 := a4.mono e5.v0
        repeat (first|refine nn_at ?_|refine ldI_at a45 rfl ?_|refine ldB_at a45 rfl ?_|refine ldS_at a45 rfl ?_|refine ldP_at a45 rfl ?_|refine ldM_at a45 rfl ?_|refine ldL_at a45 rfl ?_)
        exact hG (k2, all ++ [c], o5, need2) s5 ⟨e24.tr e5, (a2.mono (e34.view (by simp))).mono (e5.view (by simp)), g2.snoc he, b5, hn c k2 he⟩ (by simp; omega)
    refine bif_dec (fun h5 => ?_) (fun h5 => ?_)
    · have h5' : all.length = 5 := by omega
      rcases f2 with ⟨f1, f3, f4⟩ | ⟨f1, -⟩
      case inr => omega
      rw [h5'] at f4
      simp only [Nat.sub_self, rdN, frame1] at f4
      refine rGet_ok b2.ls (by omega) (by omega) ?_
      have hbd := getI_bd all 1 4
      refine bif_dec (fun h6 => ?_) (fun h6 => ?_)
      · rw [if_pos h6] at f4
        exact err f4 e2 a2
      rw [if_neg h6] at f4
      rw [w64_id (n := getI all 1 4) (by omega) (by omega), w64_id (n := 9 + getI all 1 4) (by omega) (by omega)]
      obtain ⟨n, hn⟩ := Int.eq_ofNat_of_zero_le hbd.1
      rw [hn] at f4 h6 ⊢
      have hnn : 9 + (n : Int) = ((9 + n : Nat) : Int) := by omega
      rw [hnn]
      rw [Int.toNat_natCast, show 4 + n = (3 + n) + 1 by omega] at f4
      refine step (9 + n) (fun x => match rdN b (3 + n) x.2 (all ++ [x.1]) with | .error e => .error e | .ok x => frame2 b i x.1 x.2) (by omega) ?_ fun c k2 hc => ?_
      · rw [f4]; simp only [rdN]
        cases rd b k <;> rfl
      · refine .inr ⟨by simp; omega, by rw [getI_snoc (by omega), hn]; omega, by rw [getI_snoc (by omega), hn]; omega, by simp; omega, ?_⟩
        rw [f4]; simp only [rdN, hc]
        rw [List.length_append, List.length_singleton, h5', show 9 + n - (5 + 1) = 3 + n by omega]
        all_goals rfl
    · rcases f2 with ⟨f1, f3, f4⟩ | ⟨f1, f3, f5, f6, f4⟩
      · have h6 : all.length < 5 := by omega
        obtain ⟨m, hm⟩ : ∃ m, 5 - all.length = m + 1 := ⟨4 - all.length, by omega⟩
        rw [hm] at f4
        refine step need (fun x => match rdN b m x.2 (all ++ [x.1]) with | .error e => .error e | .ok x => frame1 b i x.1 x.2) (by omega) ?_ fun c k2 hc => ?_
        · rw [f4]; simp only [rdN]
          cases rd b k <;> rfl
        · refine .inl ⟨by simp; omega, f3, ?_⟩
          rw [f4]; simp only [rdN, hc]
          rw [List.length_append, List.length_singleton, show 5 - (all.length + 1) = m by omega]
      · obtain ⟨m, hm⟩ : ∃ m, need - all.length = m + 1 := ⟨need - all.length - 1, by omega⟩
        rw [hm] at f4
        refine step need (fun x => match rdN b m x.2 (all ++ [x.1]) with | .error e => .error e | .ok x => frame2 b i x.1 x.2) (by omega) ?_ fun c k2 hc => ?_
        · rw [f4]; simp only [rdN]
          cases rd b k <;> rfl
        · refine .inr ⟨by simp; omega, by rw [getI_snoc (by omega)]; exact f3, by rw [getI_snoc (by omega)]; exact f5, by simp; omega, ?_⟩
          rw [f4]; simp only [rdN, hc]
          rw [List.length_append, List.length_singleton, show need - (all.length + 1) = m by omega]
  · rcases f2 with ⟨f1, f3, f4⟩ | ⟨f1, f3, f5, f6, f4⟩
    · omega
    have hal : all.length = need := by omega
    rw [hal, Nat.sub_self] at f4
    simp only [rdN, frame2] at f4
    have hbd := getI_bd all 1 4
    refine ixL_rule b2.ls (by omega) (by omega) fun bx0 ox0 x0 hx0 hel0 => ?_
    obtain ⟨vs, rfl, hat0⟩ := hel0
    refine ldI_at0 hat0 rfl ?_
    have hx0l := x0.toNat_lt
    rw [w64_id (n := (x0.toNat : Int)) (by omega) (by omega)]
    have eB : (all.take ((o.len : Nat) : Int).toNat).drop (9 : Int).toNat = all.drop 9 := by rw [Int.toNat_natCast, hol, List.take_of_length_le (Nat.le_refl _)]; rfl
    refine slL_rule b2.ls (by omega) (by omega) (by omega) (by omega) (Int.le_refl _) fun sB hB cB => ?_
    rw [eB] at hB
    refine rWrap_ok hB (by rw [List.length_drop]; omega) fun s3 o3 e3 l3 => ?_
    refine ldBy_rule l3 ?_
    have es3 := e2.trans (e3.n (S := [own s, own s + 1]))
    refine slL_rule (Ls.st hb es3) (by omega) (by omega) (by omega) (by omega) (by omega) fun sC hC cC => ?_
    refine ldBy_rule hC ?_
    have eC : (b.take ((k : Nat) : Int).toNat).drop ((i : Nat) : Int).toNat = (b.drop i).take (k - i) := by rw [Int.toNat_natCast, Int.toNat_natCast, List.drop_take]
    rw [eC]
    have hx00 : all[0]? = some x0 := hx0
    have heq := frame2_eq g2 hx hx00 (by omega)
    have a3 := a2.mono (e3.view (by simp))
    have hba : ((⟨(wrap x0 (all.drop 9)).toArray⟩ : ByteArray) = ⟨((b.drop i).take (k - i)).toArray⟩) ↔ wrap x0 (all.drop 9) = (b.drop i).take (k - i) := ba_inj
    refine bif_ndec (fun h6 => ?_) (fun h6 => ?_)
    · rw [if_neg (fun h => h6 (hba.2 (heq.2 h)))] at f4
      exact err f4 es3 a3
    · rw [if_pos (heq.1 (hba.1 h6))] at f4
      have b3 := b2.st e3 (by simp)
      refine ixL_rule b3.ls (by omega) (by omega) fun bx1 ox1 x1 hx1 hel1 => ?_
      obtain ⟨vs, rfl, hat1⟩ := hel1
      refine ldI_at0 hat1 rfl ?_
      have : x1 = x0 := by rw [hx0] at hx1; exact (Option.some.inj hx1).symm
      subst this
      refine slL_rule b3.ls (by omega) (by omega) (by omega) (by omega) (Int.le_refl _) fun sD hD cD => ?_
      rw [eB] at hD
      rw [w64_id (n := (x1.toNat : Int)) (by omega) (by omega), w64_id (n := (k : Int) - i) (by omega) (by omega)]
      refine frEnd a3 rfl hq0 fun s6 e6 => ?_
      have e36 : Step [own s, own s + 1] s s6 := es3.tr e6
      refine hO _ _ s6 f4 (e36.loc2 (Nat.le_refl _)) ⟨rfl, by simp only; omega, ?_, Ls.st hD e6⟩
      have : all.getD 0 0 = x1 := by rw [List.getD_eq_getElem?_getD]; rw [hx00]; rfl
      simp only [this]
end Go.Ph
end
section
set_option linter.all false
namespace Go.Ph
open S
def tFr : Ty FrM := ⟨4, fun V x vs => ∃ sl : Sl, vs = [.int .i64 x.at_, .int .i64 x.len, .int .i64 x.kind, .slice sl.a sl.len sl.cap] ∧ Ls tBy V x.pay sl, by rintro _ _ _ ⟨_, rfl, _⟩; rfl, by rintro _ _ _ _ h ⟨sl, rfl, h1⟩; exact ⟨sl, rfl, h1.mono h h⟩, by rintro _ _ _ ⟨_, rfl, _⟩; simp [one]⟩
def tGap : Ty (Int × Int) := ⟨2, fun _ x vs => vs = [.int .i64 x.1, .int .i64 x.2], by rintro _ _ _ rfl; rfl, fun _ h => h, by rintro _ _ _ rfl; simp [one]⟩
theorem FrAt.row {V : View} {f : FrM} {r : G_api_Frame} (h : FrAt V f r) : tFr.R V f [.int .i64 r.At, .int .i64 r.Len, .int .i64 r.Kind, .slice r.Payload.a r.Payload.len r.Payload.cap] :=
  ⟨r.Payload, by rw [h.at_, h.len, h.kind], h.pay⟩
structure FraOk (b : List UInt8) (i : Nat) (f : FrM) : Prop where
  at_ : f.at_ = i
  pos : 1 ≤ f.len
  in_ : i + f.len ≤ b.length
  kind : f.kind < 256
  pay : f.pay.length ≤ 65536
  le : f.pay.length ≤ f.len
theorem rdN_lt {b : List UInt8} : ∀ (n i k : Nat) (out all : List UInt8), rdN b n i out = .ok (all, k) → i + n ≤ k
  | 0, i, k, out, all, h => by cases h; omega
  | n + 1, i, k, out, all, h => by
    unfold rdN at h
    split at h
    · cases h
    · rename_i x hx
      have := (rd_ok (c := x.1) (k := x.2) hx).1
      have := rdN_lt n _ _ _ _ h
      omega
theorem frameAt_ok {b : List UInt8} {i : Nat} {f : FrM} (h : frameAt b i = .ok f) : FraOk b i f := by
  unfold frameAt at h
  split at h
  · cases h
  · rename_i c hc
    have hi : i < b.length := by
      rcases Nat.lt_or_ge i b.length with h1 | h1
      · exact h1
      · rw [List.getElem?_eq_none h1] at hc; cases hc
    split at h
    · split at h
      · cases h
      · rename_i x hx
        obtain ⟨out, k⟩ := x
        obtain ⟨g5, l5, -⟩ := Got.app (b := b) (i := i) (k := i + 1) (all := []) ⟨Nat.le_refl _, by omega, by simp [veil]⟩ hx
        unfold frame1 at h
        split at h
        · cases h
        · split at h
          · cases h
          · rename_i y hy
            obtain ⟨all, k2⟩ := y
            obtain ⟨g9, l9, -⟩ := g5.app hy
            have h1 := rdN_lt _ _ _ _ _ hx
            have h2 := rdN_lt _ _ _ _ _ hy
            have h3 := g9.len
            unfold frame2 at h
            split at h
            · cases h
              refine ⟨rfl, by simp only; omega, by simp only; omega, UInt8.toNat_lt _, ?_, ?_⟩
              · simp only [List.length_drop]; simp at l5 hy; omega
              · simp only [List.length_drop]; simp at l5 hy; omega
            · cases h
    · cases h
/-- the frames from a place on -/
def scanN (b : List UInt8) : Nat → Nat → List FrM
  | 0, _ => []
  | n + 1, i => if i < b.length then (match frameAt b i with | .error _ => scanN b n (i + 1) | .ok f => f :: scanN b n (i + f.len)) else []
theorem scanN_done {b : List UInt8} : ∀ (n i : Nat), b.length ≤ i → scanN b n i = []
  | 0, _, _ => rfl
  | n + 1, i, h => by rw [scanN, if_neg (by omega)]
def frames (b : List UInt8) : List FrM := scanN b b.length 0
theorem loc4 {a b : St} {S : List Nat} (h : Step (own a :: (own a + 1) :: (own a + 2) :: (own a + 3) :: S) a b) : Step S a b := (((h.loc).loc (by omega)).loc (by omega)).loc (by omega)
theorem Scan_ok {C : Cx} {s : St} {b : List UInt8} {sl : Sl} {K : Sl → Sl → HP} (hb : Ls tBy (s.w 0) b sl) (hbl : b.length ≤ 1000000000)
    (hK : ∀ s' o g, Step [] s s' → Ls tFr (s'.w 0) (frames b) o → K o g s'.H) : frame_Scan C sl K s.H := by
  unfold frame_Scan
  have hlen := hb.len
  have hown : own s = 1152921504606846976 + 1152921504606846976 * s.H.size := rfl
  have hq0 : own s ≠ 0 := by unfold own; omega
  refine newc_k (own s) (by unfold own; omega) fun s1 p3 n1 a1 => ?_
  have e1 := n1.step
  have hz1 := e1.sz
  refine newc_k (own s + 1) (by unfold own; omega) fun s2 p4 n2 a2 => ?_
  have e2 := n2.step
  have a12 := a1.mono (e2.view (by simp))
  have hz2 := e2.sz
  refine row_rule (own s + 1) a2 rfl (by simp [one]) (by omega) (.inl rfl) fun s3 e3 z3 a3 _ => ?_
  have a13 := a12.mono (e3.view (by simp))
  have es3 : Step [own s, own s + 1, own s + 2, own s + 3] s s3 := (e1.trans e2).n.tr e3 (A := []) 
  intro f hf
  have shut : ∀ (s' : St) (fr to : Int) (g : Sl) (gs : List (Int × Int)) (K' : Value → HP), s.H.size ≤ s'.H.size → At (s'.w (own s)) p3 0 [.slice g.a g.len g.cap] → At (s'.w (own s + 1)) p4 0 [.int .i64 fr] → Bld tGap (own s + 2) s' gs g → gs.length ≤ 1000000000 →
      (∀ s'' g' gs', Step [own s, own s + 2] s' s'' → At (s''.w (own s)) p3 0 [.slice g'.a g'.len g'.cap] → Bld tGap (own s + 2) s'' gs' g' → gs'.length ≤ gs.length + 1 → K' (.tuple #[]) s''.H) → C.ap f [.int .i64 to] K' s'.H := fun s' fr to g gs K' hz ha ha4 hg hgl hk => by
    refine hf _ _ _ ?_
    show frame_Scan_1 to (at0 p4) (at0 p3) (K' (.tuple #[])) s'.H
    unfold frame_Scan_1
    refine ldI_at0 ha4 rfl ?_
    refine bif_rule (fun _ => ?_) (fun _ => ?_)
    · refine ldL_at0 ha rfl ?_
      refine ldI_at0 ha4 rfl ?_
      refine app1_rule (fr, to) hg rfl (fun s5 o5 e5 b5 => ?_) rfl rfl (by omega) (by omega) (by omega) (by omega)
      refine row_rule (own s) (ha.mono (e5.view (by simp))) rfl (by simp [one]) hq0 (.inl rfl) fun s6 e6 z6 a6 _ => ?_
      exact hk s6 o5 _ (e5.tr e6) a6 (b5.st e6 (by simp)) (by simp)
    · exact hk s' g gs Step.refl ha hg (by omega)
  refine loop_rule (ι := Nat × List FrM × Sl) (fun x => [.slice x.2.2.a x.2.2.len x.2.2.cap, .int .i64 x.1])
    (fun x s' => Step [own s, own s + 1, own s + 2, own s + 3] s s' ∧ x.1 ≤ b.length ∧ x.2.1.length ≤ x.1 ∧ Bld tFr (own s + 3) s' x.2.1 x.2.2 ∧ (∃ n, b.length - x.1 ≤ n ∧ x.2.1 ++ scanN b n x.1 = frames b) ∧ ∃ (fr : Int) (g : Sl) (gs : List (Int × Int)), At (s'.w (own s)) p3 0 [.slice g.a g.len g.cap] ∧ At (s'.w (own s + 1)) p4 0 [.int .i64 fr] ∧ Bld tGap (own s + 2) s' gs g ∧ gs.length ≤ x.1)
    (fun x _ => b.length - x.1) (0, [], ⟨none, 0, 0⟩) rfl ⟨es3, Nat.zero_le _, Nat.le_refl _, Bld.nil, ⟨b.length, by simp only; omega, rfl⟩, 0, ⟨none, 0, 0⟩, [], a13, a3, Bld.nil, Nat.le_refl _⟩ ?_
  rintro ⟨i, acc, o⟩ s4 ⟨e4, hi, hal, b4, ⟨n, hn, hsc⟩, fr, g, gs, ap3, ap4, bg, hgl⟩ G hG
  simp only at hi hal b4 hn hsc hgl
  have hz4 := e4.sz
  simp only [List.getD_cons_zero, List.getD_cons_succ, asI_v, asL_v, asS_v, asB_v, asM_v, asP_v]
  refine bif_dec (fun hlt => ?_) (fun hlt => ?_)
  · have hi' : i < b.length := by omega
    obtain ⟨m, rfl⟩ : ∃ m, n = m + 1 := ⟨n - 1, by omega⟩
    rw [scanN, if_pos hi'] at hsc
    refine At_ok (Ls.st hb e4) hbl hi' ?_ ?_
    · intro e fr' s5 he hne e5
      rw [he] at hsc
      refine newc_sts rfl (by simp [one]) fun s6 p6 e6 a6 => ?_
      refine bif_ndec (fun _ => ?_) (fun h => absurd h hne)
      rw [w64_id (by omega) (by omega)]
      have e56 := e5.trans e6
      exact hG (i + 1, acc, o) s6 ⟨e4.trans e56.n, hi', by simp only; omega, b4.st e56 (by simp), ⟨m, by simp only; omega, hsc⟩, fr, g, gs, ap3.mono (e56.view (by simp)), ap4.mono (e56.view (by simp)), bg.st e56 (by simp), by simp only; omega⟩ (by simp only; omega)
    · intro f1 fr' s5 he e5 hfr
      have fo := frameAt_ok he
      have fo1 := fo.pos
      have fo2 := fo.in_
      rw [he] at hsc
      refine newc_sts rfl (by simp [one]) fun s6 p6 e6 a6 => ?_
      refine bif_ndec (fun h => absurd rfl h) (fun _ => ?_)
      have e56 := e5.trans e6
      have hz6 := e56.sz
      refine shut s6 fr i g gs _ (by omega) (ap3.mono (e56.view (by simp))) (ap4.mono (e56.view (by simp))) (bg.st e56 (by simp)) (by omega) fun s7 g7 gs7 e7 a7 b7 l7 => ?_
      have a67 := a6.mono e7.v0
      have hz7 := e7.sz
      have b47 := (b4.st e56 (by simp)).st e7 (by simp)
      unfold ld_G_api_Frame
      repeat (first|refine nn_at ?_|refine ldI_at a67 rfl ?_|refine ldB_at a67 rfl ?_|refine ldS_at a67 rfl ?_|refine ldP_at a67 rfl ?_|refine ldM_at a67 rfl ?_|refine ldL_at a67 rfl ?_)
      have hrow : tFr.R (s7.w 0) f1 [.int .i64 fr'.At, .int .i64 fr'.Len, .int .i64 fr'.Kind, .slice fr'.Payload.a fr'.Payload.len fr'.Payload.cap] := ((hfr.st e6).st e7).row
      refine app1_rule f1 b47 hrow (fun s8 o8 e8 b8 => ?_) rfl rfl (by omega) (by omega) (by omega) (by omega)
      have a68 := a67.mono e8.v0
      repeat (first|refine nn_at ?_|refine ldI_at a68 rfl ?_|refine ldB_at a68 rfl ?_|refine ldS_at a68 rfl ?_|refine ldP_at a68 rfl ?_|refine ldM_at a68 rfl ?_|refine ldL_at a68 rfl ?_)
      rw [hfr.len, w64_id (by omega) (by omega)]
      have ap47 := ((ap4.mono (e56.view (by simp))).mono (e7.view (by simp))).mono (e8.view (by simp))
      refine row_rule (own s + 1) ap47 rfl (by simp [one]) (by omega) (.inl rfl) fun s9 e9 z9 a9 _ => ?_
      have hG' := hG (i + f1.len, acc ++ [f1], o8) s9
      rw [show ((i : Int) + (f1.len : Nat)) = ((i + f1.len : Nat) : Int) by omega]
      refine hG' ⟨?_, fo2, by simp; omega, b8.st e9 (by simp), ⟨m, by simp only; omega, by simpa using hsc⟩, _, g7, gs7, (a7.mono (e8.view (by simp))).mono (e9.view (by simp)), a9, (b7.st e8 (by simp)).st e9 (by simp), by simp only; omega⟩ (by simp only; omega)
      have q1 : Step [own s, own s + 1, own s + 2, own s + 3] s s6 := e4.trans e56.n
      have q2 : Step [own s, own s + 1, own s + 2, own s + 3] s s7 := q1.tr e7
      have q3 : Step [own s, own s + 1, own s + 2, own s + 3] s s8 := q2.tr e8
      exact q3.tr e9
  · have : i = b.length := by omega
    subst this
    rw [scanN_done n _ (Nat.le_refl _), List.append_nil] at hsc
    subst hsc
    refine shut s4 fr _ g gs _ (by omega) ap3 ap4 bg (by omega) fun s7 g7 gs7 e7 a7 b7 l7 => ?_
    have q2 : Step [own s, own s + 1, own s + 2, own s + 3] s s7 := e4.tr e7
    refine ldL_at0 a7 rfl ?_
    refine row_rule (own s) a7 rfl (by simp [one]) hq0 (.inl rfl) fun s9 e9 z9 a9 _ => ?_
    refine ldL_at0 a9 rfl ?_
    have q3 : Step [own s, own s + 1, own s + 2, own s + 3] s s9 := q2.tr e9
    exact hK s9 _ g7 (loc4 q3) (((b4.st e7 (by simp)).st e9 (by simp)).ls)
end Go.Ph
end
section
set_option linter.all false
namespace Go.Ph
open S
theorem Bld.none_ {α : Type} {t : Ty α} {q : Nat} {s : St} {b : Nat} : Bld t q s [] ⟨some (at0 b), 0, 0⟩ :=
  ⟨⟨rfl, Nat.le_refl _, fun h => (by cases h), fun a e => by simp at e; subst e; exact ⟨rfl, fun j y hj => by simp at hj⟩⟩, fun a ha i h1 h2 => by simp at h2⟩
theorem rScan_ok {s : St} {b : List UInt8} {sl : Sl} {K : G_rf03_Found → HP} (hb : Ls tBy (s.w 0) b sl) (hbl : b.length ≤ 1000000000)
    (hK : ∀ s' o g, Step [] s s' → Ls tFr (s'.w 0) (frames b) o → K ⟨o, g⟩ s'.H) : rf03_Scan sl K s.H := by
  unfold rf03_Scan
  have hlen := hb.len
  have hown : own s = 1152921504606846976 + 1152921504606846976 * s.H.size := rfl
  have hq0 : own s ≠ 0 := by unfold own; omega
  refine newc_k (own s) (by unfold own; omega) fun s1 p2 n1 a1 => ?_
  have e1 := n1.step
  have hz1 := e1.sz
  refine newc_k (own s + 1) (by unfold own; omega) fun s2 p3 n2 a2 => ?_
  have e2 := n2.step
  have a12 := a1.mono (e2.view (by simp))
  have hz2 := e2.sz
  refine row_rule (own s + 1) a2 rfl (by simp [one]) (by omega) (.inl rfl) fun s3 e3 z3 a3 _ => ?_
  have a13 := a12.mono (e3.view (by simp))
  have es3 : Step [own s, own s + 1, own s + 2, own s + 3] s s3 := (e1.trans e2).n.tr e3 (A := []) 
  refine loop_rule (ι := Nat × List FrM) (fun x => [.int .i64 x.1])
    (fun x s' => Step [own s, own s + 1, own s + 2, own s + 3] s s' ∧ x.1 ≤ b.length ∧ x.2.length ≤ x.1 ∧ (∃ n, b.length - x.1 ≤ n ∧ x.2 ++ scanN b n x.1 = frames b) ∧ At (s'.w (own s)) p2 0 [.slice none 0 0, .slice none 0 0] ∧ ∃ (o g : Sl) (gs : List (Int × Int)), At (s'.w (own s + 1)) p3 0 [.slice o.a o.len o.cap, .slice g.a g.len g.cap] ∧ Bld tFr (own s + 2) s' x.2 o ∧ Bld tGap (own s + 3) s' gs g ∧ gs.length ≤ x.1)
    (fun x _ => b.length - x.1) (0, []) rfl ⟨es3, Nat.zero_le _, Nat.le_refl _, ⟨b.length, by simp only; omega, rfl⟩, a13, ⟨none, 0, 0⟩, ⟨none, 0, 0⟩, [], a3, Bld.nil, Bld.nil, Nat.le_refl _⟩ ?_
  rintro ⟨i, acc⟩ s4 ⟨e4, hi, hal, ⟨n, hn, hsc⟩, ap2, o, g, gs, ap3, b4, bg, hgl⟩ G hG
  simp only at hi hal b4 hn hsc hgl
  have hz4 := e4.sz
  simp only [List.getD_cons_zero, List.getD_cons_succ, asI_v, asL_v, asS_v, asB_v, asM_v, asP_v]
  refine bif_dec (fun hlt => ?_) (fun hlt => ?_)
  · have hi' : i < b.length := by omega
    obtain ⟨m, rfl⟩ : ∃ m, n = m + 1 := ⟨n - 1, by omega⟩
    rw [scanN, if_pos hi'] at hsc
    refine rAt_ok (Ls.st hb e4) hbl hi' ?_ ?_
    · intro e s5 he hne e5
      rw [he] at hsc
      refine newc_sts rfl (by simp [one]) fun s6 p6 e6 a6 => ?_
      refine bif_dec (fun h => absurd h hne) (fun _ => ?_)
      have e56 := e5.trans e6
      have hz6 := e56.sz
      have bp2 := ap2.mono (e56.view (by simp))
      have bp3 := ap3.mono (e56.view (by simp))
      have cg := bg.st e56 (by simp)
      have cb := b4.st e56 (by simp)
      have e06 : Step [own s, own s + 1, own s + 2, own s + 3] s s6 := e4.trans e56.n
      have hgsl := cg.ls.len
      have hgsc := cg.ls.cap
      have next : ∀ s' (g' : Sl) (gs' : List (Int × Int)), Step [own s + 1, own s + 3] s6 s' → At (s'.w (own s + 1)) p3 0 [.slice o.a o.len o.cap, .slice g'.a g'.len g'.cap] → Bld tGap (own s + 3) s' gs' g' → gs'.length ≤ i + 1 → rf03_Scan_j2 sl p2 p3 i K G s'.H := fun s' g' gs' es ha hgb hgl' => by
        unfold rf03_Scan_j2
        rw [w64_id (by omega) (by omega)]
        exact hG (i + 1, acc) s' ⟨e06.tr es, hi', by simp only; omega, ⟨m, by simp only; omega, hsc⟩, bp2.mono (es.view (by simp)), o, g', gs', ha, cb.st es (by simp), hgb, hgl'⟩ (by simp only; omega)
      have wr3 : ∀ s' (g' : Sl) (gs' : List (Int × Int)), Step [own s + 3] s6 s' → Bld tGap (own s + 3) s' gs' g' → gs'.length ≤ i + 1 → sts ((at0 p3).add 1) 0 [.slice g'.a g'.len g'.cap] (rf03_Scan_j2 sl p2 p3 i K G) s'.H := fun s' g' gs' es hgb hgl' => by
        have ha := bp3.mono (es.view (by simp))
        refine fld_rule ha (by simp) rfl (by omega) (fun s7 e7 z7 a7 _ => ?_)
        exact next s7 g' gs' (es.tr e7) a7 (hgb.st e7 (by simp)) hgl'
      have no : rf03_Scan_j1 sl p2 p3 i g.len false K G s6.H := by
        unfold rf03_Scan_j1
        refine bif_f ?_
        refine ldL_at bp3 rfl ?_
        rw [w64_id (by omega) (by omega)]
        refine app1_rule ((i : Int), (i : Int) + 1) cg rfl (fun s7 o7 e7 b7 => ?_) rfl rfl (by omega) (by omega) (by omega) (by omega)
        exact wr3 s7 o7 _ e7 b7 (by simp; omega)
      repeat (first|refine nn_at ?_|refine ldI_at bp3 rfl ?_|refine ldB_at bp3 rfl ?_|refine ldS_at bp3 rfl ?_|refine ldP_at bp3 rfl ?_|refine ldM_at bp3 rfl ?_|refine ldL_at bp3 rfl ?_)
      refine bif_dec (fun h0 => ?_) (fun h0 => ?_)
      case refine_2 => exact no
      · repeat (first|refine nn_at ?_|refine ldI_at bp3 rfl ?_|refine ldB_at bp3 rfl ?_|refine ldS_at bp3 rfl ?_|refine ldP_at bp3 rfl ?_|refine ldM_at bp3 rfl ?_|refine ldL_at bp3 rfl ?_)
        have hgpos : 0 < gs.length := by omega
        rw [w64_id (n := ((g.len : Nat) : Int) - 1) (by omega) (by omega)]
        refine ixL_rule cg.ls (by omega) (by omega) fun bx ox x hx hel => ?_
        obtain ⟨vs, rfl, hat⟩ := hel
        refine ldI_at hat rfl ?_
        by_cases hxi : x.2 = (i : Int)
        · rw [decide_eq_true hxi]
          unfold rf03_Scan_j1
          refine bif_t ?_
          refine ldL_at bp3 rfl ?_
          rw [w64_id (n := ((g.len : Nat) : Int) - 1) (by omega) (by omega)]
          refine ixL_rule cg.ls (by omega) (by omega) fun bx2 ox2 x2 hx2 hel2 => ?_
          obtain ⟨vs, rfl, hat2⟩ := hel2
          refine ldI_at hat2 rfl ?_
          refine newc_sts rfl (by simp [one]) fun s7 p8 e7 a8 => ?_
          have bp37 := bp3.mono (e7.view (by simp))
          have cg7 := cg.st e7 (by simp)
          have hz7 := e7.sz
          refine ldL_at bp37 rfl ?_
          refine slL_rule cg7.ls (by omega) (by omega) (by omega) (by omega) (Int.le_refl _) fun sB hB cB => ?_
          generalize hts : (gs.take (((g.len : Nat) : Int) - 1).toNat).drop (0 : Int).toNat = ts at *
          have htl : ts.length + 1 ≤ i := by rw [← hts]; simp; omega
          unfold ld_G_api_Gap
          repeat (first|refine nn_at ?_|refine ldI_at a8 rfl ?_|refine ldB_at a8 rfl ?_|refine ldS_at a8 rfl ?_|refine ldP_at a8 rfl ?_|refine ldM_at a8 rfl ?_|refine ldL_at a8 rfl ?_)
          have H3 : ∀ {s'}, Step [own s + 3] s7 s' → At (s'.w (own s + 1)) p3 0 [.slice o.a o.len o.cap, .slice g.a g.len g.cap] := fun e => bp37.mono (e.view (by simp))
          have h60 : ∀ {s'}, Step [own s + 3] s7 s' → (ldL ((at0 p3).add 1) fun t _ => Value.slice t.a t.len t.cap = Value.slice g.a g.len g.cap) s'.H := fun e => ldL_at (H3 e) rfl rfl
          have h65 : ∀ {s'}, Step [own s + 3] s7 s' → (ldI .i64 ((at0 p8).add 0) fun x0 => ldI .i64 ((at0 p8).add 1) fun x1 => fun _ => Value.agg #[.int .i64 x0, .int .i64 x1] = Value.agg #[.int .i64 x2.1, .int .i64 (w64 ((i : Int) + 1))]) s'.H := fun e => by
            have := a8.mono e.v0
            refine ldI_at this rfl ?_
            refine ldI_at this rfl ?_
            rfl
          have n0 : ∀ {s' : St} {cs : Array Value} {K' : Nat → HP}, Step [own s + 3] s7 s' → (∀ s'' b, Step [own s + 3] s7 s'' → Step [] s' s'' → At (s''.w 0) b 0 cs.toList → K' b s''.H) → newc cs K' s'.H := fun e hk => newc_0 fun s'' b n' a' => hk s'' b (e.tr n'.step) n'.step a'
          have A64 : ∀ {s' : St} {b : Nat} {K' : Sl → HP}, Step [own s + 3] s7 s' → (∀ s'' o'', Step [own s + 3] s7 s'' → Step [own s + 3] s' s'' → Bld tGap (own s + 3) s'' ts o'' → K' o'' s''.H) → app 2 16 #[.int .i64 0, .int .i64 0] (⟨some (at0 b), 0, 0⟩ : Sl) sB K' s'.H := fun {s' b K'} e hk => by
            have hz := e.sz
            refine app_rule (q := own s + 3) Bld.none_ (Ls.st hB e) (fun s'' o'' e'' b'' => hk s'' o'' (e.trans e'') e'' (by simpa using b'')) rfl rfl (by simp; omega) (by simp; omega) (by omega) (by omega)
          have fin : ∀ {s' : St} {b : Nat} {o' : Sl}, Step [own s + 3] s7 s' → Bld tGap (own s + 3) s' ts o' → At (s'.w 0) b 0 [.int .i64 x2.1, .int .i64 (w64 ((i : Int) + 1))] → app 2 16 #[.int .i64 0, .int .i64 0] o' (⟨some (at0 b), 1, 1⟩ : Sl) (fun t => sts ((at0 p3).add 1) 0 [.slice t.a t.len t.cap] (rf03_Scan_j2 sl p2 p3 i K G)) s'.H := fun {s' b o'} e hb ha => by
            have hz := e.sz
            refine app_rule hb (Ls.single (x := (x2.1, w64 ((i : Int) + 1))) rfl ha) (fun s'' o'' e'' b'' => ?_) rfl rfl (by simp; omega) (by simp; omega) (by omega) (by omega)
            exact wr3 s'' o'' _ ((e7.n.trans e).trans e'') b'' (by simp; omega)
          refine both_rule ?_ ?_
          · refine n0 Step.refl fun s8 p58 e8 _ _ => ?_
            refine held_rule (h60 e8) ?_
            refine held_rule (h65 e8) ?_
            refine both_rule ?_ ?_
            · refine A64 e8 fun s9 o9 e9 _ b9 => ?_
              refine held_rule (h65 e9) ?_
              refine n0 e9 fun s10 p66 e10 f10 a10 => ?_
              refine held_rule (h60 e10) ?_
              exact fin e10 (b9.st f10 (by simp)) a10
            · refine n0 e8 fun s9 p66 e9 _ a9 => ?_
              refine held_rule (h60 e9) ?_
              refine A64 e9 fun s10 o10 e10 f10 b10 => ?_
              refine held_rule (h65 e10) ?_
              exact fin e10 b10 (a9.mono f10.v0)
          · refine n0 Step.refl fun s8 p66 e8 _ a66 => ?_
            refine held_rule (h60 e8) ?_
            refine n0 e8 fun s9 p58 e9 f9 _ => ?_
            refine held_rule (h60 e9) ?_
            refine held_rule (h65 e9) ?_
            refine A64 e9 fun s10 o10 e10 f10 b10 => ?_
            refine held_rule (h65 e10) ?_
            exact fin e10 b10 ((a66.mono f9.v0).mono f10.v0)
        · rw [decide_eq_false hxi]
          exact no
    · intro f1 fr' s5 he e5 hfr
      have fo := frameAt_ok he
      have fo1 := fo.pos
      have fo2 := fo.in_
      rw [he] at hsc
      refine newc_sts rfl (by simp [one]) fun s6 p6 e6 a6 => ?_
      refine bif_dec (fun _ => ?_) (fun h => absurd rfl h)
      have e56 := e5.trans e6
      have hz6 := e56.sz
      have bp3 := ap3.mono (e56.view (by simp))
      refine ldL_at bp3 rfl ?_
      unfold ld_G_api_Frame
      repeat (first|refine nn_at ?_|refine ldI_at a6 rfl ?_|refine ldB_at a6 rfl ?_|refine ldS_at a6 rfl ?_|refine ldP_at a6 rfl ?_|refine ldM_at a6 rfl ?_|refine ldL_at a6 rfl ?_)
      have hrow : tFr.R (s6.w 0) f1 [.int .i64 fr'.At, .int .i64 fr'.Len, .int .i64 fr'.Kind, .slice fr'.Payload.a fr'.Payload.len fr'.Payload.cap] := (hfr.st e6).row
      refine app1_rule f1 (b4.st e56 (by simp)) hrow (fun s8 o8 e8 b8 => ?_) rfl rfl (by omega) (by omega) (by omega) (by omega)
      have a68 := a6.mono e8.v0
      have bp38 := bp3.mono (e8.view (by simp))
      refine fld_rule bp38 (by simp) rfl (by omega) (fun s9 e9 z9 a9 _ => ?_)
      have a69 := a68.mono e9.v0
      repeat (first|refine nn_at ?_|refine ldI_at a69 rfl ?_|refine ldB_at a69 rfl ?_|refine ldS_at a69 rfl ?_|refine ldP_at a69 rfl ?_|refine ldM_at a69 rfl ?_|refine ldL_at a69 rfl ?_)
      rw [hfr.len, w64_id (by omega) (by omega)]
      have hG' := hG (i + f1.len, acc ++ [f1]) s9
      rw [show ((i : Int) + (f1.len : Nat)) = ((i + f1.len : Nat) : Int) by omega]
      refine hG' ⟨?_, fo2, by simp; omega, ⟨m, by simp only; omega, by simpa using hsc⟩, ((ap2.mono (e56.view (by simp))).mono (e8.view (by simp))).mono (e9.view (by simp)), o8, g, gs, a9, b8.st e9 (by simp), (((bg.st e56 (by simp)).st e8 (by simp)).st e9 (by simp)), by simp only; omega⟩ (by simp only; omega)
      have q1 : Step [own s, own s + 1, own s + 2, own s + 3] s s6 := e4.trans e56.n
      have q3 : Step [own s, own s + 1, own s + 2, own s + 3] s s8 := q1.tr e8
      exact q3.tr e9
  · have : i = b.length := by omega
    subst this
    rw [scanN_done n _ (Nat.le_refl _), List.append_nil] at hsc
    subst hsc
    unfold ld_G_rf03_Found
    repeat (first|refine nn_at ?_|refine ldI_at ap3 rfl ?_|refine ldB_at ap3 rfl ?_|refine ldS_at ap3 rfl ?_|refine ldP_at ap3 rfl ?_|refine ldM_at ap3 rfl ?_|refine ldL_at ap3 rfl ?_)
    refine row_rule (own s) ap2 rfl (by simp [one]) hq0 (.inl rfl) fun s9 e9 z9 a9 _ => ?_
    repeat (first|refine nn_at ?_|refine ldI_at a9 rfl ?_|refine ldB_at a9 rfl ?_|refine ldS_at a9 rfl ?_|refine ldP_at a9 rfl ?_|refine ldM_at a9 rfl ?_|refine ldL_at a9 rfl ?_)
    have q3 : Step [own s, own s + 1, own s + 2, own s + 3] s s9 := e4.tr e9
    exact hK s9 o g (loc4 q3) ((b4.st e9 (by simp)).ls)
end Go.Ph
end

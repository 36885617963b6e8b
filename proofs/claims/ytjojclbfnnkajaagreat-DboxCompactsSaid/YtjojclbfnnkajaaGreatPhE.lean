/- Parts of the proof that pigeonholelaw18.DboxCompacts returns true at every input and leaves the input as it was: each function of the program runs as its words say. -/
import Derived.Test.YtjojclbfnnkajaaGreatPhB
import Derived.Test.YtjojclbfnnkajaaGreatPhF
import Derived.KernelRfl
import Derived.Test.YtjojclbfnnkajaaGreatProg
section
set_option linter.all false
set_option maxRecDepth 100000
set_option maxHeartbeats 2000000
namespace Go.Proofs
open Go.Ph Go.Ph.S
def aV : aA := { plan := fun _ => .done, spec := fun _ => ⟨[], 0⟩, iter := fun _ => none }
theorem ar {xs : List Value} {n : Nat} {K : HP} {H : aP} (h : arity xs n K H) : xs = (List.range n).map (fun i => xs.getD i undef) ∧ K H := by
 obtain ⟨hl, h⟩ := mj h
 have ea := jM xs
 rw [hl] at ea
 exact ⟨ea, h⟩
theorem ar0 {xs : List Value} {K : HP} {H : aP} (h : arity xs 0 K H) : xs = [] ∧ K H := ar h
theorem bJ {xs : List Value} {K : HP} {H : aP} (h : arity xs 1 K H) : xs = [xs.getD 0 undef] ∧ K H := ar h
theorem bh {xs : List Value} {K : HP} {H : aP} (h : arity xs 2 K H) : xs = [xs.getD 0 undef, xs.getD 1 undef] ∧ K H := ar h
theorem fy {xs : List Value} {K : HP} {H : aP} (h : arity xs 3 K H) : xs = [xs.getD 0 undef, xs.getD 1 undef, xs.getD 2 undef] ∧ K H := ar h
theorem ar4 {xs : List Value} {K : HP} {H : aP} (h : arity xs 4 K H) : xs = [xs.getD 0 undef, xs.getD 1 undef, xs.getD 2 undef, xs.getD 3 undef] ∧ K H := ar h
theorem ar5 {xs : List Value} {K : HP} {H : aP} (h : arity xs 5 K H) : xs = [xs.getD 0 undef, xs.getD 1 undef, xs.getD 2 undef, xs.getD 3 undef, xs.getD 4 undef] ∧ K H := ar h
theorem ZQ {xs : List Value} {K : HP} {H : aP} (h : arity xs 6 K H) : xs = [xs.getD 0 undef, xs.getD 1 undef, xs.getD 2 undef, xs.getD 3 undef, xs.getD 4 undef, xs.getD 5 undef] ∧ K H := ar h
theorem ar7 {xs : List Value} {K : HP} {H : aP} (h : arity xs 7 K H) : xs = [xs.getD 0 undef, xs.getD 1 undef, xs.getD 2 undef, xs.getD 3 undef, xs.getD 4 undef, xs.getD 5 undef, xs.getD 6 undef] ∧ K H := ar h
theorem ar8 {xs : List Value} {K : HP} {H : aP} (h : arity xs 8 K H) : xs = [xs.getD 0 undef, xs.getD 1 undef, xs.getD 2 undef, xs.getD 3 undef, xs.getD 4 undef, xs.getD 5 undef, xs.getD 6 undef, xs.getD 7 undef] ∧ K H := ar h
theorem ar9 {xs : List Value} {K : HP} {H : aP} (h : arity xs 9 K H) : xs = [xs.getD 0 undef, xs.getD 1 undef, xs.getD 2 undef, xs.getD 3 undef, xs.getD 4 undef, xs.getD 5 undef, xs.getD 6 undef, xs.getD 7 undef, xs.getD 8 undef] ∧ K H := ar h
theorem agL {xs : List Value} {K : HP} {H : aP} (h : arity xs 10 K H) : xs = [xs.getD 0 undef, xs.getD 1 undef, xs.getD 2 undef, xs.getD 3 undef, xs.getD 4 undef, xs.getD 5 undef, xs.getD 6 undef, xs.getD 7 undef, xs.getD 8 undef, xs.getD 9 undef] ∧ K H := ar h
theorem agJ {xs : List Value} {K : HP} {H : aP} (h : arity xs 11 K H) : xs = [xs.getD 0 undef, xs.getD 1 undef, xs.getD 2 undef, xs.getD 3 undef, xs.getD 4 undef, xs.getD 5 undef, xs.getD 6 undef, xs.getD 7 undef, xs.getD 8 undef, xs.getD 9 undef, xs.getD 10 undef] ∧ K H := ar h
theorem mixed : Tryz.prog.follows .mixedOrders = true := by kernel_rfl
def Tq : Entry Tryz.prog := afL Tryz.func85 (by decide) rfl rfl rfl
def WG : Entry Tryz.prog := QI Tryz.func128 (by decide) rfl rfl rfl rfl Tryz.underlying43
def Vr : Entry Tryz.prog := Qo Tryz.func170 (by decide) rfl rfl rfl
def Fo : aA := aV
def aaH : ax Tryz.prog := ⟨[Vr], aD⟩
theorem aex : aF Tryz.prog Fo Tryz.f129 2 = true := by kernel_rfl
theorem aaS (p0 : ByteArray) (p1 : Int) (K : Value → HP) : aE Tryz.prog aaH Fo Tryz.f129 [.string p0, .int .u8 p1] K = S.yq p0 p1 (fun r0 => K (.int .i64 r0)) := by kernel_rfl
def Wm : Entry Tryz.prog := ⟨129, S.afo, fun xs K w h => by
 obtain ⟨eb, h⟩ := bh h
 obtain ⟨p0, e0, h⟩ := cw h
 obtain ⟨p1, e1, h⟩ := aU h
 rw [e0, e1] at eb
 subst eb
 exact aG mixed Tryz.func129 aex Tryz.call129 rfl (by rw [aaS]; exact h)⟩
def Hf : aA := aV
def aaJ : ax Tryz.prog := ⟨[Wm], aD⟩
theorem ab1 : aF Tryz.prog Hf Tryz.f84 2 = true := by kernel_rfl
theorem x84 (p0 : ByteArray) (p1 : Int) (K : Value → HP) : aE Tryz.prog aaJ Hf Tryz.f84 [.string p0, .int .u8 p1] K = S.vB p0 p1 (fun r0 => K (.int .i64 r0)) := by kernel_rfl
def E84 : Entry Tryz.prog := ⟨84, S.adK, fun xs K w h => by
 obtain ⟨eb, h⟩ := bh h
 obtain ⟨p0, e0, h⟩ := cw h
 obtain ⟨p1, e1, h⟩ := aU h
 rw [e0, e1] at eb
 subst eb
 exact aG mixed Tryz.func84 ab1 Tryz.call84 rfl (by rw [x84]; exact h)⟩
def I1 : aA := { plan := fun _ => .done, spec := fun c => bif Nat.beq c 0 then ⟨[(6, .ii .i64)], 97⟩ else ⟨[], 0⟩, iter := fun _ => none }
def N1 : ax Tryz.prog := ⟨[E84], aD⟩
theorem abr : aF Tryz.prog I1 Tryz.f35 1 = true := by kernel_rfl
theorem Zu (p0 : ByteArray) (K : Value → HP) : aE Tryz.prog N1 I1 Tryz.f35 [.string p0] K = S.nO p0 (fun r0 => K (.bool r0)) := by kernel_rfl
def BD : Entry Tryz.prog := ⟨35, S.aeR, fun xs K w h => by
 obtain ⟨eb, h⟩ := bJ h
 obtain ⟨p0, e0, h⟩ := cw h
 rw [e0] at eb
 subst eb
 exact aG mixed Tryz.func35 abr Tryz.call35 rfl (by rw [Zu]; exact h)⟩
def I0 : aA := { plan := fun _ => .done, spec := fun c => bif Nat.beq c 0 then ⟨[(3, .ii .i64)], 16393⟩ else ⟨[], 0⟩, iter := fun t => bif Nat.beq t 14 then some (9, 3) else none }
def Sb : ax Tryz.prog := ⟨[], aD⟩
theorem OT : aF Tryz.prog I0 Tryz.f36 1 = true := by kernel_rfl
theorem UZ (p0 : Option Addr) (K : Value → HP) : aE Tryz.prog Sb I0 Tryz.f36 [.pointer p0] K = S.qO p0 (fun r0 => K (.int .i64 r0)) := by kernel_rfl
def Jg : Entry Tryz.prog := ⟨36, S.Yf, fun xs K w h => by
 obtain ⟨eb, h⟩ := bJ h
 obtain ⟨p0, e0, h⟩ := bw h
 rw [e0] at eb
 subst eb
 exact aG mixed Tryz.func36 OT Tryz.call36 rfl (by rw [UZ]; exact h)⟩
def Ie : aA := aV
def XA : ax Tryz.prog := ⟨[Tq], aD⟩
theorem Za : aF Tryz.prog Ie Tryz.f37 1 = true := by kernel_rfl
theorem Qx (p0 : Option Nat) (K : Value → HP) : aE Tryz.prog XA Ie Tryz.f37 [.map p0] K = S.ob p0 (fun r0 => K (.map r0)) := by kernel_rfl
def yY : Entry Tryz.prog := ⟨37, S.Q9, fun xs K w h => by
 obtain ⟨eb, h⟩ := bJ h
 obtain ⟨p0, e0, h⟩ := A4 h
 rw [e0] at eb
 subst eb
 exact aG mixed Tryz.func37 Za Tryz.call37 rfl (by rw [Qx]; exact h)⟩
def Kg : aA := { plan := fun r => bif Nat.beq r 7 then .take 0 (.take 1 (.take 2 (.take 3 (.take 4 (.take 5 (.take 6 (.take 7 (.take 8 (.take 9 (.take 10 (.take 11 (.done)))))))))))) else bif Nat.beq r 8 then .take 0 (.take 1 (.take 2 (.take 3 (.aM 4 [] (.take 5 (.take 6 (.take 7 (.take 8 (.take 9 (.take 10 (.take 11 (.aM 12 [9] (.take 13 (.take 14 (.done))))))))))))))) else bif Nat.beq r 10 then .take 0 (.take 1 (.take 2 (.take 3 (.take 4 (.take 5 (.take 6 (.take 7 (.take 8 (.take 9 (.take 10 (.aM 11 [] (.done)))))))))))) else bif Nat.beq r 11 then .take 0 (.take 1 (.take 2 (.take 3 (.take 4 (.take 5 (.take 6 (.take 7 (.take 8 (.take 9 (.take 10 (.take 11 (.aM 12 [4] (.aM 13 [4] (.aM 14 [] (.take 15 (.take 16 (.aM 17 [] (.done)))))))))))))))))) else .done, spec := fun c => bif Nat.beq c 0 then ⟨[(29, .ii .i64)], 939524128⟩ else ⟨[], 0⟩, iter := fun _ => none }
def agm : ax Tryz.prog := ⟨[BD, Jg, yY], aD⟩
theorem aeO : aF Tryz.prog Kg Tryz.f10 2 = true := by kernel_rfl
theorem gf (p0 : Sl) (p1 : Int) (K : Value → HP) : aE Tryz.prog agm Kg Tryz.f10 [p0.v, .int .i64 p1] K = S.mL p0 p1 (fun r0 => K (.pointer r0)) := by kernel_rfl
def yh : Entry Tryz.prog := ⟨10, S.Vi, fun xs K w h => by
 obtain ⟨eb, h⟩ := bh h
 obtain ⟨p0, e0, h⟩ := cg h
 obtain ⟨p1, e1, h⟩ := aU h
 rw [e0, e1] at eb
 subst eb
 exact aG mixed Tryz.func10 aeO Tryz.call10 rfl (by rw [gf]; exact h)⟩
def LH : aA := aV
def aeV : ax Tryz.prog := ⟨[], aD⟩
theorem Vj : aF Tryz.prog LH Tryz.f30 1 = true := by kernel_rfl
theorem x30 (p0 : Int) (K : Value → HP) : aE Tryz.prog aeV LH Tryz.f30 [.int .i64 p0] K = S.qu p0 (fun r0 => K (.bool r0)) := by kernel_rfl
def Ni : Entry Tryz.prog := ⟨30, S.QY, fun xs K w h => by
 obtain ⟨eb, h⟩ := bJ h
 obtain ⟨p0, e0, h⟩ := aU h
 rw [e0] at eb
 subst eb
 exact aG mixed Tryz.func30 Vj Tryz.call30 rfl (by rw [x30]; exact h)⟩
def Mh : aA := aV
def aaQ : ax Tryz.prog := ⟨[], aD⟩
theorem abo : aF Tryz.prog Mh Tryz.f31 1 = true := by kernel_rfl
theorem x31 (p0 : Int) (K : Value → HP) : aE Tryz.prog aaQ Mh Tryz.f31 [.int .i64 p0] K = S.xY p0 (fun r0 => K (.bool r0)) := by kernel_rfl
def E31 : Entry Tryz.prog := ⟨31, S.QC, fun xs K w h => by
 obtain ⟨eb, h⟩ := bJ h
 obtain ⟨p0, e0, h⟩ := aU h
 rw [e0] at eb
 subst eb
 exact aG mixed Tryz.func31 abo Tryz.call31 rfl (by rw [x31]; exact h)⟩
def I2 : aA := aV
def UL : ax Tryz.prog := ⟨[], aD⟩
theorem OO : aF Tryz.prog I2 Tryz.f169 2 = true := by kernel_rfl
theorem TN (p0 : Int) (p1 : Int) (K : Value → HP) : aE Tryz.prog UL I2 Tryz.f169 [.int .u64 p0, .int .u64 p1] K = S.yD p0 p1 (fun r0 r1 => K (.tuple #[.int .u64 r0, .int .u64 r1])) := by kernel_rfl
def XR : Entry Tryz.prog := ⟨169, S.ZD, fun xs K w h => by
 obtain ⟨eb, h⟩ := bh h
 obtain ⟨p0, e0, h⟩ := aU h
 obtain ⟨p1, e1, h⟩ := aU h
 rw [e0, e1] at eb
 subst eb
 exact aG mixed Tryz.func169 OO Tryz.call169 rfl (by rw [TN]; exact h)⟩
def LJ : aA := aV
def YB : ax Tryz.prog := ⟨[XR], aD⟩
theorem NN : aF Tryz.prog LJ Tryz.f127 2 = true := by kernel_rfl
theorem XO (p0 : Int) (p1 : Int) (K : Value → HP) : aE Tryz.prog YB LJ Tryz.f127 [.int .u64 p0, .int .u64 p1] K = S.tW p0 p1 (fun r0 r1 => K (.tuple #[.int .u64 r0, .int .u64 r1])) := by kernel_rfl
def aaV : Entry Tryz.prog := ⟨127, S.afu, fun xs K w h => by
 obtain ⟨eb, h⟩ := bh h
 obtain ⟨p0, e0, h⟩ := aU h
 obtain ⟨p1, e1, h⟩ := aU h
 rw [e0, e1] at eb
 subst eb
 exact aG mixed Tryz.func127 NN Tryz.call127 rfl (by rw [XO]; exact h)⟩
def Ik : aA := { plan := fun r => bif Nat.beq r 20 then .take 0 (.take 1 (.take 2 (.take 3 (.take 4 (.take 5 (.take 6 (.aM 7 [] (.take 8 (.take 9 (.done)))))))))) else .done, spec := fun c => bif Nat.beq c 0 then ⟨[(10, .ii .i64)], 1920⟩ else ⟨[], 0⟩, iter := fun _ => none }
def adA : ax Tryz.prog := ⟨[aaV, WG], aD⟩
theorem PF : aF Tryz.prog Ik Tryz.f83 2 = true := by kernel_rfl
theorem x83 (p0 : Sl) (p1 : Int) (K : Value → HP) : aE Tryz.prog adA Ik Tryz.f83 [p0.v, .int .i64 p1] K = S.sS p0 p1 (fun r0 => K (.slice r0.a r0.len r0.cap)) := by kernel_rfl
def Rj : Entry Tryz.prog := ⟨83, S.Uk, fun xs K w h => by
 obtain ⟨eb, h⟩ := bh h
 obtain ⟨p0, e0, h⟩ := cg h
 obtain ⟨p1, e1, h⟩ := aU h
 rw [e0, e1] at eb
 subst eb
 exact aG mixed Tryz.func83 PF Tryz.call83 rfl (by rw [x83]; exact h)⟩
def Mc : aA := { plan := fun _ => .done, spec := fun c => bif Nat.beq c 0 then ⟨[(0, .ii .i64), (6, .ii .i64)], 97⟩ else ⟨[], 0⟩, iter := fun _ => none }
def ab4 : ax Tryz.prog := ⟨[Rj], aD⟩
theorem X5 : aF Tryz.prog Mc Tryz.f33 2 = true := by kernel_rfl
theorem x33 (p0 : Int) (p1 : Int) (K : Value → HP) : aE Tryz.prog ab4 Mc Tryz.f33 [.int .i64 p0, .int .i64 p1] K = S.oO p0 p1 (fun r0 => K (.string r0)) := by kernel_rfl
def IT : Entry Tryz.prog := ⟨33, S.Xc, fun xs K w h => by
 obtain ⟨eb, h⟩ := bh h
 obtain ⟨p0, e0, h⟩ := aU h
 obtain ⟨p1, e1, h⟩ := aU h
 rw [e0, e1] at eb
 subst eb
 exact aG mixed Tryz.func33 X5 Tryz.call33 rfl (by rw [x33]; exact h)⟩
def FZ : aA := aV
def ZU : ax Tryz.prog := ⟨[IT], aD⟩
theorem Un : aF Tryz.prog FZ Tryz.f32 1 = true := by kernel_rfl
theorem qw (p0 : Int) (K : Value → HP) : aE Tryz.prog ZU FZ Tryz.f32 [.int .i64 p0] K = S.mz p0 (fun r0 => K (.string r0)) := by kernel_rfl
def C1 : Entry Tryz.prog := ⟨32, S.ZV, fun xs K w h => by
 obtain ⟨eb, h⟩ := bJ h
 obtain ⟨p0, e0, h⟩ := aU h
 rw [e0] at eb
 subst eb
 exact aG mixed Tryz.func32 Un Tryz.call32 rfl (by rw [qw]; exact h)⟩
def Hu : aA := aV
def SK : ax Tryz.prog := ⟨[Ni, E31, C1, IT], aD⟩
theorem Nz : aF Tryz.prog Hu Tryz.f8 2 = true := by kernel_rfl
theorem x8 (p0 : Int) (p1 : Int) (K : Value → HP) : aE Tryz.prog SK Hu Tryz.f8 [.int .i64 p0, .int .i64 p1] K = S.gO p0 p1 (fun r0 => K (.string r0)) := by kernel_rfl
def E8 : Entry Tryz.prog := ⟨8, S.Px, fun xs K w h => by
 obtain ⟨eb, h⟩ := bh h
 obtain ⟨p0, e0, h⟩ := aU h
 obtain ⟨p1, e1, h⟩ := aU h
 rw [e0, e1] at eb
 subst eb
 exact aG mixed Tryz.func8 Nz Tryz.call8 rfl (by rw [x8]; exact h)⟩
def JA : aA := aV
def ad1 : ax Tryz.prog := ⟨[], aD⟩
theorem afm : aF Tryz.prog JA Tryz.f19 1 = true := by kernel_rfl
theorem x19 (p0 : Option Addr) (K : Value → HP) : aE Tryz.prog ad1 JA Tryz.f19 [.pointer p0] K = S.jH p0 (fun r0 => K (.bool r0)) := by kernel_rfl
def ry : Entry Tryz.prog := ⟨19, S.aeI, fun xs K w h => by
 obtain ⟨eb, h⟩ := bJ h
 obtain ⟨p0, e0, h⟩ := bw h
 rw [e0] at eb
 subst eb
 exact aG mixed Tryz.func19 afm Tryz.call19 rfl (by rw [x19]; exact h)⟩
def Jy : aA := aV
def Dt : ax Tryz.prog := ⟨[XQ, PL], aD⟩
theorem ab3 : aF Tryz.prog Jy Tryz.f42 1 = true := by kernel_rfl
theorem x42 (p0 : Option Addr) (K : Value → HP) : aE Tryz.prog Dt Jy Tryz.f42 [.pointer p0] K = S.lX Dt.cx p0 (fun r0 => K (.slice r0.a r0.len r0.cap)) := by kernel_rfl
def Dk : Entry Tryz.prog := ⟨42, S.V5 Dt.cx, fun xs K w h => by
 obtain ⟨eb, h⟩ := bJ h
 obtain ⟨p0, e0, h⟩ := bw h
 rw [e0] at eb
 subst eb
 exact aG mixed Tryz.func42 ab3 Tryz.call42 rfl (by rw [x42]; exact h)⟩
def MD : aA := aV
def ae8 : ax Tryz.prog := ⟨[], aD⟩
theorem N9 : aF Tryz.prog MD Tryz.f91 2 = true := by kernel_rfl
theorem RS (p0 : ByteArray) (p1 : ByteArray) (K : Value → HP) : aE Tryz.prog ae8 MD Tryz.f91 [.string p0, .string p1] K = S.ug p0 p1 (fun r0 => K (.bool r0)) := by kernel_rfl
def Ir : Entry Tryz.prog := ⟨91, S.adk, fun xs K w h => by
 obtain ⟨eb, h⟩ := bh h
 obtain ⟨p0, e0, h⟩ := cw h
 obtain ⟨p1, e1, h⟩ := cw h
 rw [e0, e1] at eb
 subst eb
 exact aG mixed Tryz.func91 N9 Tryz.call91 rfl (by rw [RS]; exact h)⟩
def Ey : aA := aV
def Yp : ax Tryz.prog := ⟨[Ir], aD⟩
theorem PX : aF Tryz.prog Ey Tryz.f43 2 = true := by kernel_rfl
theorem Sz (p0 : ByteArray) (p1 : ByteArray) (K : Value → HP) : aE Tryz.prog Yp Ey Tryz.f43 [.string p0, .string p1] K = S.oD p0 p1 (fun r0 => K (.bool r0)) := by kernel_rfl
def HD : Entry Tryz.prog := ⟨43, S.P7, fun xs K w h => by
 obtain ⟨eb, h⟩ := bh h
 obtain ⟨p0, e0, h⟩ := cw h
 obtain ⟨p1, e1, h⟩ := cw h
 rw [e0, e1] at eb
 subst eb
 exact aG mixed Tryz.func43 PX Tryz.call43 rfl (by rw [Sz]; exact h)⟩
def I7 : aA := aV
def aeW : ax Tryz.prog := ⟨[], aD⟩
theorem Zw : aF Tryz.prog I7 Tryz.f130 2 = true := by kernel_rfl
theorem Yn (p0 : ByteArray) (p1 : ByteArray) (K : Value → HP) : aE Tryz.prog aeW I7 Tryz.f130 [.string p0, .string p1] K = S.vS p0 p1 (fun r0 => K (.bool r0)) := by kernel_rfl
def WD : Entry Tryz.prog := ⟨130, S.OZ, fun xs K w h => by
 obtain ⟨eb, h⟩ := bh h
 obtain ⟨p0, e0, h⟩ := cw h
 obtain ⟨p1, e1, h⟩ := cw h
 rw [e0, e1] at eb
 subst eb
 exact aG mixed Tryz.func130 Zw Tryz.call130 rfl (by rw [Yn]; exact h)⟩
def Kv : aA := aV
def UX : ax Tryz.prog := ⟨[WD], aD⟩
theorem Up : aF Tryz.prog Kv Tryz.f87 2 = true := by kernel_rfl
theorem P6 (p0 : ByteArray) (p1 : ByteArray) (K : Value → HP) : aE Tryz.prog UX Kv Tryz.f87 [.string p0, .string p1] K = S.tY p0 p1 (fun r0 => K (.bool r0)) := by kernel_rfl
def Qg : Entry Tryz.prog := ⟨87, S.Qz, fun xs K w h => by
 obtain ⟨eb, h⟩ := bh h
 obtain ⟨p0, e0, h⟩ := cw h
 obtain ⟨p1, e1, h⟩ := cw h
 rw [e0, e1] at eb
 subst eb
 exact aG mixed Tryz.func87 Up Tryz.call87 rfl (by rw [P6]; exact h)⟩
def Jn : aA := aV
def UU : ax Tryz.prog := ⟨[], aD⟩
theorem YM : aF Tryz.prog Jn Tryz.f112 1 = true := by kernel_rfl
theorem Pj (p0 : Option Addr) (K : Value → HP) : aE Tryz.prog UU Jn Tryz.f112 [.pointer p0] K = S.pT p0 (fun r0 => K (.bool r0)) := by kernel_rfl
def Ou : Entry Tryz.prog := ⟨112, S.abn, fun xs K w h => by
 obtain ⟨eb, h⟩ := bJ h
 obtain ⟨p0, e0, h⟩ := bw h
 rw [e0] at eb
 subst eb
 exact aG mixed Tryz.func112 YM Tryz.call112 rfl (by rw [Pj]; exact h)⟩
def F4 : aA := { plan := fun r => bif Nat.beq r 4 then .take 0 (.take 1 (.take 2 (.take 4 (.take 5 (.take 6 (.aM 3 [] (.aM 7 [] (.take 8 (.take 9 (.done)))))))))) else .done, spec := fun _ => ⟨[], 0⟩, iter := fun _ => none }
def Xk : ax Tryz.prog := ⟨[Ou], aD⟩
theorem PT : aF Tryz.prog F4 Tryz.f67 1 = true := by kernel_rfl
theorem x67 (p0 : Option Addr) (K : Value → HP) : aE Tryz.prog Xk F4 Tryz.f67 [.pointer p0] K = S.mo p0 (fun r0 => K (.int .i64 r0)) := by kernel_rfl
def xw : Entry Tryz.prog := ⟨67, S.Qv, fun xs K w h => by
 obtain ⟨eb, h⟩ := bJ h
 obtain ⟨p0, e0, h⟩ := bw h
 rw [e0] at eb
 subst eb
 exact aG mixed Tryz.func67 PT Tryz.call67 rfl (by rw [x67]; exact h)⟩
def Gw : aA := aV
def Zt : ax Tryz.prog := ⟨[], aD⟩
theorem aaO : aF Tryz.prog Gw Tryz.f159 2 = true := by kernel_rfl
theorem YC (p0 : Option Addr) (p1 : ByteArray) (K : Value → HP) : aE Tryz.prog Zt Gw Tryz.f159 [.pointer p0, .string p1] K = S.mY p0 p1 (fun r0 r1 => K (.tuple #[.int .i64 r0, .int .i64 r1])) := by kernel_rfl
def Bk : Entry Tryz.prog := ⟨159, S.Z1, fun xs K w h => by
 obtain ⟨eb, h⟩ := bh h
 obtain ⟨p0, e0, h⟩ := bw h
 obtain ⟨p1, e1, h⟩ := cw h
 rw [e0, e1] at eb
 subst eb
 exact aG mixed Tryz.func159 aaO Tryz.call159 rfl (by rw [YC]; exact h)⟩
def KV : aA := aV
def afO : ax Tryz.prog := ⟨[xw, Bk], aD⟩
theorem Vm : aF Tryz.prog KV Tryz.f131 2 = true := by kernel_rfl
theorem adl (p0 : Option Addr) (p1 : ByteArray) (K : Value → HP) : aE Tryz.prog afO KV Tryz.f131 [.pointer p0, .string p1] K = S.oc p0 p1 (fun r0 r1 => K (.tuple #[.int .i64 r0, .int .i64 r1])) := by kernel_rfl
def CG : Entry Tryz.prog := ⟨131, S.aap, fun xs K w h => by
 obtain ⟨eb, h⟩ := bh h
 obtain ⟨p0, e0, h⟩ := bw h
 obtain ⟨p1, e1, h⟩ := cw h
 rw [e0, e1] at eb
 subst eb
 exact aG mixed Tryz.func131 Vm Tryz.call131 rfl (by rw [adl]; exact h)⟩
def D3 : aA := { plan := fun _ => .done, spec := fun c => bif Nat.beq c 0 then ⟨[], 137⟩ else ⟨[], 0⟩, iter := fun t => bif Nat.beq t 7 then some (9, 3) else none }
def aeE : ax Tryz.prog := ⟨[], aD⟩
theorem abw : aF Tryz.prog D3 Tryz.f73 2 = true := by kernel_rfl
theorem x73 (p0 : Option Nat) (p1 : iA) (K : Value → HP) : aE Tryz.prog aeE D3 Tryz.f73 [.map p0, p1.v] K = S.qR p0 p1 (K (.tuple #[])) := by kernel_rfl
def ER : Entry Tryz.prog := ⟨73, S.RT, fun xs K w h => by
 obtain ⟨eb, h⟩ := bh h
 obtain ⟨p0, e0, h⟩ := A4 h
 obtain ⟨p1, e1, h⟩ := Gb h
 rw [e0, e1] at eb
 subst eb
 exact aG mixed Tryz.func73 abw Tryz.call73 rfl (by rw [x73]; exact h)⟩
def KN : aA := { plan := fun r => bif Nat.beq r 1 then .take 0 (.take 1 (.take 2 (.take 3 (.take 4 (.take 5 (.aM 6 [4] (.aM 7 [] (.take 8 (.take 9 (.aM 10 [] (.done))))))))))) else bif Nat.beq r 2 then .take 0 (.take 1 (.take 2 (.take 3 (.take 4 (.aM 5 [] (.done)))))) else .done, spec := fun _ => ⟨[], 0⟩, iter := fun _ => none }
def Sd : ax Tryz.prog := ⟨[ER], aD⟩
theorem Pk : aF Tryz.prog KN Tryz.f132 2 = true := by kernel_rfl
theorem ac3 (p0 : Option Addr) (p1 : iA) (K : Value → HP) : aE Tryz.prog Sd KN Tryz.f132 [.pointer p0, p1.v] K = S.mT p0 p1 (K (.tuple #[])) := by kernel_rfl
def y9 : Entry Tryz.prog := ⟨132, S.VF, fun xs K w h => by
 obtain ⟨eb, h⟩ := bh h
 obtain ⟨p0, e0, h⟩ := bw h
 obtain ⟨p1, e1, h⟩ := Gb h
 rw [e0, e1] at eb
 subst eb
 exact aG mixed Tryz.func132 Pk Tryz.call132 rfl (by rw [ac3]; exact h)⟩
def DW : aA := aV
def aa9 : ax Tryz.prog := ⟨[CG, y9], aD⟩
theorem RC : aF Tryz.prog DW Tryz.f88 2 = true := by kernel_rfl
theorem x88 (p0 : Option Addr) (p1 : ByteArray) (K : Value → HP) : aE Tryz.prog aa9 DW Tryz.f88 [.pointer p0, .string p1] K = S.lP p0 p1 (fun r0 => K (.int .i64 r0)) := by kernel_rfl
def vM : Entry Tryz.prog := ⟨88, S.Sq, fun xs K w h => by
 obtain ⟨eb, h⟩ := bh h
 obtain ⟨p0, e0, h⟩ := bw h
 obtain ⟨p1, e1, h⟩ := cw h
 rw [e0, e1] at eb
 subst eb
 exact aG mixed Tryz.func88 RC Tryz.call88 rfl (by rw [x88]; exact h)⟩
def EN : aA := { plan := fun _ => .done, spec := fun c => bif Nat.beq c 0 then ⟨[(11, .ii .i64)], 3587⟩ else ⟨[], 0⟩, iter := fun _ => none }
def y7 : ax Tryz.prog := ⟨[Dk, HD, Qg, vM], aD⟩
theorem agc : aF Tryz.prog EN Tryz.f41 2 = true := by kernel_rfl
theorem Sg (p0 : Option Addr) (p1 : ByteArray) (K : Value → HP) : aE Tryz.prog y7 EN Tryz.f41 [.pointer p0, .string p1] K = S.sI y7.cx p0 p1 (fun r0 => K (.int .i64 r0)) := by kernel_rfl
def E41 : Entry Tryz.prog := ⟨41, S.OR y7.cx, fun xs K w h => by
 obtain ⟨eb, h⟩ := bh h
 obtain ⟨p0, e0, h⟩ := bw h
 obtain ⟨p1, e1, h⟩ := cw h
 rw [e0, e1] at eb
 subst eb
 exact aG mixed Tryz.func41 agc Tryz.call41 rfl (by rw [Sg]; exact h)⟩
def FM : aA := aV
def aaN : ax Tryz.prog := ⟨[Ir], aD⟩
theorem Vo : aF Tryz.prog FM Tryz.f136 2 = true := by kernel_rfl
theorem aeG (p0 : ByteArray) (p1 : ByteArray) (K : Value → HP) : aE Tryz.prog aaN FM Tryz.f136 [.string p0, .string p1] K = S.xq p0 p1 (fun r0 => K (.string r0)) := by kernel_rfl
def Pm : Entry Tryz.prog := ⟨136, S.P3, fun xs K w h => by
 obtain ⟨eb, h⟩ := bh h
 obtain ⟨p0, e0, h⟩ := cw h
 obtain ⟨p1, e1, h⟩ := cw h
 rw [e0, e1] at eb
 subst eb
 exact aG mixed Tryz.func136 Vo Tryz.call136 rfl (by rw [aeG]; exact h)⟩
def H9 : aA := aV
def afG : ax Tryz.prog := ⟨[Pm], aD⟩
theorem YA : aF Tryz.prog H9 Tryz.f92 2 = true := by kernel_rfl
theorem N8 (p0 : ByteArray) (p1 : ByteArray) (K : Value → HP) : aE Tryz.prog afG H9 Tryz.f92 [.string p0, .string p1] K = S.yF p0 p1 (fun r0 => K (.string r0)) := by kernel_rfl
def E92 : Entry Tryz.prog := ⟨92, S.VY, fun xs K w h => by
 obtain ⟨eb, h⟩ := bh h
 obtain ⟨p0, e0, h⟩ := cw h
 obtain ⟨p1, e1, h⟩ := cw h
 rw [e0, e1] at eb
 subst eb
 exact aG mixed Tryz.func92 YA Tryz.call92 rfl (by rw [N8]; exact h)⟩
def Ia : aA := { plan := fun _ => .done, spec := fun c => bif Nat.beq c 0 then ⟨[(5, .ii .i64), (14, .ii .i64)], 28707⟩ else ⟨[], 0⟩, iter := fun _ => none }
def Uy : ax Tryz.prog := ⟨[E8, C1, E92], aD⟩
theorem adH : aF Tryz.prog Ia Tryz.f44 2 = true := by kernel_rfl
theorem RE (p0 : Int) (p1 : ByteArray) (K : Value → HP) : aE Tryz.prog Uy Ia Tryz.f44 [.int .i64 p0, .string p1] K = S.pJ p0 p1 (fun r0 => K (.int .i64 r0)) := by kernel_rfl
def X0 : Entry Tryz.prog := ⟨44, S.Sh, fun xs K w h => by
 obtain ⟨eb, h⟩ := bh h
 obtain ⟨p0, e0, h⟩ := aU h
 obtain ⟨p1, e1, h⟩ := cw h
 rw [e0, e1] at eb
 subst eb
 exact aG mixed Tryz.func44 adH Tryz.call44 rfl (by rw [RE]; exact h)⟩
def Gp : aA := aV
def X4 : ax Tryz.prog := ⟨[Bk], aD⟩
theorem Uu : aF Tryz.prog Gp Tryz.f123 2 = true := by kernel_rfl
theorem Ta (p0 : Option Addr) (p1 : ByteArray) (K : Value → HP) : aE Tryz.prog X4 Gp Tryz.f123 [.pointer p0, .string p1] K = S.oB p0 p1 (fun r0 r1 => K (.tuple #[.string r0, .int .i64 r1])) := by kernel_rfl
def Mn : Entry Tryz.prog := ⟨123, S.SR, fun xs K w h => by
 obtain ⟨eb, h⟩ := bh h
 obtain ⟨p0, e0, h⟩ := bw h
 obtain ⟨p1, e1, h⟩ := cw h
 rw [e0, e1] at eb
 subst eb
 exact aG mixed Tryz.func123 Uu Tryz.call123 rfl (by rw [Ta]; exact h)⟩
def HC : aA := aV
def Ul : ax Tryz.prog := ⟨[Mn], aD⟩
theorem aan : aF Tryz.prog HC Tryz.f79 2 = true := by kernel_rfl
theorem TR (p0 : Option Addr) (p1 : ByteArray) (K : Value → HP) : aE Tryz.prog Ul HC Tryz.f79 [.pointer p0, .string p1] K = S.mZ p0 p1 (fun r0 r1 => K (.tuple #[.slice r0.a r0.len r0.cap, .int .i64 r1])) := by kernel_rfl
def Ae : Entry Tryz.prog := ⟨79, S.Zs, fun xs K w h => by
 obtain ⟨eb, h⟩ := bh h
 obtain ⟨p0, e0, h⟩ := bw h
 obtain ⟨p1, e1, h⟩ := cw h
 rw [e0, e1] at eb
 subst eb
 exact aG mixed Tryz.func79 aan Tryz.call79 rfl (by rw [TR]; exact h)⟩
def Hv : aA := aV
def ae5 : ax Tryz.prog := ⟨[], aD⟩
theorem agy : aF Tryz.prog Hv Tryz.f161 3 = true := by kernel_rfl
theorem Y5 (p0 : Int) (p1 : Addr) (p2 : Addr) (K : Value → HP) : aE Tryz.prog ae5 Hv Tryz.f161 [.int .i64 p0, .pointer (some p1), .pointer (some p2)] K = S.uD p0 p1 p2 (K (.tuple #[])) := by kernel_rfl
def aaq : Entry Tryz.prog := ⟨161, S.Iw, fun xs K w h => by
 obtain ⟨eb, h⟩ := fy h
 obtain ⟨p0, e0, h⟩ := aU h
 obtain ⟨p1, e1, h⟩ := ep h
 obtain ⟨p2, e2, h⟩ := ep h
 rw [e0, e1, e2] at eb
 subst eb
 exact aG mixed Tryz.func161 agy Tryz.call161 rfl (by rw [Y5]; exact h)⟩
def GD : aA := { plan := fun r => bif Nat.beq r 2 then .take 0 (.take 1 (.take 2 (.take 3 (.take 4 (.take 5 (.take 6 (.take 7 (.take 8 (.take 9 (.done)))))))))) else bif Nat.beq r 4 then .take 0 (.take 1 (.take 2 (.take 3 (.take 4 (.take 5 (.take 6 (.take 7 (.take 8 (.take 9 (.take 10 (.done))))))))))) else bif Nat.beq r 5 then .take 0 (.take 1 (.take 2 (.take 3 (.take 4 (.take 5 (.take 6 (.take 7 (.take 8 (.take 9 (.take 10 (.take 11 (.take 12 (.done))))))))))))) else bif Nat.beq r 11 then .take 0 (.take 1 (.take 2 (.take 3 (.take 4 (.take 5 (.take 6 (.take 7 (.take 8 (.take 9 (.take 10 (.take 11 (.done)))))))))))) else bif Nat.beq r 13 then .take 0 (.take 1 (.take 2 (.take 3 (.take 4 (.take 5 (.take 6 (.take 7 (.take 8 (.take 9 (.take 10 (.take 11 (.take 12 (.done))))))))))))) else .done, spec := fun c => bif Nat.beq c 0 then ⟨[], 3⟩ else ⟨[], 0⟩, iter := fun _ => none }
def aeC : ax Tryz.prog := ⟨[], aD⟩
theorem Yx : aF Tryz.prog GD Tryz.f188 2 = true := by kernel_rfl
theorem af9 (p0 : Option Addr) (p1 : Int) (K : Value → HP) : aE Tryz.prog aeC GD Tryz.f188 [.pointer p0, .int .i64 p1] K = S.oG p0 p1 (fun r0 => K (.int .i64 r0)) := by kernel_rfl
def T4 : Entry Tryz.prog := ⟨188, S.RQ, fun xs K w h => by
 obtain ⟨eb, h⟩ := bh h
 obtain ⟨p0, e0, h⟩ := bw h
 obtain ⟨p1, e1, h⟩ := aU h
 rw [e0, e1] at eb
 subst eb
 exact aG mixed Tryz.func188 Yx Tryz.call188 rfl (by rw [af9]; exact h)⟩
def Nn : aA := aV
def adz : ax Tryz.prog := ⟨[], aD⟩
theorem agq : aF Tryz.prog Nn Tryz.f191 1 = true := by kernel_rfl
theorem TS (p0 : Int) (K : Value → HP) : aE Tryz.prog adz Nn Tryz.f191 [.int .i64 p0] K = S.lU p0 (fun r0 => K (.bool r0)) := by kernel_rfl
def zn : Entry Tryz.prog := ⟨191, S.O2, fun xs K w h => by
 obtain ⟨eb, h⟩ := bJ h
 obtain ⟨p0, e0, h⟩ := aU h
 rw [e0] at eb
 subst eb
 exact aG mixed Tryz.func191 agq Tryz.call191 rfl (by rw [TS]; exact h)⟩
def Gi : aA := { plan := fun _ => .done, spec := fun c => bif Nat.beq c 0 then ⟨[(8, .ii .u64), (39, .ii .i64)], 962072674560⟩ else ⟨[], 0⟩, iter := fun _ => none }
def Xw : ax Tryz.prog := ⟨[zn], aD⟩
theorem Nx : aF Tryz.prog Gi Tryz.f189 3 = true := by kernel_rfl
theorem Vs (p0 : Sl) (p1 : Int) (p2 : Int) (K : Value → HP) : aE Tryz.prog Xw Gi Tryz.f189 [p0.v, .int .i64 p1, .int .i64 p2] K = S.nW p0 p1 p2 (fun r0 r1 => K (.tuple #[.int .u64 r0, .bool r1])) := by kernel_rfl
def KS : Entry Tryz.prog := ⟨189, S.UJ, fun xs K w h => by
 obtain ⟨eb, h⟩ := fy h
 obtain ⟨p0, e0, h⟩ := cg h
 obtain ⟨p1, e1, h⟩ := aU h
 obtain ⟨p2, e2, h⟩ := aU h
 rw [e0, e1, e2] at eb
 subst eb
 exact aG mixed Tryz.func189 Nx Tryz.call189 rfl (by rw [Vs]; exact h)⟩
def La : aA := { plan := fun _ => .done, spec := fun c => bif Nat.beq c 0 then ⟨[(3, .ii .i64)], 9⟩ else bif Nat.beq c 2 then ⟨[(2, .ii .u32), (8, .ii .i64)], 271⟩ else ⟨[], 0⟩, iter := fun _ => none }
def ZS : ax Tryz.prog := ⟨[], aD⟩
theorem R5 : aF Tryz.prog La Tryz.f207 0 = true := by kernel_rfl
theorem af8 (K : Value → HP) : aE Tryz.prog ZS La Tryz.f207 [] K = S.rP (fun r0 => K (r0.v)) := by kernel_rfl
def QS : Entry Tryz.prog := ⟨207, S.aas, fun xs K w h => by
 obtain ⟨hl, h⟩ := mj h
 obtain rfl := List.eq_nil_of_length_eq_zero hl
 exact aG mixed Tryz.func207 R5 Tryz.call207 rfl (by rw [af8]; exact h)⟩
def Ej : aA := { plan := fun _ => .done, spec := fun c => bif Nat.beq c 0 then ⟨[(6, .ii .u32), (14, .ii .i64)], 28768⟩ else ⟨[], 0⟩, iter := fun _ => none }
def aa6 : ax Tryz.prog := ⟨[QS], aD⟩
theorem Z4 : aF Tryz.prog Ej Tryz.f186 2 = true := by kernel_rfl
theorem ZG (p0 : Int) (p1 : Sl) (K : Value → HP) : aE Tryz.prog aa6 Ej Tryz.f186 [.int .u32 p0, p1.v] K = S.oX p0 p1 (fun r0 => K (.int .u32 r0)) := by kernel_rfl
def Nf : Entry Tryz.prog := ⟨186, S.Wj, fun xs K w h => by
 obtain ⟨eb, h⟩ := bh h
 obtain ⟨p0, e0, h⟩ := aU h
 obtain ⟨p1, e1, h⟩ := cg h
 rw [e0, e1] at eb
 subst eb
 exact aG mixed Tryz.func186 Z4 Tryz.call186 rfl (by rw [ZG]; exact h)⟩
def MS : aA := aV
def aaW : ax Tryz.prog := ⟨[Nf], aD⟩
theorem aa7 : aF Tryz.prog MS Tryz.f187 1 = true := by kernel_rfl
theorem Us (p0 : Sl) (K : Value → HP) : aE Tryz.prog aaW MS Tryz.f187 [p0.v] K = S.yx p0 (fun r0 => K (.int .u32 r0)) := by kernel_rfl
def V9 : Entry Tryz.prog := ⟨187, S.VH, fun xs K w h => by
 obtain ⟨eb, h⟩ := bJ h
 obtain ⟨p0, e0, h⟩ := cg h
 rw [e0] at eb
 subst eb
 exact aG mixed Tryz.func187 aa7 Tryz.call187 rfl (by rw [Us]; exact h)⟩
def Fa : aA := aV
def aez : ax Tryz.prog := ⟨[Nf, V9], aD⟩
theorem O1 : aF Tryz.prog Fa Tryz.f157 2 = true := by kernel_rfl
theorem ab9 (p0 : Sl) (p1 : Sl) (K : Value → HP) : aE Tryz.prog aez Fa Tryz.f157 [p0.v, p1.v] K = S.qE p0 p1 (fun r0 => K (.int .u32 r0)) := by kernel_rfl
def LN : Entry Tryz.prog := ⟨157, S.QL, fun xs K w h => by
 obtain ⟨eb, h⟩ := bh h
 obtain ⟨p0, e0, h⟩ := cg h
 obtain ⟨p1, e1, h⟩ := cg h
 rw [e0, e1] at eb
 subst eb
 exact aG mixed Tryz.func157 O1 Tryz.call157 rfl (by rw [ab9]; exact h)⟩
def L0 : aA := { plan := fun r => bif Nat.beq r 18 then .take 0 (.take 1 (.take 2 (.take 3 (.take 4 (.take 5 (.take 6 (.take 7 (.take 8 (.take 9 (.take 12 (.aM 10 [] (.take 11 (.take 13 (.done)))))))))))))) else bif Nat.beq r 20 then .take 0 (.take 1 (.take 2 (.take 3 (.take 4 (.take 5 (.take 6 (.take 7 (.take 8 (.take 9 (.take 10 (.take 11 (.take 12 (.take 13 (.take 14 (.take 15 (.take 16 (.take 17 (.take 18 (.take 19 (.take 20 (.take 21 (.take 22 (.take 23 (.take 24 (.take 25 (.take 26 (.take 27 (.take 28 (.take 29 (.aM 30 [] (.take 31 (.done)))))))))))))))))))))))))))))))) else .done, spec := fun _ => ⟨[], 0⟩, iter := fun _ => none }
def Rx : ax Tryz.prog := ⟨[LN, T4, KS], aD⟩
theorem afP : aF Tryz.prog L0 Tryz.f162 2 = true := by kernel_rfl
theorem Yw (p0 : Sl) (p1 : Int) (K : Value → HP) : aE Tryz.prog Rx L0 Tryz.f162 [p0.v, .int .i64 p1] K = S.rj p0 p1 (fun r0 r1 => K (.tuple #[r0.v, .int .i64 r1])) := by kernel_rfl
def QH : Entry Tryz.prog := ⟨162, S.RN, fun xs K w h => by
 obtain ⟨eb, h⟩ := bh h
 obtain ⟨p0, e0, h⟩ := cg h
 obtain ⟨p1, e1, h⟩ := aU h
 rw [e0, e1] at eb
 subst eb
 exact aG mixed Tryz.func162 afP Tryz.call162 rfl (by rw [Yw]; exact h)⟩
def Fm : aA := { plan := fun r => bif Nat.beq r 13 then .take 0 (.take 1 (.take 2 (.aM 3 [] (.done)))) else .done, spec := fun c => bif Nat.beq c 0 then ⟨[(2, .ll), (6, .ii .i64)], 125⟩ else ⟨[], 0⟩, iter := fun _ => none }
def zN : ax Tryz.prog := ⟨[aaq, QH], aD⟩
theorem TO : aF Tryz.prog Fm Tryz.f125 1 = true := by kernel_rfl
theorem UF (p0 : Sl) (K : Value → HP) : aE Tryz.prog zN Fm Tryz.f125 [p0.v] K = S.sq zN.cx p0 (fun r0 r1 => K (.tuple #[.slice r0.a r0.len r0.cap, .slice r1.a r1.len r1.cap])) := by kernel_rfl
def UM : Entry Tryz.prog := ⟨125, S.aar zN.cx, fun xs K w h => by
 obtain ⟨eb, h⟩ := bJ h
 obtain ⟨p0, e0, h⟩ := cg h
 rw [e0] at eb
 subst eb
 exact aG mixed Tryz.func125 TO Tryz.call125 rfl (by rw [UF]; exact h)⟩
def Eo : aA := aV
def adr : ax Tryz.prog := ⟨[], aD⟩
theorem acU : aF Tryz.prog Eo Tryz.f185 1 = true := by kernel_rfl
theorem On (p0 : Sl) (K : Value → HP) : aE Tryz.prog adr Eo Tryz.f185 [p0.v] K = S.om p0 (fun r0 => K (.slice r0.a r0.len r0.cap)) := by kernel_rfl
def BZ : Entry Tryz.prog := ⟨185, S.Wb, fun xs K w h => by
 obtain ⟨eb, h⟩ := bJ h
 obtain ⟨p0, e0, h⟩ := cg h
 rw [e0] at eb
 subst eb
 exact aG mixed Tryz.func185 acU Tryz.call185 rfl (by rw [On]; exact h)⟩
def FT : aA := aV
def agb : ax Tryz.prog := ⟨[BZ], aD⟩
theorem Xf : aF Tryz.prog FT Tryz.f163 1 = true := by kernel_rfl
theorem afA (p0 : Sl) (K : Value → HP) : aE Tryz.prog agb FT Tryz.f163 [p0.v] K = S.wT p0 (fun r0 => K (.pointer r0)) := by kernel_rfl
def Z6 : Entry Tryz.prog := ⟨163, S.ZF, fun xs K w h => by
 obtain ⟨eb, h⟩ := bJ h
 obtain ⟨p0, e0, h⟩ := cg h
 rw [e0] at eb
 subst eb
 exact aG mixed Tryz.func163 Xf Tryz.call163 rfl (by rw [afA]; exact h)⟩
def Gg : aA := { plan := fun r => bif Nat.beq r 7 then .take 0 (.take 1 (.take 2 (.take 3 (.take 4 (.take 5 (.take 6 (.take 7 (.take 8 (.take 9 (.take 10 (.take 11 (.take 12 (.aM 13 [] (.take 14 (.done))))))))))))))) else bif Nat.beq r 9 then .take 0 (.take 1 (.take 2 (.take 3 (.take 4 (.take 5 (.take 6 (.take 7 (.take 8 (.take 9 (.take 10 (.take 11 (.take 12 (.take 13 (.take 14 (.aM 15 [] (.take 16 (.done))))))))))))))))) else .done, spec := fun _ => ⟨[], 0⟩, iter := fun _ => none }
def QF : ax Tryz.prog := ⟨[], aD⟩
theorem O7 : aF Tryz.prog Gg Tryz.f107 1 = true := by kernel_rfl
theorem QT (p0 : Option Addr) (K : Value → HP) : aE Tryz.prog QF Gg Tryz.f107 [.pointer p0] K = S.lC p0 (fun r0 => K (.slice r0.a r0.len r0.cap)) := by kernel_rfl
def vW : Entry Tryz.prog := ⟨107, S.TX, fun xs K w h => by
 obtain ⟨eb, h⟩ := bJ h
 obtain ⟨p0, e0, h⟩ := bw h
 rw [e0] at eb
 subst eb
 exact aG mixed Tryz.func107 O7 Tryz.call107 rfl (by rw [QT]; exact h)⟩
def Nh : aA := aV
def Rh : ax Tryz.prog := ⟨[], aD⟩
theorem Vu : aF Tryz.prog Nh Tryz.f190 3 = true := by kernel_rfl
theorem Y9 (p0 : Option Addr) (p1 : Bool) (p2 : Int) (K : Value → HP) : aE Tryz.prog Rh Nh Tryz.f190 [.pointer p0, .bool p1, .int .i64 p2] K = S.kz p0 p1 p2 (fun r0 => K (.bool r0)) := by kernel_rfl
def EL : Entry Tryz.prog := ⟨190, S.Ri, fun xs K w h => by
 obtain ⟨eb, h⟩ := fy h
 obtain ⟨p0, e0, h⟩ := bw h
 obtain ⟨p1, e1, h⟩ := I5 h
 obtain ⟨p2, e2, h⟩ := aU h
 rw [e0, e1, e2] at eb
 subst eb
 exact aG mixed Tryz.func190 Vu Tryz.call190 rfl (by rw [Y9]; exact h)⟩
def Nb : aA := { plan := fun r => bif Nat.beq r 1 then .take 0 (.take 1 (.take 2 (.take 3 (.take 4 (.take 5 (.take 6 (.take 7 (.take 8 (.take 9 (.take 10 (.done))))))))))) else .done, spec := fun _ => ⟨[], 0⟩, iter := fun _ => none }
def X7 : ax Tryz.prog := ⟨[], aD⟩
theorem afU : aF Tryz.prog Nb Tryz.f166 1 = true := by kernel_rfl
theorem RO (p0 : Option Addr) (K : Value → HP) : aE Tryz.prog X7 Nb Tryz.f166 [.pointer p0] K = S.mw p0 (fun r0 => K (.int .i64 r0)) := by kernel_rfl
def uR : Entry Tryz.prog := ⟨166, S.ZC, fun xs K w h => by
 obtain ⟨eb, h⟩ := bJ h
 obtain ⟨p0, e0, h⟩ := bw h
 rw [e0] at eb
 subst eb
 exact aG mixed Tryz.func166 afU Tryz.call166 rfl (by rw [RO]; exact h)⟩
def HF : aA := { plan := fun r => bif Nat.beq r 3 then .take 0 (.take 1 (.take 2 (.take 3 (.take 4 (.take 5 (.take 6 (.take 7 (.take 8 (.aM 9 [] (.take 10 (.take 11 (.take 12 (.take 13 (.take 14 (.done))))))))))))))) else .done, spec := fun _ => ⟨[], 0⟩, iter := fun _ => none }
def SM : ax Tryz.prog := ⟨[uR, KS, EL, zn], aD⟩
theorem Zf : aF Tryz.prog HF Tryz.f164 2 = true := by kernel_rfl
theorem adY (p0 : Option Addr) (p1 : Int) (K : Value → HP) : aE Tryz.prog SM HF Tryz.f164 [.pointer p0, .int .i64 p1] K = S.rS p0 p1 (fun r0 => K (.int .u64 r0)) := by kernel_rfl
def adq : Entry Tryz.prog := ⟨164, S.Rg, fun xs K w h => by
 obtain ⟨eb, h⟩ := bh h
 obtain ⟨p0, e0, h⟩ := bw h
 obtain ⟨p1, e1, h⟩ := aU h
 rw [e0, e1] at eb
 subst eb
 exact aG mixed Tryz.func164 Zf Tryz.call164 rfl (by rw [adY]; exact h)⟩
def HR : aA := { plan := fun r => bif Nat.beq r 4 then .take 0 (.take 1 (.take 2 (.take 3 (.take 4 (.take 5 (.take 6 (.take 7 (.take 8 (.take 9 (.take 10 (.take 11 (.take 12 (.take 13 (.take 14 (.aM 15 [] (.take 16 (.done))))))))))))))))) else .done, spec := fun _ => ⟨[], 0⟩, iter := fun _ => none }
def Vt : ax Tryz.prog := ⟨[uR, BZ, EL], aD⟩
theorem aew : aF Tryz.prog HR Tryz.f165 2 = true := by kernel_rfl
theorem agi (p0 : Option Addr) (p1 : Int) (K : Value → HP) : aE Tryz.prog Vt HR Tryz.f165 [.pointer p0, .int .i64 p1] K = S.rT p0 p1 (fun r0 => K (.slice r0.a r0.len r0.cap)) := by kernel_rfl
def T0 : Entry Tryz.prog := ⟨165, S.aeF, fun xs K w h => by
 obtain ⟨eb, h⟩ := bh h
 obtain ⟨p0, e0, h⟩ := bw h
 obtain ⟨p1, e1, h⟩ := aU h
 rw [e0, e1] at eb
 subst eb
 exact aG mixed Tryz.func165 aew Tryz.call165 rfl (by rw [agi]; exact h)⟩
def IC : aA := aV
def Ys : ax Tryz.prog := ⟨[uR], aD⟩
theorem RX : aF Tryz.prog IC Tryz.f167 1 = true := by kernel_rfl
theorem abL (p0 : Option Addr) (K : Value → HP) : aE Tryz.prog Ys IC Tryz.f167 [.pointer p0] K = S.si p0 (fun r0 => K (.int .i64 r0)) := by kernel_rfl
def SD : Entry Tryz.prog := ⟨167, S.acr, fun xs K w h => by
 obtain ⟨eb, h⟩ := bJ h
 obtain ⟨p0, e0, h⟩ := bw h
 rw [e0] at eb
 subst eb
 exact aG mixed Tryz.func167 RX Tryz.call167 rfl (by rw [abL]; exact h)⟩
def GN : aA := aV
def QX : ax Tryz.prog := ⟨[], aD⟩
theorem ad6 : aF Tryz.prog GN Tryz.f179 1 = true := by kernel_rfl
theorem Yj (p0 : aZ) (K : Value → HP) : aE Tryz.prog QX GN Tryz.f179 [p0.v] K = S.qm p0 (fun r0 => K (r0.v)) := by kernel_rfl
def RV : Entry Tryz.prog := ⟨179, S.OB, fun xs K w h => by
 obtain ⟨eb, h⟩ := bJ h
 obtain ⟨p0, e0, h⟩ := gq h
 rw [e0] at eb
 subst eb
 exact aG mixed Tryz.func179 ad6 Tryz.call179 rfl (by rw [Yj]; exact h)⟩
def LF : aA := aV
def acZ : ax Tryz.prog := ⟨[], aD⟩
theorem WE : aF Tryz.prog LF Tryz.f180 2 = true := by kernel_rfl
theorem aec (p0 : Sl) (p1 : Sl) (K : Value → HP) : aE Tryz.prog acZ LF Tryz.f180 [p0.v, p1.v] K = S.yl p0 p1 (fun r0 => K (.bool r0)) := by kernel_rfl
def Tk : Entry Tryz.prog := ⟨180, S.X6, fun xs K w h => by
 obtain ⟨eb, h⟩ := bh h
 obtain ⟨p0, e0, h⟩ := cg h
 obtain ⟨p1, e1, h⟩ := cg h
 rw [e0, e1] at eb
 subst eb
 exact aG mixed Tryz.func180 WE Tryz.call180 rfl (by rw [aec]; exact h)⟩
def Jd : aA := { plan := fun r => bif Nat.beq r 1 then .take 0 (.take 2 (.aM 1 [2] (.aM 3 [] (.take 4 (.take 5 (.take 6 (.take 7 (.take 8 (.take 9 (.aM 10 [] (.take 11 (.take 12 (.done))))))))))))) else .done, spec := fun _ => ⟨[], 0⟩, iter := fun _ => none }
def V4 : ax Tryz.prog := ⟨[RV, Tk], aD⟩
theorem NO : aF Tryz.prog Jd Tryz.f146 2 = true := by kernel_rfl
theorem agj (p0 : aZ) (p1 : aZ) (K : Value → HP) : aE Tryz.prog V4 Jd Tryz.f146 [p0.v, p1.v] K = S.tO p0 p1 (fun r0 => K (.bool r0)) := by kernel_rfl
def TJ : Entry Tryz.prog := ⟨146, S.X9, fun xs K w h => by
 obtain ⟨eb, h⟩ := bh h
 obtain ⟨p0, e0, h⟩ := gq h
 obtain ⟨p1, e1, h⟩ := gq h
 rw [e0, e1] at eb
 subst eb
 exact aG mixed Tryz.func146 NO Tryz.call146 rfl (by rw [agj]; exact h)⟩
def HI : aA := { plan := fun r => bif Nat.beq r 6 then .take 0 (.take 1 (.take 2 (.take 3 (.take 4 (.take 5 (.take 6 (.take 7 (.take 8 (.take 9 (.aM 10 [] (.done))))))))))) else .done, spec := fun c => bif Nat.beq c 0 then ⟨[(13, .ii .i64)], 14362⟩ else ⟨[], 0⟩, iter := fun _ => none }
def afd : ax Tryz.prog := ⟨[vW, TJ], aD⟩
theorem Wv : aF Tryz.prog HI Tryz.f108 1 = true := by kernel_rfl
theorem Re (p0 : aZ) (K : Value → HP) : aE Tryz.prog afd HI Tryz.f108 [p0.v] K = S.tT p0 (fun r0 => K (.bool r0)) := by kernel_rfl
def VI : Entry Tryz.prog := ⟨108, S.adm, fun xs K w h => by
 obtain ⟨eb, h⟩ := bJ h
 obtain ⟨p0, e0, h⟩ := gq h
 rw [e0] at eb
 subst eb
 exact aG mixed Tryz.func108 Wv Tryz.call108 rfl (by rw [Re]; exact h)⟩
def Km : aA := { plan := fun r => bif Nat.beq r 7 then .take 0 (.take 1 (.take 2 (.take 3 (.take 4 (.take 5 (.take 6 (.take 7 (.take 8 (.take 9 (.take 10 (.take 11 (.take 12 (.take 13 (.take 14 (.take 15 (.done)))))))))))))))) else .done, spec := fun c => bif Nat.beq c 0 then ⟨[(11, .ii .i64)], 3586⟩ else ⟨[], 0⟩, iter := fun _ => none }
def adO : ax Tryz.prog := ⟨[vW, VI], aD⟩
theorem Sp : aF Tryz.prog Km Tryz.f63 1 = true := by kernel_rfl
theorem x63 (p0 : aZ) (K : Value → HP) : aE Tryz.prog adO Km Tryz.f63 [p0.v] K = S.lG p0 (fun r0 => K (.int .i64 r0)) := by kernel_rfl
def wO : Entry Tryz.prog := ⟨63, S.Nt, fun xs K w h => by
 obtain ⟨eb, h⟩ := bJ h
 obtain ⟨p0, e0, h⟩ := gq h
 rw [e0] at eb
 subst eb
 exact aG mixed Tryz.func63 Sp Tryz.call63 rfl (by rw [x63]; exact h)⟩
def HZ : aA := { plan := fun r => bif Nat.beq r 20 then .take 0 (.take 1 (.take 2 (.take 3 (.take 4 (.take 5 (.take 6 (.take 7 (.take 8 (.take 9 (.take 10 (.take 11 (.done)))))))))))) else bif Nat.beq r 22 then .take 0 (.take 1 (.take 2 (.take 3 (.take 4 (.take 5 (.take 6 (.take 7 (.take 8 (.take 9 (.take 10 (.take 11 (.aM 12 [] (.done))))))))))))) else .done, spec := fun c => bif Nat.beq c 0 then ⟨[(9, .ll), (25, .ii .i64)], 58721233⟩ else bif Nat.beq c 2 then ⟨[(12, .ii .i64), (56, .ii .i64)], 126100789566378576⟩ else ⟨[], 0⟩, iter := fun _ => none }
def Oj : ax Tryz.prog := ⟨[wO, vW, Z6, adq, T0, uR, SD], aD⟩
theorem ad2 : aF Tryz.prog HZ Tryz.f126 2 = true := by kernel_rfl
theorem agn (p0 : Int) (p1 : Sl) (K : Value → HP) : aE Tryz.prog Oj HZ Tryz.f126 [.int .i64 p0, p1.v] K = S.tU p0 p1 (fun r0 r1 => K (.tuple #[r0.v, .int .i64 r1])) := by kernel_rfl
def afI : Entry Tryz.prog := ⟨126, S.Pq, fun xs K w h => by
 obtain ⟨eb, h⟩ := bh h
 obtain ⟨p0, e0, h⟩ := aU h
 obtain ⟨p1, e1, h⟩ := cg h
 rw [e0, e1] at eb
 subst eb
 exact aG mixed Tryz.func126 ad2 Tryz.call126 rfl (by rw [agn]; exact h)⟩
def Ke : aA := { plan := fun _ => .done, spec := fun c => bif Nat.beq c 0 then ⟨[(2, .ll), (3, .ii .i64), (19, .ii .i64)], 917516⟩ else ⟨[], 0⟩, iter := fun _ => none }
def A1 : ax Tryz.prog := ⟨[UM, afI], aD⟩
theorem Xj : aF Tryz.prog Ke Tryz.f82 1 = true := by kernel_rfl
theorem x82 (p0 : Sl) (K : Value → HP) : aE Tryz.prog A1 Ke Tryz.f82 [p0.v] K = S.pH A1.cx p0 (fun r0 r1 => K (.tuple #[.slice r0.a r0.len r0.cap, .int .i64 r1])) := by kernel_rfl
def FR : Entry Tryz.prog := ⟨82, S.TU A1.cx, fun xs K w h => by
 obtain ⟨eb, h⟩ := bJ h
 obtain ⟨p0, e0, h⟩ := cg h
 rw [e0] at eb
 subst eb
 exact aG mixed Tryz.func82 Xj Tryz.call82 rfl (by rw [x82]; exact h)⟩
def Jl : aA := aV
def BQ : ax Tryz.prog := ⟨[E8, Ae, FR], aD⟩
theorem Zm : aF Tryz.prog Jl Tryz.f45 3 = true := by kernel_rfl
theorem YN (p0 : Option Addr) (p1 : Int) (p2 : Int) (K : Value → HP) : aE Tryz.prog BQ Jl Tryz.f45 [.pointer p0, .int .i64 p1, .int .i64 p2] K = S.rL BQ.cx p0 p1 p2 (fun r0 r1 => K (.tuple #[r0.v, .int .i64 r1])) := by kernel_rfl
def E45 : Entry Tryz.prog := ⟨45, S.W5 BQ.cx, fun xs K w h => by
 obtain ⟨eb, h⟩ := fy h
 obtain ⟨p0, e0, h⟩ := bw h
 obtain ⟨p1, e1, h⟩ := aU h
 obtain ⟨p2, e2, h⟩ := aU h
 rw [e0, e1, e2] at eb
 subst eb
 exact aG mixed Tryz.func45 Zm Tryz.call45 rfl (by rw [YN]; exact h)⟩
def Gz : aA := { plan := fun _ => .done, spec := fun c => bif Nat.beq c 0 then ⟨[(3, .ii .i64), (10, .ii .i64)], 1800⟩ else bif Nat.beq c 2 then ⟨[(3, .ii .i64), (17, .ii .i64)], 231208⟩ else ⟨[], 0⟩, iter := fun _ => none }
def aev : ax Tryz.prog := ⟨[], aD⟩
theorem Ud : aF Tryz.prog Gz Tryz.f46 1 = true := by kernel_rfl
theorem OS (p0 : Sl) (K : Value → HP) : aE Tryz.prog aev Gz Tryz.f46 [p0.v] K = S.rY p0 (fun r0 => K (.int .i64 r0)) := by kernel_rfl
def Tz : Entry Tryz.prog := ⟨46, S.adp, fun xs K w h => by
 obtain ⟨eb, h⟩ := bJ h
 obtain ⟨p0, e0, h⟩ := cg h
 rw [e0] at eb
 subst eb
 exact aG mixed Tryz.func46 Ud Tryz.call46 rfl (by rw [OS]; exact h)⟩
def JR : aA := aV
def af4 : ax Tryz.prog := ⟨[Mn], aD⟩
theorem Zn : aF Tryz.prog JR Tryz.f137 2 = true := by kernel_rfl
theorem YS (p0 : Option Addr) (p1 : ByteArray) (K : Value → HP) : aE Tryz.prog af4 JR Tryz.f137 [.pointer p0, .string p1] K = S.rE p0 p1 (fun r0 r1 => K (.tuple #[.int .i64 r0, .int .i64 r1])) := by kernel_rfl
def XP : Entry Tryz.prog := ⟨137, S.Vp, fun xs K w h => by
 obtain ⟨eb, h⟩ := bh h
 obtain ⟨p0, e0, h⟩ := bw h
 obtain ⟨p1, e1, h⟩ := cw h
 rw [e0, e1] at eb
 subst eb
 exact aG mixed Tryz.func137 Zn Tryz.call137 rfl (by rw [YS]; exact h)⟩
def Eg : aA := aV
def SF : ax Tryz.prog := ⟨[XP], aD⟩
theorem OA : aF Tryz.prog Eg Tryz.f93 2 = true := by kernel_rfl
theorem RB (p0 : Option Addr) (p1 : ByteArray) (K : Value → HP) : aE Tryz.prog SF Eg Tryz.f93 [.pointer p0, .string p1] K = S.mE p0 p1 (fun r0 => K (.bool r0)) := by kernel_rfl
def Cf : Entry Tryz.prog := ⟨93, S.YX, fun xs K w h => by
 obtain ⟨eb, h⟩ := bh h
 obtain ⟨p0, e0, h⟩ := bw h
 obtain ⟨p1, e1, h⟩ := cw h
 rw [e0, e1] at eb
 subst eb
 exact aG mixed Tryz.func93 OA Tryz.call93 rfl (by rw [RB]; exact h)⟩
def Fs : aA := aV
def T6 : ax Tryz.prog := ⟨[vM], aD⟩
theorem OQ : aF Tryz.prog Fs Tryz.f95 2 = true := by kernel_rfl
theorem QM (p0 : Addr) (p1 : Addr) (K : Value → HP) : aE Tryz.prog T6 Fs Tryz.f95 [.pointer (some p0), .pointer (some p1)] K = S.vm p0 p1 (fun r0 => K (.int .i64 r0)) := by kernel_rfl
def Sw : Entry Tryz.prog := ⟨95, S.Lr, fun xs K w h => by
 obtain ⟨eb, h⟩ := bh h
 obtain ⟨p0, e0, h⟩ := ep h
 obtain ⟨p1, e1, h⟩ := ep h
 rw [e0, e1] at eb
 subst eb
 exact aG mixed Tryz.func95 OQ Tryz.call95 rfl (by rw [QM]; exact h)⟩
def Ms : aA := { plan := fun _ => .done, spec := fun c => bif Nat.beq c 0 then ⟨[(20, .ii .i64)], 1835008⟩ else ⟨[], 0⟩, iter := fun _ => none }
def aba : ax Tryz.prog := ⟨[yY], aD⟩
theorem abe : aF Tryz.prog Ms Tryz.f68 1 = true := by kernel_rfl
theorem Xh (p0 : Option Addr) (K : Value → HP) : aE Tryz.prog aba Ms Tryz.f68 [.pointer p0] K = S.qD p0 (K (.tuple #[])) := by kernel_rfl
def L5 : Entry Tryz.prog := ⟨68, S.UB, fun xs K w h => by
 obtain ⟨eb, h⟩ := bJ h
 obtain ⟨p0, e0, h⟩ := bw h
 rw [e0] at eb
 subst eb
 exact aG mixed Tryz.func68 abe Tryz.call68 rfl (by rw [Xh]; exact h)⟩
def HQ : aA := aV
def SE : ax Tryz.prog := ⟨[xw, L5], aD⟩
theorem af7 : aF Tryz.prog HQ Tryz.f20 1 = true := by kernel_rfl
theorem x20 (p0 : Option Addr) (K : Value → HP) : aE Tryz.prog SE HQ Tryz.f20 [.pointer p0] K = S.kG p0 (fun r0 => K (.int .i64 r0)) := by kernel_rfl
def uj : Entry Tryz.prog := ⟨20, S.ve, fun xs K w h => by
 obtain ⟨eb, h⟩ := bJ h
 obtain ⟨p0, e0, h⟩ := bw h
 rw [e0] at eb
 subst eb
 exact aG mixed Tryz.func20 af7 Tryz.call20 rfl (by rw [x20]; exact h)⟩
def LW : aA := aV
def DJ : ax Tryz.prog := ⟨[], aD⟩
theorem acy : aF Tryz.prog LW Tryz.f97 1 = true := by kernel_rfl
theorem NB (p0 : FV) (K : Value → HP) : aE Tryz.prog DJ LW Tryz.f97 [p0.v] K = S.ld DJ.cx p0 (fun r0 => K (.int .i64 r0)) := by kernel_rfl
def tZ : Entry Tryz.prog := ⟨97, S.X3 DJ.cx, fun xs K w h => by
 obtain ⟨eb, h⟩ := bJ h
 obtain ⟨p0, e0, h⟩ := oM h
 rw [e0] at eb
 subst eb
 exact aG mixed Tryz.func97 acy Tryz.call97 rfl (by rw [NB]; exact h)⟩
def JB : aA := aV
def zo : ax Tryz.prog := ⟨[uj, tZ], aD⟩
theorem Y8 : aF Tryz.prog JB Tryz.f96 1 = true := by kernel_rfl
theorem x96 (p0 : Addr) (K : Value → HP) : aE Tryz.prog zo JB Tryz.f96 [.pointer (some p0)] K = S.u7 zo.cx p0 (fun r0 => K (.int .i64 r0)) := by kernel_rfl
def Q1 : Entry Tryz.prog := ⟨96, S.Me zo.cx, fun xs K w h => by
 obtain ⟨eb, h⟩ := bJ h
 obtain ⟨p0, e0, h⟩ := ep h
 rw [e0] at eb
 subst eb
 exact aG mixed Tryz.func96 Y8 Tryz.call96 rfl (by rw [x96]; exact h)⟩
def MN : aA := { plan := fun _ => .done, spec := fun c => bif Nat.beq c 0 then ⟨[(8, .ii .i64)], 448⟩ else ⟨[], 0⟩, iter := fun _ => none }
def Bp : ax Tryz.prog := ⟨[], aD⟩
theorem afF : aF Tryz.prog MN Tryz.f94 1 = true := by kernel_rfl
theorem QU (p0 : Sl) (K : Value → HP) : aE Tryz.prog Bp MN Tryz.f94 [p0.v] K = S.lR Bp.cx p0 (fun r0 => K (.int .i64 r0)) := by kernel_rfl
def uN : Entry Tryz.prog := ⟨94, S.aaD Bp.cx, fun xs K w h => by
 obtain ⟨eb, h⟩ := bJ h
 obtain ⟨p0, e0, h⟩ := cg h
 rw [e0] at eb
 subst eb
 exact aG mixed Tryz.func94 afF Tryz.call94 rfl (by rw [QU]; exact h)⟩
def Fz : aA := aV
def zI : ax Tryz.prog := ⟨[ry, Cf, uN, Sw, Q1], aD⟩
theorem SX : aF Tryz.prog Fz Tryz.f47 2 = true := by kernel_rfl
theorem x47 (p0 : Option Addr) (p1 : ByteArray) (K : Value → HP) : aE Tryz.prog zI Fz Tryz.f47 [.pointer p0, .string p1] K = S.nP zI.cx p0 p1 (fun r0 => K (.int .i64 r0)) := by kernel_rfl
def M7 : Entry Tryz.prog := ⟨47, S.abK zI.cx, fun xs K w h => by
 obtain ⟨eb, h⟩ := bh h
 obtain ⟨p0, e0, h⟩ := bw h
 obtain ⟨p1, e1, h⟩ := cw h
 rw [e0, e1] at eb
 subst eb
 exact aG mixed Tryz.func47 SX Tryz.call47 rfl (by rw [x47]; exact h)⟩
def Kp : aA := aV
def VR : ax Tryz.prog := ⟨[], aD⟩
theorem RH : aF Tryz.prog Kp Tryz.f48 1 = true := by kernel_rfl
theorem x48 (p0 : aZ) (K : Value → HP) : aE Tryz.prog VR Kp Tryz.f48 [p0.v] K = S.mg p0 (fun r0 => K (.int .i64 r0)) := by kernel_rfl
def Bg : Entry Tryz.prog := ⟨48, S.Ob, fun xs K w h => by
 obtain ⟨eb, h⟩ := bJ h
 obtain ⟨p0, e0, h⟩ := gq h
 rw [e0] at eb
 subst eb
 exact aG mixed Tryz.func48 RH Tryz.call48 rfl (by rw [x48]; exact h)⟩
def Es : aA := { plan := fun r => bif Nat.beq r 20 then .take 0 (.take 1 (.take 2 (.take 3 (.take 4 (.take 5 (.aM 6 [4] (.aM 7 [] (.take 8 (.take 9 (.aM 10 [] (.done))))))))))) else bif Nat.beq r 34 then .take 0 (.take 1 (.take 2 (.take 3 (.take 4 (.take 5 (.take 6 (.aM 7 [4] (.take 8 (.take 9 (.take 10 (.aM 11 [] (.done)))))))))))) else .done, spec := fun c => bif Nat.beq c 1 then ⟨[(45, .ii .i64)], 61572651155971⟩ else bif Nat.beq c 3 then ⟨[], 33283⟩ else bif Nat.beq c 5 then ⟨[(129, .ii .i64)], 1190988284223284622121811126011188740608⟩ else bif Nat.beq c 7 then ⟨[(136, .ii .i64)], 153637488664803716253713635255443347472896⟩ else ⟨[], 0⟩, iter := fun _ => none }
def zu : ax Tryz.prog := ⟨[E8, ry, Ni, C1, E41, Dk, HD, X0, E45, Tz, M7, Bg], aD⟩
theorem TZ : aF Tryz.prog Es Tryz.f12 3 = true := by kernel_rfl
theorem jD (p0 : Option Addr) (p1 : Int) (p2 : Int) (K : Value → HP) : aE Tryz.prog zu Es Tryz.f12 [.pointer p0, .int .i64 p1, .int .i64 p2] K = S.j7 zu.cx p0 p1 p2 (fun r0 r1 => K (.tuple #[.pointer r0, .int .i64 r1])) := by kernel_rfl
def xF : Entry Tryz.prog := ⟨12, S.afq zu.cx, fun xs K w h => by
 obtain ⟨eb, h⟩ := fy h
 obtain ⟨p0, e0, h⟩ := bw h
 obtain ⟨p1, e1, h⟩ := aU h
 obtain ⟨p2, e2, h⟩ := aU h
 rw [e0, e1, e2] at eb
 subst eb
 exact aG mixed Tryz.func12 TZ Tryz.call12 rfl (by rw [jD]; exact h)⟩
def FU : aA := aV
def N6 : ax Tryz.prog := ⟨[], aD⟩
theorem UE : aF Tryz.prog FU Tryz.f62 1 = true := by kernel_rfl
theorem TI (p0 : aZ) (K : Value → HP) : aE Tryz.prog N6 FU Tryz.f62 [p0.v] K = S.oE p0 (fun r0 => K (.bool r0)) := by kernel_rfl
def Ad : Entry Tryz.prog := ⟨62, S.NS, fun xs K w h => by
 obtain ⟨eb, h⟩ := bJ h
 obtain ⟨p0, e0, h⟩ := gq h
 rw [e0] at eb
 subst eb
 exact aG mixed Tryz.func62 UE Tryz.call62 rfl (by rw [TI]; exact h)⟩
def DU : aA := { plan := fun r => bif Nat.beq r 3 then .take 0 (.take 1 (.take 2 (.take 3 (.take 4 (.take 5 (.take 6 (.take 7 (.take 8 (.take 9 (.take 10 (.take 11 (.done)))))))))))) else .done, spec := fun _ => ⟨[], 0⟩, iter := fun _ => none }
def Uf : ax Tryz.prog := ⟨[], aD⟩
theorem aaw : aF Tryz.prog DU Tryz.f66 1 = true := by kernel_rfl
theorem OF (p0 : Option Addr) (K : Value → HP) : aE Tryz.prog Uf DU Tryz.f66 [.pointer p0] K = S.kU p0 (fun r0 => K (.pointer r0)) := by kernel_rfl
def yb : Entry Tryz.prog := ⟨66, S.Wk, fun xs K w h => by
 obtain ⟨eb, h⟩ := bJ h
 obtain ⟨p0, e0, h⟩ := bw h
 rw [e0] at eb
 subst eb
 exact aG mixed Tryz.func66 aaw Tryz.call66 rfl (by rw [OF]; exact h)⟩
def Ix : aA := aV
def ZY : ax Tryz.prog := ⟨[yb], aD⟩
theorem OM : aF Tryz.prog Ix Tryz.f29 1 = true := by kernel_rfl
theorem YO (p0 : Option Addr) (K : Value → HP) : aE Tryz.prog ZY Ix Tryz.f29 [.pointer p0] K = S.jN p0 (fun r0 => K (.int .i64 r0)) := by kernel_rfl
def qU : Entry Tryz.prog := ⟨29, S.PI, fun xs K w h => by
 obtain ⟨eb, h⟩ := bJ h
 obtain ⟨p0, e0, h⟩ := bw h
 rw [e0] at eb
 subst eb
 exact aG mixed Tryz.func29 OM Tryz.call29 rfl (by rw [YO]; exact h)⟩
def FF : aA := { plan := fun r => bif Nat.beq r 2 then .take 0 (.take 1 (.take 2 (.take 3 (.take 4 (.take 5 (.take 6 (.take 7 (.take 8 (.take 9 (.take 10 (.take 11 (.take 12 (.take 13 (.take 14 (.take 15 (.take 16 (.take 17 (.take 18 (.take 19 (.take 20 (.take 21 (.take 22 (.take 23 (.take 24 (.take 25 (.take 26 (.take 27 (.take 28 (.done))))))))))))))))))))))))))))) else .done, spec := fun _ => ⟨[], 0⟩, iter := fun _ => none }
def afJ : ax Tryz.prog := ⟨[], aD⟩
theorem ac9 : aF Tryz.prog FF Tryz.f109 1 = true := by kernel_rfl
theorem afQ (p0 : Option Addr) (K : Value → HP) : aE Tryz.prog afJ FF Tryz.f109 [.pointer p0] K = S.pP p0 (fun r0 => K (.bool r0)) := by kernel_rfl
def VE : Entry Tryz.prog := ⟨109, S.Sj, fun xs K w h => by
 obtain ⟨eb, h⟩ := bJ h
 obtain ⟨p0, e0, h⟩ := bw h
 rw [e0] at eb
 subst eb
 exact aG mixed Tryz.func109 ac9 Tryz.call109 rfl (by rw [afQ]; exact h)⟩
def KF : aA := aV
def Qf : ax Tryz.prog := ⟨[], aD⟩
theorem U6 : aF Tryz.prog KF Tryz.f153 0 = true := by kernel_rfl
theorem ZJ (K : Value → HP) : aE Tryz.prog Qf KF Tryz.f153 [] K = S.oT (fun r0 => K (.pointer r0)) := by kernel_rfl
def Fx : Entry Tryz.prog := ⟨153, S.acw, fun xs K w h => by
 obtain ⟨hl, h⟩ := mj h
 obtain rfl := List.eq_nil_of_length_eq_zero hl
 exact aG mixed Tryz.func153 U6 Tryz.call153 rfl (by rw [ZJ]; exact h)⟩
def J1 : aA := aV
def aeb : ax Tryz.prog := ⟨[], aD⟩
theorem ae0 : aF Tryz.prog J1 Tryz.f206 2 = true := by kernel_rfl
theorem ael (p0 : Int) (p1 : Int) (K : Value → HP) : aE Tryz.prog aeb J1 Tryz.f206 [.int .u64 p0, .int .i64 p1] K = S.uB p0 p1 (fun r0 => K (.bool r0)) := by kernel_rfl
def W9 : Entry Tryz.prog := ⟨206, S.WY, fun xs K w h => by
 obtain ⟨eb, h⟩ := bh h
 obtain ⟨p0, e0, h⟩ := aU h
 obtain ⟨p1, e1, h⟩ := aU h
 rw [e0, e1] at eb
 subst eb
 exact aG mixed Tryz.func206 ae0 Tryz.call206 rfl (by rw [ael]; exact h)⟩
def Gd : aA := { plan := fun _ => .done, spec := fun c => bif Nat.beq c 0 then ⟨[(21, .ii .i64)], 3145795⟩ else ⟨[], 0⟩, iter := fun _ => none }
def RF : ax Tryz.prog := ⟨[zn, W9], aD⟩
theorem Q5 : aF Tryz.prog Gd Tryz.f184 2 = true := by kernel_rfl
theorem Wp (p0 : Int) (p1 : Int) (K : Value → HP) : aE Tryz.prog RF Gd Tryz.f184 [.int .u64 p0, .int .i64 p1] K = S.tQ p0 p1 (fun r0 r1 => K (.tuple #[.slice r0.a r0.len r0.cap, .bool r1])) := by kernel_rfl
def aag : Entry Tryz.prog := ⟨184, S.acL, fun xs K w h => by
 obtain ⟨eb, h⟩ := bh h
 obtain ⟨p0, e0, h⟩ := aU h
 obtain ⟨p1, e1, h⟩ := aU h
 rw [e0, e1] at eb
 subst eb
 exact aG mixed Tryz.func184 Q5 Tryz.call184 rfl (by rw [Wp]; exact h)⟩
def IK : aA := aV
def XZ : ax Tryz.prog := ⟨[aag], aD⟩
theorem VL : aF Tryz.prog IK Tryz.f154 3 = true := by kernel_rfl
theorem afr (p0 : Option Addr) (p1 : Int) (p2 : Int) (K : Value → HP) : aE Tryz.prog XZ IK Tryz.f154 [.pointer p0, .int .u64 p1, .int .i64 p2] K = S.mO p0 p1 p2 (fun r0 => K (.bool r0)) := by kernel_rfl
def Ef : Entry Tryz.prog := ⟨154, S.QD, fun xs K w h => by
 obtain ⟨eb, h⟩ := fy h
 obtain ⟨p0, e0, h⟩ := bw h
 obtain ⟨p1, e1, h⟩ := aU h
 obtain ⟨p2, e2, h⟩ := aU h
 rw [e0, e1, e2] at eb
 subst eb
 exact aG mixed Tryz.func154 VL Tryz.call154 rfl (by rw [afr]; exact h)⟩
def FH : aA := aV
def aft : ax Tryz.prog := ⟨[], aD⟩
theorem ad5 : aF Tryz.prog FH Tryz.f155 2 = true := by kernel_rfl
theorem VX (p0 : Option Addr) (p1 : Sl) (K : Value → HP) : aE Tryz.prog aft FH Tryz.f155 [.pointer p0, p1.v] K = S.qn p0 p1 (K (.tuple #[])) := by kernel_rfl
def EC : Entry Tryz.prog := ⟨155, S.Pe, fun xs K w h => by
 obtain ⟨eb, h⟩ := bh h
 obtain ⟨p0, e0, h⟩ := bw h
 obtain ⟨p1, e1, h⟩ := cg h
 rw [e0, e1] at eb
 subst eb
 exact aG mixed Tryz.func155 ad5 Tryz.call155 rfl (by rw [VX]; exact h)⟩
def JH : aA := aV
def Xs : ax Tryz.prog := ⟨[BZ], aD⟩
theorem TA : aF Tryz.prog JH Tryz.f156 1 = true := by kernel_rfl
theorem YG (p0 : Option Addr) (K : Value → HP) : aE Tryz.prog Xs JH Tryz.f156 [.pointer p0] K = S.mS p0 (fun r0 => K (.slice r0.a r0.len r0.cap)) := by kernel_rfl
def Ft : Entry Tryz.prog := ⟨156, S.abP, fun xs K w h => by
 obtain ⟨eb, h⟩ := bJ h
 obtain ⟨p0, e0, h⟩ := bw h
 rw [e0] at eb
 subst eb
 exact aG mixed Tryz.func156 TA Tryz.call156 rfl (by rw [YG]; exact h)⟩
def Jj : aA := { plan := fun r => bif Nat.beq r 8 then .take 0 (.take 1 (.take 2 (.take 3 (.take 4 (.take 5 (.take 6 (.take 7 (.aM 8 [] (.done))))))))) else .done, spec := fun c => bif Nat.beq c 0 then ⟨[(16, .ii .i64)], 114722⟩ else ⟨[], 0⟩, iter := fun _ => none }
def Sc : ax Tryz.prog := ⟨[wO, vW, Fx, Ef, EC, Ft], aD⟩
theorem abq : aF Tryz.prog Jj Tryz.f114 1 = true := by kernel_rfl
theorem RM (p0 : aZ) (K : Value → HP) : aE Tryz.prog Sc Jj Tryz.f114 [p0.v] K = S.rQ p0 (fun r0 r1 => K (.tuple #[.slice r0.a r0.len r0.cap, .int .i64 r1])) := by kernel_rfl
def V6 : Entry Tryz.prog := ⟨114, S.T1, fun xs K w h => by
 obtain ⟨eb, h⟩ := bJ h
 obtain ⟨p0, e0, h⟩ := gq h
 rw [e0] at eb
 subst eb
 exact aG mixed Tryz.func114 abq Tryz.call114 rfl (by rw [RM]; exact h)⟩
def Hg : aA := { plan := fun _ => .done, spec := fun c => bif Nat.beq c 0 then ⟨[(3, .ll), (8, .ii .i64)], 456⟩ else ⟨[], 0⟩, iter := fun _ => none }
def Ts : ax Tryz.prog := ⟨[], aD⟩
theorem NH : aF Tryz.prog Hg Tryz.f158 1 = true := by kernel_rfl
theorem Zi (p0 : Sl) (K : Value → HP) : aE Tryz.prog Ts Hg Tryz.f158 [p0.v] K = S.rq p0 (fun r0 => K (.slice r0.a r0.len r0.cap)) := by kernel_rfl
def QK : Entry Tryz.prog := ⟨158, S.XE, fun xs K w h => by
 obtain ⟨eb, h⟩ := bJ h
 obtain ⟨p0, e0, h⟩ := cg h
 rw [e0] at eb
 subst eb
 exact aG mixed Tryz.func158 NH Tryz.call158 rfl (by rw [Zi]; exact h)⟩
def Lc : aA := aV
def abz : ax Tryz.prog := ⟨[Fx, Ef, EC, Ft, LN, QK], aD⟩
theorem af5 : aF Tryz.prog Lc Tryz.f115 2 = true := by kernel_rfl
theorem Xe (p0 : Int) (p1 : Sl) (K : Value → HP) : aE Tryz.prog abz Lc Tryz.f115 [.int .i64 p0, p1.v] K = S.qV p0 p1 (fun r0 r1 => K (.tuple #[.slice r0.a r0.len r0.cap, .int .i64 r1])) := by kernel_rfl
def acu : Entry Tryz.prog := ⟨115, S.UP, fun xs K w h => by
 obtain ⟨eb, h⟩ := bh h
 obtain ⟨p0, e0, h⟩ := aU h
 obtain ⟨p1, e1, h⟩ := cg h
 rw [e0, e1] at eb
 subst eb
 exact aG mixed Tryz.func115 af5 Tryz.call115 rfl (by rw [Xe]; exact h)⟩
def Lf : aA := aV
def UA : ax Tryz.prog := ⟨[V6, acu], aD⟩
theorem aaT : aF Tryz.prog Lf Tryz.f77 1 = true := by kernel_rfl
theorem Ti (p0 : aZ) (K : Value → HP) : aE Tryz.prog UA Lf Tryz.f77 [p0.v] K = S.lS p0 (fun r0 r1 => K (.tuple #[.slice r0.a r0.len r0.cap, .int .i64 r1])) := by kernel_rfl
def BY : Entry Tryz.prog := ⟨77, S.SY, fun xs K w h => by
 obtain ⟨eb, h⟩ := bJ h
 obtain ⟨p0, e0, h⟩ := gq h
 rw [e0] at eb
 subst eb
 exact aG mixed Tryz.func77 aaT Tryz.call77 rfl (by rw [Ti]; exact h)⟩
def HX : aA := { plan := fun r => bif Nat.beq r 3 then .take 0 (.take 1 (.take 2 (.take 3 (.take 4 (.take 5 (.aM 6 [] (.done))))))) else .done, spec := fun _ => ⟨[], 0⟩, iter := fun _ => none }
def NW : ax Tryz.prog := ⟨[], aD⟩
theorem afg : aF Tryz.prog HX Tryz.f71 2 = true := by kernel_rfl
theorem U0 (p0 : gE) (p1 : ByteArray) (K : Value → HP) : aE Tryz.prog NW HX Tryz.f71 [p0.v, .string p1] K = S.kM p0 p1 (fun r0 => K (.string r0)) := by kernel_rfl
def JJ : Entry Tryz.prog := ⟨71, S.Yo, fun xs K w h => by
 obtain ⟨eb, h⟩ := bh h
 obtain ⟨p0, e0, h⟩ := Ca h
 obtain ⟨p1, e1, h⟩ := cw h
 rw [e0, e1] at eb
 subst eb
 exact aG mixed Tryz.func71 afg Tryz.call71 rfl (by rw [U0]; exact h)⟩
def Jm : aA := { plan := fun r => bif Nat.beq r 2 then .take 0 (.take 1 (.take 2 (.take 3 (.take 4 (.aM 5 [] (.take 6 (.done))))))) else bif Nat.beq r 3 then .take 0 (.take 1 (.take 2 (.take 3 (.take 4 (.take 5 (.take 6 (.take 7 (.take 8 (.aM 9 [5] (.take 10 (.done))))))))))) else bif Nat.beq r 6 then .take 0 (.take 1 (.take 2 (.take 3 (.take 4 (.take 5 (.aM 6 [4] (.aM 7 [] (.take 8 (.take 9 (.aM 10 [] (.done))))))))))) else .done, spec := fun _ => ⟨[], 0⟩, iter := fun _ => none }
def adD : ax Tryz.prog := ⟨[Jg, JJ], aD⟩
theorem agl : aF Tryz.prog Jm Tryz.f181 3 = true := by kernel_rfl
theorem N4 (p0 : Option Addr) (p1 : Int) (p2 : gE) (K : Value → HP) : aE Tryz.prog adD Jm Tryz.f181 [.pointer p0, .int .i64 p1, p2.v] K = S.tC p0 p1 p2 (fun r0 => K (.int .i64 r0)) := by kernel_rfl
def T7 : Entry Tryz.prog := ⟨181, S.abg, fun xs K w h => by
 obtain ⟨eb, h⟩ := fy h
 obtain ⟨p0, e0, h⟩ := bw h
 obtain ⟨p1, e1, h⟩ := aU h
 obtain ⟨p2, e2, h⟩ := Ca h
 rw [e0, e1, e2] at eb
 subst eb
 exact aG mixed Tryz.func181 agl Tryz.call181 rfl (by rw [N4]; exact h)⟩
def LM : aA := { plan := fun r => bif Nat.beq r 4 then .take 0 (.take 1 (.take 2 (.take 3 (.take 4 (.take 5 (.take 6 (.take 7 (.take 8 (.take 9 (.take 10 (.take 11 (.take 12 (.take 13 (.take 14 (.take 15 (.aM 16 [] (.take 17 (.done)))))))))))))))))) else .done, spec := fun _ => ⟨[], 0⟩, iter := fun _ => none }
def Zb : ax Tryz.prog := ⟨[CG, T7], aD⟩
theorem Vx : aF Tryz.prog LM Tryz.f150 3 = true := by kernel_rfl
theorem aeL (p0 : Option Addr) (p1 : ByteArray) (p2 : Sl) (K : Value → HP) : aE Tryz.prog Zb LM Tryz.f150 [.pointer p0, .string p1, p2.v] K = S.tL p0 p1 p2 (fun r0 => K (.int .i64 r0)) := by kernel_rfl
def YR : Entry Tryz.prog := ⟨150, S.RI, fun xs K w h => by
 obtain ⟨eb, h⟩ := fy h
 obtain ⟨p0, e0, h⟩ := bw h
 obtain ⟨p1, e1, h⟩ := cw h
 obtain ⟨p2, e2, h⟩ := cg h
 rw [e0, e1, e2] at eb
 subst eb
 exact aG mixed Tryz.func150 Vx Tryz.call150 rfl (by rw [aeL]; exact h)⟩
def Ev : aA := aV
def WZ : ax Tryz.prog := ⟨[YR], aD⟩
theorem SA : aF Tryz.prog Ev Tryz.f149 3 = true := by kernel_rfl
theorem Vn (p0 : Addr) (p1 : Addr) (p2 : Addr) (K : Value → HP) : aE Tryz.prog WZ Ev Tryz.f149 [.pointer (some p0), .pointer (some p1), .pointer (some p2)] K = S.wX p0 p1 p2 (fun r0 => K (.int .i64 r0)) := by kernel_rfl
def Oa : Entry Tryz.prog := ⟨149, S.HW, fun xs K w h => by
 obtain ⟨eb, h⟩ := fy h
 obtain ⟨p0, e0, h⟩ := ep h
 obtain ⟨p1, e1, h⟩ := ep h
 obtain ⟨p2, e2, h⟩ := ep h
 rw [e0, e1, e2] at eb
 subst eb
 exact aG mixed Tryz.func149 SA Tryz.call149 rfl (by rw [Vn]; exact h)⟩
def EB : aA := aV
def YZ : ax Tryz.prog := ⟨[], aD⟩
theorem aea : aF Tryz.prog EB Tryz.f72 1 = true := by kernel_rfl
theorem x72 (p0 : Option Addr) (K : Value → HP) : aE Tryz.prog YZ EB Tryz.f72 [.pointer p0] K = S.nL p0 (K (.tuple #[])) := by kernel_rfl
def J2 : Entry Tryz.prog := ⟨72, S.aeS, fun xs K w h => by
 obtain ⟨eb, h⟩ := bJ h
 obtain ⟨p0, e0, h⟩ := bw h
 rw [e0] at eb
 subst eb
 exact aG mixed Tryz.func72 aea Tryz.call72 rfl (by rw [x72]; exact h)⟩
def GJ : aA := aV
def abX : ax Tryz.prog := ⟨[J2, CG], aD⟩
theorem abf : aF Tryz.prog GJ Tryz.f183 2 = true := by kernel_rfl
theorem Nu (p0 : Option Addr) (p1 : ByteArray) (K : Value → HP) : aE Tryz.prog abX GJ Tryz.f183 [.pointer p0, .string p1] K = S.sW p0 p1 (fun r0 => K (.int .i64 r0)) := by kernel_rfl
def Qh : Entry Tryz.prog := ⟨183, S.Og, fun xs K w h => by
 obtain ⟨eb, h⟩ := bh h
 obtain ⟨p0, e0, h⟩ := bw h
 obtain ⟨p1, e1, h⟩ := cw h
 rw [e0, e1] at eb
 subst eb
 exact aG mixed Tryz.func183 abf Tryz.call183 rfl (by rw [Nu]; exact h)⟩
def KO : aA := aV
def acV : ax Tryz.prog := ⟨[Qh], aD⟩
theorem Qs : aF Tryz.prog KO Tryz.f182 2 = true := by kernel_rfl
theorem aeU (p0 : Addr) (p1 : Addr) (K : Value → HP) : aE Tryz.prog acV KO Tryz.f182 [.pointer (some p0), .pointer (some p1)] K = S.wU p0 p1 (fun r0 => K (.int .i64 r0)) := by kernel_rfl
def Nv : Entry Tryz.prog := ⟨182, S.DY, fun xs K w h => by
 obtain ⟨eb, h⟩ := bh h
 obtain ⟨p0, e0, h⟩ := ep h
 obtain ⟨p1, e1, h⟩ := ep h
 rw [e0, e1] at eb
 subst eb
 exact aG mixed Tryz.func182 Qs Tryz.call182 rfl (by rw [aeU]; exact h)⟩
def Fh : aA := aV
def Bz : ax Tryz.prog := ⟨[tZ, Nv], aD⟩
theorem adv : aF Tryz.prog Fh Tryz.f152 2 = true := by kernel_rfl
theorem aao (p0 : Option Addr) (p1 : ByteArray) (K : Value → HP) : aE Tryz.prog Bz Fh Tryz.f152 [.pointer p0, .string p1] K = S.ur Bz.cx p0 p1 (fun r0 => K (.int .i64 r0)) := by kernel_rfl
def afw : Entry Tryz.prog := ⟨152, S.agx Bz.cx, fun xs K w h => by
 obtain ⟨eb, h⟩ := bh h
 obtain ⟨p0, e0, h⟩ := bw h
 obtain ⟨p1, e1, h⟩ := cw h
 rw [e0, e1] at eb
 subst eb
 exact aG mixed Tryz.func152 adv Tryz.call152 rfl (by rw [aao]; exact h)⟩
def HG : aA := aV
def zm : ax Tryz.prog := ⟨[afw], aD⟩
theorem aer : aF Tryz.prog HG Tryz.f151 2 = true := by kernel_rfl
theorem aaX (p0 : Addr) (p1 : Addr) (K : Value → HP) : aE Tryz.prog zm HG Tryz.f151 [.pointer (some p0), .pointer (some p1)] K = S.xu zm.cx p0 p1 (fun r0 => K (.int .i64 r0)) := by kernel_rfl
def Xn : Entry Tryz.prog := ⟨151, S.GR zm.cx, fun xs K w h => by
 obtain ⟨eb, h⟩ := bh h
 obtain ⟨p0, e0, h⟩ := ep h
 obtain ⟨p1, e1, h⟩ := ep h
 rw [e0, e1] at eb
 subst eb
 exact aG mixed Tryz.func151 aer Tryz.call151 rfl (by rw [aaX]; exact h)⟩
def LP : aA := aV
def DH : ax Tryz.prog := ⟨[uN, Oa, Xn], aD⟩
theorem Ra : aF Tryz.prog LP Tryz.f111 3 = true := by kernel_rfl
theorem Tl (p0 : Option Addr) (p1 : ByteArray) (p2 : Sl) (K : Value → HP) : aE Tryz.prog DH LP Tryz.f111 [.pointer p0, .string p1, p2.v] K = S.oh DH.cx p0 p1 p2 (fun r0 => K (.int .i64 r0)) := by kernel_rfl
def zU : Entry Tryz.prog := ⟨111, S.SO DH.cx, fun xs K w h => by
 obtain ⟨eb, h⟩ := fy h
 obtain ⟨p0, e0, h⟩ := bw h
 obtain ⟨p1, e1, h⟩ := cw h
 obtain ⟨p2, e2, h⟩ := cg h
 rw [e0, e1, e2] at eb
 subst eb
 exact aG mixed Tryz.func111 Ra Tryz.call111 rfl (by rw [Tl]; exact h)⟩
def En : aA := { plan := fun r => bif Nat.beq r 4 then .take 0 (.take 1 (.take 2 (.take 3 (.take 4 (.take 5 (.take 6 (.take 7 (.take 8 (.take 9 (.take 10 (.take 11 (.take 13 (.aM 12 [3] (.aM 14 [] (.take 15 (.done)))))))))))))))) else bif Nat.beq r 7 then .take 0 (.take 1 (.take 2 (.take 3 (.take 4 (.take 5 (.take 6 (.take 7 (.take 8 (.take 9 (.take 10 (.take 11 (.take 12 (.aM 13 [4] (.aM 14 [] (.take 15 (.take 16 (.aM 17 [] (.done)))))))))))))))))) else bif Nat.beq r 9 then .take 0 (.take 1 (.take 2 (.take 3 (.take 4 (.take 5 (.aM 6 [4] (.take 7 (.take 8 (.take 9 (.aM 10 [] (.done))))))))))) else .done, spec := fun _ => ⟨[], 0⟩, iter := fun _ => none }
def Cc : ax Tryz.prog := ⟨[E8, Bg, yb, BY, zU], aD⟩
theorem N2 : aF Tryz.prog En Tryz.f65 2 = true := by kernel_rfl
theorem x65 (p0 : Option Addr) (p1 : aZ) (K : Value → HP) : aE Tryz.prog Cc En Tryz.f65 [.pointer p0, p1.v] K = S.oH Cc.cx p0 p1 (fun r0 => K (.int .i64 r0)) := by kernel_rfl
def M3 : Entry Tryz.prog := ⟨65, S.Y1 Cc.cx, fun xs K w h => by
 obtain ⟨eb, h⟩ := bh h
 obtain ⟨p0, e0, h⟩ := bw h
 obtain ⟨p1, e1, h⟩ := gq h
 rw [e0, e1] at eb
 subst eb
 exact aG mixed Tryz.func65 N2 Tryz.call65 rfl (by rw [x65]; exact h)⟩
def M5 : aA := { plan := fun r => bif Nat.beq r 1 then .take 0 (.take 1 (.take 2 (.take 3 (.take 4 (.take 5 (.take 6 (.take 7 (.take 8 (.take 9 (.take 10 (.aM 11 [] (.done)))))))))))) else .done, spec := fun _ => ⟨[], 0⟩, iter := fun _ => none }
def Uj : ax Tryz.prog := ⟨[], aD⟩
theorem RU : aF Tryz.prog M5 Tryz.f76 3 = true := by kernel_rfl
theorem x76 (p0 : Option Addr) (p1 : Int) (p2 : Int) (K : Value → HP) : aE Tryz.prog Uj M5 Tryz.f76 [.pointer p0, .int .i64 p1, .int .i64 p2] K = S.qP p0 p1 p2 (fun r0 => K (r0.v)) := by kernel_rfl
def Jh : Entry Tryz.prog := ⟨76, S.afs, fun xs K w h => by
 obtain ⟨eb, h⟩ := fy h
 obtain ⟨p0, e0, h⟩ := bw h
 obtain ⟨p1, e1, h⟩ := aU h
 obtain ⟨p2, e2, h⟩ := aU h
 rw [e0, e1, e2] at eb
 subst eb
 exact aG mixed Tryz.func76 RU Tryz.call76 rfl (by rw [x76]; exact h)⟩
def FK : aA := aV
def Zq : ax Tryz.prog := ⟨[BD, xw, y9], aD⟩
theorem aai : aF Tryz.prog FK Tryz.f117 2 = true := by kernel_rfl
theorem afV (p0 : Option Addr) (p1 : ByteArray) (K : Value → HP) : aE Tryz.prog Zq FK Tryz.f117 [.pointer p0, .string p1] K = S.pV p0 p1 (fun r0 => K (.int .i64 r0)) := by kernel_rfl
def FN : Entry Tryz.prog := ⟨117, S.XV, fun xs K w h => by
 obtain ⟨eb, h⟩ := bh h
 obtain ⟨p0, e0, h⟩ := bw h
 obtain ⟨p1, e1, h⟩ := cw h
 rw [e0, e1] at eb
 subst eb
 exact aG mixed Tryz.func117 aai Tryz.call117 rfl (by rw [afV]; exact h)⟩
def IB : aA := aV
def AQ : ax Tryz.prog := ⟨[zU], aD⟩
theorem adg : aF Tryz.prog IB Tryz.f147 3 = true := by kernel_rfl
theorem Qd (p0 : Addr) (p1 : Addr) (p2 : Addr) (K : Value → HP) : aE Tryz.prog AQ IB Tryz.f147 [.pointer (some p0), .pointer (some p1), .pointer (some p2)] K = S.vo AQ.cx p0 p1 p2 (fun r0 => K (.int .i64 r0)) := by kernel_rfl
def QW : Entry Tryz.prog := ⟨147, S.J3 AQ.cx, fun xs K w h => by
 obtain ⟨eb, h⟩ := fy h
 obtain ⟨p0, e0, h⟩ := ep h
 obtain ⟨p1, e1, h⟩ := ep h
 obtain ⟨p2, e2, h⟩ := ep h
 rw [e0, e1, e2] at eb
 subst eb
 exact aG mixed Tryz.func147 adg Tryz.call147 rfl (by rw [Qd]; exact h)⟩
def JQ : aA := aV
def Dj : ax Tryz.prog := ⟨[uj, tZ], aD⟩
theorem Od : aF Tryz.prog JQ Tryz.f148 1 = true := by kernel_rfl
theorem acO (p0 : Addr) (K : Value → HP) : aE Tryz.prog Dj JQ Tryz.f148 [.pointer (some p0)] K = S.wW Dj.cx p0 (fun r0 => K (.int .i64 r0)) := by kernel_rfl
def abj : Entry Tryz.prog := ⟨148, S.Jx Dj.cx, fun xs K w h => by
 obtain ⟨eb, h⟩ := bJ h
 obtain ⟨p0, e0, h⟩ := ep h
 rw [e0] at eb
 subst eb
 exact aG mixed Tryz.func148 Od Tryz.call148 rfl (by rw [acO]; exact h)⟩
def Ig : aA := aV
def ab0 : ax Tryz.prog := ⟨[vM], aD⟩
theorem abG : aF Tryz.prog Ig Tryz.f160 2 = true := by kernel_rfl
theorem adR (p0 : Addr) (p1 : Addr) (K : Value → HP) : aE Tryz.prog ab0 Ig Tryz.f160 [.pointer (some p0), .pointer (some p1)] K = S.qM p0 p1 (fun r0 => K (.int .i64 r0)) := by kernel_rfl
def Va : Entry Tryz.prog := ⟨160, S.Iv, fun xs K w h => by
 obtain ⟨eb, h⟩ := bh h
 obtain ⟨p0, e0, h⟩ := ep h
 obtain ⟨p1, e1, h⟩ := ep h
 rw [e0, e1] at eb
 subst eb
 exact aG mixed Tryz.func160 abG Tryz.call160 rfl (by rw [adR]; exact h)⟩
def Kc : aA := aV
def B9 : ax Tryz.prog := ⟨[tZ, Va], aD⟩
theorem Wf : aF Tryz.prog Kc Tryz.f122 2 = true := by kernel_rfl
theorem XJ (p0 : Option Addr) (p1 : ByteArray) (K : Value → HP) : aE Tryz.prog B9 Kc Tryz.f122 [.pointer p0, .string p1] K = S.qv B9.cx p0 p1 (K (.tuple #[])) := by kernel_rfl
def Jz : Entry Tryz.prog := ⟨122, S.TK B9.cx, fun xs K w h => by
 obtain ⟨eb, h⟩ := bh h
 obtain ⟨p0, e0, h⟩ := bw h
 obtain ⟨p1, e1, h⟩ := cw h
 rw [e0, e1] at eb
 subst eb
 exact aG mixed Tryz.func122 Wf Tryz.call122 rfl (by rw [XJ]; exact h)⟩
def Lm : aA := aV
def yT : ax Tryz.prog := ⟨[Cf, uN, FN, Jz, QW, abj], aD⟩
theorem Su : aF Tryz.prog Lm Tryz.f110 3 = true := by kernel_rfl
theorem Tj (p0 : Option Addr) (p1 : ByteArray) (p2 : Sl) (K : Value → HP) : aE Tryz.prog yT Lm Tryz.f110 [.pointer p0, .string p1, p2.v] K = S.rO yT.cx p0 p1 p2 (fun r0 => K (.int .i64 r0)) := by kernel_rfl
def abQ : Entry Tryz.prog := ⟨110, S.aeX yT.cx, fun xs K w h => by
 obtain ⟨eb, h⟩ := fy h
 obtain ⟨p0, e0, h⟩ := bw h
 obtain ⟨p1, e1, h⟩ := cw h
 obtain ⟨p2, e2, h⟩ := cg h
 rw [e0, e1, e2] at eb
 subst eb
 exact aG mixed Tryz.func110 Su Tryz.call110 rfl (by rw [Tj]; exact h)⟩
def Ff : aA := { plan := fun r => bif Nat.beq r 2 then .take 0 (.take 1 (.take 2 (.take 3 (.aM 4 [] (.take 5 (.take 6 (.take 7 (.take 8 (.take 9 (.take 10 (.take 11 (.take 12 (.take 13 (.take 14 (.take 15 (.take 16 (.done))))))))))))))))) else bif Nat.beq r 4 then .take 0 (.take 1 (.take 2 (.take 3 (.aM 4 [] (.take 5 (.take 6 (.take 7 (.take 8 (.take 9 (.take 10 (.take 11 (.take 12 (.take 13 (.take 14 (.take 15 (.take 16 (.take 17 (.take 18 (.take 19 (.take 20 (.take 21 (.take 22 (.done))))))))))))))))))))))) else bif Nat.beq r 12 then .take 0 (.take 1 (.take 2 (.take 3 (.take 4 (.take 5 (.take 6 (.take 7 (.take 8 (.take 10 (.aM 9 [3] (.aM 11 [] (.take 12 (.done))))))))))))) else bif Nat.beq r 15 then .take 0 (.take 1 (.take 2 (.take 3 (.take 4 (.take 5 (.take 6 (.take 7 (.take 8 (.take 9 (.take 10 (.take 11 (.aM 12 [4] (.take 13 (.aM 14 [4] (.aM 15 [] (.take 16 (.take 17 (.aM 18 [] (.done))))))))))))))))))) else .done, spec := fun _ => ⟨[], 0⟩, iter := fun _ => none }
def Cq : ax Tryz.prog := ⟨[E8, qU, M3, yb, Jh, BY, VE, abQ], aD⟩
theorem afn : aF Tryz.prog Ff Tryz.f64 1 = true := by kernel_rfl
theorem x64 (p0 : Option Addr) (K : Value → HP) : aE Tryz.prog Cq Ff Tryz.f64 [.pointer p0] K = S.sF Cq.cx p0 (fun r0 => K (.int .i64 r0)) := by kernel_rfl
def E64 : Entry Tryz.prog := ⟨64, S.WR Cq.cx, fun xs K w h => by
 obtain ⟨eb, h⟩ := bJ h
 obtain ⟨p0, e0, h⟩ := bw h
 rw [e0] at eb
 subst eb
 exact aG mixed Tryz.func64 afn Tryz.call64 rfl (by rw [x64]; exact h)⟩
def Mo : aA := { plan := fun r => bif Nat.beq r 9 then .take 0 (.take 1 (.take 2 (.take 3 (.take 4 (.take 5 (.take 6 (.take 7 (.take 8 (.take 9 (.take 10 (.take 11 (.take 12 (.take 13 (.take 14 (.take 15 (.take 16 (.take 17 (.take 18 (.aM 19 [] (.take 20 (.done))))))))))))))))))))) else .done, spec := fun _ => ⟨[], 0⟩, iter := fun _ => none }
def zS : ax Tryz.prog := ⟨[qU, Ad, wO, E64, M3, yb], aD⟩
theorem XL : aF Tryz.prog Mo Tryz.f18 2 = true := by kernel_rfl
theorem R6 (p0 : Option Addr) (p1 : aZ) (K : Value → HP) : aE Tryz.prog zS Mo Tryz.f18 [.pointer p0, p1.v] K = S.nT zS.cx p0 p1 (fun r0 r1 => K (.tuple #[r0.v, .int .i64 r1])) := by kernel_rfl
def Aj : Entry Tryz.prog := ⟨18, S.acK zS.cx, fun xs K w h => by
 obtain ⟨eb, h⟩ := bh h
 obtain ⟨p0, e0, h⟩ := bw h
 obtain ⟨p1, e1, h⟩ := gq h
 rw [e0, e1] at eb
 subst eb
 exact aG mixed Tryz.func18 XL Tryz.call18 rfl (by rw [R6]; exact h)⟩
def IZ : aA := { plan := fun _ => .done, spec := fun c => bif Nat.beq c 0 then ⟨[(3, .ll), (13, .ii .i64)], 14344⟩ else bif Nat.beq c 2 then ⟨[(3, .ll), (20, .ii .i64)], 1849384⟩ else ⟨[], 0⟩, iter := fun _ => none }
def Xl : ax Tryz.prog := ⟨[Ad], aD⟩
theorem T5 : aF Tryz.prog IZ Tryz.f23 1 = true := by kernel_rfl
theorem x23 (p0 : Option Addr) (K : Value → HP) : aE Tryz.prog Xl IZ Tryz.f23 [.pointer p0] K = S.jE p0 (fun r0 => K (.slice r0.a r0.len r0.cap)) := by kernel_rfl
def sJ : Entry Tryz.prog := ⟨23, S.N3, fun xs K w h => by
 obtain ⟨eb, h⟩ := bJ h
 obtain ⟨p0, e0, h⟩ := bw h
 rw [e0] at eb
 subst eb
 exact aG mixed Tryz.func23 T5 Tryz.call23 rfl (by rw [x23]; exact h)⟩
def Kw : aA := aV
def XD : ax Tryz.prog := ⟨[], aD⟩
theorem Sa : aF Tryz.prog Kw Tryz.f81 2 = true := by kernel_rfl
theorem SZ (p0 : fB) (p1 : Addr) (K : Value → HP) : aE Tryz.prog XD Kw Tryz.f81 [p0.v, .pointer (some p1)] K = S.xe p0 p1 (fun r0 => K (.bool r0)) := by kernel_rfl
def E81 : Entry Tryz.prog := ⟨81, S.JE, fun xs K w h => by
 obtain ⟨eb, h⟩ := bh h
 obtain ⟨p0, e0, h⟩ := E3 h
 obtain ⟨p1, e1, h⟩ := ep h
 rw [e0, e1] at eb
 subst eb
 exact aG mixed Tryz.func81 Sa Tryz.call81 rfl (by rw [SZ]; exact h)⟩
def KQ : aA := { plan := fun _ => .done, spec := fun c => bif Nat.beq c 0 then ⟨[(8, .ii .i64)], 387⟩ else ⟨[], 0⟩, iter := fun _ => none }
def AL : ax Tryz.prog := ⟨[], aD⟩
theorem TD : aF Tryz.prog KQ Tryz.f124 2 = true := by kernel_rfl
theorem ON (p0 : Sl) (p1 : FV) (K : Value → HP) : aE Tryz.prog AL KQ Tryz.f124 [p0.v, p1.v] K = S.ym AL.cx p0 p1 (fun r0 => K (.int .i64 r0)) := by kernel_rfl
def WL : Entry Tryz.prog := ⟨124, S.ac6 AL.cx, fun xs K w h => by
 obtain ⟨eb, h⟩ := bh h
 obtain ⟨p0, e0, h⟩ := cg h
 obtain ⟨p1, e1, h⟩ := oM h
 rw [e0, e1] at eb
 subst eb
 exact aG mixed Tryz.func124 TD Tryz.call124 rfl (by rw [ON]; exact h)⟩
def Jt : aA := aV
def Cj : ax Tryz.prog := ⟨[WL], aD⟩
theorem aeN : aF Tryz.prog Jt Tryz.f80 2 = true := by kernel_rfl
theorem WA (p0 : Sl) (p1 : FV) (K : Value → HP) : aE Tryz.prog Cj Jt Tryz.f80 [p0.v, p1.v] K = S.sx Cj.cx p0 p1 (fun r0 => K (.bool r0)) := by kernel_rfl
def ND : Entry Tryz.prog := ⟨80, S.VQ Cj.cx, fun xs K w h => by
 obtain ⟨eb, h⟩ := bh h
 obtain ⟨p0, e0, h⟩ := cg h
 obtain ⟨p1, e1, h⟩ := oM h
 rw [e0, e1] at eb
 subst eb
 exact aG mixed Tryz.func80 aeN Tryz.call80 rfl (by rw [WA]; exact h)⟩
def MM : aA := { plan := fun r => bif Nat.beq r 1 then .take 0 (.take 1 (.take 2 (.take 3 (.take 4 (.take 5 (.take 6 (.take 7 (.take 8 (.take 9 (.aM 10 [3] (.aM 11 [] (.take 12 (.take 13 (.take 14 (.take 15 (.take 16 (.done))))))))))))))))) else .done, spec := fun _ => ⟨[], 0⟩, iter := fun _ => none }
def BI : ax Tryz.prog := ⟨[E8, sJ, Ae, ND, E81, FR], aD⟩
theorem TL : aF Tryz.prog MM Tryz.f28 2 = true := by kernel_rfl
theorem WX (p0 : Option Addr) (p1 : fB) (K : Value → HP) : aE Tryz.prog BI MM Tryz.f28 [.pointer p0, p1.v] K = S.rH BI.cx p0 p1 (fun r0 r1 => K (.tuple #[r0.v, .int .i64 r1])) := by kernel_rfl
def Vk : Entry Tryz.prog := ⟨28, S.Te BI.cx, fun xs K w h => by
 obtain ⟨eb, h⟩ := bh h
 obtain ⟨p0, e0, h⟩ := bw h
 obtain ⟨p1, e1, h⟩ := E3 h
 rw [e0, e1] at eb
 subst eb
 exact aG mixed Tryz.func28 TL Tryz.call28 rfl (by rw [WX]; exact h)⟩
def Jw : aA := aV
def aa5 : ax Tryz.prog := ⟨[], aD⟩
theorem Yr : aF Tryz.prog Jw Tryz.f21 1 = true := by kernel_rfl
theorem x21 (p0 : Option Addr) (K : Value → HP) : aE Tryz.prog aa5 Jw Tryz.f21 [.pointer p0] K = S.jV p0 (fun r0 => K (.int .i64 r0)) := by kernel_rfl
def uz : Entry Tryz.prog := ⟨21, S.V2, fun xs K w h => by
 obtain ⟨eb, h⟩ := bJ h
 obtain ⟨p0, e0, h⟩ := bw h
 rw [e0] at eb
 subst eb
 exact aG mixed Tryz.func21 Yr Tryz.call21 rfl (by rw [x21]; exact h)⟩
def Ii : aA := { plan := fun _ => .done, spec := fun c => bif Nat.beq c 0 then ⟨[(3, .ii .i64), (11, .ii .i64)], 3592⟩ else ⟨[], 0⟩, iter := fun _ => none }
def aem : ax Tryz.prog := ⟨[], aD⟩
theorem Ym : aF Tryz.prog Ii Tryz.f27 1 = true := by kernel_rfl
theorem x27 (p0 : Option Addr) (K : Value → HP) : aE Tryz.prog aem Ii Tryz.f27 [.pointer p0] K = S.mP p0 (fun r0 => K (.int .i64 r0)) := by kernel_rfl
def Bh : Entry Tryz.prog := ⟨27, S.Rp, fun xs K w h => by
 obtain ⟨eb, h⟩ := bJ h
 obtain ⟨p0, e0, h⟩ := bw h
 rw [e0] at eb
 subst eb
 exact aG mixed Tryz.func27 Ym Tryz.call27 rfl (by rw [x27]; exact h)⟩
def Gv : aA := aV
def ze : ax Tryz.prog := ⟨[E8, yh, xF, Aj, uz, sJ, Bh, Vk, qU], aD⟩
theorem VO : aF Tryz.prog Gv Tryz.f6 0 = true := by kernel_rfl
theorem x6 (K : Value → HP) : aE Tryz.prog ze Gv Tryz.f6 [] K = S.nM ze.cx (fun r0 => K (.bool r0)) := by kernel_rfl
def E6 : Entry Tryz.prog := ⟨6, S.WU ze.cx, fun xs K w h => by
 obtain ⟨hl, h⟩ := mj h
 obtain rfl := List.eq_nil_of_length_eq_zero hl
 exact aG mixed Tryz.func6 VO Tryz.call6 rfl (by rw [x6]; exact h)⟩
def Mj : aA := { plan := fun _ => .done, spec := fun c => bif Nat.beq c 0 then ⟨[(5, .ii .i64), (6, .ii .i64)], 99⟩ else ⟨[], 0⟩, iter := fun _ => none }
def Tf : ax Tryz.prog := ⟨[], aD⟩
theorem VZ : aF Tryz.prog Mj Tryz.f7 2 = true := by kernel_rfl
theorem x7 (p0 : Sl) (p1 : Int) (K : Value → HP) : aE Tryz.prog Tf Mj Tryz.f7 [p0.v, .int .i64 p1] K = S.zQ p0 p1 (fun r0 => K (.int .i64 r0)) := by kernel_rfl
def E7 : Entry Tryz.prog := ⟨7, S.Rl, fun xs K w h => by
 obtain ⟨eb, h⟩ := bh h
 obtain ⟨p0, e0, h⟩ := cg h
 obtain ⟨p1, e1, h⟩ := aU h
 rw [e0, e1] at eb
 subst eb
 exact aG mixed Tryz.func7 VZ Tryz.call7 rfl (by rw [x7]; exact h)⟩
def JC : aA := { plan := fun _ => .done, spec := fun c => bif Nat.beq c 0 then ⟨[(0, .ii .i64), (5, .ss), (6, .ii .i64)], 99⟩ else ⟨[], 0⟩, iter := fun _ => none }
def aeJ : ax Tryz.prog := ⟨[], aD⟩
theorem TW : aF Tryz.prog JC Tryz.f34 2 = true := by kernel_rfl
theorem x34 (p0 : Int) (p1 : Int) (K : Value → HP) : aE Tryz.prog aeJ JC Tryz.f34 [.int .i64 p0, .int .i64 p1] K = S.qJ p0 p1 (fun r0 => K (.string r0)) := by kernel_rfl
def B4 : Entry Tryz.prog := ⟨34, S.TT, fun xs K w h => by
 obtain ⟨eb, h⟩ := bh h
 obtain ⟨p0, e0, h⟩ := aU h
 obtain ⟨p1, e1, h⟩ := aU h
 rw [e0, e1] at eb
 subst eb
 exact aG mixed Tryz.func34 TW Tryz.call34 rfl (by rw [x34]; exact h)⟩
def I8 : aA := aV
def S5 : ax Tryz.prog := ⟨[B4], aD⟩
theorem Ow : aF Tryz.prog I8 Tryz.f9 2 = true := by kernel_rfl
theorem x9 (p0 : Int) (p1 : Int) (K : Value → HP) : aE Tryz.prog S5 I8 Tryz.f9 [.int .i64 p0, .int .i64 p1] K = S.sE p0 p1 (fun r0 => K (.string r0)) := by kernel_rfl
def E9 : Entry Tryz.prog := ⟨9, S.Z9, fun xs K w h => by
 obtain ⟨eb, h⟩ := bh h
 obtain ⟨p0, e0, h⟩ := aU h
 obtain ⟨p1, e1, h⟩ := aU h
 rw [e0, e1] at eb
 subst eb
 exact aG mixed Tryz.func9 Ow Tryz.call9 rfl (by rw [x9]; exact h)⟩
def Ea : aA := { plan := fun _ => .done, spec := fun c => bif Nat.beq c 0 then ⟨[(3, .ii .i64)], 9⟩ else ⟨[], 0⟩, iter := fun _ => none }
def agv : ax Tryz.prog := ⟨[], aD⟩
theorem SV : aF Tryz.prog Ea Tryz.f38 1 = true := by kernel_rfl
theorem PV (p0 : ByteArray) (K : Value → HP) : aE Tryz.prog agv Ea Tryz.f38 [.string p0] K = S.Co p0 (fun r0 => K (.bool r0)) := by kernel_rfl
def Wt : Entry Tryz.prog := ⟨38, S.W6, fun xs K w h => by
 obtain ⟨eb, h⟩ := bJ h
 obtain ⟨p0, e0, h⟩ := cw h
 rw [e0] at eb
 subst eb
 exact aG mixed Tryz.func38 SV Tryz.call38 rfl (by rw [PV]; exact h)⟩
def Im : aA := { plan := fun _ => .done, spec := fun c => bif Nat.beq c 0 then ⟨[(5, .ii .i64)], 35⟩ else ⟨[], 0⟩, iter := fun _ => none }
def Wl : ax Tryz.prog := ⟨[], aD⟩
theorem abY : aF Tryz.prog Im Tryz.f39 2 = true := by kernel_rfl
theorem x39 (p0 : Sl) (p1 : ByteArray) (K : Value → HP) : aE Tryz.prog Wl Im Tryz.f39 [p0.v, .string p1] K = S.nI p0 p1 (fun r0 => K (.int .i64 r0)) := by kernel_rfl
def DB : Entry Tryz.prog := ⟨39, S.OW, fun xs K w h => by
 obtain ⟨eb, h⟩ := bh h
 obtain ⟨p0, e0, h⟩ := cg h
 obtain ⟨p1, e1, h⟩ := cw h
 rw [e0, e1] at eb
 subst eb
 exact aG mixed Tryz.func39 abY Tryz.call39 rfl (by rw [x39]; exact h)⟩
def D4 : aA := { plan := fun _ => .done, spec := fun c => bif Nat.beq c 0 then ⟨[(5, .ll), (6, .ii .i64)], 99⟩ else ⟨[], 0⟩, iter := fun _ => none }
def adW : ax Tryz.prog := ⟨[], aD⟩
theorem aaI : aF Tryz.prog D4 Tryz.f86 2 = true := by kernel_rfl
theorem x86 (p0 : Sl) (p1 : ByteArray) (K : Value → HP) : aE Tryz.prog adW D4 Tryz.f86 [p0.v, .string p1] K = S.xS p0 p1 (fun r0 => K (.slice r0.a r0.len r0.cap)) := by kernel_rfl
def Mt : Entry Tryz.prog := ⟨86, S.YI, fun xs K w h => by
 obtain ⟨eb, h⟩ := bh h
 obtain ⟨p0, e0, h⟩ := cg h
 obtain ⟨p1, e1, h⟩ := cw h
 rw [e0, e1] at eb
 subst eb
 exact aG mixed Tryz.func86 aaI Tryz.call86 rfl (by rw [x86]; exact h)⟩
def JM : aA := { plan := fun r => bif Nat.beq r 3 then .take 0 (.take 1 (.take 2 (.take 3 (.take 4 (.take 5 (.take 6 (.take 7 (.take 8 (.take 9 (.take 10 (.take 11 (.take 12 (.done))))))))))))) else .done, spec := fun c => bif Nat.beq c 0 then ⟨[(5, .ii .i64)], 41⟩ else ⟨[], 0⟩, iter := fun _ => none }
def OK : ax Tryz.prog := ⟨[Mt], aD⟩
theorem YF : aF Tryz.prog JM Tryz.f40 2 = true := by kernel_rfl
theorem x40 (p0 : Sl) (p1 : jR) (K : Value → HP) : aE Tryz.prog OK JM Tryz.f40 [p0.v, p1.v] K = S.wV p0 p1 (fun r0 => K (.slice r0.a r0.len r0.cap)) := by kernel_rfl
def JK : Entry Tryz.prog := ⟨40, S.aaK, fun xs K w h => by
 obtain ⟨eb, h⟩ := bh h
 obtain ⟨p0, e0, h⟩ := cg h
 obtain ⟨p1, e1, h⟩ := Ua h
 rw [e0, e1] at eb
 subst eb
 exact aG mixed Tryz.func40 YF Tryz.call40 rfl (by rw [x40]; exact h)⟩
def FD : aA := { plan := fun r => bif Nat.beq r 9 then .take 0 (.take 1 (.aM 2 [] (.take 3 (.take 4 (.take 5 (.take 6 (.take 7 (.take 8 (.take 9 (.take 10 (.aM 11 [] (.take 12 (.take 13 (.take 14 (.take 15 (.take 16 (.take 17 (.take 18 (.take 19 (.take 20 (.take 21 (.take 22 (.done))))))))))))))))))))))) else bif Nat.beq r 12 then .take 0 (.take 1 (.take 2 (.take 3 (.take 4 (.take 5 (.take 6 (.take 7 (.take 8 (.take 9 (.take 10 (.take 11 (.aM 12 [4] (.aM 13 [] (.take 14 (.take 15 (.aM 16 [] (.done))))))))))))))))) else bif Nat.beq r 13 then .take 0 (.take 1 (.take 2 (.take 3 (.take 4 (.take 5 (.take 6 (.take 7 (.take 8 (.aM 9 [] (.take 10 (.take 11 (.aM 12 [] (.done))))))))))))) else .done, spec := fun c => bif Nat.beq c 0 then ⟨[(6, .ii .i64), (7, .ii .i64)], 227⟩ else ⟨[], 0⟩, iter := fun _ => none }
def Vh : ax Tryz.prog := ⟨[Wt, DB, JK], aD⟩
theorem Rz : aF Tryz.prog FD Tryz.f11 2 = true := by kernel_rfl
theorem gD (p0 : Sl) (p1 : Int) (K : Value → HP) : aE Tryz.prog Vh FD Tryz.f11 [p0.v, .int .i64 p1] K = S.By p0 p1 (fun r0 => K (.pointer r0)) := by kernel_rfl
def Y7 : Entry Tryz.prog := ⟨11, S.Yy, fun xs K w h => by
 obtain ⟨eb, h⟩ := bh h
 obtain ⟨p0, e0, h⟩ := cg h
 obtain ⟨p1, e1, h⟩ := aU h
 rw [e0, e1] at eb
 subst eb
 exact aG mixed Tryz.func11 Rz Tryz.call11 rfl (by rw [gD]; exact h)⟩
def HJ : aA := { plan := fun r => bif Nat.beq r 4 then .take 0 (.take 1 (.take 2 (.take 3 (.take 4 (.take 5 (.take 6 (.take 7 (.take 8 (.take 9 (.take 10 (.take 11 (.done)))))))))))) else .done, spec := fun _ => ⟨[], 0⟩, iter := fun _ => none }
def adB : ax Tryz.prog := ⟨[], aD⟩
theorem Sm : aF Tryz.prog HJ Tryz.f138 1 = true := by kernel_rfl
theorem Q0 (p0 : Option Addr) (K : Value → HP) : aE Tryz.prog adB HJ Tryz.f138 [.pointer p0] K = S.yB p0 (fun r0 => K (.int .i64 r0)) := by kernel_rfl
def KU : Entry Tryz.prog := ⟨138, S.U8, fun xs K w h => by
 obtain ⟨eb, h⟩ := bJ h
 obtain ⟨p0, e0, h⟩ := bw h
 rw [e0] at eb
 subst eb
 exact aG mixed Tryz.func138 Sm Tryz.call138 rfl (by rw [Q0]; exact h)⟩
def D9 : aA := aV
def VC : ax Tryz.prog := ⟨[DB], aD⟩
theorem NU : aF Tryz.prog D9 Tryz.f101 2 = true := by kernel_rfl
theorem ZB (p0 : Option Addr) (p1 : ByteArray) (K : Value → HP) : aE Tryz.prog VC D9 Tryz.f101 [.pointer p0, .string p1] K = S.yu p0 p1 (fun r0 => K (.int .i64 r0)) := by kernel_rfl
def MB : Entry Tryz.prog := ⟨101, S.Z5, fun xs K w h => by
 obtain ⟨eb, h⟩ := bh h
 obtain ⟨p0, e0, h⟩ := bw h
 obtain ⟨p1, e1, h⟩ := cw h
 rw [e0, e1] at eb
 subst eb
 exact aG mixed Tryz.func101 NU Tryz.call101 rfl (by rw [ZB]; exact h)⟩
def Ic : aA := aV
def Zg : ax Tryz.prog := ⟨[DB, JK, Mt], aD⟩
theorem af6 : aF Tryz.prog Ic Tryz.f174 2 = true := by kernel_rfl
theorem Ww (p0 : Sl) (p1 : jf) (K : Value → HP) : aE Tryz.prog Zg Ic Tryz.f174 [p0.v, p1.v] K = S.Cy p0 p1 (fun r0 => K (.slice r0.a r0.len r0.cap)) := by kernel_rfl
def ack : Entry Tryz.prog := ⟨174, S.Tx, fun xs K w h => by
 obtain ⟨eb, h⟩ := bh h
 obtain ⟨p0, e0, h⟩ := cg h
 obtain ⟨p1, e1, h⟩ := Fc h
 rw [e0, e1] at eb
 subst eb
 exact aG mixed Tryz.func174 af6 Tryz.call174 rfl (by rw [Ww]; exact h)⟩
def Mx : aA := { plan := fun r => bif Nat.beq r 4 then .take 0 (.take 1 (.take 2 (.take 3 (.take 4 (.take 5 (.aM 6 [] (.take 7 (.take 8 (.aM 9 [] (.done)))))))))) else .done, spec := fun _ => ⟨[], 0⟩, iter := fun _ => none }
def RA : ax Tryz.prog := ⟨[ack], aD⟩
theorem YD : aF Tryz.prog Mx Tryz.f139 2 = true := by kernel_rfl
theorem aay (p0 : Option Addr) (p1 : jf) (K : Value → HP) : aE Tryz.prog RA Mx Tryz.f139 [.pointer p0, p1.v] K = S.AD p0 p1 (K (.tuple #[])) := by kernel_rfl
def Wo : Entry Tryz.prog := ⟨139, S.Oo, fun xs K w h => by
 obtain ⟨eb, h⟩ := bh h
 obtain ⟨p0, e0, h⟩ := bw h
 obtain ⟨p1, e1, h⟩ := Fc h
 rw [e0, e1] at eb
 subst eb
 exact aG mixed Tryz.func139 YD Tryz.call139 rfl (by rw [aay]; exact h)⟩
def MJ : aA := aV
def ZK : ax Tryz.prog := ⟨[MB, KU, Wo], aD⟩
theorem UW : aF Tryz.prog MJ Tryz.f98 2 = true := by kernel_rfl
theorem x98 (p0 : Option Addr) (p1 : ByteArray) (K : Value → HP) : aE Tryz.prog ZK MJ Tryz.f98 [.pointer p0, .string p1] K = S.xm p0 p1 (fun r0 => K (.int .i64 r0)) := by kernel_rfl
def L7 : Entry Tryz.prog := ⟨98, S.Zr, fun xs K w h => by
 obtain ⟨eb, h⟩ := bh h
 obtain ⟨p0, e0, h⟩ := bw h
 obtain ⟨p1, e1, h⟩ := cw h
 rw [e0, e1] at eb
 subst eb
 exact aG mixed Tryz.func98 UW Tryz.call98 rfl (by rw [x98]; exact h)⟩
def Ng : aA := { plan := fun _ => .done, spec := fun c => bif Nat.beq c 0 then ⟨[(5, .ll), (6, .ii .i64)], 99⟩ else bif Nat.beq c 2 then ⟨[(9, .ii .i64)], 545⟩ else ⟨[], 0⟩, iter := fun _ => none }
def acS : ax Tryz.prog := ⟨[L7], aD⟩
theorem aed : aF Tryz.prog Ng Tryz.f49 2 = true := by kernel_rfl
theorem Wx (p0 : Option Addr) (p1 : ByteArray) (K : Value → HP) : aE Tryz.prog acS Ng Tryz.f49 [.pointer p0, .string p1] K = S.BG p0 p1 (fun r0 => K (.int .i64 r0)) := by kernel_rfl
def E49 : Entry Tryz.prog := ⟨49, S.Qt, fun xs K w h => by
 obtain ⟨eb, h⟩ := bh h
 obtain ⟨p0, e0, h⟩ := bw h
 obtain ⟨p1, e1, h⟩ := cw h
 rw [e0, e1] at eb
 subst eb
 exact aG mixed Tryz.func49 aed Tryz.call49 rfl (by rw [Wx]; exact h)⟩
def GB : aA := { plan := fun _ => .done, spec := fun c => bif Nat.beq c 0 then ⟨[(6, .ii .i64), (7, .ii .i64)], 194⟩ else ⟨[], 0⟩, iter := fun _ => none }
def acJ : ax Tryz.prog := ⟨[B4], aD⟩
theorem SN : aF Tryz.prog GB Tryz.f50 2 = true := by kernel_rfl
theorem x50 (p0 : Int) (p1 : ByteArray) (K : Value → HP) : aE Tryz.prog acJ GB Tryz.f50 [.int .i64 p0, .string p1] K = S.A8 p0 p1 (fun r0 => K (.int .i64 r0)) := by kernel_rfl
def E50 : Entry Tryz.prog := ⟨50, S.agw, fun xs K w h => by
 obtain ⟨eb, h⟩ := bh h
 obtain ⟨p0, e0, h⟩ := aU h
 obtain ⟨p1, e1, h⟩ := cw h
 rw [e0, e1] at eb
 subst eb
 exact aG mixed Tryz.func50 SN Tryz.call50 rfl (by rw [x50]; exact h)⟩
def FO : aA := { plan := fun _ => .done, spec := fun c => bif Nat.beq c 0 then ⟨[(8, .ii .u64), (9, .ii .i64)], 775⟩ else ⟨[], 0⟩, iter := fun _ => none }
def NF : ax Tryz.prog := ⟨[], aD⟩
theorem ad8 : aF Tryz.prog FO Tryz.f175 3 = true := by kernel_rfl
theorem aac (p0 : Sl) (p1 : Int) (p2 : Int) (K : Value → HP) : aE Tryz.prog NF FO Tryz.f175 [p0.v, .int .i64 p1, .int .i64 p2] K = S.vr p0 p1 p2 (fun r0 r1 => K (.tuple #[.int .u64 r0, .bool r1])) := by kernel_rfl
def Ep : Entry Tryz.prog := ⟨175, S.Q7, fun xs K w h => by
 obtain ⟨eb, h⟩ := fy h
 obtain ⟨p0, e0, h⟩ := cg h
 obtain ⟨p1, e1, h⟩ := aU h
 obtain ⟨p2, e2, h⟩ := aU h
 rw [e0, e1, e2] at eb
 subst eb
 exact aG mixed Tryz.func175 ad8 Tryz.call175 rfl (by rw [aac]; exact h)⟩
def GP : aA := aV
def X2 : ax Tryz.prog := ⟨[], aD⟩
theorem afM : aF Tryz.prog GP Tryz.f176 2 = true := by kernel_rfl
theorem Zz (p0 : Sl) (p1 : Int) (K : Value → HP) : aE Tryz.prog X2 GP Tryz.f176 [p0.v, .int .i64 p1] K = S.Da p0 p1 (fun r0 => K (r0.v)) := by kernel_rfl
def Q6 : Entry Tryz.prog := ⟨176, S.afy, fun xs K w h => by
 obtain ⟨eb, h⟩ := bh h
 obtain ⟨p0, e0, h⟩ := cg h
 obtain ⟨p1, e1, h⟩ := aU h
 rw [e0, e1] at eb
 subst eb
 exact aG mixed Tryz.func176 afM Tryz.call176 rfl (by rw [Zz]; exact h)⟩
def Fl : aA := { plan := fun _ => .done, spec := fun c => bif Nat.beq c 0 then ⟨[(0, .ii .u64), (5, .ii .i64)], 35⟩ else ⟨[], 0⟩, iter := fun _ => none }
def YH : ax Tryz.prog := ⟨[], aD⟩
theorem YU : aF Tryz.prog Fl Tryz.f217 2 = true := by kernel_rfl
theorem afY (p0 : Int) (p1 : Int) (K : Value → HP) : aE Tryz.prog YH Fl Tryz.f217 [.int .u64 p0, .int .i64 p1] K = S.De p0 p1 (fun r0 => K (.bool r0)) := by kernel_rfl
def ads : Entry Tryz.prog := ⟨217, S.acR, fun xs K w h => by
 obtain ⟨eb, h⟩ := bh h
 obtain ⟨p0, e0, h⟩ := aU h
 obtain ⟨p1, e1, h⟩ := aU h
 rw [e0, e1] at eb
 subst eb
 exact aG mixed Tryz.func217 YU Tryz.call217 rfl (by rw [afY]; exact h)⟩
def It : aA := { plan := fun _ => .done, spec := fun c => bif Nat.beq c 0 then ⟨[(0, .ii .u64), (6, .ll), (7, .ii .i64)], 195⟩ else ⟨[], 0⟩, iter := fun _ => none }
def aee : ax Tryz.prog := ⟨[ads], aD⟩
theorem Pv : aF Tryz.prog It Tryz.f214 2 = true := by kernel_rfl
theorem Qk (p0 : Int) (p1 : Int) (K : Value → HP) : aE Tryz.prog aee It Tryz.f214 [.int .u64 p0, .int .i64 p1] K = S.Bq p0 p1 (fun r0 r1 => K (.tuple #[.slice r0.a r0.len r0.cap, .bool r1])) := by kernel_rfl
def agA : Entry Tryz.prog := ⟨214, S.Tt, fun xs K w h => by
 obtain ⟨eb, h⟩ := bh h
 obtain ⟨p0, e0, h⟩ := aU h
 obtain ⟨p1, e1, h⟩ := aU h
 rw [e0, e1] at eb
 subst eb
 exact aG mixed Tryz.func214 Pv Tryz.call214 rfl (by rw [Qk]; exact h)⟩
def MA : aA := aV
def abD : ax Tryz.prog := ⟨[agA], aD⟩
theorem XH : aF Tryz.prog MA Tryz.f203 2 = true := by kernel_rfl
theorem Rf (p0 : Int) (p1 : Int) (K : Value → HP) : aE Tryz.prog abD MA Tryz.f203 [.int .u64 p0, .int .i64 p1] K = S.oK p0 p1 (fun r0 => K (.string r0)) := by kernel_rfl
def Z8 : Entry Tryz.prog := ⟨203, S.afb, fun xs K w h => by
 obtain ⟨eb, h⟩ := bh h
 obtain ⟨p0, e0, h⟩ := aU h
 obtain ⟨p1, e1, h⟩ := aU h
 rw [e0, e1] at eb
 subst eb
 exact aG mixed Tryz.func203 XH Tryz.call203 rfl (by rw [Rf]; exact h)⟩
def I6 : aA := aV
def U4 : ax Tryz.prog := ⟨[], aD⟩
theorem Pc : aF Tryz.prog I6 Tryz.f218 1 = true := by kernel_rfl
theorem abb (p0 : Int) (K : Value → HP) : aE Tryz.prog U4 I6 Tryz.f218 [.int .u32 p0] K = S.AU p0 (fun r0 => K (.int .u32 r0)) := by kernel_rfl
def UN : Entry Tryz.prog := ⟨218, S.Xq, fun xs K w h => by
 obtain ⟨eb, h⟩ := bJ h
 obtain ⟨p0, e0, h⟩ := aU h
 rw [e0] at eb
 subst eb
 exact aG mixed Tryz.func218 Pc Tryz.call218 rfl (by rw [abb]; exact h)⟩
def ET : aA := { plan := fun _ => .done, spec := fun c => bif Nat.beq c 0 then ⟨[(5, .ii .u32), (6, .ii .i64)], 98⟩ else bif Nat.beq c 2 then ⟨[(5, .ii .u32), (7, .ii .i64)], 226⟩ else ⟨[], 0⟩, iter := fun _ => none }
def W7 : ax Tryz.prog := ⟨[UN], aD⟩
theorem ab6 : aF Tryz.prog ET Tryz.f215 2 = true := by kernel_rfl
theorem Rv (p0 : Int) (p1 : Sl) (K : Value → HP) : aE Tryz.prog W7 ET Tryz.f215 [.int .u32 p0, p1.v] K = S.CM p0 p1 (fun r0 => K (.int .u32 r0)) := by kernel_rfl
def VT : Entry Tryz.prog := ⟨215, S.Vz, fun xs K w h => by
 obtain ⟨eb, h⟩ := bh h
 obtain ⟨p0, e0, h⟩ := aU h
 obtain ⟨p1, e1, h⟩ := cg h
 rw [e0, e1] at eb
 subst eb
 exact aG mixed Tryz.func215 ab6 Tryz.call215 rfl (by rw [Rv]; exact h)⟩
def Ga : aA := aV
def OG : ax Tryz.prog := ⟨[VT], aD⟩
theorem TP : aF Tryz.prog Ga Tryz.f204 1 = true := by kernel_rfl
theorem Ox (p0 : Sl) (K : Value → HP) : aE Tryz.prog OG Ga Tryz.f204 [p0.v] K = S.Dv p0 (fun r0 => K (.int .u32 r0)) := by kernel_rfl
def Sr : Entry Tryz.prog := ⟨204, S.Ny, fun xs K w h => by
 obtain ⟨eb, h⟩ := bJ h
 obtain ⟨p0, e0, h⟩ := cg h
 rw [e0] at eb
 subst eb
 exact aG mixed Tryz.func204 TP Tryz.call204 rfl (by rw [Ox]; exact h)⟩
def Eh : aA := { plan := fun _ => .done, spec := fun c => bif Nat.beq c 0 then ⟨[(3, .ll), (4, .ii .i64)], 25⟩ else ⟨[], 0⟩, iter := fun _ => none }
def acP : ax Tryz.prog := ⟨[], aD⟩
theorem aal : aF Tryz.prog Eh Tryz.f205 1 = true := by kernel_rfl
theorem abR (p0 : Sl) (K : Value → HP) : aE Tryz.prog acP Eh Tryz.f205 [p0.v] K = S.qB p0 (fun r0 => K (.slice r0.a r0.len r0.cap)) := by kernel_rfl
def Yd : Entry Tryz.prog := ⟨205, S.acm, fun xs K w h => by
 obtain ⟨eb, h⟩ := bJ h
 obtain ⟨p0, e0, h⟩ := cg h
 rw [e0] at eb
 subst eb
 exact aG mixed Tryz.func205 aal Tryz.call205 rfl (by rw [abR]; exact h)⟩
def Kl : aA := { plan := fun r => bif Nat.beq r 7 then .take 1 (.take 2 (.take 3 (.take 6 (.take 7 (.alt 0 [7] (.aM 4 [7] (.take 5 (.take 8 (.aM 9 [] (.aM 10 [] (.aM 11 [] (.take 12 (.take 13 (.done))))))))) 4 [7] (.take 5 (.take 8 (.alt 0 [7] (.aM 9 [] (.aM 10 [] (.aM 11 [] (.take 12 (.take 13 (.done)))))) 9 [] (.alt 0 [7] (.aM 10 [] (.aM 11 [] (.take 12 (.take 13 (.done))))) 10 [] (.aM 0 [7] (.aM 11 [] (.take 12 (.take 13 (.done)))))))))))))) else .done, spec := fun _ => ⟨[], 0⟩, iter := fun _ => none }
def ae9 : ax Tryz.prog := ⟨[Z8, Sr, Yd], aD⟩
theorem adI : aF Tryz.prog Kl Tryz.f177 2 = true := by kernel_rfl
theorem Pr (p0 : Int) (p1 : Sl) (K : Value → HP) : aE Tryz.prog ae9 Kl Tryz.f177 [.int .i64 p0, p1.v] K = S.Aa p0 p1 (fun r0 r1 => K (.tuple #[.slice r0.a r0.len r0.cap, .int .i64 r1])) := by kernel_rfl
def Qp : Entry Tryz.prog := ⟨177, S.Vg, fun xs K w h => by
 obtain ⟨eb, h⟩ := bh h
 obtain ⟨p0, e0, h⟩ := aU h
 obtain ⟨p1, e1, h⟩ := cg h
 rw [e0, e1] at eb
 subst eb
 exact aG mixed Tryz.func177 adI Tryz.call177 rfl (by rw [Pr]; exact h)⟩
def G9 : aA := { plan := fun r => bif Nat.beq r 18 then .take 0 (.take 1 (.take 2 (.aM 3 [2] (.take 4 (.done))))) else bif Nat.beq r 21 then .take 0 (.take 1 (.take 2 (.take 3 (.take 4 (.take 5 (.aM 6 [] (.take 7 (.take 8 (.take 9 (.take 10 (.take 11 (.done)))))))))))) else bif Nat.beq r 22 then .take 0 (.take 1 (.take 2 (.take 3 (.take 4 (.take 5 (.take 6 (.take 7 (.done)))))))) else bif Nat.beq r 24 then .take 0 (.take 1 (.take 2 (.take 3 (.take 4 (.take 5 (.take 6 (.take 7 (.take 8 (.take 9 (.take 10 (.aM 11 [] (.take 12 (.done))))))))))))) else .done, spec := fun c => bif Nat.beq c 0 then ⟨[(6, .ii .i64), (7, .ll), (8, .ii .i64)], 467⟩ else ⟨[], 0⟩, iter := fun _ => none }
def Y4 : ax Tryz.prog := ⟨[Ep, Q6, Qp], aD⟩
theorem NY : aF Tryz.prog G9 Tryz.f140 2 = true := by kernel_rfl
theorem UK (p0 : Sl) (p1 : Int) (K : Value → HP) : aE Tryz.prog Y4 G9 Tryz.f140 [p0.v, .int .i64 p1] K = S.CU p0 p1 (fun r0 r1 => K (.tuple #[r0.v, .int .i64 r1])) := by kernel_rfl
def Uq : Entry Tryz.prog := ⟨140, S.aeA, fun xs K w h => by
 obtain ⟨eb, h⟩ := bh h
 obtain ⟨p0, e0, h⟩ := cg h
 obtain ⟨p1, e1, h⟩ := aU h
 rw [e0, e1] at eb
 subst eb
 exact aG mixed Tryz.func140 NY Tryz.call140 rfl (by rw [UK]; exact h)⟩
def KW : aA := { plan := fun r => bif Nat.beq r 11 then .take 1 (.take 2 (.take 3 (.take 4 (.take 5 (.take 7 (.alt 0 [2, 7] (.alt 6 [7] (.aM 8 [2] (.aM 9 [] (.take 10 (.aM 11 [] (.done))))) 8 [2] (.aM 6 [7] (.aM 9 [] (.take 10 (.aM 11 [] (.done)))))) 8 [2] (.aM 0 [2, 7] (.aM 6 [7] (.aM 9 [] (.take 10 (.aM 11 [] (.done)))))))))))) else .done, spec := fun c => bif Nat.beq c 0 then ⟨[(4, .ii .i64)], 29⟩ else ⟨[], 0⟩, iter := fun _ => none }
def T9 : ax Tryz.prog := ⟨[Uq], aD⟩
theorem aeQ : aF Tryz.prog KW Tryz.f99 1 = true := by kernel_rfl
theorem WC (p0 : Sl) (K : Value → HP) : aE Tryz.prog T9 KW Tryz.f99 [p0.v] K = S.Dx p0 (fun r0 => K (r0.v)) := by kernel_rfl
def O8 : Entry Tryz.prog := ⟨99, S.WK, fun xs K w h => by
 obtain ⟨eb, h⟩ := bJ h
 obtain ⟨p0, e0, h⟩ := cg h
 rw [e0] at eb
 subst eb
 exact aG mixed Tryz.func99 aeQ Tryz.call99 rfl (by rw [WC]; exact h)⟩
def Ku : aA := aV
def aab : ax Tryz.prog := ⟨[Ep], aD⟩
theorem Zj : aF Tryz.prog Ku Tryz.f141 3 = true := by kernel_rfl
theorem Yh (p0 : Sl) (p1 : Int) (p2 : Int) (K : Value → HP) : aE Tryz.prog aab Ku Tryz.f141 [p0.v, .int .i64 p1, .int .i64 p2] K = S.gC p0 p1 p2 (fun r0 => K (.int .i64 r0)) := by kernel_rfl
def Yi : Entry Tryz.prog := ⟨141, S.Pw, fun xs K w h => by
 obtain ⟨eb, h⟩ := fy h
 obtain ⟨p0, e0, h⟩ := cg h
 obtain ⟨p1, e1, h⟩ := aU h
 obtain ⟨p2, e2, h⟩ := aU h
 rw [e0, e1, e2] at eb
 subst eb
 exact aG mixed Tryz.func141 Zj Tryz.call141 rfl (by rw [Yh]; exact h)⟩
def GS : aA := aV
def Tb : ax Tryz.prog := ⟨[], aD⟩
theorem Sv : aF Tryz.prog GS Tryz.f178 3 = true := by kernel_rfl
theorem VG (p0 : Int) (p1 : Int) (p2 : Int) (K : Value → HP) : aE Tryz.prog Tb GS Tryz.f178 [.int .i64 p0, .int .i64 p1, .int .i64 p2] K = S.gA p0 p1 p2 (fun r0 => K (.bool r0)) := by kernel_rfl
def Oy : Entry Tryz.prog := ⟨178, S.adw, fun xs K w h => by
 obtain ⟨eb, h⟩ := fy h
 obtain ⟨p0, e0, h⟩ := aU h
 obtain ⟨p1, e1, h⟩ := aU h
 obtain ⟨p2, e2, h⟩ := aU h
 rw [e0, e1, e2] at eb
 subst eb
 exact aG mixed Tryz.func178 Sv Tryz.call178 rfl (by rw [VG]; exact h)⟩
def FC : aA := aV
def XX : ax Tryz.prog := ⟨[Oy], aD⟩
theorem Of : aF Tryz.prog FC Tryz.f142 1 = true := by kernel_rfl
theorem Sk (p0 : aZ) (K : Value → HP) : aE Tryz.prog XX FC Tryz.f142 [p0.v] K = S.CA p0 (fun r0 => K (.bool r0)) := by kernel_rfl
def PM : Entry Tryz.prog := ⟨142, S.PD, fun xs K w h => by
 obtain ⟨eb, h⟩ := bJ h
 obtain ⟨p0, e0, h⟩ := gq h
 rw [e0] at eb
 subst eb
 exact aG mixed Tryz.func142 Of Tryz.call142 rfl (by rw [Sk]; exact h)⟩
def Hr : aA := aV
def Pd : ax Tryz.prog := ⟨[Yi, PM], aD⟩
theorem afK : aF Tryz.prog Hr Tryz.f100 2 = true := by kernel_rfl
theorem Rb (p0 : Int) (p1 : Sl) (K : Value → HP) : aE Tryz.prog Pd Hr Tryz.f100 [.int .i64 p0, p1.v] K = S.uS p0 p1 (fun r0 r1 => K (.tuple #[r0.v, .int .i64 r1])) := by kernel_rfl
def ae2 : Entry Tryz.prog := ⟨100, S.TY, fun xs K w h => by
 obtain ⟨eb, h⟩ := bh h
 obtain ⟨p0, e0, h⟩ := aU h
 obtain ⟨p1, e1, h⟩ := cg h
 rw [e0, e1] at eb
 subst eb
 exact aG mixed Tryz.func100 afK Tryz.call100 rfl (by rw [Rb]; exact h)⟩
def MC : aA := { plan := fun r => bif Nat.beq r 6 then .take 0 (.take 1 (.take 2 (.take 3 (.take 4 (.take 5 (.take 6 (.take 7 (.take 8 (.take 9 (.alt 10 [] (.take 11 (.take 12 (.take 13 (.aM 14 [4, 9] (.aM 15 [] (.take 16 (.done))))))) 14 [4, 9] (.aM 10 [] (.take 11 (.take 12 (.take 13 (.aM 15 [] (.take 16 (.done))))))))))))))))) else bif Nat.beq r 8 then .take 0 (.take 1 (.take 2 (.take 3 (.take 4 (.take 5 (.take 6 (.take 7 (.take 8 (.take 9 (.take 10 (.take 11 (.take 12 (.take 13 (.aM 14 [1] (.aM 15 [] (.take 16 (.aM 17 [] (.done)))))))))))))))))) else bif Nat.beq r 9 then .take 0 (.take 1 (.take 2 (.take 3 (.take 4 (.take 5 (.take 6 (.take 7 (.take 8 (.aM 9 [] (.done)))))))))) else .done, spec := fun c => bif Nat.beq c 0 then ⟨[(5, .ii .i64)], 60⟩ else ⟨[], 0⟩, iter := fun _ => none }
def WT : ax Tryz.prog := ⟨[O8, ae2], aD⟩
theorem NZ : aF Tryz.prog MC Tryz.f51 1 = true := by kernel_rfl
theorem x51 (p0 : Sl) (K : Value → HP) : aE Tryz.prog WT MC Tryz.f51 [p0.v] K = S.Dd p0 (fun r0 => K (r0.v)) := by kernel_rfl
def TB : Entry Tryz.prog := ⟨51, S.acn, fun xs K w h => by
 obtain ⟨eb, h⟩ := bJ h
 obtain ⟨p0, e0, h⟩ := cg h
 rw [e0] at eb
 subst eb
 exact aG mixed Tryz.func51 NZ Tryz.call51 rfl (by rw [x51]; exact h)⟩
def Hy : aA := aV
def Qe : ax Tryz.prog := ⟨[], aD⟩
theorem SC : aF Tryz.prog Hy Tryz.f52 2 = true := by kernel_rfl
theorem Xg (p0 : Int) (p1 : Int) (K : Value → HP) : aE Tryz.prog Qe Hy Tryz.f52 [.int .i64 p0, .int .i64 p1] K = S.rB p0 p1 (fun r0 => K (.int .i64 r0)) := by kernel_rfl
def Je : Entry Tryz.prog := ⟨52, S.afS, fun xs K w h => by
 obtain ⟨eb, h⟩ := bh h
 obtain ⟨p0, e0, h⟩ := aU h
 obtain ⟨p1, e1, h⟩ := aU h
 rw [e0, e1] at eb
 subst eb
 exact aG mixed Tryz.func52 SC Tryz.call52 rfl (by rw [Xg]; exact h)⟩
def Kj : aA := aV
def agC : ax Tryz.prog := ⟨[KU], aD⟩
theorem Yl : aF Tryz.prog Kj Tryz.f143 1 = true := by kernel_rfl
theorem NA (p0 : Option Addr) (K : Value → HP) : aE Tryz.prog agC Kj Tryz.f143 [.pointer p0] K = S.xD p0 (fun r0 => K (.int .i64 r0)) := by kernel_rfl
def We : Entry Tryz.prog := ⟨143, S.NC, fun xs K w h => by
 obtain ⟨eb, h⟩ := bJ h
 obtain ⟨p0, e0, h⟩ := bw h
 rw [e0] at eb
 subst eb
 exact aG mixed Tryz.func143 Yl Tryz.call143 rfl (by rw [NA]; exact h)⟩
def HT : aA := aV
def afz : ax Tryz.prog := ⟨[], aD⟩
theorem afB : aF Tryz.prog HT Tryz.f144 1 = true := by kernel_rfl
theorem Uc (p0 : Int) (K : Value → HP) : aE Tryz.prog afz HT Tryz.f144 [.int .i64 p0] K = S.Cd p0 (fun r0 => K (.bool r0)) := by kernel_rfl
def RL : Entry Tryz.prog := ⟨144, S.aei, fun xs K w h => by
 obtain ⟨eb, h⟩ := bJ h
 obtain ⟨p0, e0, h⟩ := aU h
 rw [e0] at eb
 subst eb
 exact aG mixed Tryz.func144 afB Tryz.call144 rfl (by rw [Uc]; exact h)⟩
def Fb : aA := aV
def Y6 : ax Tryz.prog := ⟨[We, RL], aD⟩
theorem SP : aF Tryz.prog Fb Tryz.f102 1 = true := by kernel_rfl
theorem N5 (p0 : Option Addr) (K : Value → HP) : aE Tryz.prog Y6 Fb Tryz.f102 [.pointer p0] K = S.Bv p0 (fun r0 => K (.int .i64 r0)) := by kernel_rfl
def PR : Entry Tryz.prog := ⟨102, S.Oh, fun xs K w h => by
 obtain ⟨eb, h⟩ := bJ h
 obtain ⟨p0, e0, h⟩ := bw h
 rw [e0] at eb
 subst eb
 exact aG mixed Tryz.func102 SP Tryz.call102 rfl (by rw [N5]; exact h)⟩
def EK : aA := aV
def afW : ax Tryz.prog := ⟨[L7, MB, PR], aD⟩
theorem aek : aF Tryz.prog EK Tryz.f53 2 = true := by kernel_rfl
theorem UQ (p0 : Option Addr) (p1 : ByteArray) (K : Value → HP) : aE Tryz.prog afW EK Tryz.f53 [.pointer p0, .string p1] K = S.zl p0 p1 (fun r0 => K (.int .i64 r0)) := by kernel_rfl
def QE : Entry Tryz.prog := ⟨53, S.aen, fun xs K w h => by
 obtain ⟨eb, h⟩ := bh h
 obtain ⟨p0, e0, h⟩ := bw h
 obtain ⟨p1, e1, h⟩ := cw h
 rw [e0, e1] at eb
 subst eb
 exact aG mixed Tryz.func53 aek Tryz.call53 rfl (by rw [UQ]; exact h)⟩
def M0 : aA := { plan := fun r => bif Nat.beq r 1 then .take 0 (.take 1 (.take 2 (.take 4 (.take 5 (.take 6 (.aM 3 [5] (.aM 7 [] (.take 8 (.done))))))))) else .done, spec := fun _ => ⟨[], 0⟩, iter := fun _ => none }
def adZ : ax Tryz.prog := ⟨[Je], aD⟩
theorem NM : aF Tryz.prog M0 Tryz.f54 2 = true := by kernel_rfl
theorem UY (p0 : Int) (p1 : aZ) (K : Value → HP) : aE Tryz.prog adZ M0 Tryz.f54 [.int .i64 p0, p1.v] K = S.Bi p0 p1 (fun r0 => K (.int .i64 r0)) := by kernel_rfl
def VK : Entry Tryz.prog := ⟨54, S.acN, fun xs K w h => by
 obtain ⟨eb, h⟩ := bh h
 obtain ⟨p0, e0, h⟩ := aU h
 obtain ⟨p1, e1, h⟩ := gq h
 rw [e0, e1] at eb
 subst eb
 exact aG mixed Tryz.func54 NM Tryz.call54 rfl (by rw [UY]; exact h)⟩
def HO : aA := { plan := fun r => bif Nat.beq r 17 then .take 0 (.take 1 (.take 2 (.take 3 (.take 4 (.take 5 (.take 6 (.take 7 (.take 8 (.take 9 (.take 10 (.take 11 (.take 12 (.take 13 (.take 14 (.take 15 (.done)))))))))))))))) else bif Nat.beq r 19 then .take 0 (.take 1 (.take 2 (.take 3 (.take 4 (.take 5 (.take 6 (.take 7 (.take 8 (.take 9 (.take 10 (.take 11 (.take 12 (.aM 13 [4] (.aM 14 [] (.take 15 (.take 16 (.aM 17 [] (.done)))))))))))))))))) else bif Nat.beq r 37 then .take 0 (.take 1 (.take 2 (.take 3 (.take 4 (.take 5 (.take 6 (.take 7 (.take 8 (.take 9 (.take 10 (.take 11 (.take 12 (.take 13 (.take 14 (.take 15 (.take 16 (.aM 17 [] (.take 18 (.take 19 (.aM 20 [] (.done))))))))))))))))))))) else .done, spec := fun c => bif Nat.beq c 0 then ⟨[(10, .ii .i64), (11, .ii .i64)], 3587⟩ else bif Nat.beq c 2 then ⟨[(10, .ii .i64), (15, .ii .i64)], 56835⟩ else bif Nat.beq c 4 then ⟨[(16, .ll), (17, .ii .i64)], 198147⟩ else bif Nat.beq c 6 then ⟨[(19, .ii .i64)], 722435⟩ else ⟨[], 0⟩, iter := fun _ => none }
def Ot : ax Tryz.prog := ⟨[E9, B4, E49, E50, TB, Je, QE, VK], aD⟩
theorem ae6 : aF Tryz.prog HO Tryz.f13 3 = true := by kernel_rfl
theorem jT (p0 : Option Addr) (p1 : Int) (p2 : Int) (K : Value → HP) : aE Tryz.prog Ot HO Tryz.f13 [.pointer p0, .int .i64 p1, .int .i64 p2] K = S.AB p0 p1 p2 (fun r0 r1 => K (.tuple #[.pointer r0, .int .i64 r1])) := by kernel_rfl
def TH : Entry Tryz.prog := ⟨13, S.adb, fun xs K w h => by
 obtain ⟨eb, h⟩ := fy h
 obtain ⟨p0, e0, h⟩ := bw h
 obtain ⟨p1, e1, h⟩ := aU h
 obtain ⟨p2, e2, h⟩ := aU h
 rw [e0, e1, e2] at eb
 subst eb
 exact aG mixed Tryz.func13 ae6 Tryz.call13 rfl (by rw [jT]; exact h)⟩
def LS : aA := aV
def SG : ax Tryz.prog := ⟨[], aD⟩
theorem Ui : aF Tryz.prog LS Tryz.f103 1 = true := by kernel_rfl
theorem Ze (p0 : Option Addr) (K : Value → HP) : aE Tryz.prog SG LS Tryz.f103 [.pointer p0] K = S.DL p0 (fun r0 => K (.int .i64 r0)) := by kernel_rfl
def P8 : Entry Tryz.prog := ⟨103, S.Ur, fun xs K w h => by
 obtain ⟨eb, h⟩ := bJ h
 obtain ⟨p0, e0, h⟩ := bw h
 rw [e0] at eb
 subst eb
 exact aG mixed Tryz.func103 Ui Tryz.call103 rfl (by rw [Ze]; exact h)⟩
def Na : aA := { plan := fun r => bif Nat.beq r 2 then .take 0 (.take 1 (.take 2 (.take 3 (.take 4 (.take 5 (.take 6 (.take 7 (.take 10 (.aM 8 [] (.take 9 (.done))))))))))) else .done, spec := fun c => bif Nat.beq c 0 then ⟨[(27, .ii .i64)], 234881033⟩ else bif Nat.beq c 2 then ⟨[], 4529848329⟩ else bif Nat.beq c 4 then ⟨[(8, .ll), (46, .ii .i64)], 123145302311176⟩ else ⟨[], 0⟩, iter := fun t => bif Nat.beq t 32 then some (9, 3) else none }
def acF : ax Tryz.prog := ⟨[], aD⟩
theorem Oe : aF Tryz.prog Na Tryz.f69 1 = true := by kernel_rfl
theorem Ve (p0 : Option Addr) (K : Value → HP) : aE Tryz.prog acF Na Tryz.f69 [.pointer p0] K = S.pM p0 (fun r0 => K (.slice r0.a r0.len r0.cap)) := by kernel_rfl
def Mf : Entry Tryz.prog := ⟨69, S.adP, fun xs K w h => by
 obtain ⟨eb, h⟩ := bJ h
 obtain ⟨p0, e0, h⟩ := bw h
 rw [e0] at eb
 subst eb
 exact aG mixed Tryz.func69 Oe Tryz.call69 rfl (by rw [Ve]; exact h)⟩
def J9 : aA := { plan := fun _ => .done, spec := fun c => bif Nat.beq c 0 then ⟨[(3, .ii .i64), (13, .ii .i64)], 14345⟩ else ⟨[], 0⟩, iter := fun _ => none }
def R8 : ax Tryz.prog := ⟨[Mf], aD⟩
theorem WO : aF Tryz.prog J9 Tryz.f104 1 = true := by kernel_rfl
theorem aa4 (p0 : Option Addr) (K : Value → HP) : aE Tryz.prog R8 J9 Tryz.f104 [.pointer p0] K = S.Dr p0 (fun r0 r1 => K (.tuple #[.int .i64 r0, .int .i64 r1])) := by kernel_rfl
def abV : Entry Tryz.prog := ⟨104, S.abc, fun xs K w h => by
 obtain ⟨eb, h⟩ := bJ h
 obtain ⟨p0, e0, h⟩ := bw h
 rw [e0] at eb
 subst eb
 exact aG mixed Tryz.func104 WO Tryz.call104 rfl (by rw [aa4]; exact h)⟩
def GI : aA := { plan := fun _ => .done, spec := fun c => bif Nat.beq c 0 then ⟨[(5, .ii .i64)], 35⟩ else bif Nat.beq c 2 then ⟨[(6, .ii .i64)], 67⟩ else bif Nat.beq c 4 then ⟨[(7, .ii .i64)], 131⟩ else ⟨[], 0⟩, iter := fun _ => none }
def Om : ax Tryz.prog := ⟨[], aD⟩
theorem ad0 : aF Tryz.prog GI Tryz.f145 2 = true := by kernel_rfl
theorem NV (p0 : Option Addr) (p1 : Int) (K : Value → HP) : aE Tryz.prog Om GI Tryz.f145 [.pointer p0, .int .i64 p1] K = S.AW p0 p1 (fun r0 => K (.bool r0)) := by kernel_rfl
def YE : Entry Tryz.prog := ⟨145, S.RY, fun xs K w h => by
 obtain ⟨eb, h⟩ := bh h
 obtain ⟨p0, e0, h⟩ := bw h
 obtain ⟨p1, e1, h⟩ := aU h
 rw [e0, e1] at eb
 subst eb
 exact aG mixed Tryz.func145 ad0 Tryz.call145 rfl (by rw [NV]; exact h)⟩
def LK : aA := { plan := fun _ => .done, spec := fun c => bif Nat.beq c 0 then ⟨[(3, .ii .i64), (4, .ii .i64)], 25⟩ else ⟨[], 0⟩, iter := fun _ => none }
def ZR : ax Tryz.prog := ⟨[YE], aD⟩
theorem T8 : aF Tryz.prog LK Tryz.f105 1 = true := by kernel_rfl
theorem Pb (p0 : Option Addr) (K : Value → HP) : aE Tryz.prog ZR LK Tryz.f105 [.pointer p0] K = S.Cr p0 (fun r0 => K (.int .i64 r0)) := by kernel_rfl
def aeM : Entry Tryz.prog := ⟨105, S.U5, fun xs K w h => by
 obtain ⟨eb, h⟩ := bJ h
 obtain ⟨p0, e0, h⟩ := bw h
 rw [e0] at eb
 subst eb
 exact aG mixed Tryz.func105 T8 Tryz.call105 rfl (by rw [Pb]; exact h)⟩
def Lj : aA := { plan := fun r => bif Nat.beq r 1 then .take 0 (.take 2 (.take 3 (.take 4 (.take 5 (.aM 1 [5] (.take 6 (.take 7 (.take 8 (.take 10 (.take 11 (.take 12 (.take 13 (.aM 9 [13] (.take 14 (.take 15 (.done)))))))))))))))) else bif Nat.beq r 13 then .take 0 (.take 1 (.take 2 (.take 3 (.take 4 (.take 5 (.take 6 (.take 7 (.take 8 (.take 9 (.take 10 (.take 11 (.take 12 (.take 13 (.take 14 (.take 15 (.take 16 (.take 17 (.take 18 (.take 19 (.take 20 (.take 21 (.take 22 (.take 23 (.take 24 (.take 25 (.take 26 (.take 27 (.take 28 (.take 29 (.take 30 (.take 31 (.take 32 (.done))))))))))))))))))))))))))))))))) else .done, spec := fun c => bif Nat.beq c 0 then ⟨[(8, .ii .i64)], 291⟩ else ⟨[], 0⟩, iter := fun _ => none }
def B3 : ax Tryz.prog := ⟨[ry, Dk, Ae, P8, abV, aeM], aD⟩
theorem acE : aF Tryz.prog Lj Tryz.f55 2 = true := by kernel_rfl
theorem Wc (p0 : Option Addr) (p1 : Option Addr) (K : Value → HP) : aE Tryz.prog B3 Lj Tryz.f55 [.pointer p0, .pointer p1] K = S.Bu B3.cx p0 p1 (fun r0 => K (.bool r0)) := by kernel_rfl
def SU : Entry Tryz.prog := ⟨55, S.QJ B3.cx, fun xs K w h => by
 obtain ⟨eb, h⟩ := bh h
 obtain ⟨p0, e0, h⟩ := bw h
 obtain ⟨p1, e1, h⟩ := bw h
 rw [e0, e1] at eb
 subst eb
 exact aG mixed Tryz.func55 acE Tryz.call55 rfl (by rw [Wc]; exact h)⟩
def G7 : aA := aV
def BP : ax Tryz.prog := ⟨[SU], aD⟩
theorem abF : aF Tryz.prog G7 Tryz.f14 2 = true := by kernel_rfl
theorem CO (p0 : Option Addr) (p1 : Option Addr) (K : Value → HP) : aE Tryz.prog BP G7 Tryz.f14 [.pointer p0, .pointer p1] K = S.B6 BP.cx p0 p1 (fun r0 => K (.int .i64 r0)) := by kernel_rfl
def S6 : Entry Tryz.prog := ⟨14, S.OJ BP.cx, fun xs K w h => by
 obtain ⟨eb, h⟩ := bh h
 obtain ⟨p0, e0, h⟩ := bw h
 obtain ⟨p1, e1, h⟩ := bw h
 rw [e0, e1] at eb
 subst eb
 exact aG mixed Tryz.func14 abF Tryz.call14 rfl (by rw [CO]; exact h)⟩
def Hj : aA := aV
def WV : ax Tryz.prog := ⟨[], aD⟩
theorem abt : aF Tryz.prog Hj Tryz.f106 1 = true := by kernel_rfl
theorem SJ (p0 : aZ) (K : Value → HP) : aE Tryz.prog WV Hj Tryz.f106 [p0.v] K = S.B1 p0 (fun r0 => K (.bool r0)) := by kernel_rfl
def Yv : Entry Tryz.prog := ⟨106, S.aa2, fun xs K w h => by
 obtain ⟨eb, h⟩ := bJ h
 obtain ⟨p0, e0, h⟩ := gq h
 rw [e0] at eb
 subst eb
 exact aG mixed Tryz.func106 abt Tryz.call106 rfl (by rw [SJ]; exact h)⟩
def MW : aA := { plan := fun r => bif Nat.beq r 10 then .take 0 (.take 1 (.take 2 (.take 3 (.take 4 (.take 5 (.take 6 (.take 7 (.take 8 (.take 9 (.take 10 (.take 11 (.take 12 (.take 13 (.aM 14 [] (.aM 15 [] (.take 16 (.done))))))))))))))))) else .done, spec := fun c => bif Nat.beq c 0 then ⟨[(3, .ll), (4, .ii .i64)], 25⟩ else bif Nat.beq c 2 then ⟨[(3, .ll), (5, .ii .i64)], 57⟩ else ⟨[], 0⟩, iter := fun _ => none }
def afX : ax Tryz.prog := ⟨[Yv], aD⟩
theorem Ol : aF Tryz.prog MW Tryz.f57 1 = true := by kernel_rfl
theorem Po (p0 : Option Addr) (K : Value → HP) : aE Tryz.prog afX MW Tryz.f57 [.pointer p0] K = S.CK p0 (fun r0 => K (.slice r0.a r0.len r0.cap)) := by kernel_rfl
def Xx : Entry Tryz.prog := ⟨57, S.NK, fun xs K w h => by
 obtain ⟨eb, h⟩ := bJ h
 obtain ⟨p0, e0, h⟩ := bw h
 rw [e0] at eb
 subst eb
 exact aG mixed Tryz.func57 Ol Tryz.call57 rfl (by rw [Po]; exact h)⟩
def JG : aA := aV
def NJ : ax Tryz.prog := ⟨[], aD⟩
theorem Tu : aF Tryz.prog JG Tryz.f24 2 = true := by kernel_rfl
theorem x24 (p0 : aZ) (p1 : aZ) (K : Value → HP) : aE Tryz.prog NJ JG Tryz.f24 [p0.v, p1.v] K = S.kS p0 p1 (fun r0 => K (.bool r0)) := by kernel_rfl
def Bc : Entry Tryz.prog := ⟨24, S.afj, fun xs K w h => by
 obtain ⟨eb, h⟩ := bh h
 obtain ⟨p0, e0, h⟩ := gq h
 obtain ⟨p1, e1, h⟩ := gq h
 rw [e0, e1] at eb
 subst eb
 exact aG mixed Tryz.func24 Tu Tryz.call24 rfl (by rw [x24]; exact h)⟩
def Lq : aA := { plan := fun r => bif Nat.beq r 6 then .take 0 (.take 1 (.take 2 (.take 3 (.take 4 (.take 5 (.take 6 (.take 7 (.take 8 (.take 9 (.take 10 (.take 11 (.take 12 (.take 13 (.take 14 (.take 15 (.take 16 (.take 17 (.take 18 (.take 19 (.take 20 (.take 21 (.take 22 (.take 23 (.take 24 (.take 25 (.take 26 (.take 27 (.take 28 (.take 29 (.take 30 (.take 31 (.take 32 (.take 33 (.take 34 (.aM 35 [] (.take 36 (.take 37 (.done)))))))))))))))))))))))))))))))))))))) else .done, spec := fun c => bif Nat.beq c 0 then ⟨[(5, .ii .i64)], 35⟩ else ⟨[], 0⟩, iter := fun _ => none }
def SI : ax Tryz.prog := ⟨[Bc], aD⟩
theorem Ue : aF Tryz.prog Lq Tryz.f56 2 = true := by kernel_rfl
theorem Uh (p0 : Sl) (p1 : Sl) (K : Value → HP) : aE Tryz.prog SI Lq Tryz.f56 [p0.v, p1.v] K = S.zv p0 p1 (fun r0 => K (.bool r0)) := by kernel_rfl
def XN : Entry Tryz.prog := ⟨56, S.Y2, fun xs K w h => by
 obtain ⟨eb, h⟩ := bh h
 obtain ⟨p0, e0, h⟩ := cg h
 obtain ⟨p1, e1, h⟩ := cg h
 rw [e0, e1] at eb
 subst eb
 exact aG mixed Tryz.func56 Ue Tryz.call56 rfl (by rw [Uh]; exact h)⟩
def Lh : aA := { plan := fun r => bif Nat.beq r 3 then .take 0 (.take 1 (.take 2 (.take 3 (.take 4 (.take 5 (.take 6 (.take 7 (.take 8 (.take 9 (.take 10 (.take 11 (.take 12 (.take 13 (.done)))))))))))))) else .done, spec := fun _ => ⟨[], 0⟩, iter := fun _ => none }
def QG : ax Tryz.prog := ⟨[], aD⟩
theorem af1 : aF Tryz.prog Lh Tryz.f58 1 = true := by kernel_rfl
theorem Vc (p0 : Option Addr) (K : Value → HP) : aE Tryz.prog QG Lh Tryz.f58 [.pointer p0] K = S.zb p0 (fun r0 => K (.int .i64 r0)) := by kernel_rfl
def PJ : Entry Tryz.prog := ⟨58, S.TE, fun xs K w h => by
 obtain ⟨eb, h⟩ := bJ h
 obtain ⟨p0, e0, h⟩ := bw h
 rw [e0] at eb
 subst eb
 exact aG mixed Tryz.func58 af1 Tryz.call58 rfl (by rw [Vc]; exact h)⟩
def EX : aA := { plan := fun _ => .done, spec := fun c => bif Nat.beq c 0 then ⟨[(3, .ii .i64), (4, .ii .i64)], 25⟩ else ⟨[], 0⟩, iter := fun _ => none }
def U1 : ax Tryz.prog := ⟨[], aD⟩
theorem Xr : aF Tryz.prog EX Tryz.f59 1 = true := by kernel_rfl
theorem WI (p0 : Option Addr) (K : Value → HP) : aE Tryz.prog U1 EX Tryz.f59 [.pointer p0] K = S.Bd p0 (fun r0 => K (.int .i64 r0)) := by kernel_rfl
def R9 : Entry Tryz.prog := ⟨59, S.YY, fun xs K w h => by
 obtain ⟨eb, h⟩ := bJ h
 obtain ⟨p0, e0, h⟩ := bw h
 rw [e0] at eb
 subst eb
 exact aG mixed Tryz.func59 Xr Tryz.call59 rfl (by rw [WI]; exact h)⟩
def Gm : aA := { plan := fun _ => .done, spec := fun c => bif Nat.beq c 0 then ⟨[(3, .ll), (11, .ii .i64)], 3592⟩ else ⟨[], 0⟩, iter := fun _ => none }
def Zo : ax Tryz.prog := ⟨[], aD⟩
theorem adC : aF Tryz.prog Gm Tryz.f60 1 = true := by kernel_rfl
theorem Ug (p0 : Option Addr) (K : Value → HP) : aE Tryz.prog Zo Gm Tryz.f60 [.pointer p0] K = S.DD p0 (fun r0 => K (.slice r0.a r0.len r0.cap)) := by kernel_rfl
def E60 : Entry Tryz.prog := ⟨60, S.abu, fun xs K w h => by
 obtain ⟨eb, h⟩ := bJ h
 obtain ⟨p0, e0, h⟩ := bw h
 rw [e0] at eb
 subst eb
 exact aG mixed Tryz.func60 adC Tryz.call60 rfl (by rw [Ug]; exact h)⟩
def Lo : aA := { plan := fun r => bif Nat.beq r 1 then .take 0 (.take 2 (.aM 1 [] (.aM 3 [] (.aM 4 [] (.take 5 (.take 6 (.take 7 (.take 9 (.take 10 (.take 11 (.take 12 (.aM 8 [12] (.take 13 (.take 14 (.take 15 (.take 16 (.take 18 (.aM 17 [] (.aM 19 [] (.take 20 (.take 21 (.take 22 (.take 23 (.take 25 (.aM 24 [] (.aM 26 [] (.take 27 (.take 28 (.done))))))))))))))))))))))))))))) else bif Nat.beq r 9 then .take 0 (.take 1 (.take 2 (.take 3 (.take 4 (.take 5 (.take 6 (.take 7 (.take 8 (.take 9 (.take 10 (.take 11 (.take 12 (.done))))))))))))) else .done, spec := fun c => bif Nat.beq c 0 then ⟨[(6, .ii .i64)], 98⟩ else ⟨[], 0⟩, iter := fun _ => none }
def SW : ax Tryz.prog := ⟨[uz, sJ, Bh, qU, XN, Xx, PJ, R9, E60], aD⟩
theorem afl : aF Tryz.prog Lo Tryz.f15 2 = true := by kernel_rfl
theorem Dy (p0 : Option Addr) (p1 : Option Addr) (K : Value → HP) : aE Tryz.prog SW Lo Tryz.f15 [.pointer p0, .pointer p1] K = S.y4 p0 p1 (fun r0 => K (.bool r0)) := by kernel_rfl
def Ux : Entry Tryz.prog := ⟨15, S.SQ, fun xs K w h => by
 obtain ⟨eb, h⟩ := bh h
 obtain ⟨p0, e0, h⟩ := bw h
 obtain ⟨p1, e1, h⟩ := bw h
 rw [e0, e1] at eb
 subst eb
 exact aG mixed Tryz.func15 afl Tryz.call15 rfl (by rw [Dy]; exact h)⟩
def aux3 : aA := aV
def ED : ax Tryz.prog := ⟨[E6, E7, E8, E9, yh, Y7, xF, TH, S6, Ux], aD⟩
theorem x3 (p0 : Sl) (p1 : Int) (p2 : Int) (K : Value → HP) : aE Tryz.prog ED aux3 Tryz.f3 [p0.v, .int .i64 p1, .int .i64 p2] K = S.Wy ED.cx p0 p1 p2 (fun r0 => K (.bool r0)) := by kernel_rfl
def Fj : aA := aV
def abC : ax Tryz.prog := ⟨[], aD⟩
theorem ZN : aF Tryz.prog Fj Tryz.f61 2 = true := by kernel_rfl
theorem Oc (p0 : Int) (p1 : Int) (K : Value → HP) : aE Tryz.prog abC Fj Tryz.f61 [.int .i64 p0, .int .i64 p1] K = S.sK p0 p1 (fun r0 => K (r0.v)) := by kernel_rfl
def Xb : Entry Tryz.prog := ⟨61, S.XI, fun xs K w h => by
 obtain ⟨eb, h⟩ := bh h
 obtain ⟨p0, e0, h⟩ := aU h
 obtain ⟨p1, e1, h⟩ := aU h
 rw [e0, e1] at eb
 subst eb
 exact aG mixed Tryz.func61 ZN Tryz.call61 rfl (by rw [Oc]; exact h)⟩
def FX : aA := aV
def UD : ax Tryz.prog := ⟨[Xb], aD⟩
theorem RK : aF Tryz.prog FX Tryz.f16 2 = true := by kernel_rfl
theorem WM (p0 : Option Addr) (p1 : Int) (K : Value → HP) : aE Tryz.prog UD FX Tryz.f16 [.pointer p0, .int .i64 p1] K = S.kr p0 p1 (K (.tuple #[])) := by kernel_rfl
def Ew : Entry Tryz.prog := ⟨16, S.Tv, fun xs K w h => by
 obtain ⟨eb, h⟩ := bh h
 obtain ⟨p0, e0, h⟩ := bw h
 obtain ⟨p1, e1, h⟩ := aU h
 rw [e0, e1] at eb
 subst eb
 exact aG mixed Tryz.func16 RK Tryz.call16 rfl (by rw [WM]; exact h)⟩
def M4 : aA := aV
def ab2 : ax Tryz.prog := ⟨[], aD⟩
theorem PC : aF Tryz.prog M4 Tryz.f17 1 = true := by kernel_rfl
theorem Zy (p0 : aZ) (K : Value → HP) : aE Tryz.prog ab2 M4 Tryz.f17 [p0.v] K = S.oU p0 (fun r0 => K (.bool r0)) := by kernel_rfl
def Ld : Entry Tryz.prog := ⟨17, S.Y0, fun xs K w h => by
 obtain ⟨eb, h⟩ := bJ h
 obtain ⟨p0, e0, h⟩ := gq h
 rw [e0] at eb
 subst eb
 exact aG mixed Tryz.func17 PC Tryz.call17 rfl (by rw [Zy]; exact h)⟩
def E2 : aA := { plan := fun r => bif Nat.beq r 3 then .take 0 (.take 1 (.take 2 (.take 3 (.take 4 (.take 5 (.take 6 (.take 7 (.take 8 (.take 9 (.take 10 (.done))))))))))) else bif Nat.beq r 5 then .take 0 (.take 1 (.take 2 (.take 3 (.take 4 (.take 5 (.take 6 (.aM 7 [] (.done)))))))) else .done, spec := fun _ => ⟨[], 0⟩, iter := fun _ => none }
def adM : ax Tryz.prog := ⟨[], aD⟩
theorem QB : aF Tryz.prog E2 Tryz.f70 2 = true := by kernel_rfl
theorem US (p0 : Option Addr) (p1 : gE) (K : Value → HP) : aE Tryz.prog adM E2 Tryz.f70 [.pointer p0, p1.v] K = S.qx p0 p1 (fun r0 => K (r0.v)) := by kernel_rfl
def U9 : Entry Tryz.prog := ⟨70, S.Uz, fun xs K w h => by
 obtain ⟨eb, h⟩ := bh h
 obtain ⟨p0, e0, h⟩ := bw h
 obtain ⟨p1, e1, h⟩ := Ca h
 rw [e0, e1] at eb
 subst eb
 exact aG mixed Tryz.func70 QB Tryz.call70 rfl (by rw [US]; exact h)⟩
def Er : aA := { plan := fun r => bif Nat.beq r 13 then .take 0 (.take 1 (.take 2 (.take 3 (.take 4 (.take 5 (.aM 6 [] (.take 7 (.take 8 (.aM 9 [] (.done)))))))))) else bif Nat.beq r 22 then .take 0 (.take 1 (.take 2 (.take 3 (.take 4 (.aM 5 [] (.done)))))) else .done, spec := fun c => bif Nat.beq c 0 then ⟨[(24, .ii .i64)], 29360259⟩ else bif Nat.beq c 2 then ⟨[(40, .ii .i64)], 1924174709379⟩ else bif Nat.beq c 4 then ⟨[(75, .ii .i64)], 66113130760175032991747⟩ else ⟨[], 0⟩, iter := fun _ => none }
def aeH : ax Tryz.prog := ⟨[yY, L5, Mf, U9, JJ, J2, ER], aD⟩
theorem aeq : aF Tryz.prog Er Tryz.f22 3 = true := by kernel_rfl
theorem TQ (p0 : Option Addr) (p1 : Int) (p2 : Sl) (K : Value → HP) : aE Tryz.prog aeH Er Tryz.f22 [.pointer p0, .int .i64 p1, p2.v] K = S.nX p0 p1 p2 (fun r0 => K (.int .i64 r0)) := by kernel_rfl
def IM : Entry Tryz.prog := ⟨22, S.Xm, fun xs K w h => by
 obtain ⟨eb, h⟩ := fy h
 obtain ⟨p0, e0, h⟩ := bw h
 obtain ⟨p1, e1, h⟩ := aU h
 obtain ⟨p2, e2, h⟩ := cg h
 rw [e0, e1, e2] at eb
 subst eb
 exact aG mixed Tryz.func22 aeq Tryz.call22 rfl (by rw [TQ]; exact h)⟩
def aux4 : aA := { plan := fun r => bif Nat.beq r 34 then .take 0 (.take 1 (.take 2 (.take 3 (.take 4 (.take 5 (.take 6 (.take 7 (.take 8 (.take 9 (.take 10 (.take 11 (.take 12 (.take 13 (.take 14 (.take 15 (.take 16 (.take 17 (.take 18 (.take 19 (.take 20 (.take 21 (.take 22 (.take 23 (.take 24 (.take 25 (.take 26 (.aM 27 [] (.take 28 (.take 29 (.take 30 (.done))))))))))))))))))))))))))))))) else bif Nat.beq r 39 then .take 0 (.take 1 (.take 2 (.take 3 (.take 4 (.take 5 (.take 6 (.take 7 (.take 8 (.aM 9 [] (.take 10 (.done))))))))))) else .done, spec := fun c => bif Nat.beq c 0 then ⟨[(14, .ll), (16, .ii .i64)], 120859⟩ else bif Nat.beq c 2 then ⟨[(22, .ii .i64)], 6307840⟩ else ⟨[], 0⟩, iter := fun _ => none }
def HE : ax Tryz.prog := ⟨[E6, yh, xF, Ew, Ld, Aj, ry, uj, uz, IM, sJ, Bc], aD⟩
theorem x4 (p0 : Int) (p1 : Sl) (p2 : Int) (p3 : Int) (p4 : Sl) (K : Value → HP) : aE Tryz.prog HE aux4 Tryz.f4 [.int .i64 p0, p1.v, .int .i64 p2, .int .i64 p3, p4.v] K = S.Ss HE.cx p0 p1 p2 p3 p4 (fun r0 => K (.bool r0)) := by kernel_rfl
def KJ : aA := { plan := fun _ => .done, spec := fun c => bif Nat.beq c 0 then ⟨[(5, .ll), (6, .ii .i64)], 99⟩ else ⟨[], 0⟩, iter := fun _ => none }
def aaZ : ax Tryz.prog := ⟨[], aD⟩
theorem V7 : aF Tryz.prog KJ Tryz.f25 2 = true := by kernel_rfl
theorem Oi (p0 : Sl) (p1 : Int) (K : Value → HP) : aE Tryz.prog aaZ KJ Tryz.f25 [p0.v, .int .i64 p1] K = S.nV p0 p1 (fun r0 => K (.slice r0.a r0.len r0.cap)) := by kernel_rfl
def E25 : Entry Tryz.prog := ⟨25, S.af0, fun xs K w h => by
 obtain ⟨eb, h⟩ := bh h
 obtain ⟨p0, e0, h⟩ := cg h
 obtain ⟨p1, e1, h⟩ := aU h
 rw [e0, e1] at eb
 subst eb
 exact aG mixed Tryz.func25 V7 Tryz.call25 rfl (by rw [Oi]; exact h)⟩
def JT : aA := aV
def ZE : ax Tryz.prog := ⟨[Ad, wO], aD⟩
theorem VW : aF Tryz.prog JT Tryz.f75 1 = true := by kernel_rfl
theorem x75 (p0 : aZ) (K : Value → HP) : aE Tryz.prog ZE JT Tryz.f75 [p0.v] K = S.uh p0 (fun r0 => K (.bool r0)) := by kernel_rfl
def E75 : Entry Tryz.prog := ⟨75, S.zJ, fun xs K w h => by
 obtain ⟨eb, h⟩ := bJ h
 obtain ⟨p0, e0, h⟩ := gq h
 rw [e0] at eb
 subst eb
 exact aG mixed Tryz.func75 VW Tryz.call75 rfl (by rw [x75]; exact h)⟩
def Mv : aA := { plan := fun _ => .done, spec := fun c => bif Nat.beq c 0 then ⟨[(8, .ii .i64)], 387⟩ else ⟨[], 0⟩, iter := fun _ => none }
def CN : ax Tryz.prog := ⟨[], aD⟩
theorem abW : aF Tryz.prog Mv Tryz.f113 2 = true := by kernel_rfl
theorem ags (p0 : Sl) (p1 : FV) (K : Value → HP) : aE Tryz.prog CN Mv Tryz.f113 [p0.v, p1.v] K = S.yC CN.cx p0 p1 (fun r0 => K (.int .i64 r0)) := by kernel_rfl
def OE : Entry Tryz.prog := ⟨113, S.afZ CN.cx, fun xs K w h => by
 obtain ⟨eb, h⟩ := bh h
 obtain ⟨p0, e0, h⟩ := cg h
 obtain ⟨p1, e1, h⟩ := oM h
 rw [e0, e1] at eb
 subst eb
 exact aG mixed Tryz.func113 abW Tryz.call113 rfl (by rw [ags]; exact h)⟩
def Ec : aA := aV
def yU : ax Tryz.prog := ⟨[OE], aD⟩
theorem aep : aF Tryz.prog Ec Tryz.f74 2 = true := by kernel_rfl
theorem Ro (p0 : Sl) (p1 : FV) (K : Value → HP) : aE Tryz.prog yU Ec Tryz.f74 [p0.v, p1.v] K = S.sL yU.cx p0 p1 (fun r0 => K (.bool r0)) := by kernel_rfl
def XF : Entry Tryz.prog := ⟨74, S.acG yU.cx, fun xs K w h => by
 obtain ⟨eb, h⟩ := bh h
 obtain ⟨p0, e0, h⟩ := cg h
 obtain ⟨p1, e1, h⟩ := oM h
 rw [e0, e1] at eb
 subst eb
 exact aG mixed Tryz.func74 aep Tryz.call74 rfl (by rw [Ro]; exact h)⟩
def KM : aA := aV
def aaE : ax Tryz.prog := ⟨[FN], aD⟩
theorem abm : aF Tryz.prog KM Tryz.f116 2 = true := by kernel_rfl
theorem XW (p0 : Addr) (p1 : Addr) (K : Value → HP) : aE Tryz.prog aaE KM Tryz.f116 [.pointer (some p0), .pointer (some p1)] K = S.wD p0 p1 (fun r0 => K (.int .i64 r0)) := by kernel_rfl
def W8 : Entry Tryz.prog := ⟨116, S.Ek, fun xs K w h => by
 obtain ⟨eb, h⟩ := bh h
 obtain ⟨p0, e0, h⟩ := ep h
 obtain ⟨p1, e1, h⟩ := ep h
 rw [e0, e1] at eb
 subst eb
 exact aG mixed Tryz.func116 abm Tryz.call116 rfl (by rw [XW]; exact h)⟩
def KL : aA := aV
def DC : ax Tryz.prog := ⟨[zU], aD⟩
theorem O9 : aF Tryz.prog KL Tryz.f118 3 = true := by kernel_rfl
theorem SB (p0 : Addr) (p1 : Addr) (p2 : Addr) (K : Value → HP) : aE Tryz.prog DC KL Tryz.f118 [.pointer (some p0), .pointer (some p1), .pointer (some p2)] K = S.vL DC.cx p0 p1 p2 (fun r0 => K (.int .i64 r0)) := by kernel_rfl
def aa3 : Entry Tryz.prog := ⟨118, S.Eb DC.cx, fun xs K w h => by
 obtain ⟨eb, h⟩ := fy h
 obtain ⟨p0, e0, h⟩ := ep h
 obtain ⟨p1, e1, h⟩ := ep h
 obtain ⟨p2, e2, h⟩ := ep h
 rw [e0, e1, e2] at eb
 subst eb
 exact aG mixed Tryz.func118 O9 Tryz.call118 rfl (by rw [SB]; exact h)⟩
def EF : aA := aV
def OL : ax Tryz.prog := ⟨[BD, xw, y9, Bk], aD⟩
theorem XM : aF Tryz.prog EF Tryz.f120 3 = true := by kernel_rfl
theorem Wi (p0 : Option Addr) (p1 : ByteArray) (p2 : ByteArray) (K : Value → HP) : aE Tryz.prog OL EF Tryz.f120 [.pointer p0, .string p1, .string p2] K = S.uy p0 p1 p2 (fun r0 => K (.int .i64 r0)) := by kernel_rfl
def UG : Entry Tryz.prog := ⟨120, S.O3, fun xs K w h => by
 obtain ⟨eb, h⟩ := fy h
 obtain ⟨p0, e0, h⟩ := bw h
 obtain ⟨p1, e1, h⟩ := cw h
 obtain ⟨p2, e2, h⟩ := cw h
 rw [e0, e1, e2] at eb
 subst eb
 exact aG mixed Tryz.func120 XM Tryz.call120 rfl (by rw [Wi]; exact h)⟩
def Iy : aA := aV
def aat : ax Tryz.prog := ⟨[UG], aD⟩
theorem Z7 : aF Tryz.prog Iy Tryz.f119 3 = true := by kernel_rfl
theorem ZT (p0 : Addr) (p1 : Addr) (p2 : Addr) (K : Value → HP) : aE Tryz.prog aat Iy Tryz.f119 [.pointer (some p0), .pointer (some p1), .pointer (some p2)] K = S.vi p0 p1 p2 (fun r0 => K (.int .i64 r0)) := by kernel_rfl
def aey : Entry Tryz.prog := ⟨119, S.IJ, fun xs K w h => by
 obtain ⟨eb, h⟩ := fy h
 obtain ⟨p0, e0, h⟩ := ep h
 obtain ⟨p1, e1, h⟩ := ep h
 obtain ⟨p2, e2, h⟩ := ep h
 rw [e0, e1, e2] at eb
 subst eb
 exact aG mixed Tryz.func119 Z7 Tryz.call119 rfl (by rw [ZT]; exact h)⟩
def FL : aA := aV
def AN : ax Tryz.prog := ⟨[uj, tZ], aD⟩
theorem PE : aF Tryz.prog FL Tryz.f121 1 = true := by kernel_rfl
theorem PK (p0 : Addr) (K : Value → HP) : aE Tryz.prog AN FL Tryz.f121 [.pointer (some p0)] K = S.wS AN.cx p0 (fun r0 => K (.int .i64 r0)) := by kernel_rfl
def adT : Entry Tryz.prog := ⟨121, S.MF AN.cx, fun xs K w h => by
 obtain ⟨eb, h⟩ := bJ h
 obtain ⟨p0, e0, h⟩ := ep h
 rw [e0] at eb
 subst eb
 exact aG mixed Tryz.func121 PE Tryz.call121 rfl (by rw [PK]; exact h)⟩
def IW : aA := aV
def zF : ax Tryz.prog := ⟨[vM, Cf, uN, W8, aa3, aey, adT, Jz], aD⟩
theorem Oz : aF Tryz.prog IW Tryz.f78 3 = true := by kernel_rfl
theorem Py (p0 : Option Addr) (p1 : ByteArray) (p2 : Sl) (K : Value → HP) : aE Tryz.prog zF IW Tryz.f78 [.pointer p0, .string p1, p2.v] K = S.sZ zF.cx p0 p1 p2 (fun r0 => K (.int .i64 r0)) := by kernel_rfl
def V3 : Entry Tryz.prog := ⟨78, S.Yb zF.cx, fun xs K w h => by
 obtain ⟨eb, h⟩ := fy h
 obtain ⟨p0, e0, h⟩ := bw h
 obtain ⟨p1, e1, h⟩ := cw h
 obtain ⟨p2, e2, h⟩ := cg h
 rw [e0, e1, e2] at eb
 subst eb
 exact aG mixed Tryz.func78 Oz Tryz.call78 rfl (by rw [Py]; exact h)⟩
def Mm : aA := { plan := fun r => bif Nat.beq r 17 then .take 0 (.take 1 (.take 2 (.take 3 (.take 4 (.take 5 (.take 6 (.take 7 (.take 8 (.take 10 (.aM 9 [3] (.aM 11 [] (.take 12 (.done))))))))))))) else bif Nat.beq r 26 then .take 0 (.take 1 (.take 2 (.take 3 (.take 4 (.take 5 (.aM 6 [4] (.take 7 (.take 8 (.take 9 (.aM 10 [] (.done))))))))))) else bif Nat.beq r 31 then .take 0 (.take 1 (.take 2 (.take 3 (.take 4 (.take 5 (.take 6 (.take 7 (.take 8 (.take 9 (.aM 10 [3] (.aM 11 [] (.take 12 (.done))))))))))))) else .done, spec := fun c => bif Nat.beq c 0 then ⟨[(7, .ll), (37, .ii .i64)], 240518168803⟩ else bif Nat.beq c 2 then ⟨[(96, .ii .i64)], 138649284399962590788701921281⟩ else bif Nat.beq c 4 then ⟨[(113, .ii .i64)], 18173039004871896699856737152270337⟩ else ⟨[], 0⟩, iter := fun _ => none }
def AO : ax Tryz.prog := ⟨[E8, qU, M7, Bg, XF, E75, Jh, BY, V3], aD⟩
theorem ada : aF Tryz.prog Mm Tryz.f26 2 = true := by kernel_rfl
theorem Tc (p0 : Option Addr) (p1 : Sl) (K : Value → HP) : aE Tryz.prog AO Mm Tryz.f26 [.pointer p0, p1.v] K = S.qp AO.cx p0 p1 (fun r0 => K (.int .i64 r0)) := by kernel_rfl
def Ru : Entry Tryz.prog := ⟨26, S.S8 AO.cx, fun xs K w h => by
 obtain ⟨eb, h⟩ := bh h
 obtain ⟨p0, e0, h⟩ := bw h
 obtain ⟨p1, e1, h⟩ := cg h
 rw [e0, e1] at eb
 subst eb
 exact aG mixed Tryz.func26 ada Tryz.call26 rfl (by rw [Tc]; exact h)⟩
def KH : aA := { plan := fun r => bif Nat.beq r 35 then .take 0 (.take 1 (.take 2 (.take 3 (.take 4 (.take 5 (.take 6 (.take 7 (.take 8 (.take 9 (.aM 10 [] (.take 11 (.take 12 (.done))))))))))))) else bif Nat.beq r 36 then .take 0 (.take 1 (.take 2 (.take 3 (.take 4 (.take 5 (.take 6 (.take 7 (.take 8 (.take 9 (.take 10 (.aM 11 [] (.take 12 (.take 13 (.done)))))))))))))) else .done, spec := fun c => bif Nat.beq c 0 then ⟨[(16, .ii .i64)], 90175⟩ else bif Nat.beq c 2 then ⟨[(24, .bb), (25, .bb), (26, .ii .i64)], 127270912⟩ else ⟨[], 0⟩, iter := fun _ => none }
def sH : ax Tryz.prog := ⟨[E6, yh, xF, Ew, Ld, Aj, ry, uj, uz, IM, sJ, Bc, E25, Ru, Bh], aD⟩
theorem Tp : aF Tryz.prog KH Tryz.f5 6 = true := by kernel_rfl
theorem x5 (p0 : Int) (p1 : Sl) (p2 : Int) (p3 : Int) (p4 : Int) (p5 : Sl) (K : Value → HP) : aE Tryz.prog sH KH Tryz.f5 [.int .i64 p0, p1.v, .int .i64 p2, .int .i64 p3, .int .i64 p4, p5.v] K = S.tJ sH.cx p0 p1 p2 p3 p4 p5 (fun r0 => K (.bool r0)) := by kernel_rfl
def E5 : Entry Tryz.prog := ⟨5, S.ady sH.cx, fun xs K w h => by
 obtain ⟨eb, h⟩ := ZQ h
 obtain ⟨p0, e0, h⟩ := aU h
 obtain ⟨p1, e1, h⟩ := cg h
 obtain ⟨p2, e2, h⟩ := aU h
 obtain ⟨p3, e3, h⟩ := aU h
 obtain ⟨p4, e4, h⟩ := aU h
 obtain ⟨p5, e5, h⟩ := cg h
 rw [e0, e1, e2, e3, e4, e5] at eb
 subst eb
 exact aG mixed Tryz.func5 Tp Tryz.call5 rfl (by rw [x5]; exact h)⟩
end Go.Proofs
end

/- Parts of the proof that pigeonholelaw18.DboxSure returns true at every input and leaves the input as it was: each function of the program runs as its words say. -/
import Derived.Test.YtjojclbfnnkajaaGreatPhB
import Derived.Test.YtjojclbfnnkajaaGreatPhF
import Derived.KernelRfl
import Derived.Test.YtjojclbfnnkajaaGreatProg
section
set_option linter.all false
set_option maxRecDepth 100000
set_option maxHeartbeats 2000000
namespace Go.Proofs
open Go.Ph Go.Ph.S
def auxD : Aux := { plan := fun _ => .done, spec := fun _ => ⟨[], 0⟩, iter := fun _ => none }
theorem ar {xs : List Value} {n : Nat} {K : HP} {H : Heap} (h : arity xs n K H) : xs = (List.range n).map (fun i => xs.getD i undef) ∧ K H := by
  obtain ⟨hl, h⟩ := arity_inv h
  have ea := list_eq_getD xs
  rw [hl] at ea
  exact ⟨ea, h⟩
theorem ar0 {xs : List Value} {K : HP} {H : Heap} (h : arity xs 0 K H) : xs = [] ∧ K H := ar h
theorem ar1 {xs : List Value} {K : HP} {H : Heap} (h : arity xs 1 K H) : xs = [xs.getD 0 undef] ∧ K H := ar h
theorem ar2 {xs : List Value} {K : HP} {H : Heap} (h : arity xs 2 K H) : xs = [xs.getD 0 undef, xs.getD 1 undef] ∧ K H := ar h
theorem ar3 {xs : List Value} {K : HP} {H : Heap} (h : arity xs 3 K H) : xs = [xs.getD 0 undef, xs.getD 1 undef, xs.getD 2 undef] ∧ K H := ar h
theorem ar4 {xs : List Value} {K : HP} {H : Heap} (h : arity xs 4 K H) : xs = [xs.getD 0 undef, xs.getD 1 undef, xs.getD 2 undef, xs.getD 3 undef] ∧ K H := ar h
theorem ar5 {xs : List Value} {K : HP} {H : Heap} (h : arity xs 5 K H) : xs = [xs.getD 0 undef, xs.getD 1 undef, xs.getD 2 undef, xs.getD 3 undef, xs.getD 4 undef] ∧ K H := ar h
theorem ar6 {xs : List Value} {K : HP} {H : Heap} (h : arity xs 6 K H) : xs = [xs.getD 0 undef, xs.getD 1 undef, xs.getD 2 undef, xs.getD 3 undef, xs.getD 4 undef, xs.getD 5 undef] ∧ K H := ar h
theorem ar7 {xs : List Value} {K : HP} {H : Heap} (h : arity xs 7 K H) : xs = [xs.getD 0 undef, xs.getD 1 undef, xs.getD 2 undef, xs.getD 3 undef, xs.getD 4 undef, xs.getD 5 undef, xs.getD 6 undef] ∧ K H := ar h
theorem ar8 {xs : List Value} {K : HP} {H : Heap} (h : arity xs 8 K H) : xs = [xs.getD 0 undef, xs.getD 1 undef, xs.getD 2 undef, xs.getD 3 undef, xs.getD 4 undef, xs.getD 5 undef, xs.getD 6 undef, xs.getD 7 undef] ∧ K H := ar h
theorem ar9 {xs : List Value} {K : HP} {H : Heap} (h : arity xs 9 K H) : xs = [xs.getD 0 undef, xs.getD 1 undef, xs.getD 2 undef, xs.getD 3 undef, xs.getD 4 undef, xs.getD 5 undef, xs.getD 6 undef, xs.getD 7 undef, xs.getD 8 undef] ∧ K H := ar h
theorem ar10 {xs : List Value} {K : HP} {H : Heap} (h : arity xs 10 K H) : xs = [xs.getD 0 undef, xs.getD 1 undef, xs.getD 2 undef, xs.getD 3 undef, xs.getD 4 undef, xs.getD 5 undef, xs.getD 6 undef, xs.getD 7 undef, xs.getD 8 undef, xs.getD 9 undef] ∧ K H := ar h
theorem ar11 {xs : List Value} {K : HP} {H : Heap} (h : arity xs 11 K H) : xs = [xs.getD 0 undef, xs.getD 1 undef, xs.getD 2 undef, xs.getD 3 undef, xs.getD 4 undef, xs.getD 5 undef, xs.getD 6 undef, xs.getD 7 undef, xs.getD 8 undef, xs.getD 9 undef, xs.getD 10 undef] ∧ K H := ar h
theorem mixed : Tryz.prog.follows .mixedOrders = true := by kernel_rfl
def E85 : Entry Tryz.prog := handClone Tryz.func85 (by decide) rfl rfl rfl
def E128 : Entry Tryz.prog := handMNZ Tryz.func128 (by decide) rfl rfl rfl rfl Tryz.underlying43
def E170 : Entry Tryz.prog := handIdx Tryz.func170 (by decide) rfl rfl rfl
def aux129 : Aux := auxD
def tab129 : Tab Tryz.prog := ⟨[E170], fnT⟩
theorem ok129 : okFn Tryz.prog aux129 Tryz.f129 2 = true := by kernel_rfl
theorem x129 (p0 : ByteArray) (p1 : Int) (K : Value → HP) : bodyX Tryz.prog tab129 aux129 Tryz.f129 [.string p0, .int .u8 p1] K = S.internal_stringslite_IndexByte p0 p1 (fun r0 => K (.int .i64 r0)) := by kernel_rfl
def E129 : Entry Tryz.prog := ⟨129, S.internal_stringslite_IndexByte_run, fun xs K w h => by
  obtain ⟨eb, h⟩ := ar2 h
  obtain ⟨p0, e0, h⟩ := asS_inv h
  obtain ⟨p1, e1, h⟩ := asI_inv h
  rw [e0, e1] at eb
  subst eb
  exact body_sound mixed Tryz.func129 ok129 Tryz.call129 rfl (by rw [x129]; exact h)⟩
def aux84 : Aux := auxD
def tab84 : Tab Tryz.prog := ⟨[E129], fnT⟩
theorem ok84 : okFn Tryz.prog aux84 Tryz.f84 2 = true := by kernel_rfl
theorem x84 (p0 : ByteArray) (p1 : Int) (K : Value → HP) : bodyX Tryz.prog tab84 aux84 Tryz.f84 [.string p0, .int .u8 p1] K = S.strings_IndexByte p0 p1 (fun r0 => K (.int .i64 r0)) := by kernel_rfl
def E84 : Entry Tryz.prog := ⟨84, S.strings_IndexByte_run, fun xs K w h => by
  obtain ⟨eb, h⟩ := ar2 h
  obtain ⟨p0, e0, h⟩ := asS_inv h
  obtain ⟨p1, e1, h⟩ := asI_inv h
  rw [e0, e1] at eb
  subst eb
  exact body_sound mixed Tryz.func84 ok84 Tryz.call84 rfl (by rw [x84]; exact h)⟩
def aux35 : Aux := { plan := fun _ => .done, spec := fun c => bif Nat.beq c 0 then ⟨[(6, .ii .i64)], 97⟩ else ⟨[], 0⟩, iter := fun _ => none }
def tab35 : Tab Tryz.prog := ⟨[E84], fnT⟩
theorem ok35 : okFn Tryz.prog aux35 Tryz.f35 1 = true := by kernel_rfl
theorem x35 (p0 : ByteArray) (K : Value → HP) : bodyX Tryz.prog tab35 aux35 Tryz.f35 [.string p0] K = S.vdisk_named p0 (fun r0 => K (.bool r0)) := by kernel_rfl
def E35 : Entry Tryz.prog := ⟨35, S.vdisk_named_run, fun xs K w h => by
  obtain ⟨eb, h⟩ := ar1 h
  obtain ⟨p0, e0, h⟩ := asS_inv h
  rw [e0] at eb
  subst eb
  exact body_sound mixed Tryz.func35 ok35 Tryz.call35 rfl (by rw [x35]; exact h)⟩
def aux36 : Aux := { plan := fun _ => .done, spec := fun c => bif Nat.beq c 0 then ⟨[(3, .ii .i64)], 16393⟩ else ⟨[], 0⟩, iter := fun t => bif Nat.beq t 14 then some (9, 3) else none }
def tab36 : Tab Tryz.prog := ⟨[], fnT⟩
theorem ok36 : okFn Tryz.prog aux36 Tryz.f36 1 = true := by kernel_rfl
theorem x36 (p0 : Option Addr) (K : Value → HP) : bodyX Tryz.prog tab36 aux36 Tryz.f36 [.pointer p0] K = S.vdisk_Disk_free p0 (fun r0 => K (.int .i64 r0)) := by kernel_rfl
def E36 : Entry Tryz.prog := ⟨36, S.vdisk_Disk_free_run, fun xs K w h => by
  obtain ⟨eb, h⟩ := ar1 h
  obtain ⟨p0, e0, h⟩ := asP_inv h
  rw [e0] at eb
  subst eb
  exact body_sound mixed Tryz.func36 ok36 Tryz.call36 rfl (by rw [x36]; exact h)⟩
def aux37 : Aux := auxD
def tab37 : Tab Tryz.prog := ⟨[E85], fnT⟩
theorem ok37 : okFn Tryz.prog aux37 Tryz.f37 1 = true := by kernel_rfl
theorem x37 (p0 : Option Nat) (K : Value → HP) : bodyX Tryz.prog tab37 aux37 Tryz.f37 [.map p0] K = S.maps_Clone_vdisk_names_string_int p0 (fun r0 => K (.map r0)) := by kernel_rfl
def E37 : Entry Tryz.prog := ⟨37, S.maps_Clone_vdisk_names_string_int_run, fun xs K w h => by
  obtain ⟨eb, h⟩ := ar1 h
  obtain ⟨p0, e0, h⟩ := asM_inv h
  rw [e0] at eb
  subst eb
  exact body_sound mixed Tryz.func37 ok37 Tryz.call37 rfl (by rw [x37]; exact h)⟩
def aux10 : Aux := { plan := fun r => bif Nat.beq r 7 then .take 0 (.take 1 (.take 2 (.take 3 (.take 4 (.take 5 (.take 6 (.take 7 (.take 8 (.take 9 (.take 10 (.take 11 (.done)))))))))))) else bif Nat.beq r 8 then .take 0 (.take 1 (.take 2 (.take 3 (.eff 4 [] (.take 5 (.take 6 (.take 7 (.take 8 (.take 9 (.take 10 (.take 11 (.eff 12 [9] (.take 13 (.take 14 (.done))))))))))))))) else bif Nat.beq r 10 then .take 0 (.take 1 (.take 2 (.take 3 (.take 4 (.take 5 (.take 6 (.take 7 (.take 8 (.take 9 (.take 10 (.eff 11 [] (.done)))))))))))) else bif Nat.beq r 11 then .take 0 (.take 1 (.take 2 (.take 3 (.take 4 (.take 5 (.take 6 (.take 7 (.take 8 (.take 9 (.take 10 (.take 11 (.eff 12 [4] (.eff 13 [4] (.eff 14 [] (.take 15 (.take 16 (.eff 17 [] (.done)))))))))))))))))) else .done, spec := fun c => bif Nat.beq c 0 then ⟨[(29, .ii .i64)], 939524128⟩ else ⟨[], 0⟩, iter := fun _ => none }
def tab10 : Tab Tryz.prog := ⟨[E35, E36, E37], fnT⟩
theorem ok10 : okFn Tryz.prog aux10 Tryz.f10 2 = true := by kernel_rfl
theorem x10 (p0 : Sl) (p1 : Int) (K : Value → HP) : bodyX Tryz.prog tab10 aux10 Tryz.f10 [p0.v, .int .i64 p1] K = S.vdisk_New p0 p1 (fun r0 => K (.pointer r0)) := by kernel_rfl
def E10 : Entry Tryz.prog := ⟨10, S.vdisk_New_run, fun xs K w h => by
  obtain ⟨eb, h⟩ := ar2 h
  obtain ⟨p0, e0, h⟩ := asL_inv h
  obtain ⟨p1, e1, h⟩ := asI_inv h
  rw [e0, e1] at eb
  subst eb
  exact body_sound mixed Tryz.func10 ok10 Tryz.call10 rfl (by rw [x10]; exact h)⟩
def aux30 : Aux := auxD
def tab30 : Tab Tryz.prog := ⟨[], fnT⟩
theorem ok30 : okFn Tryz.prog aux30 Tryz.f30 1 = true := by kernel_rfl
theorem x30 (p0 : Int) (K : Value → HP) : bodyX Tryz.prog tab30 aux30 Tryz.f30 [.int .i64 p0] K = S.dbox_isUser p0 (fun r0 => K (.bool r0)) := by kernel_rfl
def E30 : Entry Tryz.prog := ⟨30, S.dbox_isUser_run, fun xs K w h => by
  obtain ⟨eb, h⟩ := ar1 h
  obtain ⟨p0, e0, h⟩ := asI_inv h
  rw [e0] at eb
  subst eb
  exact body_sound mixed Tryz.func30 ok30 Tryz.call30 rfl (by rw [x30]; exact h)⟩
def aux31 : Aux := auxD
def tab31 : Tab Tryz.prog := ⟨[], fnT⟩
theorem ok31 : okFn Tryz.prog aux31 Tryz.f31 1 = true := by kernel_rfl
theorem x31 (p0 : Int) (K : Value → HP) : bodyX Tryz.prog tab31 aux31 Tryz.f31 [.int .i64 p0] K = S.dbox_isSeq p0 (fun r0 => K (.bool r0)) := by kernel_rfl
def E31 : Entry Tryz.prog := ⟨31, S.dbox_isSeq_run, fun xs K w h => by
  obtain ⟨eb, h⟩ := ar1 h
  obtain ⟨p0, e0, h⟩ := asI_inv h
  rw [e0] at eb
  subst eb
  exact body_sound mixed Tryz.func31 ok31 Tryz.call31 rfl (by rw [x31]; exact h)⟩
def aux169 : Aux := auxD
def tab169 : Tab Tryz.prog := ⟨[], fnT⟩
theorem ok169 : okFn Tryz.prog aux169 Tryz.f169 2 = true := by kernel_rfl
theorem x169 (p0 : Int) (p1 : Int) (K : Value → HP) : bodyX Tryz.prog tab169 aux169 Tryz.f169 [.int .u64 p0, .int .u64 p1] K = S.math_bits_Mul64 p0 p1 (fun r0 r1 => K (.tuple #[.int .u64 r0, .int .u64 r1])) := by kernel_rfl
def E169 : Entry Tryz.prog := ⟨169, S.math_bits_Mul64_run, fun xs K w h => by
  obtain ⟨eb, h⟩ := ar2 h
  obtain ⟨p0, e0, h⟩ := asI_inv h
  obtain ⟨p1, e1, h⟩ := asI_inv h
  rw [e0, e1] at eb
  subst eb
  exact body_sound mixed Tryz.func169 ok169 Tryz.call169 rfl (by rw [x169]; exact h)⟩
def aux127 : Aux := auxD
def tab127 : Tab Tryz.prog := ⟨[E169], fnT⟩
theorem ok127 : okFn Tryz.prog aux127 Tryz.f127 2 = true := by kernel_rfl
theorem x127 (p0 : Int) (p1 : Int) (K : Value → HP) : bodyX Tryz.prog tab127 aux127 Tryz.f127 [.int .u64 p0, .int .u64 p1] K = S.math_bits_Mul p0 p1 (fun r0 r1 => K (.tuple #[.int .u64 r0, .int .u64 r1])) := by kernel_rfl
def E127 : Entry Tryz.prog := ⟨127, S.math_bits_Mul_run, fun xs K w h => by
  obtain ⟨eb, h⟩ := ar2 h
  obtain ⟨p0, e0, h⟩ := asI_inv h
  obtain ⟨p1, e1, h⟩ := asI_inv h
  rw [e0, e1] at eb
  subst eb
  exact body_sound mixed Tryz.func127 ok127 Tryz.call127 rfl (by rw [x127]; exact h)⟩
def aux83 : Aux := { plan := fun r => bif Nat.beq r 20 then .take 0 (.take 1 (.take 2 (.take 3 (.take 4 (.take 5 (.take 6 (.eff 7 [] (.take 8 (.take 9 (.done)))))))))) else .done, spec := fun c => bif Nat.beq c 0 then ⟨[(10, .ii .i64)], 1920⟩ else ⟨[], 0⟩, iter := fun _ => none }
def tab83 : Tab Tryz.prog := ⟨[E127, E128], fnT⟩
theorem ok83 : okFn Tryz.prog aux83 Tryz.f83 2 = true := by kernel_rfl
theorem x83 (p0 : Sl) (p1 : Int) (K : Value → HP) : bodyX Tryz.prog tab83 aux83 Tryz.f83 [p0.v, .int .i64 p1] K = S.bytes_Repeat p0 p1 (fun r0 => K (.slice r0.a r0.len r0.cap)) := by kernel_rfl
def E83 : Entry Tryz.prog := ⟨83, S.bytes_Repeat_run, fun xs K w h => by
  obtain ⟨eb, h⟩ := ar2 h
  obtain ⟨p0, e0, h⟩ := asL_inv h
  obtain ⟨p1, e1, h⟩ := asI_inv h
  rw [e0, e1] at eb
  subst eb
  exact body_sound mixed Tryz.func83 ok83 Tryz.call83 rfl (by rw [x83]; exact h)⟩
def aux33 : Aux := { plan := fun _ => .done, spec := fun c => bif Nat.beq c 0 then ⟨[(0, .ii .i64), (6, .ii .i64)], 97⟩ else ⟨[], 0⟩, iter := fun _ => none }
def tab33 : Tab Tryz.prog := ⟨[E83], fnT⟩
theorem ok33 : okFn Tryz.prog aux33 Tryz.f33 2 = true := by kernel_rfl
theorem x33 (p0 : Int) (p1 : Int) (K : Value → HP) : bodyX Tryz.prog tab33 aux33 Tryz.f33 [.int .i64 p0, .int .i64 p1] K = S.dbox_digits p0 p1 (fun r0 => K (.string r0)) := by kernel_rfl
def E33 : Entry Tryz.prog := ⟨33, S.dbox_digits_run, fun xs K w h => by
  obtain ⟨eb, h⟩ := ar2 h
  obtain ⟨p0, e0, h⟩ := asI_inv h
  obtain ⟨p1, e1, h⟩ := asI_inv h
  rw [e0, e1] at eb
  subst eb
  exact body_sound mixed Tryz.func33 ok33 Tryz.call33 rfl (by rw [x33]; exact h)⟩
def aux32 : Aux := auxD
def tab32 : Tab Tryz.prog := ⟨[E33], fnT⟩
theorem ok32 : okFn Tryz.prog aux32 Tryz.f32 1 = true := by kernel_rfl
theorem x32 (p0 : Int) (K : Value → HP) : bodyX Tryz.prog tab32 aux32 Tryz.f32 [.int .i64 p0] K = S.dbox_front p0 (fun r0 => K (.string r0)) := by kernel_rfl
def E32 : Entry Tryz.prog := ⟨32, S.dbox_front_run, fun xs K w h => by
  obtain ⟨eb, h⟩ := ar1 h
  obtain ⟨p0, e0, h⟩ := asI_inv h
  rw [e0] at eb
  subst eb
  exact body_sound mixed Tryz.func32 ok32 Tryz.call32 rfl (by rw [x32]; exact h)⟩
def aux8 : Aux := auxD
def tab8 : Tab Tryz.prog := ⟨[E30, E31, E32, E33], fnT⟩
theorem ok8 : okFn Tryz.prog aux8 Tryz.f8 2 = true := by kernel_rfl
theorem x8 (p0 : Int) (p1 : Int) (K : Value → HP) : bodyX Tryz.prog tab8 aux8 Tryz.f8 [.int .i64 p0, .int .i64 p1] K = S.dbox_Name p0 p1 (fun r0 => K (.string r0)) := by kernel_rfl
def E8 : Entry Tryz.prog := ⟨8, S.dbox_Name_run, fun xs K w h => by
  obtain ⟨eb, h⟩ := ar2 h
  obtain ⟨p0, e0, h⟩ := asI_inv h
  obtain ⟨p1, e1, h⟩ := asI_inv h
  rw [e0, e1] at eb
  subst eb
  exact body_sound mixed Tryz.func8 ok8 Tryz.call8 rfl (by rw [x8]; exact h)⟩
def aux19 : Aux := auxD
def tab19 : Tab Tryz.prog := ⟨[], fnT⟩
theorem ok19 : okFn Tryz.prog aux19 Tryz.f19 1 = true := by kernel_rfl
theorem x19 (p0 : Option Addr) (K : Value → HP) : bodyX Tryz.prog tab19 aux19 Tryz.f19 [.pointer p0] K = S.vdisk_Disk_Down p0 (fun r0 => K (.bool r0)) := by kernel_rfl
def E19 : Entry Tryz.prog := ⟨19, S.vdisk_Disk_Down_run, fun xs K w h => by
  obtain ⟨eb, h⟩ := ar1 h
  obtain ⟨p0, e0, h⟩ := asP_inv h
  rw [e0] at eb
  subst eb
  exact body_sound mixed Tryz.func19 ok19 Tryz.call19 rfl (by rw [x19]; exact h)⟩
def aux42 : Aux := auxD
def tab42 : Tab Tryz.prog := ⟨[E89, E90], fnT⟩
theorem ok42 : okFn Tryz.prog aux42 Tryz.f42 1 = true := by kernel_rfl
theorem x42 (p0 : Option Addr) (K : Value → HP) : bodyX Tryz.prog tab42 aux42 Tryz.f42 [.pointer p0] K = S.vdisk_Disk_Names tab42.cx p0 (fun r0 => K (.slice r0.a r0.len r0.cap)) := by kernel_rfl
def E42 : Entry Tryz.prog := ⟨42, S.vdisk_Disk_Names_run tab42.cx, fun xs K w h => by
  obtain ⟨eb, h⟩ := ar1 h
  obtain ⟨p0, e0, h⟩ := asP_inv h
  rw [e0] at eb
  subst eb
  exact body_sound mixed Tryz.func42 ok42 Tryz.call42 rfl (by rw [x42]; exact h)⟩
def aux91 : Aux := auxD
def tab91 : Tab Tryz.prog := ⟨[], fnT⟩
theorem ok91 : okFn Tryz.prog aux91 Tryz.f91 2 = true := by kernel_rfl
theorem x91 (p0 : ByteArray) (p1 : ByteArray) (K : Value → HP) : bodyX Tryz.prog tab91 aux91 Tryz.f91 [.string p0, .string p1] K = S.internal_stringslite_HasPrefix p0 p1 (fun r0 => K (.bool r0)) := by kernel_rfl
def E91 : Entry Tryz.prog := ⟨91, S.internal_stringslite_HasPrefix_run, fun xs K w h => by
  obtain ⟨eb, h⟩ := ar2 h
  obtain ⟨p0, e0, h⟩ := asS_inv h
  obtain ⟨p1, e1, h⟩ := asS_inv h
  rw [e0, e1] at eb
  subst eb
  exact body_sound mixed Tryz.func91 ok91 Tryz.call91 rfl (by rw [x91]; exact h)⟩
def aux43 : Aux := auxD
def tab43 : Tab Tryz.prog := ⟨[E91], fnT⟩
theorem ok43 : okFn Tryz.prog aux43 Tryz.f43 2 = true := by kernel_rfl
theorem x43 (p0 : ByteArray) (p1 : ByteArray) (K : Value → HP) : bodyX Tryz.prog tab43 aux43 Tryz.f43 [.string p0, .string p1] K = S.strings_HasPrefix p0 p1 (fun r0 => K (.bool r0)) := by kernel_rfl
def E43 : Entry Tryz.prog := ⟨43, S.strings_HasPrefix_run, fun xs K w h => by
  obtain ⟨eb, h⟩ := ar2 h
  obtain ⟨p0, e0, h⟩ := asS_inv h
  obtain ⟨p1, e1, h⟩ := asS_inv h
  rw [e0, e1] at eb
  subst eb
  exact body_sound mixed Tryz.func43 ok43 Tryz.call43 rfl (by rw [x43]; exact h)⟩
def aux130 : Aux := auxD
def tab130 : Tab Tryz.prog := ⟨[], fnT⟩
theorem ok130 : okFn Tryz.prog aux130 Tryz.f130 2 = true := by kernel_rfl
theorem x130 (p0 : ByteArray) (p1 : ByteArray) (K : Value → HP) : bodyX Tryz.prog tab130 aux130 Tryz.f130 [.string p0, .string p1] K = S.internal_stringslite_HasSuffix p0 p1 (fun r0 => K (.bool r0)) := by kernel_rfl
def E130 : Entry Tryz.prog := ⟨130, S.internal_stringslite_HasSuffix_run, fun xs K w h => by
  obtain ⟨eb, h⟩ := ar2 h
  obtain ⟨p0, e0, h⟩ := asS_inv h
  obtain ⟨p1, e1, h⟩ := asS_inv h
  rw [e0, e1] at eb
  subst eb
  exact body_sound mixed Tryz.func130 ok130 Tryz.call130 rfl (by rw [x130]; exact h)⟩
def aux87 : Aux := auxD
def tab87 : Tab Tryz.prog := ⟨[E130], fnT⟩
theorem ok87 : okFn Tryz.prog aux87 Tryz.f87 2 = true := by kernel_rfl
theorem x87 (p0 : ByteArray) (p1 : ByteArray) (K : Value → HP) : bodyX Tryz.prog tab87 aux87 Tryz.f87 [.string p0, .string p1] K = S.strings_HasSuffix p0 p1 (fun r0 => K (.bool r0)) := by kernel_rfl
def E87 : Entry Tryz.prog := ⟨87, S.strings_HasSuffix_run, fun xs K w h => by
  obtain ⟨eb, h⟩ := ar2 h
  obtain ⟨p0, e0, h⟩ := asS_inv h
  obtain ⟨p1, e1, h⟩ := asS_inv h
  rw [e0, e1] at eb
  subst eb
  exact body_sound mixed Tryz.func87 ok87 Tryz.call87 rfl (by rw [x87]; exact h)⟩
def aux112 : Aux := auxD
def tab112 : Tab Tryz.prog := ⟨[], fnT⟩
theorem ok112 : okFn Tryz.prog aux112 Tryz.f112 1 = true := by kernel_rfl
theorem x112 (p0 : Option Addr) (K : Value → HP) : bodyX Tryz.prog tab112 aux112 Tryz.f112 [.pointer p0] K = S.vdisk_trap_spring p0 (fun r0 => K (.bool r0)) := by kernel_rfl
def E112 : Entry Tryz.prog := ⟨112, S.vdisk_trap_spring_run, fun xs K w h => by
  obtain ⟨eb, h⟩ := ar1 h
  obtain ⟨p0, e0, h⟩ := asP_inv h
  rw [e0] at eb
  subst eb
  exact body_sound mixed Tryz.func112 ok112 Tryz.call112 rfl (by rw [x112]; exact h)⟩
def aux67 : Aux := { plan := fun r => bif Nat.beq r 4 then .take 0 (.take 1 (.take 2 (.take 4 (.take 5 (.take 6 (.eff 3 [] (.eff 7 [] (.take 8 (.take 9 (.done)))))))))) else .done, spec := fun _ => ⟨[], 0⟩, iter := fun _ => none }
def tab67 : Tab Tryz.prog := ⟨[E112], fnT⟩
theorem ok67 : okFn Tryz.prog aux67 Tryz.f67 1 = true := by kernel_rfl
theorem x67 (p0 : Option Addr) (K : Value → HP) : bodyX Tryz.prog tab67 aux67 Tryz.f67 [.pointer p0] K = S.vdisk_Disk_change p0 (fun r0 => K (.int .i64 r0)) := by kernel_rfl
def E67 : Entry Tryz.prog := ⟨67, S.vdisk_Disk_change_run, fun xs K w h => by
  obtain ⟨eb, h⟩ := ar1 h
  obtain ⟨p0, e0, h⟩ := asP_inv h
  rw [e0] at eb
  subst eb
  exact body_sound mixed Tryz.func67 ok67 Tryz.call67 rfl (by rw [x67]; exact h)⟩
def aux159 : Aux := auxD
def tab159 : Tab Tryz.prog := ⟨[], fnT⟩
theorem ok159 : okFn Tryz.prog aux159 Tryz.f159 2 = true := by kernel_rfl
theorem x159 (p0 : Option Addr) (p1 : ByteArray) (K : Value → HP) : bodyX Tryz.prog tab159 aux159 Tryz.f159 [.pointer p0, .string p1] K = S.vdisk_Disk_find p0 p1 (fun r0 r1 => K (.tuple #[.int .i64 r0, .int .i64 r1])) := by kernel_rfl
def E159 : Entry Tryz.prog := ⟨159, S.vdisk_Disk_find_run, fun xs K w h => by
  obtain ⟨eb, h⟩ := ar2 h
  obtain ⟨p0, e0, h⟩ := asP_inv h
  obtain ⟨p1, e1, h⟩ := asS_inv h
  rw [e0, e1] at eb
  subst eb
  exact body_sound mixed Tryz.func159 ok159 Tryz.call159 rfl (by rw [x159]; exact h)⟩
def aux131 : Aux := auxD
def tab131 : Tab Tryz.prog := ⟨[E67, E159], fnT⟩
theorem ok131 : okFn Tryz.prog aux131 Tryz.f131 2 = true := by kernel_rfl
theorem x131 (p0 : Option Addr) (p1 : ByteArray) (K : Value → HP) : bodyX Tryz.prog tab131 aux131 Tryz.f131 [.pointer p0, .string p1] K = S.vdisk_Disk_touch p0 p1 (fun r0 r1 => K (.tuple #[.int .i64 r0, .int .i64 r1])) := by kernel_rfl
def E131 : Entry Tryz.prog := ⟨131, S.vdisk_Disk_touch_run, fun xs K w h => by
  obtain ⟨eb, h⟩ := ar2 h
  obtain ⟨p0, e0, h⟩ := asP_inv h
  obtain ⟨p1, e1, h⟩ := asS_inv h
  rw [e0, e1] at eb
  subst eb
  exact body_sound mixed Tryz.func131 ok131 Tryz.call131 rfl (by rw [x131]; exact h)⟩
def aux73 : Aux := { plan := fun _ => .done, spec := fun c => bif Nat.beq c 0 then ⟨[], 137⟩ else ⟨[], 0⟩, iter := fun t => bif Nat.beq t 7 then some (9, 3) else none }
def tab73 : Tab Tryz.prog := ⟨[], fnT⟩
theorem ok73 : okFn Tryz.prog aux73 Tryz.f73 2 = true := by kernel_rfl
theorem x73 (p0 : Option Nat) (p1 : G_vdisk_move) (K : Value → HP) : bodyX Tryz.prog tab73 aux73 Tryz.f73 [.map p0, p1.v] K = S.vdisk_names_give p0 p1 (K (.tuple #[])) := by kernel_rfl
def E73 : Entry Tryz.prog := ⟨73, S.vdisk_names_give_run, fun xs K w h => by
  obtain ⟨eb, h⟩ := ar2 h
  obtain ⟨p0, e0, h⟩ := asM_inv h
  obtain ⟨p1, e1, h⟩ := as_G_vdisk_move_inv h
  rw [e0, e1] at eb
  subst eb
  exact body_sound mixed Tryz.func73 ok73 Tryz.call73 rfl (by rw [x73]; exact h)⟩
def aux132 : Aux := { plan := fun r => bif Nat.beq r 1 then .take 0 (.take 1 (.take 2 (.take 3 (.take 4 (.take 5 (.eff 6 [4] (.eff 7 [] (.take 8 (.take 9 (.eff 10 [] (.done))))))))))) else bif Nat.beq r 2 then .take 0 (.take 1 (.take 2 (.take 3 (.take 4 (.eff 5 [] (.done)))))) else .done, spec := fun _ => ⟨[], 0⟩, iter := fun _ => none }
def tab132 : Tab Tryz.prog := ⟨[E73], fnT⟩
theorem ok132 : okFn Tryz.prog aux132 Tryz.f132 2 = true := by kernel_rfl
theorem x132 (p0 : Option Addr) (p1 : G_vdisk_move) (K : Value → HP) : bodyX Tryz.prog tab132 aux132 Tryz.f132 [.pointer p0, p1.v] K = S.vdisk_Disk_turn p0 p1 (K (.tuple #[])) := by kernel_rfl
def E132 : Entry Tryz.prog := ⟨132, S.vdisk_Disk_turn_run, fun xs K w h => by
  obtain ⟨eb, h⟩ := ar2 h
  obtain ⟨p0, e0, h⟩ := asP_inv h
  obtain ⟨p1, e1, h⟩ := as_G_vdisk_move_inv h
  rw [e0, e1] at eb
  subst eb
  exact body_sound mixed Tryz.func132 ok132 Tryz.call132 rfl (by rw [x132]; exact h)⟩
def aux88 : Aux := auxD
def tab88 : Tab Tryz.prog := ⟨[E131, E132], fnT⟩
theorem ok88 : okFn Tryz.prog aux88 Tryz.f88 2 = true := by kernel_rfl
theorem x88 (p0 : Option Addr) (p1 : ByteArray) (K : Value → HP) : bodyX Tryz.prog tab88 aux88 Tryz.f88 [.pointer p0, .string p1] K = S.vdisk_Disk_Unlink p0 p1 (fun r0 => K (.int .i64 r0)) := by kernel_rfl
def E88 : Entry Tryz.prog := ⟨88, S.vdisk_Disk_Unlink_run, fun xs K w h => by
  obtain ⟨eb, h⟩ := ar2 h
  obtain ⟨p0, e0, h⟩ := asP_inv h
  obtain ⟨p1, e1, h⟩ := asS_inv h
  rw [e0, e1] at eb
  subst eb
  exact body_sound mixed Tryz.func88 ok88 Tryz.call88 rfl (by rw [x88]; exact h)⟩
def aux41 : Aux := { plan := fun _ => .done, spec := fun c => bif Nat.beq c 0 then ⟨[(11, .ii .i64)], 3587⟩ else ⟨[], 0⟩, iter := fun _ => none }
def tab41 : Tab Tryz.prog := ⟨[E42, E43, E87, E88], fnT⟩
theorem ok41 : okFn Tryz.prog aux41 Tryz.f41 2 = true := by kernel_rfl
theorem x41 (p0 : Option Addr) (p1 : ByteArray) (K : Value → HP) : bodyX Tryz.prog tab41 aux41 Tryz.f41 [.pointer p0, .string p1] K = S.safe_Tidy tab41.cx p0 p1 (fun r0 => K (.int .i64 r0)) := by kernel_rfl
def E41 : Entry Tryz.prog := ⟨41, S.safe_Tidy_run tab41.cx, fun xs K w h => by
  obtain ⟨eb, h⟩ := ar2 h
  obtain ⟨p0, e0, h⟩ := asP_inv h
  obtain ⟨p1, e1, h⟩ := asS_inv h
  rw [e0, e1] at eb
  subst eb
  exact body_sound mixed Tryz.func41 ok41 Tryz.call41 rfl (by rw [x41]; exact h)⟩
def aux136 : Aux := auxD
def tab136 : Tab Tryz.prog := ⟨[E91], fnT⟩
theorem ok136 : okFn Tryz.prog aux136 Tryz.f136 2 = true := by kernel_rfl
theorem x136 (p0 : ByteArray) (p1 : ByteArray) (K : Value → HP) : bodyX Tryz.prog tab136 aux136 Tryz.f136 [.string p0, .string p1] K = S.internal_stringslite_TrimPrefix p0 p1 (fun r0 => K (.string r0)) := by kernel_rfl
def E136 : Entry Tryz.prog := ⟨136, S.internal_stringslite_TrimPrefix_run, fun xs K w h => by
  obtain ⟨eb, h⟩ := ar2 h
  obtain ⟨p0, e0, h⟩ := asS_inv h
  obtain ⟨p1, e1, h⟩ := asS_inv h
  rw [e0, e1] at eb
  subst eb
  exact body_sound mixed Tryz.func136 ok136 Tryz.call136 rfl (by rw [x136]; exact h)⟩
def aux92 : Aux := auxD
def tab92 : Tab Tryz.prog := ⟨[E136], fnT⟩
theorem ok92 : okFn Tryz.prog aux92 Tryz.f92 2 = true := by kernel_rfl
theorem x92 (p0 : ByteArray) (p1 : ByteArray) (K : Value → HP) : bodyX Tryz.prog tab92 aux92 Tryz.f92 [.string p0, .string p1] K = S.strings_TrimPrefix p0 p1 (fun r0 => K (.string r0)) := by kernel_rfl
def E92 : Entry Tryz.prog := ⟨92, S.strings_TrimPrefix_run, fun xs K w h => by
  obtain ⟨eb, h⟩ := ar2 h
  obtain ⟨p0, e0, h⟩ := asS_inv h
  obtain ⟨p1, e1, h⟩ := asS_inv h
  rw [e0, e1] at eb
  subst eb
  exact body_sound mixed Tryz.func92 ok92 Tryz.call92 rfl (by rw [x92]; exact h)⟩
def aux44 : Aux := { plan := fun _ => .done, spec := fun c => bif Nat.beq c 0 then ⟨[(5, .ii .i64), (14, .ii .i64)], 28707⟩ else ⟨[], 0⟩, iter := fun _ => none }
def tab44 : Tab Tryz.prog := ⟨[E8, E32, E92], fnT⟩
theorem ok44 : okFn Tryz.prog aux44 Tryz.f44 2 = true := by kernel_rfl
theorem x44 (p0 : Int) (p1 : ByteArray) (K : Value → HP) : bodyX Tryz.prog tab44 aux44 Tryz.f44 [.int .i64 p0, .string p1] K = S.dbox_number p0 p1 (fun r0 => K (.int .i64 r0)) := by kernel_rfl
def E44 : Entry Tryz.prog := ⟨44, S.dbox_number_run, fun xs K w h => by
  obtain ⟨eb, h⟩ := ar2 h
  obtain ⟨p0, e0, h⟩ := asI_inv h
  obtain ⟨p1, e1, h⟩ := asS_inv h
  rw [e0, e1] at eb
  subst eb
  exact body_sound mixed Tryz.func44 ok44 Tryz.call44 rfl (by rw [x44]; exact h)⟩
def aux123 : Aux := auxD
def tab123 : Tab Tryz.prog := ⟨[E159], fnT⟩
theorem ok123 : okFn Tryz.prog aux123 Tryz.f123 2 = true := by kernel_rfl
theorem x123 (p0 : Option Addr) (p1 : ByteArray) (K : Value → HP) : bodyX Tryz.prog tab123 aux123 Tryz.f123 [.pointer p0, .string p1] K = S.vdisk_Disk_text p0 p1 (fun r0 r1 => K (.tuple #[.string r0, .int .i64 r1])) := by kernel_rfl
def E123 : Entry Tryz.prog := ⟨123, S.vdisk_Disk_text_run, fun xs K w h => by
  obtain ⟨eb, h⟩ := ar2 h
  obtain ⟨p0, e0, h⟩ := asP_inv h
  obtain ⟨p1, e1, h⟩ := asS_inv h
  rw [e0, e1] at eb
  subst eb
  exact body_sound mixed Tryz.func123 ok123 Tryz.call123 rfl (by rw [x123]; exact h)⟩
def aux79 : Aux := auxD
def tab79 : Tab Tryz.prog := ⟨[E123], fnT⟩
theorem ok79 : okFn Tryz.prog aux79 Tryz.f79 2 = true := by kernel_rfl
theorem x79 (p0 : Option Addr) (p1 : ByteArray) (K : Value → HP) : bodyX Tryz.prog tab79 aux79 Tryz.f79 [.pointer p0, .string p1] K = S.vdisk_Disk_Read p0 p1 (fun r0 r1 => K (.tuple #[.slice r0.a r0.len r0.cap, .int .i64 r1])) := by kernel_rfl
def E79 : Entry Tryz.prog := ⟨79, S.vdisk_Disk_Read_run, fun xs K w h => by
  obtain ⟨eb, h⟩ := ar2 h
  obtain ⟨p0, e0, h⟩ := asP_inv h
  obtain ⟨p1, e1, h⟩ := asS_inv h
  rw [e0, e1] at eb
  subst eb
  exact body_sound mixed Tryz.func79 ok79 Tryz.call79 rfl (by rw [x79]; exact h)⟩
def aux161 : Aux := auxD
def tab161 : Tab Tryz.prog := ⟨[], fnT⟩
theorem ok161 : okFn Tryz.prog aux161 Tryz.f161 3 = true := by kernel_rfl
theorem x161 (p0 : Int) (p1 : Addr) (p2 : Addr) (K : Value → HP) : bodyX Tryz.prog tab161 aux161 Tryz.f161 [.int .i64 p0, .pointer (some p1), .pointer (some p2)] K = S.frame_Scan_1 p0 p1 p2 (K (.tuple #[])) := by kernel_rfl
def E161 : Entry Tryz.prog := ⟨161, S.frame_Scan_1_run, fun xs K w h => by
  obtain ⟨eb, h⟩ := ar3 h
  obtain ⟨p0, e0, h⟩ := asI_inv h
  obtain ⟨p1, e1, h⟩ := asA_inv h
  obtain ⟨p2, e2, h⟩ := asA_inv h
  rw [e0, e1, e2] at eb
  subst eb
  exact body_sound mixed Tryz.func161 ok161 Tryz.call161 rfl (by rw [x161]; exact h)⟩
def aux188 : Aux := { plan := fun r => bif Nat.beq r 2 then .take 0 (.take 1 (.take 2 (.take 3 (.take 4 (.take 5 (.take 6 (.take 7 (.take 8 (.take 9 (.done)))))))))) else bif Nat.beq r 4 then .take 0 (.take 1 (.take 2 (.take 3 (.take 4 (.take 5 (.take 6 (.take 7 (.take 8 (.take 9 (.take 10 (.done))))))))))) else bif Nat.beq r 5 then .take 0 (.take 1 (.take 2 (.take 3 (.take 4 (.take 5 (.take 6 (.take 7 (.take 8 (.take 9 (.take 10 (.take 11 (.take 12 (.done))))))))))))) else bif Nat.beq r 11 then .take 0 (.take 1 (.take 2 (.take 3 (.take 4 (.take 5 (.take 6 (.take 7 (.take 8 (.take 9 (.take 10 (.take 11 (.done)))))))))))) else bif Nat.beq r 13 then .take 0 (.take 1 (.take 2 (.take 3 (.take 4 (.take 5 (.take 6 (.take 7 (.take 8 (.take 9 (.take 10 (.take 11 (.take 12 (.done))))))))))))) else .done, spec := fun c => bif Nat.beq c 0 then ⟨[], 3⟩ else ⟨[], 0⟩, iter := fun _ => none }
def tab188 : Tab Tryz.prog := ⟨[], fnT⟩
theorem ok188 : okFn Tryz.prog aux188 Tryz.f188 2 = true := by kernel_rfl
theorem x188 (p0 : Option Addr) (p1 : Int) (K : Value → HP) : bodyX Tryz.prog tab188 aux188 Tryz.f188 [.pointer p0, .int .i64 p1] K = S.frame_reader_read p0 p1 (fun r0 => K (.int .i64 r0)) := by kernel_rfl
def E188 : Entry Tryz.prog := ⟨188, S.frame_reader_read_run, fun xs K w h => by
  obtain ⟨eb, h⟩ := ar2 h
  obtain ⟨p0, e0, h⟩ := asP_inv h
  obtain ⟨p1, e1, h⟩ := asI_inv h
  rw [e0, e1] at eb
  subst eb
  exact body_sound mixed Tryz.func188 ok188 Tryz.call188 rfl (by rw [x188]; exact h)⟩
def aux191 : Aux := auxD
def tab191 : Tab Tryz.prog := ⟨[], fnT⟩
theorem ok191 : okFn Tryz.prog aux191 Tryz.f191 1 = true := by kernel_rfl
theorem x191 (p0 : Int) (K : Value → HP) : bodyX Tryz.prog tab191 aux191 Tryz.f191 [.int .i64 p0] K = S.octet_good p0 (fun r0 => K (.bool r0)) := by kernel_rfl
def E191 : Entry Tryz.prog := ⟨191, S.octet_good_run, fun xs K w h => by
  obtain ⟨eb, h⟩ := ar1 h
  obtain ⟨p0, e0, h⟩ := asI_inv h
  rw [e0] at eb
  subst eb
  exact body_sound mixed Tryz.func191 ok191 Tryz.call191 rfl (by rw [x191]; exact h)⟩
def aux189 : Aux := { plan := fun _ => .done, spec := fun c => bif Nat.beq c 0 then ⟨[(8, .ii .u64), (39, .ii .i64)], 962072674560⟩ else ⟨[], 0⟩, iter := fun _ => none }
def tab189 : Tab Tryz.prog := ⟨[E191], fnT⟩
theorem ok189 : okFn Tryz.prog aux189 Tryz.f189 3 = true := by kernel_rfl
theorem x189 (p0 : Sl) (p1 : Int) (p2 : Int) (K : Value → HP) : bodyX Tryz.prog tab189 aux189 Tryz.f189 [p0.v, .int .i64 p1, .int .i64 p2] K = S.octet_Get p0 p1 p2 (fun r0 r1 => K (.tuple #[.int .u64 r0, .bool r1])) := by kernel_rfl
def E189 : Entry Tryz.prog := ⟨189, S.octet_Get_run, fun xs K w h => by
  obtain ⟨eb, h⟩ := ar3 h
  obtain ⟨p0, e0, h⟩ := asL_inv h
  obtain ⟨p1, e1, h⟩ := asI_inv h
  obtain ⟨p2, e2, h⟩ := asI_inv h
  rw [e0, e1, e2] at eb
  subst eb
  exact body_sound mixed Tryz.func189 ok189 Tryz.call189 rfl (by rw [x189]; exact h)⟩
def aux207 : Aux := { plan := fun _ => .done, spec := fun c => bif Nat.beq c 0 then ⟨[(3, .ii .i64)], 9⟩ else bif Nat.beq c 2 then ⟨[(2, .ii .u32), (8, .ii .i64)], 271⟩ else ⟨[], 0⟩, iter := fun _ => none }
def tab207 : Tab Tryz.prog := ⟨[], fnT⟩
theorem ok207 : okFn Tryz.prog aux207 Tryz.f207 0 = true := by kernel_rfl
theorem x207 (K : Value → HP) : bodyX Tryz.prog tab207 aux207 Tryz.f207 [] K = S.crc_row (fun r0 => K (r0.v)) := by kernel_rfl
def E207 : Entry Tryz.prog := ⟨207, S.crc_row_run, fun xs K w h => by
  obtain ⟨hl, h⟩ := arity_inv h
  obtain rfl := List.eq_nil_of_length_eq_zero hl
  exact body_sound mixed Tryz.func207 ok207 Tryz.call207 rfl (by rw [x207]; exact h)⟩
def aux186 : Aux := { plan := fun _ => .done, spec := fun c => bif Nat.beq c 0 then ⟨[(6, .ii .u32), (14, .ii .i64)], 28768⟩ else ⟨[], 0⟩, iter := fun _ => none }
def tab186 : Tab Tryz.prog := ⟨[E207], fnT⟩
theorem ok186 : okFn Tryz.prog aux186 Tryz.f186 2 = true := by kernel_rfl
theorem x186 (p0 : Int) (p1 : Sl) (K : Value → HP) : bodyX Tryz.prog tab186 aux186 Tryz.f186 [.int .u32 p0, p1.v] K = S.crc_More p0 p1 (fun r0 => K (.int .u32 r0)) := by kernel_rfl
def E186 : Entry Tryz.prog := ⟨186, S.crc_More_run, fun xs K w h => by
  obtain ⟨eb, h⟩ := ar2 h
  obtain ⟨p0, e0, h⟩ := asI_inv h
  obtain ⟨p1, e1, h⟩ := asL_inv h
  rw [e0, e1] at eb
  subst eb
  exact body_sound mixed Tryz.func186 ok186 Tryz.call186 rfl (by rw [x186]; exact h)⟩
def aux187 : Aux := auxD
def tab187 : Tab Tryz.prog := ⟨[E186], fnT⟩
theorem ok187 : okFn Tryz.prog aux187 Tryz.f187 1 = true := by kernel_rfl
theorem x187 (p0 : Sl) (K : Value → HP) : bodyX Tryz.prog tab187 aux187 Tryz.f187 [p0.v] K = S.crc_Of p0 (fun r0 => K (.int .u32 r0)) := by kernel_rfl
def E187 : Entry Tryz.prog := ⟨187, S.crc_Of_run, fun xs K w h => by
  obtain ⟨eb, h⟩ := ar1 h
  obtain ⟨p0, e0, h⟩ := asL_inv h
  rw [e0] at eb
  subst eb
  exact body_sound mixed Tryz.func187 ok187 Tryz.call187 rfl (by rw [x187]; exact h)⟩
def aux157 : Aux := auxD
def tab157 : Tab Tryz.prog := ⟨[E186, E187], fnT⟩
theorem ok157 : okFn Tryz.prog aux157 Tryz.f157 2 = true := by kernel_rfl
theorem x157 (p0 : Sl) (p1 : Sl) (K : Value → HP) : bodyX Tryz.prog tab157 aux157 Tryz.f157 [p0.v, p1.v] K = S.frame_sum p0 p1 (fun r0 => K (.int .u32 r0)) := by kernel_rfl
def E157 : Entry Tryz.prog := ⟨157, S.frame_sum_run, fun xs K w h => by
  obtain ⟨eb, h⟩ := ar2 h
  obtain ⟨p0, e0, h⟩ := asL_inv h
  obtain ⟨p1, e1, h⟩ := asL_inv h
  rw [e0, e1] at eb
  subst eb
  exact body_sound mixed Tryz.func157 ok157 Tryz.call157 rfl (by rw [x157]; exact h)⟩
def aux162 : Aux := { plan := fun r => bif Nat.beq r 18 then .take 0 (.take 1 (.take 2 (.take 3 (.take 4 (.take 5 (.take 6 (.take 7 (.take 8 (.take 9 (.take 12 (.eff 10 [] (.take 11 (.take 13 (.done)))))))))))))) else bif Nat.beq r 20 then .take 0 (.take 1 (.take 2 (.take 3 (.take 4 (.take 5 (.take 6 (.take 7 (.take 8 (.take 9 (.take 10 (.take 11 (.take 12 (.take 13 (.take 14 (.take 15 (.take 16 (.take 17 (.take 18 (.take 19 (.take 20 (.take 21 (.take 22 (.take 23 (.take 24 (.take 25 (.take 26 (.take 27 (.take 28 (.take 29 (.eff 30 [] (.take 31 (.done)))))))))))))))))))))))))))))))) else .done, spec := fun _ => ⟨[], 0⟩, iter := fun _ => none }
def tab162 : Tab Tryz.prog := ⟨[E157, E188, E189], fnT⟩
theorem ok162 : okFn Tryz.prog aux162 Tryz.f162 2 = true := by kernel_rfl
theorem x162 (p0 : Sl) (p1 : Int) (K : Value → HP) : bodyX Tryz.prog tab162 aux162 Tryz.f162 [p0.v, .int .i64 p1] K = S.frame_At p0 p1 (fun r0 r1 => K (.tuple #[r0.v, .int .i64 r1])) := by kernel_rfl
def E162 : Entry Tryz.prog := ⟨162, S.frame_At_run, fun xs K w h => by
  obtain ⟨eb, h⟩ := ar2 h
  obtain ⟨p0, e0, h⟩ := asL_inv h
  obtain ⟨p1, e1, h⟩ := asI_inv h
  rw [e0, e1] at eb
  subst eb
  exact body_sound mixed Tryz.func162 ok162 Tryz.call162 rfl (by rw [x162]; exact h)⟩
def aux125 : Aux := { plan := fun r => bif Nat.beq r 13 then .take 0 (.take 1 (.take 2 (.eff 3 [] (.done)))) else .done, spec := fun c => bif Nat.beq c 0 then ⟨[(2, .ll), (6, .ii .i64)], 125⟩ else ⟨[], 0⟩, iter := fun _ => none }
def tab125 : Tab Tryz.prog := ⟨[E161, E162], fnT⟩
theorem ok125 : okFn Tryz.prog aux125 Tryz.f125 1 = true := by kernel_rfl
theorem x125 (p0 : Sl) (K : Value → HP) : bodyX Tryz.prog tab125 aux125 Tryz.f125 [p0.v] K = S.frame_Scan tab125.cx p0 (fun r0 r1 => K (.tuple #[.slice r0.a r0.len r0.cap, .slice r1.a r1.len r1.cap])) := by kernel_rfl
def E125 : Entry Tryz.prog := ⟨125, S.frame_Scan_run tab125.cx, fun xs K w h => by
  obtain ⟨eb, h⟩ := ar1 h
  obtain ⟨p0, e0, h⟩ := asL_inv h
  rw [e0] at eb
  subst eb
  exact body_sound mixed Tryz.func125 ok125 Tryz.call125 rfl (by rw [x125]; exact h)⟩
def aux185 : Aux := auxD
def tab185 : Tab Tryz.prog := ⟨[], fnT⟩
theorem ok185 : okFn Tryz.prog aux185 Tryz.f185 1 = true := by kernel_rfl
theorem x185 (p0 : Sl) (K : Value → HP) : bodyX Tryz.prog tab185 aux185 Tryz.f185 [p0.v] K = S.bytes_Clone p0 (fun r0 => K (.slice r0.a r0.len r0.cap)) := by kernel_rfl
def E185 : Entry Tryz.prog := ⟨185, S.bytes_Clone_run, fun xs K w h => by
  obtain ⟨eb, h⟩ := ar1 h
  obtain ⟨p0, e0, h⟩ := asL_inv h
  rw [e0] at eb
  subst eb
  exact body_sound mixed Tryz.func185 ok185 Tryz.call185 rfl (by rw [x185]; exact h)⟩
def aux163 : Aux := auxD
def tab163 : Tab Tryz.prog := ⟨[E185], fnT⟩
theorem ok163 : okFn Tryz.prog aux163 Tryz.f163 1 = true := by kernel_rfl
theorem x163 (p0 : Sl) (K : Value → HP) : bodyX Tryz.prog tab163 aux163 Tryz.f163 [p0.v] K = S.octet_NewSource p0 (fun r0 => K (.pointer r0)) := by kernel_rfl
def E163 : Entry Tryz.prog := ⟨163, S.octet_NewSource_run, fun xs K w h => by
  obtain ⟨eb, h⟩ := ar1 h
  obtain ⟨p0, e0, h⟩ := asL_inv h
  rw [e0] at eb
  subst eb
  exact body_sound mixed Tryz.func163 ok163 Tryz.call163 rfl (by rw [x163]; exact h)⟩
def aux107 : Aux := { plan := fun r => bif Nat.beq r 7 then .take 0 (.take 1 (.take 2 (.take 3 (.take 4 (.take 5 (.take 6 (.take 7 (.take 8 (.take 9 (.take 10 (.take 11 (.take 12 (.eff 13 [] (.take 14 (.done))))))))))))))) else bif Nat.beq r 9 then .take 0 (.take 1 (.take 2 (.take 3 (.take 4 (.take 5 (.take 6 (.take 7 (.take 8 (.take 9 (.take 10 (.take 11 (.take 12 (.take 13 (.take 14 (.eff 15 [] (.take 16 (.done))))))))))))))))) else .done, spec := fun _ => ⟨[], 0⟩, iter := fun _ => none }
def tab107 : Tab Tryz.prog := ⟨[], fnT⟩
theorem ok107 : okFn Tryz.prog aux107 Tryz.f107 1 = true := by kernel_rfl
theorem x107 (p0 : Option Addr) (K : Value → HP) : bodyX Tryz.prog tab107 aux107 Tryz.f107 [.pointer p0] K = S.record_parts p0 (fun r0 => K (.slice r0.a r0.len r0.cap)) := by kernel_rfl
def E107 : Entry Tryz.prog := ⟨107, S.record_parts_run, fun xs K w h => by
  obtain ⟨eb, h⟩ := ar1 h
  obtain ⟨p0, e0, h⟩ := asP_inv h
  rw [e0] at eb
  subst eb
  exact body_sound mixed Tryz.func107 ok107 Tryz.call107 rfl (by rw [x107]; exact h)⟩
def aux190 : Aux := auxD
def tab190 : Tab Tryz.prog := ⟨[], fnT⟩
theorem ok190 : okFn Tryz.prog aux190 Tryz.f190 3 = true := by kernel_rfl
theorem x190 (p0 : Option Addr) (p1 : Bool) (p2 : Int) (K : Value → HP) : bodyX Tryz.prog tab190 aux190 Tryz.f190 [.pointer p0, .bool p1, .int .i64 p2] K = S.octet_Source_fail p0 p1 p2 (fun r0 => K (.bool r0)) := by kernel_rfl
def E190 : Entry Tryz.prog := ⟨190, S.octet_Source_fail_run, fun xs K w h => by
  obtain ⟨eb, h⟩ := ar3 h
  obtain ⟨p0, e0, h⟩ := asP_inv h
  obtain ⟨p1, e1, h⟩ := asB_inv h
  obtain ⟨p2, e2, h⟩ := asI_inv h
  rw [e0, e1, e2] at eb
  subst eb
  exact body_sound mixed Tryz.func190 ok190 Tryz.call190 rfl (by rw [x190]; exact h)⟩
def aux166 : Aux := { plan := fun r => bif Nat.beq r 1 then .take 0 (.take 1 (.take 2 (.take 3 (.take 4 (.take 5 (.take 6 (.take 7 (.take 8 (.take 9 (.take 10 (.done))))))))))) else .done, spec := fun _ => ⟨[], 0⟩, iter := fun _ => none }
def tab166 : Tab Tryz.prog := ⟨[], fnT⟩
theorem ok166 : okFn Tryz.prog aux166 Tryz.f166 1 = true := by kernel_rfl
theorem x166 (p0 : Option Addr) (K : Value → HP) : bodyX Tryz.prog tab166 aux166 Tryz.f166 [.pointer p0] K = S.octet_Source_Left p0 (fun r0 => K (.int .i64 r0)) := by kernel_rfl
def E166 : Entry Tryz.prog := ⟨166, S.octet_Source_Left_run, fun xs K w h => by
  obtain ⟨eb, h⟩ := ar1 h
  obtain ⟨p0, e0, h⟩ := asP_inv h
  rw [e0] at eb
  subst eb
  exact body_sound mixed Tryz.func166 ok166 Tryz.call166 rfl (by rw [x166]; exact h)⟩
def aux164 : Aux := { plan := fun r => bif Nat.beq r 3 then .take 0 (.take 1 (.take 2 (.take 3 (.take 4 (.take 5 (.take 6 (.take 7 (.take 8 (.eff 9 [] (.take 10 (.take 11 (.take 12 (.take 13 (.take 14 (.done))))))))))))))) else .done, spec := fun _ => ⟨[], 0⟩, iter := fun _ => none }
def tab164 : Tab Tryz.prog := ⟨[E166, E189, E190, E191], fnT⟩
theorem ok164 : okFn Tryz.prog aux164 Tryz.f164 2 = true := by kernel_rfl
theorem x164 (p0 : Option Addr) (p1 : Int) (K : Value → HP) : bodyX Tryz.prog tab164 aux164 Tryz.f164 [.pointer p0, .int .i64 p1] K = S.octet_Source_U p0 p1 (fun r0 => K (.int .u64 r0)) := by kernel_rfl
def E164 : Entry Tryz.prog := ⟨164, S.octet_Source_U_run, fun xs K w h => by
  obtain ⟨eb, h⟩ := ar2 h
  obtain ⟨p0, e0, h⟩ := asP_inv h
  obtain ⟨p1, e1, h⟩ := asI_inv h
  rw [e0, e1] at eb
  subst eb
  exact body_sound mixed Tryz.func164 ok164 Tryz.call164 rfl (by rw [x164]; exact h)⟩
def aux165 : Aux := { plan := fun r => bif Nat.beq r 4 then .take 0 (.take 1 (.take 2 (.take 3 (.take 4 (.take 5 (.take 6 (.take 7 (.take 8 (.take 9 (.take 10 (.take 11 (.take 12 (.take 13 (.take 14 (.eff 15 [] (.take 16 (.done))))))))))))))))) else .done, spec := fun _ => ⟨[], 0⟩, iter := fun _ => none }
def tab165 : Tab Tryz.prog := ⟨[E166, E185, E190], fnT⟩
theorem ok165 : okFn Tryz.prog aux165 Tryz.f165 2 = true := by kernel_rfl
theorem x165 (p0 : Option Addr) (p1 : Int) (K : Value → HP) : bodyX Tryz.prog tab165 aux165 Tryz.f165 [.pointer p0, .int .i64 p1] K = S.octet_Source_Raw p0 p1 (fun r0 => K (.slice r0.a r0.len r0.cap)) := by kernel_rfl
def E165 : Entry Tryz.prog := ⟨165, S.octet_Source_Raw_run, fun xs K w h => by
  obtain ⟨eb, h⟩ := ar2 h
  obtain ⟨p0, e0, h⟩ := asP_inv h
  obtain ⟨p1, e1, h⟩ := asI_inv h
  rw [e0, e1] at eb
  subst eb
  exact body_sound mixed Tryz.func165 ok165 Tryz.call165 rfl (by rw [x165]; exact h)⟩
def aux167 : Aux := auxD
def tab167 : Tab Tryz.prog := ⟨[E166], fnT⟩
theorem ok167 : okFn Tryz.prog aux167 Tryz.f167 1 = true := by kernel_rfl
theorem x167 (p0 : Option Addr) (K : Value → HP) : bodyX Tryz.prog tab167 aux167 Tryz.f167 [.pointer p0] K = S.octet_Source_Done p0 (fun r0 => K (.int .i64 r0)) := by kernel_rfl
def E167 : Entry Tryz.prog := ⟨167, S.octet_Source_Done_run, fun xs K w h => by
  obtain ⟨eb, h⟩ := ar1 h
  obtain ⟨p0, e0, h⟩ := asP_inv h
  rw [e0] at eb
  subst eb
  exact body_sound mixed Tryz.func167 ok167 Tryz.call167 rfl (by rw [x167]; exact h)⟩
def aux179 : Aux := auxD
def tab179 : Tab Tryz.prog := ⟨[], fnT⟩
theorem ok179 : okFn Tryz.prog aux179 Tryz.f179 1 = true := by kernel_rfl
theorem x179 (p0 : G_api_Rec) (K : Value → HP) : bodyX Tryz.prog tab179 aux179 Tryz.f179 [p0.v] K = S.record_all p0 (fun r0 => K (r0.v)) := by kernel_rfl
def E179 : Entry Tryz.prog := ⟨179, S.record_all_run, fun xs K w h => by
  obtain ⟨eb, h⟩ := ar1 h
  obtain ⟨p0, e0, h⟩ := as_G_api_Rec_inv h
  rw [e0] at eb
  subst eb
  exact body_sound mixed Tryz.func179 ok179 Tryz.call179 rfl (by rw [x179]; exact h)⟩
def aux180 : Aux := auxD
def tab180 : Tab Tryz.prog := ⟨[], fnT⟩
theorem ok180 : okFn Tryz.prog aux180 Tryz.f180 2 = true := by kernel_rfl
theorem x180 (p0 : Sl) (p1 : Sl) (K : Value → HP) : bodyX Tryz.prog tab180 aux180 Tryz.f180 [p0.v, p1.v] K = S.bytes_Equal p0 p1 (fun r0 => K (.bool r0)) := by kernel_rfl
def E180 : Entry Tryz.prog := ⟨180, S.bytes_Equal_run, fun xs K w h => by
  obtain ⟨eb, h⟩ := ar2 h
  obtain ⟨p0, e0, h⟩ := asL_inv h
  obtain ⟨p1, e1, h⟩ := asL_inv h
  rw [e0, e1] at eb
  subst eb
  exact body_sound mixed Tryz.func180 ok180 Tryz.call180 rfl (by rw [x180]; exact h)⟩
def aux146 : Aux := { plan := fun r => bif Nat.beq r 1 then .take 0 (.take 2 (.eff 1 [2] (.eff 3 [] (.take 4 (.take 5 (.take 6 (.take 7 (.take 8 (.take 9 (.eff 10 [] (.take 11 (.take 12 (.done))))))))))))) else .done, spec := fun _ => ⟨[], 0⟩, iter := fun _ => none }
def tab146 : Tab Tryz.prog := ⟨[E179, E180], fnT⟩
theorem ok146 : okFn Tryz.prog aux146 Tryz.f146 2 = true := by kernel_rfl
theorem x146 (p0 : G_api_Rec) (p1 : G_api_Rec) (K : Value → HP) : bodyX Tryz.prog tab146 aux146 Tryz.f146 [p0.v, p1.v] K = S.record_Same p0 p1 (fun r0 => K (.bool r0)) := by kernel_rfl
def E146 : Entry Tryz.prog := ⟨146, S.record_Same_run, fun xs K w h => by
  obtain ⟨eb, h⟩ := ar2 h
  obtain ⟨p0, e0, h⟩ := as_G_api_Rec_inv h
  obtain ⟨p1, e1, h⟩ := as_G_api_Rec_inv h
  rw [e0, e1] at eb
  subst eb
  exact body_sound mixed Tryz.func146 ok146 Tryz.call146 rfl (by rw [x146]; exact h)⟩
def aux108 : Aux := { plan := fun r => bif Nat.beq r 6 then .take 0 (.take 1 (.take 2 (.take 3 (.take 4 (.take 5 (.take 6 (.take 7 (.take 8 (.take 9 (.eff 10 [] (.done))))))))))) else .done, spec := fun c => bif Nat.beq c 0 then ⟨[(13, .ii .i64)], 14362⟩ else ⟨[], 0⟩, iter := fun _ => none }
def tab108 : Tab Tryz.prog := ⟨[E107, E146], fnT⟩
theorem ok108 : okFn Tryz.prog aux108 Tryz.f108 1 = true := by kernel_rfl
theorem x108 (p0 : G_api_Rec) (K : Value → HP) : bodyX Tryz.prog tab108 aux108 Tryz.f108 [p0.v] K = S.record_bare p0 (fun r0 => K (.bool r0)) := by kernel_rfl
def E108 : Entry Tryz.prog := ⟨108, S.record_bare_run, fun xs K w h => by
  obtain ⟨eb, h⟩ := ar1 h
  obtain ⟨p0, e0, h⟩ := as_G_api_Rec_inv h
  rw [e0] at eb
  subst eb
  exact body_sound mixed Tryz.func108 ok108 Tryz.call108 rfl (by rw [x108]; exact h)⟩
def aux63 : Aux := { plan := fun r => bif Nat.beq r 7 then .take 0 (.take 1 (.take 2 (.take 3 (.take 4 (.take 5 (.take 6 (.take 7 (.take 8 (.take 9 (.take 10 (.take 11 (.take 12 (.take 13 (.take 14 (.take 15 (.done)))))))))))))))) else .done, spec := fun c => bif Nat.beq c 0 then ⟨[(11, .ii .i64)], 3586⟩ else ⟨[], 0⟩, iter := fun _ => none }
def tab63 : Tab Tryz.prog := ⟨[E107, E108], fnT⟩
theorem ok63 : okFn Tryz.prog aux63 Tryz.f63 1 = true := by kernel_rfl
theorem x63 (p0 : G_api_Rec) (K : Value → HP) : bodyX Tryz.prog tab63 aux63 Tryz.f63 [p0.v] K = S.record_Check p0 (fun r0 => K (.int .i64 r0)) := by kernel_rfl
def E63 : Entry Tryz.prog := ⟨63, S.record_Check_run, fun xs K w h => by
  obtain ⟨eb, h⟩ := ar1 h
  obtain ⟨p0, e0, h⟩ := as_G_api_Rec_inv h
  rw [e0] at eb
  subst eb
  exact body_sound mixed Tryz.func63 ok63 Tryz.call63 rfl (by rw [x63]; exact h)⟩
def aux126 : Aux := { plan := fun r => bif Nat.beq r 20 then .take 0 (.take 1 (.take 2 (.take 3 (.take 4 (.take 5 (.take 6 (.take 7 (.take 8 (.take 9 (.take 10 (.take 11 (.done)))))))))))) else bif Nat.beq r 22 then .take 0 (.take 1 (.take 2 (.take 3 (.take 4 (.take 5 (.take 6 (.take 7 (.take 8 (.take 9 (.take 10 (.take 11 (.eff 12 [] (.done))))))))))))) else .done, spec := fun c => bif Nat.beq c 0 then ⟨[(9, .ll), (25, .ii .i64)], 58721233⟩ else bif Nat.beq c 2 then ⟨[(12, .ii .i64), (56, .ii .i64)], 126100789566378576⟩ else ⟨[], 0⟩, iter := fun _ => none }
def tab126 : Tab Tryz.prog := ⟨[E63, E107, E163, E164, E165, E166, E167], fnT⟩
theorem ok126 : okFn Tryz.prog aux126 Tryz.f126 2 = true := by kernel_rfl
theorem x126 (p0 : Int) (p1 : Sl) (K : Value → HP) : bodyX Tryz.prog tab126 aux126 Tryz.f126 [.int .i64 p0, p1.v] K = S.record_Read p0 p1 (fun r0 r1 => K (.tuple #[r0.v, .int .i64 r1])) := by kernel_rfl
def E126 : Entry Tryz.prog := ⟨126, S.record_Read_run, fun xs K w h => by
  obtain ⟨eb, h⟩ := ar2 h
  obtain ⟨p0, e0, h⟩ := asI_inv h
  obtain ⟨p1, e1, h⟩ := asL_inv h
  rw [e0, e1] at eb
  subst eb
  exact body_sound mixed Tryz.func126 ok126 Tryz.call126 rfl (by rw [x126]; exact h)⟩
def aux82 : Aux := { plan := fun _ => .done, spec := fun c => bif Nat.beq c 0 then ⟨[(2, .ll), (3, .ii .i64), (19, .ii .i64)], 917516⟩ else ⟨[], 0⟩, iter := fun _ => none }
def tab82 : Tab Tryz.prog := ⟨[E125, E126], fnT⟩
theorem ok82 : okFn Tryz.prog aux82 Tryz.f82 1 = true := by kernel_rfl
theorem x82 (p0 : Sl) (K : Value → HP) : bodyX Tryz.prog tab82 aux82 Tryz.f82 [p0.v] K = S.record_Scan tab82.cx p0 (fun r0 r1 => K (.tuple #[.slice r0.a r0.len r0.cap, .int .i64 r1])) := by kernel_rfl
def E82 : Entry Tryz.prog := ⟨82, S.record_Scan_run tab82.cx, fun xs K w h => by
  obtain ⟨eb, h⟩ := ar1 h
  obtain ⟨p0, e0, h⟩ := asL_inv h
  rw [e0] at eb
  subst eb
  exact body_sound mixed Tryz.func82 ok82 Tryz.call82 rfl (by rw [x82]; exact h)⟩
def aux45 : Aux := auxD
def tab45 : Tab Tryz.prog := ⟨[E8, E79, E82], fnT⟩
theorem ok45 : okFn Tryz.prog aux45 Tryz.f45 3 = true := by kernel_rfl
theorem x45 (p0 : Option Addr) (p1 : Int) (p2 : Int) (K : Value → HP) : bodyX Tryz.prog tab45 aux45 Tryz.f45 [.pointer p0, .int .i64 p1, .int .i64 p2] K = S.dbox_read tab45.cx p0 p1 p2 (fun r0 r1 => K (.tuple #[r0.v, .int .i64 r1])) := by kernel_rfl
def E45 : Entry Tryz.prog := ⟨45, S.dbox_read_run tab45.cx, fun xs K w h => by
  obtain ⟨eb, h⟩ := ar3 h
  obtain ⟨p0, e0, h⟩ := asP_inv h
  obtain ⟨p1, e1, h⟩ := asI_inv h
  obtain ⟨p2, e2, h⟩ := asI_inv h
  rw [e0, e1, e2] at eb
  subst eb
  exact body_sound mixed Tryz.func45 ok45 Tryz.call45 rfl (by rw [x45]; exact h)⟩
def aux46 : Aux := { plan := fun _ => .done, spec := fun c => bif Nat.beq c 0 then ⟨[(3, .ii .i64), (10, .ii .i64)], 1800⟩ else bif Nat.beq c 2 then ⟨[(3, .ii .i64), (17, .ii .i64)], 231208⟩ else ⟨[], 0⟩, iter := fun _ => none }
def tab46 : Tab Tryz.prog := ⟨[], fnT⟩
theorem ok46 : okFn Tryz.prog aux46 Tryz.f46 1 = true := by kernel_rfl
theorem x46 (p0 : Sl) (K : Value → HP) : bodyX Tryz.prog tab46 aux46 Tryz.f46 [p0.v] K = S.dbox_base p0 (fun r0 => K (.int .i64 r0)) := by kernel_rfl
def E46 : Entry Tryz.prog := ⟨46, S.dbox_base_run, fun xs K w h => by
  obtain ⟨eb, h⟩ := ar1 h
  obtain ⟨p0, e0, h⟩ := asL_inv h
  rw [e0] at eb
  subst eb
  exact body_sound mixed Tryz.func46 ok46 Tryz.call46 rfl (by rw [x46]; exact h)⟩
def aux137 : Aux := auxD
def tab137 : Tab Tryz.prog := ⟨[E123], fnT⟩
theorem ok137 : okFn Tryz.prog aux137 Tryz.f137 2 = true := by kernel_rfl
theorem x137 (p0 : Option Addr) (p1 : ByteArray) (K : Value → HP) : bodyX Tryz.prog tab137 aux137 Tryz.f137 [.pointer p0, .string p1] K = S.vdisk_Disk_Size p0 p1 (fun r0 r1 => K (.tuple #[.int .i64 r0, .int .i64 r1])) := by kernel_rfl
def E137 : Entry Tryz.prog := ⟨137, S.vdisk_Disk_Size_run, fun xs K w h => by
  obtain ⟨eb, h⟩ := ar2 h
  obtain ⟨p0, e0, h⟩ := asP_inv h
  obtain ⟨p1, e1, h⟩ := asS_inv h
  rw [e0, e1] at eb
  subst eb
  exact body_sound mixed Tryz.func137 ok137 Tryz.call137 rfl (by rw [x137]; exact h)⟩
def aux93 : Aux := auxD
def tab93 : Tab Tryz.prog := ⟨[E137], fnT⟩
theorem ok93 : okFn Tryz.prog aux93 Tryz.f93 2 = true := by kernel_rfl
theorem x93 (p0 : Option Addr) (p1 : ByteArray) (K : Value → HP) : bodyX Tryz.prog tab93 aux93 Tryz.f93 [.pointer p0, .string p1] K = S.safe_Has p0 p1 (fun r0 => K (.bool r0)) := by kernel_rfl
def E93 : Entry Tryz.prog := ⟨93, S.safe_Has_run, fun xs K w h => by
  obtain ⟨eb, h⟩ := ar2 h
  obtain ⟨p0, e0, h⟩ := asP_inv h
  obtain ⟨p1, e1, h⟩ := asS_inv h
  rw [e0, e1] at eb
  subst eb
  exact body_sound mixed Tryz.func93 ok93 Tryz.call93 rfl (by rw [x93]; exact h)⟩
def aux95 : Aux := auxD
def tab95 : Tab Tryz.prog := ⟨[E88], fnT⟩
theorem ok95 : okFn Tryz.prog aux95 Tryz.f95 2 = true := by kernel_rfl
theorem x95 (p0 : Addr) (p1 : Addr) (K : Value → HP) : bodyX Tryz.prog tab95 aux95 Tryz.f95 [.pointer (some p0), .pointer (some p1)] K = S.safe_Drop_1 p0 p1 (fun r0 => K (.int .i64 r0)) := by kernel_rfl
def E95 : Entry Tryz.prog := ⟨95, S.safe_Drop_1_run, fun xs K w h => by
  obtain ⟨eb, h⟩ := ar2 h
  obtain ⟨p0, e0, h⟩ := asA_inv h
  obtain ⟨p1, e1, h⟩ := asA_inv h
  rw [e0, e1] at eb
  subst eb
  exact body_sound mixed Tryz.func95 ok95 Tryz.call95 rfl (by rw [x95]; exact h)⟩
def aux68 : Aux := { plan := fun _ => .done, spec := fun c => bif Nat.beq c 0 then ⟨[(20, .ii .i64)], 1835008⟩ else ⟨[], 0⟩, iter := fun _ => none }
def tab68 : Tab Tryz.prog := ⟨[E37], fnT⟩
theorem ok68 : okFn Tryz.prog aux68 Tryz.f68 1 = true := by kernel_rfl
theorem x68 (p0 : Option Addr) (K : Value → HP) : bodyX Tryz.prog tab68 aux68 Tryz.f68 [.pointer p0] K = S.vdisk_Disk_fix p0 (K (.tuple #[])) := by kernel_rfl
def E68 : Entry Tryz.prog := ⟨68, S.vdisk_Disk_fix_run, fun xs K w h => by
  obtain ⟨eb, h⟩ := ar1 h
  obtain ⟨p0, e0, h⟩ := asP_inv h
  rw [e0] at eb
  subst eb
  exact body_sound mixed Tryz.func68 ok68 Tryz.call68 rfl (by rw [x68]; exact h)⟩
def aux20 : Aux := auxD
def tab20 : Tab Tryz.prog := ⟨[E67, E68], fnT⟩
theorem ok20 : okFn Tryz.prog aux20 Tryz.f20 1 = true := by kernel_rfl
theorem x20 (p0 : Option Addr) (K : Value → HP) : bodyX Tryz.prog tab20 aux20 Tryz.f20 [.pointer p0] K = S.vdisk_Disk_SyncDir p0 (fun r0 => K (.int .i64 r0)) := by kernel_rfl
def E20 : Entry Tryz.prog := ⟨20, S.vdisk_Disk_SyncDir_run, fun xs K w h => by
  obtain ⟨eb, h⟩ := ar1 h
  obtain ⟨p0, e0, h⟩ := asP_inv h
  rw [e0] at eb
  subst eb
  exact body_sound mixed Tryz.func20 ok20 Tryz.call20 rfl (by rw [x20]; exact h)⟩
def aux97 : Aux := auxD
def tab97 : Tab Tryz.prog := ⟨[], fnT⟩
theorem ok97 : okFn Tryz.prog aux97 Tryz.f97 1 = true := by kernel_rfl
theorem x97 (p0 : FV) (K : Value → HP) : bodyX Tryz.prog tab97 aux97 Tryz.f97 [p0.v] K = S.safe_again tab97.cx p0 (fun r0 => K (.int .i64 r0)) := by kernel_rfl
def E97 : Entry Tryz.prog := ⟨97, S.safe_again_run tab97.cx, fun xs K w h => by
  obtain ⟨eb, h⟩ := ar1 h
  obtain ⟨p0, e0, h⟩ := asF_inv h
  rw [e0] at eb
  subst eb
  exact body_sound mixed Tryz.func97 ok97 Tryz.call97 rfl (by rw [x97]; exact h)⟩
def aux96 : Aux := auxD
def tab96 : Tab Tryz.prog := ⟨[E20, E97], fnT⟩
theorem ok96 : okFn Tryz.prog aux96 Tryz.f96 1 = true := by kernel_rfl
theorem x96 (p0 : Addr) (K : Value → HP) : bodyX Tryz.prog tab96 aux96 Tryz.f96 [.pointer (some p0)] K = S.safe_Drop_2 tab96.cx p0 (fun r0 => K (.int .i64 r0)) := by kernel_rfl
def E96 : Entry Tryz.prog := ⟨96, S.safe_Drop_2_run tab96.cx, fun xs K w h => by
  obtain ⟨eb, h⟩ := ar1 h
  obtain ⟨p0, e0, h⟩ := asA_inv h
  rw [e0] at eb
  subst eb
  exact body_sound mixed Tryz.func96 ok96 Tryz.call96 rfl (by rw [x96]; exact h)⟩
def aux94 : Aux := { plan := fun _ => .done, spec := fun c => bif Nat.beq c 0 then ⟨[(8, .ii .i64)], 448⟩ else ⟨[], 0⟩, iter := fun _ => none }
def tab94 : Tab Tryz.prog := ⟨[], fnT⟩
theorem ok94 : okFn Tryz.prog aux94 Tryz.f94 1 = true := by kernel_rfl
theorem x94 (p0 : Sl) (K : Value → HP) : bodyX Tryz.prog tab94 aux94 Tryz.f94 [p0.v] K = S.safe_steps tab94.cx p0 (fun r0 => K (.int .i64 r0)) := by kernel_rfl
def E94 : Entry Tryz.prog := ⟨94, S.safe_steps_run tab94.cx, fun xs K w h => by
  obtain ⟨eb, h⟩ := ar1 h
  obtain ⟨p0, e0, h⟩ := asL_inv h
  rw [e0] at eb
  subst eb
  exact body_sound mixed Tryz.func94 ok94 Tryz.call94 rfl (by rw [x94]; exact h)⟩
def aux47 : Aux := auxD
def tab47 : Tab Tryz.prog := ⟨[E19, E93, E94, E95, E96], fnT⟩
theorem ok47 : okFn Tryz.prog aux47 Tryz.f47 2 = true := by kernel_rfl
theorem x47 (p0 : Option Addr) (p1 : ByteArray) (K : Value → HP) : bodyX Tryz.prog tab47 aux47 Tryz.f47 [.pointer p0, .string p1] K = S.safe_Drop tab47.cx p0 p1 (fun r0 => K (.int .i64 r0)) := by kernel_rfl
def E47 : Entry Tryz.prog := ⟨47, S.safe_Drop_run tab47.cx, fun xs K w h => by
  obtain ⟨eb, h⟩ := ar2 h
  obtain ⟨p0, e0, h⟩ := asP_inv h
  obtain ⟨p1, e1, h⟩ := asS_inv h
  rw [e0, e1] at eb
  subst eb
  exact body_sound mixed Tryz.func47 ok47 Tryz.call47 rfl (by rw [x47]; exact h)⟩
def aux48 : Aux := auxD
def tab48 : Tab Tryz.prog := ⟨[], fnT⟩
theorem ok48 : okFn Tryz.prog aux48 Tryz.f48 1 = true := by kernel_rfl
theorem x48 (p0 : G_api_Rec) (K : Value → HP) : bodyX Tryz.prog tab48 aux48 Tryz.f48 [p0.v] K = S.dbox_after p0 (fun r0 => K (.int .i64 r0)) := by kernel_rfl
def E48 : Entry Tryz.prog := ⟨48, S.dbox_after_run, fun xs K w h => by
  obtain ⟨eb, h⟩ := ar1 h
  obtain ⟨p0, e0, h⟩ := as_G_api_Rec_inv h
  rw [e0] at eb
  subst eb
  exact body_sound mixed Tryz.func48 ok48 Tryz.call48 rfl (by rw [x48]; exact h)⟩
def aux12 : Aux := { plan := fun r => bif Nat.beq r 20 then .take 0 (.take 1 (.take 2 (.take 3 (.take 4 (.take 5 (.eff 6 [4] (.eff 7 [] (.take 8 (.take 9 (.eff 10 [] (.done))))))))))) else bif Nat.beq r 34 then .take 0 (.take 1 (.take 2 (.take 3 (.take 4 (.take 5 (.take 6 (.eff 7 [4] (.take 8 (.take 9 (.take 10 (.eff 11 [] (.done)))))))))))) else .done, spec := fun c => bif Nat.beq c 1 then ⟨[(45, .ii .i64)], 61572651155971⟩ else bif Nat.beq c 3 then ⟨[], 33283⟩ else bif Nat.beq c 5 then ⟨[(129, .ii .i64)], 1190988284223284622121811126011188740608⟩ else bif Nat.beq c 7 then ⟨[(136, .ii .i64)], 153637488664803716253713635255443347472896⟩ else ⟨[], 0⟩, iter := fun _ => none }
def tab12 : Tab Tryz.prog := ⟨[E8, E19, E30, E32, E41, E42, E43, E44, E45, E46, E47, E48], fnT⟩
theorem ok12 : okFn Tryz.prog aux12 Tryz.f12 3 = true := by kernel_rfl
theorem x12 (p0 : Option Addr) (p1 : Int) (p2 : Int) (K : Value → HP) : bodyX Tryz.prog tab12 aux12 Tryz.f12 [.pointer p0, .int .i64 p1, .int .i64 p2] K = S.dbox_Open tab12.cx p0 p1 p2 (fun r0 r1 => K (.tuple #[.pointer r0, .int .i64 r1])) := by kernel_rfl
def E12 : Entry Tryz.prog := ⟨12, S.dbox_Open_run tab12.cx, fun xs K w h => by
  obtain ⟨eb, h⟩ := ar3 h
  obtain ⟨p0, e0, h⟩ := asP_inv h
  obtain ⟨p1, e1, h⟩ := asI_inv h
  obtain ⟨p2, e2, h⟩ := asI_inv h
  rw [e0, e1, e2] at eb
  subst eb
  exact body_sound mixed Tryz.func12 ok12 Tryz.call12 rfl (by rw [x12]; exact h)⟩
def aux62 : Aux := auxD
def tab62 : Tab Tryz.prog := ⟨[], fnT⟩
theorem ok62 : okFn Tryz.prog aux62 Tryz.f62 1 = true := by kernel_rfl
theorem x62 (p0 : G_api_Rec) (K : Value → HP) : bodyX Tryz.prog tab62 aux62 Tryz.f62 [p0.v] K = S.dbox_kept p0 (fun r0 => K (.bool r0)) := by kernel_rfl
def E62 : Entry Tryz.prog := ⟨62, S.dbox_kept_run, fun xs K w h => by
  obtain ⟨eb, h⟩ := ar1 h
  obtain ⟨p0, e0, h⟩ := as_G_api_Rec_inv h
  rw [e0] at eb
  subst eb
  exact body_sound mixed Tryz.func62 ok62 Tryz.call62 rfl (by rw [x62]; exact h)⟩
def aux66 : Aux := { plan := fun r => bif Nat.beq r 3 then .take 0 (.take 1 (.take 2 (.take 3 (.take 4 (.take 5 (.take 6 (.take 7 (.take 8 (.take 9 (.take 10 (.take 11 (.done)))))))))))) else .done, spec := fun _ => ⟨[], 0⟩, iter := fun _ => none }
def tab66 : Tab Tryz.prog := ⟨[], fnT⟩
theorem ok66 : okFn Tryz.prog aux66 Tryz.f66 1 = true := by kernel_rfl
theorem x66 (p0 : Option Addr) (K : Value → HP) : bodyX Tryz.prog tab66 aux66 Tryz.f66 [.pointer p0] K = S.dbox_Box_last p0 (fun r0 => K (.pointer r0)) := by kernel_rfl
def E66 : Entry Tryz.prog := ⟨66, S.dbox_Box_last_run, fun xs K w h => by
  obtain ⟨eb, h⟩ := ar1 h
  obtain ⟨p0, e0, h⟩ := asP_inv h
  rw [e0] at eb
  subst eb
  exact body_sound mixed Tryz.func66 ok66 Tryz.call66 rfl (by rw [x66]; exact h)⟩
def aux29 : Aux := auxD
def tab29 : Tab Tryz.prog := ⟨[E66], fnT⟩
theorem ok29 : okFn Tryz.prog aux29 Tryz.f29 1 = true := by kernel_rfl
theorem x29 (p0 : Option Addr) (K : Value → HP) : bodyX Tryz.prog tab29 aux29 Tryz.f29 [.pointer p0] K = S.dbox_Box_Last p0 (fun r0 => K (.int .i64 r0)) := by kernel_rfl
def E29 : Entry Tryz.prog := ⟨29, S.dbox_Box_Last_run, fun xs K w h => by
  obtain ⟨eb, h⟩ := ar1 h
  obtain ⟨p0, e0, h⟩ := asP_inv h
  rw [e0] at eb
  subst eb
  exact body_sound mixed Tryz.func29 ok29 Tryz.call29 rfl (by rw [x29]; exact h)⟩
def aux109 : Aux := { plan := fun r => bif Nat.beq r 2 then .take 0 (.take 1 (.take 2 (.take 3 (.take 4 (.take 5 (.take 6 (.take 7 (.take 8 (.take 9 (.take 10 (.take 11 (.take 12 (.take 13 (.take 14 (.take 15 (.take 16 (.take 17 (.take 18 (.take 19 (.take 20 (.take 21 (.take 22 (.take 23 (.take 24 (.take 25 (.take 26 (.take 27 (.take 28 (.done))))))))))))))))))))))))))))) else .done, spec := fun _ => ⟨[], 0⟩, iter := fun _ => none }
def tab109 : Tab Tryz.prog := ⟨[], fnT⟩
theorem ok109 : okFn Tryz.prog aux109 Tryz.f109 1 = true := by kernel_rfl
theorem x109 (p0 : Option Addr) (K : Value → HP) : bodyX Tryz.prog tab109 aux109 Tryz.f109 [.pointer p0] K = S.dbox_container_clean p0 (fun r0 => K (.bool r0)) := by kernel_rfl
def E109 : Entry Tryz.prog := ⟨109, S.dbox_container_clean_run, fun xs K w h => by
  obtain ⟨eb, h⟩ := ar1 h
  obtain ⟨p0, e0, h⟩ := asP_inv h
  rw [e0] at eb
  subst eb
  exact body_sound mixed Tryz.func109 ok109 Tryz.call109 rfl (by rw [x109]; exact h)⟩
def aux153 : Aux := auxD
def tab153 : Tab Tryz.prog := ⟨[], fnT⟩
theorem ok153 : okFn Tryz.prog aux153 Tryz.f153 0 = true := by kernel_rfl
theorem x153 (K : Value → HP) : bodyX Tryz.prog tab153 aux153 Tryz.f153 [] K = S.octet_NewSink (fun r0 => K (.pointer r0)) := by kernel_rfl
def E153 : Entry Tryz.prog := ⟨153, S.octet_NewSink_run, fun xs K w h => by
  obtain ⟨hl, h⟩ := arity_inv h
  obtain rfl := List.eq_nil_of_length_eq_zero hl
  exact body_sound mixed Tryz.func153 ok153 Tryz.call153 rfl (by rw [x153]; exact h)⟩
def aux206 : Aux := auxD
def tab206 : Tab Tryz.prog := ⟨[], fnT⟩
theorem ok206 : okFn Tryz.prog aux206 Tryz.f206 2 = true := by kernel_rfl
theorem x206 (p0 : Int) (p1 : Int) (K : Value → HP) : bodyX Tryz.prog tab206 aux206 Tryz.f206 [.int .u64 p0, .int .i64 p1] K = S.octet_room p0 p1 (fun r0 => K (.bool r0)) := by kernel_rfl
def E206 : Entry Tryz.prog := ⟨206, S.octet_room_run, fun xs K w h => by
  obtain ⟨eb, h⟩ := ar2 h
  obtain ⟨p0, e0, h⟩ := asI_inv h
  obtain ⟨p1, e1, h⟩ := asI_inv h
  rw [e0, e1] at eb
  subst eb
  exact body_sound mixed Tryz.func206 ok206 Tryz.call206 rfl (by rw [x206]; exact h)⟩
def aux184 : Aux := { plan := fun _ => .done, spec := fun c => bif Nat.beq c 0 then ⟨[(21, .ii .i64)], 3145795⟩ else ⟨[], 0⟩, iter := fun _ => none }
def tab184 : Tab Tryz.prog := ⟨[E191, E206], fnT⟩
theorem ok184 : okFn Tryz.prog aux184 Tryz.f184 2 = true := by kernel_rfl
theorem x184 (p0 : Int) (p1 : Int) (K : Value → HP) : bodyX Tryz.prog tab184 aux184 Tryz.f184 [.int .u64 p0, .int .i64 p1] K = S.octet_Put p0 p1 (fun r0 r1 => K (.tuple #[.slice r0.a r0.len r0.cap, .bool r1])) := by kernel_rfl
def E184 : Entry Tryz.prog := ⟨184, S.octet_Put_run, fun xs K w h => by
  obtain ⟨eb, h⟩ := ar2 h
  obtain ⟨p0, e0, h⟩ := asI_inv h
  obtain ⟨p1, e1, h⟩ := asI_inv h
  rw [e0, e1] at eb
  subst eb
  exact body_sound mixed Tryz.func184 ok184 Tryz.call184 rfl (by rw [x184]; exact h)⟩
def aux154 : Aux := auxD
def tab154 : Tab Tryz.prog := ⟨[E184], fnT⟩
theorem ok154 : okFn Tryz.prog aux154 Tryz.f154 3 = true := by kernel_rfl
theorem x154 (p0 : Option Addr) (p1 : Int) (p2 : Int) (K : Value → HP) : bodyX Tryz.prog tab154 aux154 Tryz.f154 [.pointer p0, .int .u64 p1, .int .i64 p2] K = S.octet_Sink_U p0 p1 p2 (fun r0 => K (.bool r0)) := by kernel_rfl
def E154 : Entry Tryz.prog := ⟨154, S.octet_Sink_U_run, fun xs K w h => by
  obtain ⟨eb, h⟩ := ar3 h
  obtain ⟨p0, e0, h⟩ := asP_inv h
  obtain ⟨p1, e1, h⟩ := asI_inv h
  obtain ⟨p2, e2, h⟩ := asI_inv h
  rw [e0, e1, e2] at eb
  subst eb
  exact body_sound mixed Tryz.func154 ok154 Tryz.call154 rfl (by rw [x154]; exact h)⟩
def aux155 : Aux := auxD
def tab155 : Tab Tryz.prog := ⟨[], fnT⟩
theorem ok155 : okFn Tryz.prog aux155 Tryz.f155 2 = true := by kernel_rfl
theorem x155 (p0 : Option Addr) (p1 : Sl) (K : Value → HP) : bodyX Tryz.prog tab155 aux155 Tryz.f155 [.pointer p0, p1.v] K = S.octet_Sink_Raw p0 p1 (K (.tuple #[])) := by kernel_rfl
def E155 : Entry Tryz.prog := ⟨155, S.octet_Sink_Raw_run, fun xs K w h => by
  obtain ⟨eb, h⟩ := ar2 h
  obtain ⟨p0, e0, h⟩ := asP_inv h
  obtain ⟨p1, e1, h⟩ := asL_inv h
  rw [e0, e1] at eb
  subst eb
  exact body_sound mixed Tryz.func155 ok155 Tryz.call155 rfl (by rw [x155]; exact h)⟩
def aux156 : Aux := auxD
def tab156 : Tab Tryz.prog := ⟨[E185], fnT⟩
theorem ok156 : okFn Tryz.prog aux156 Tryz.f156 1 = true := by kernel_rfl
theorem x156 (p0 : Option Addr) (K : Value → HP) : bodyX Tryz.prog tab156 aux156 Tryz.f156 [.pointer p0] K = S.octet_Sink_Bytes p0 (fun r0 => K (.slice r0.a r0.len r0.cap)) := by kernel_rfl
def E156 : Entry Tryz.prog := ⟨156, S.octet_Sink_Bytes_run, fun xs K w h => by
  obtain ⟨eb, h⟩ := ar1 h
  obtain ⟨p0, e0, h⟩ := asP_inv h
  rw [e0] at eb
  subst eb
  exact body_sound mixed Tryz.func156 ok156 Tryz.call156 rfl (by rw [x156]; exact h)⟩
def aux114 : Aux := { plan := fun r => bif Nat.beq r 8 then .take 0 (.take 1 (.take 2 (.take 3 (.take 4 (.take 5 (.take 6 (.take 7 (.eff 8 [] (.done))))))))) else .done, spec := fun c => bif Nat.beq c 0 then ⟨[(16, .ii .i64)], 114722⟩ else ⟨[], 0⟩, iter := fun _ => none }
def tab114 : Tab Tryz.prog := ⟨[E63, E107, E153, E154, E155, E156], fnT⟩
theorem ok114 : okFn Tryz.prog aux114 Tryz.f114 1 = true := by kernel_rfl
theorem x114 (p0 : G_api_Rec) (K : Value → HP) : bodyX Tryz.prog tab114 aux114 Tryz.f114 [p0.v] K = S.record_Payload p0 (fun r0 r1 => K (.tuple #[.slice r0.a r0.len r0.cap, .int .i64 r1])) := by kernel_rfl
def E114 : Entry Tryz.prog := ⟨114, S.record_Payload_run, fun xs K w h => by
  obtain ⟨eb, h⟩ := ar1 h
  obtain ⟨p0, e0, h⟩ := as_G_api_Rec_inv h
  rw [e0] at eb
  subst eb
  exact body_sound mixed Tryz.func114 ok114 Tryz.call114 rfl (by rw [x114]; exact h)⟩
def aux158 : Aux := { plan := fun _ => .done, spec := fun c => bif Nat.beq c 0 then ⟨[(3, .ll), (8, .ii .i64)], 456⟩ else ⟨[], 0⟩, iter := fun _ => none }
def tab158 : Tab Tryz.prog := ⟨[], fnT⟩
theorem ok158 : okFn Tryz.prog aux158 Tryz.f158 1 = true := by kernel_rfl
theorem x158 (p0 : Sl) (K : Value → HP) : bodyX Tryz.prog tab158 aux158 Tryz.f158 [p0.v] K = S.frame_Veil p0 (fun r0 => K (.slice r0.a r0.len r0.cap)) := by kernel_rfl
def E158 : Entry Tryz.prog := ⟨158, S.frame_Veil_run, fun xs K w h => by
  obtain ⟨eb, h⟩ := ar1 h
  obtain ⟨p0, e0, h⟩ := asL_inv h
  rw [e0] at eb
  subst eb
  exact body_sound mixed Tryz.func158 ok158 Tryz.call158 rfl (by rw [x158]; exact h)⟩
def aux115 : Aux := auxD
def tab115 : Tab Tryz.prog := ⟨[E153, E154, E155, E156, E157, E158], fnT⟩
theorem ok115 : okFn Tryz.prog aux115 Tryz.f115 2 = true := by kernel_rfl
theorem x115 (p0 : Int) (p1 : Sl) (K : Value → HP) : bodyX Tryz.prog tab115 aux115 Tryz.f115 [.int .i64 p0, p1.v] K = S.frame_Wrap p0 p1 (fun r0 r1 => K (.tuple #[.slice r0.a r0.len r0.cap, .int .i64 r1])) := by kernel_rfl
def E115 : Entry Tryz.prog := ⟨115, S.frame_Wrap_run, fun xs K w h => by
  obtain ⟨eb, h⟩ := ar2 h
  obtain ⟨p0, e0, h⟩ := asI_inv h
  obtain ⟨p1, e1, h⟩ := asL_inv h
  rw [e0, e1] at eb
  subst eb
  exact body_sound mixed Tryz.func115 ok115 Tryz.call115 rfl (by rw [x115]; exact h)⟩
def aux77 : Aux := auxD
def tab77 : Tab Tryz.prog := ⟨[E114, E115], fnT⟩
theorem ok77 : okFn Tryz.prog aux77 Tryz.f77 1 = true := by kernel_rfl
theorem x77 (p0 : G_api_Rec) (K : Value → HP) : bodyX Tryz.prog tab77 aux77 Tryz.f77 [p0.v] K = S.record_Frame p0 (fun r0 r1 => K (.tuple #[.slice r0.a r0.len r0.cap, .int .i64 r1])) := by kernel_rfl
def E77 : Entry Tryz.prog := ⟨77, S.record_Frame_run, fun xs K w h => by
  obtain ⟨eb, h⟩ := ar1 h
  obtain ⟨p0, e0, h⟩ := as_G_api_Rec_inv h
  rw [e0] at eb
  subst eb
  exact body_sound mixed Tryz.func77 ok77 Tryz.call77 rfl (by rw [x77]; exact h)⟩
def aux71 : Aux := { plan := fun r => bif Nat.beq r 3 then .take 0 (.take 1 (.take 2 (.take 3 (.take 4 (.take 5 (.eff 6 [] (.done))))))) else .done, spec := fun _ => ⟨[], 0⟩, iter := fun _ => none }
def tab71 : Tab Tryz.prog := ⟨[], fnT⟩
theorem ok71 : okFn Tryz.prog aux71 Tryz.f71 2 = true := by kernel_rfl
theorem x71 (p0 : G_vdisk_patch) (p1 : ByteArray) (K : Value → HP) : bodyX Tryz.prog tab71 aux71 Tryz.f71 [p0.v, .string p1] K = S.vdisk_patch_over p0 p1 (fun r0 => K (.string r0)) := by kernel_rfl
def E71 : Entry Tryz.prog := ⟨71, S.vdisk_patch_over_run, fun xs K w h => by
  obtain ⟨eb, h⟩ := ar2 h
  obtain ⟨p0, e0, h⟩ := as_G_vdisk_patch_inv h
  obtain ⟨p1, e1, h⟩ := asS_inv h
  rw [e0, e1] at eb
  subst eb
  exact body_sound mixed Tryz.func71 ok71 Tryz.call71 rfl (by rw [x71]; exact h)⟩
def aux181 : Aux := { plan := fun r => bif Nat.beq r 2 then .take 0 (.take 1 (.take 2 (.take 3 (.take 4 (.eff 5 [] (.take 6 (.done))))))) else bif Nat.beq r 3 then .take 0 (.take 1 (.take 2 (.take 3 (.take 4 (.take 5 (.take 6 (.take 7 (.take 8 (.eff 9 [5] (.take 10 (.done))))))))))) else bif Nat.beq r 6 then .take 0 (.take 1 (.take 2 (.take 3 (.take 4 (.take 5 (.eff 6 [4] (.eff 7 [] (.take 8 (.take 9 (.eff 10 [] (.done))))))))))) else .done, spec := fun _ => ⟨[], 0⟩, iter := fun _ => none }
def tab181 : Tab Tryz.prog := ⟨[E36, E71], fnT⟩
theorem ok181 : okFn Tryz.prog aux181 Tryz.f181 3 = true := by kernel_rfl
theorem x181 (p0 : Option Addr) (p1 : Int) (p2 : G_vdisk_patch) (K : Value → HP) : bodyX Tryz.prog tab181 aux181 Tryz.f181 [.pointer p0, .int .i64 p1, p2.v] K = S.vdisk_Disk_write p0 p1 p2 (fun r0 => K (.int .i64 r0)) := by kernel_rfl
def E181 : Entry Tryz.prog := ⟨181, S.vdisk_Disk_write_run, fun xs K w h => by
  obtain ⟨eb, h⟩ := ar3 h
  obtain ⟨p0, e0, h⟩ := asP_inv h
  obtain ⟨p1, e1, h⟩ := asI_inv h
  obtain ⟨p2, e2, h⟩ := as_G_vdisk_patch_inv h
  rw [e0, e1, e2] at eb
  subst eb
  exact body_sound mixed Tryz.func181 ok181 Tryz.call181 rfl (by rw [x181]; exact h)⟩
def aux150 : Aux := { plan := fun r => bif Nat.beq r 4 then .take 0 (.take 1 (.take 2 (.take 3 (.take 4 (.take 5 (.take 6 (.take 7 (.take 8 (.take 9 (.take 10 (.take 11 (.take 12 (.take 13 (.take 14 (.take 15 (.eff 16 [] (.take 17 (.done)))))))))))))))))) else .done, spec := fun _ => ⟨[], 0⟩, iter := fun _ => none }
def tab150 : Tab Tryz.prog := ⟨[E131, E181], fnT⟩
theorem ok150 : okFn Tryz.prog aux150 Tryz.f150 3 = true := by kernel_rfl
theorem x150 (p0 : Option Addr) (p1 : ByteArray) (p2 : Sl) (K : Value → HP) : bodyX Tryz.prog tab150 aux150 Tryz.f150 [.pointer p0, .string p1, p2.v] K = S.vdisk_Disk_Append p0 p1 p2 (fun r0 => K (.int .i64 r0)) := by kernel_rfl
def E150 : Entry Tryz.prog := ⟨150, S.vdisk_Disk_Append_run, fun xs K w h => by
  obtain ⟨eb, h⟩ := ar3 h
  obtain ⟨p0, e0, h⟩ := asP_inv h
  obtain ⟨p1, e1, h⟩ := asS_inv h
  obtain ⟨p2, e2, h⟩ := asL_inv h
  rw [e0, e1, e2] at eb
  subst eb
  exact body_sound mixed Tryz.func150 ok150 Tryz.call150 rfl (by rw [x150]; exact h)⟩
def aux149 : Aux := auxD
def tab149 : Tab Tryz.prog := ⟨[E150], fnT⟩
theorem ok149 : okFn Tryz.prog aux149 Tryz.f149 3 = true := by kernel_rfl
theorem x149 (p0 : Addr) (p1 : Addr) (p2 : Addr) (K : Value → HP) : bodyX Tryz.prog tab149 aux149 Tryz.f149 [.pointer (some p0), .pointer (some p1), .pointer (some p2)] K = S.safe_Append_1 p0 p1 p2 (fun r0 => K (.int .i64 r0)) := by kernel_rfl
def E149 : Entry Tryz.prog := ⟨149, S.safe_Append_1_run, fun xs K w h => by
  obtain ⟨eb, h⟩ := ar3 h
  obtain ⟨p0, e0, h⟩ := asA_inv h
  obtain ⟨p1, e1, h⟩ := asA_inv h
  obtain ⟨p2, e2, h⟩ := asA_inv h
  rw [e0, e1, e2] at eb
  subst eb
  exact body_sound mixed Tryz.func149 ok149 Tryz.call149 rfl (by rw [x149]; exact h)⟩
def aux72 : Aux := auxD
def tab72 : Tab Tryz.prog := ⟨[], fnT⟩
theorem ok72 : okFn Tryz.prog aux72 Tryz.f72 1 = true := by kernel_rfl
theorem x72 (p0 : Option Addr) (K : Value → HP) : bodyX Tryz.prog tab72 aux72 Tryz.f72 [.pointer p0] K = S.vdisk_node_settle p0 (K (.tuple #[])) := by kernel_rfl
def E72 : Entry Tryz.prog := ⟨72, S.vdisk_node_settle_run, fun xs K w h => by
  obtain ⟨eb, h⟩ := ar1 h
  obtain ⟨p0, e0, h⟩ := asP_inv h
  rw [e0] at eb
  subst eb
  exact body_sound mixed Tryz.func72 ok72 Tryz.call72 rfl (by rw [x72]; exact h)⟩
def aux183 : Aux := auxD
def tab183 : Tab Tryz.prog := ⟨[E72, E131], fnT⟩
theorem ok183 : okFn Tryz.prog aux183 Tryz.f183 2 = true := by kernel_rfl
theorem x183 (p0 : Option Addr) (p1 : ByteArray) (K : Value → HP) : bodyX Tryz.prog tab183 aux183 Tryz.f183 [.pointer p0, .string p1] K = S.vdisk_Disk_Sync p0 p1 (fun r0 => K (.int .i64 r0)) := by kernel_rfl
def E183 : Entry Tryz.prog := ⟨183, S.vdisk_Disk_Sync_run, fun xs K w h => by
  obtain ⟨eb, h⟩ := ar2 h
  obtain ⟨p0, e0, h⟩ := asP_inv h
  obtain ⟨p1, e1, h⟩ := asS_inv h
  rw [e0, e1] at eb
  subst eb
  exact body_sound mixed Tryz.func183 ok183 Tryz.call183 rfl (by rw [x183]; exact h)⟩
def aux182 : Aux := auxD
def tab182 : Tab Tryz.prog := ⟨[E183], fnT⟩
theorem ok182 : okFn Tryz.prog aux182 Tryz.f182 2 = true := by kernel_rfl
theorem x182 (p0 : Addr) (p1 : Addr) (K : Value → HP) : bodyX Tryz.prog tab182 aux182 Tryz.f182 [.pointer (some p0), .pointer (some p1)] K = S.safe_sync_1 p0 p1 (fun r0 => K (.int .i64 r0)) := by kernel_rfl
def E182 : Entry Tryz.prog := ⟨182, S.safe_sync_1_run, fun xs K w h => by
  obtain ⟨eb, h⟩ := ar2 h
  obtain ⟨p0, e0, h⟩ := asA_inv h
  obtain ⟨p1, e1, h⟩ := asA_inv h
  rw [e0, e1] at eb
  subst eb
  exact body_sound mixed Tryz.func182 ok182 Tryz.call182 rfl (by rw [x182]; exact h)⟩
def aux152 : Aux := auxD
def tab152 : Tab Tryz.prog := ⟨[E97, E182], fnT⟩
theorem ok152 : okFn Tryz.prog aux152 Tryz.f152 2 = true := by kernel_rfl
theorem x152 (p0 : Option Addr) (p1 : ByteArray) (K : Value → HP) : bodyX Tryz.prog tab152 aux152 Tryz.f152 [.pointer p0, .string p1] K = S.safe_sync tab152.cx p0 p1 (fun r0 => K (.int .i64 r0)) := by kernel_rfl
def E152 : Entry Tryz.prog := ⟨152, S.safe_sync_run tab152.cx, fun xs K w h => by
  obtain ⟨eb, h⟩ := ar2 h
  obtain ⟨p0, e0, h⟩ := asP_inv h
  obtain ⟨p1, e1, h⟩ := asS_inv h
  rw [e0, e1] at eb
  subst eb
  exact body_sound mixed Tryz.func152 ok152 Tryz.call152 rfl (by rw [x152]; exact h)⟩
def aux151 : Aux := auxD
def tab151 : Tab Tryz.prog := ⟨[E152], fnT⟩
theorem ok151 : okFn Tryz.prog aux151 Tryz.f151 2 = true := by kernel_rfl
theorem x151 (p0 : Addr) (p1 : Addr) (K : Value → HP) : bodyX Tryz.prog tab151 aux151 Tryz.f151 [.pointer (some p0), .pointer (some p1)] K = S.safe_Append_2 tab151.cx p0 p1 (fun r0 => K (.int .i64 r0)) := by kernel_rfl
def E151 : Entry Tryz.prog := ⟨151, S.safe_Append_2_run tab151.cx, fun xs K w h => by
  obtain ⟨eb, h⟩ := ar2 h
  obtain ⟨p0, e0, h⟩ := asA_inv h
  obtain ⟨p1, e1, h⟩ := asA_inv h
  rw [e0, e1] at eb
  subst eb
  exact body_sound mixed Tryz.func151 ok151 Tryz.call151 rfl (by rw [x151]; exact h)⟩
def aux111 : Aux := auxD
def tab111 : Tab Tryz.prog := ⟨[E94, E149, E151], fnT⟩
theorem ok111 : okFn Tryz.prog aux111 Tryz.f111 3 = true := by kernel_rfl
theorem x111 (p0 : Option Addr) (p1 : ByteArray) (p2 : Sl) (K : Value → HP) : bodyX Tryz.prog tab111 aux111 Tryz.f111 [.pointer p0, .string p1, p2.v] K = S.safe_Append tab111.cx p0 p1 p2 (fun r0 => K (.int .i64 r0)) := by kernel_rfl
def E111 : Entry Tryz.prog := ⟨111, S.safe_Append_run tab111.cx, fun xs K w h => by
  obtain ⟨eb, h⟩ := ar3 h
  obtain ⟨p0, e0, h⟩ := asP_inv h
  obtain ⟨p1, e1, h⟩ := asS_inv h
  obtain ⟨p2, e2, h⟩ := asL_inv h
  rw [e0, e1, e2] at eb
  subst eb
  exact body_sound mixed Tryz.func111 ok111 Tryz.call111 rfl (by rw [x111]; exact h)⟩
def aux65 : Aux := { plan := fun r => bif Nat.beq r 4 then .take 0 (.take 1 (.take 2 (.take 3 (.take 4 (.take 5 (.take 6 (.take 7 (.take 8 (.take 9 (.take 10 (.take 11 (.take 13 (.eff 12 [3] (.eff 14 [] (.take 15 (.done)))))))))))))))) else bif Nat.beq r 7 then .take 0 (.take 1 (.take 2 (.take 3 (.take 4 (.take 5 (.take 6 (.take 7 (.take 8 (.take 9 (.take 10 (.take 11 (.take 12 (.eff 13 [4] (.eff 14 [] (.take 15 (.take 16 (.eff 17 [] (.done)))))))))))))))))) else bif Nat.beq r 9 then .take 0 (.take 1 (.take 2 (.take 3 (.take 4 (.take 5 (.eff 6 [4] (.take 7 (.take 8 (.take 9 (.eff 10 [] (.done))))))))))) else .done, spec := fun _ => ⟨[], 0⟩, iter := fun _ => none }
def tab65 : Tab Tryz.prog := ⟨[E8, E48, E66, E77, E111], fnT⟩
theorem ok65 : okFn Tryz.prog aux65 Tryz.f65 2 = true := by kernel_rfl
theorem x65 (p0 : Option Addr) (p1 : G_api_Rec) (K : Value → HP) : bodyX Tryz.prog tab65 aux65 Tryz.f65 [.pointer p0, p1.v] K = S.dbox_Box_append tab65.cx p0 p1 (fun r0 => K (.int .i64 r0)) := by kernel_rfl
def E65 : Entry Tryz.prog := ⟨65, S.dbox_Box_append_run tab65.cx, fun xs K w h => by
  obtain ⟨eb, h⟩ := ar2 h
  obtain ⟨p0, e0, h⟩ := asP_inv h
  obtain ⟨p1, e1, h⟩ := as_G_api_Rec_inv h
  rw [e0, e1] at eb
  subst eb
  exact body_sound mixed Tryz.func65 ok65 Tryz.call65 rfl (by rw [x65]; exact h)⟩
def aux76 : Aux := { plan := fun r => bif Nat.beq r 1 then .take 0 (.take 1 (.take 2 (.take 3 (.take 4 (.take 5 (.take 6 (.take 7 (.take 8 (.take 9 (.take 10 (.eff 11 [] (.done)))))))))))) else .done, spec := fun _ => ⟨[], 0⟩, iter := fun _ => none }
def tab76 : Tab Tryz.prog := ⟨[], fnT⟩
theorem ok76 : okFn Tryz.prog aux76 Tryz.f76 3 = true := by kernel_rfl
theorem x76 (p0 : Option Addr) (p1 : Int) (p2 : Int) (K : Value → HP) : bodyX Tryz.prog tab76 aux76 Tryz.f76 [.pointer p0, .int .i64 p1, .int .i64 p2] K = S.dbox_Box_head p0 p1 p2 (fun r0 => K (r0.v)) := by kernel_rfl
def E76 : Entry Tryz.prog := ⟨76, S.dbox_Box_head_run, fun xs K w h => by
  obtain ⟨eb, h⟩ := ar3 h
  obtain ⟨p0, e0, h⟩ := asP_inv h
  obtain ⟨p1, e1, h⟩ := asI_inv h
  obtain ⟨p2, e2, h⟩ := asI_inv h
  rw [e0, e1, e2] at eb
  subst eb
  exact body_sound mixed Tryz.func76 ok76 Tryz.call76 rfl (by rw [x76]; exact h)⟩
def aux117 : Aux := auxD
def tab117 : Tab Tryz.prog := ⟨[E35, E67, E132], fnT⟩
theorem ok117 : okFn Tryz.prog aux117 Tryz.f117 2 = true := by kernel_rfl
theorem x117 (p0 : Option Addr) (p1 : ByteArray) (K : Value → HP) : bodyX Tryz.prog tab117 aux117 Tryz.f117 [.pointer p0, .string p1] K = S.vdisk_Disk_Create p0 p1 (fun r0 => K (.int .i64 r0)) := by kernel_rfl
def E117 : Entry Tryz.prog := ⟨117, S.vdisk_Disk_Create_run, fun xs K w h => by
  obtain ⟨eb, h⟩ := ar2 h
  obtain ⟨p0, e0, h⟩ := asP_inv h
  obtain ⟨p1, e1, h⟩ := asS_inv h
  rw [e0, e1] at eb
  subst eb
  exact body_sound mixed Tryz.func117 ok117 Tryz.call117 rfl (by rw [x117]; exact h)⟩
def aux147 : Aux := auxD
def tab147 : Tab Tryz.prog := ⟨[E111], fnT⟩
theorem ok147 : okFn Tryz.prog aux147 Tryz.f147 3 = true := by kernel_rfl
theorem x147 (p0 : Addr) (p1 : Addr) (p2 : Addr) (K : Value → HP) : bodyX Tryz.prog tab147 aux147 Tryz.f147 [.pointer (some p0), .pointer (some p1), .pointer (some p2)] K = S.safe_Make_1 tab147.cx p0 p1 p2 (fun r0 => K (.int .i64 r0)) := by kernel_rfl
def E147 : Entry Tryz.prog := ⟨147, S.safe_Make_1_run tab147.cx, fun xs K w h => by
  obtain ⟨eb, h⟩ := ar3 h
  obtain ⟨p0, e0, h⟩ := asA_inv h
  obtain ⟨p1, e1, h⟩ := asA_inv h
  obtain ⟨p2, e2, h⟩ := asA_inv h
  rw [e0, e1, e2] at eb
  subst eb
  exact body_sound mixed Tryz.func147 ok147 Tryz.call147 rfl (by rw [x147]; exact h)⟩
def aux148 : Aux := auxD
def tab148 : Tab Tryz.prog := ⟨[E20, E97], fnT⟩
theorem ok148 : okFn Tryz.prog aux148 Tryz.f148 1 = true := by kernel_rfl
theorem x148 (p0 : Addr) (K : Value → HP) : bodyX Tryz.prog tab148 aux148 Tryz.f148 [.pointer (some p0)] K = S.safe_Make_2 tab148.cx p0 (fun r0 => K (.int .i64 r0)) := by kernel_rfl
def E148 : Entry Tryz.prog := ⟨148, S.safe_Make_2_run tab148.cx, fun xs K w h => by
  obtain ⟨eb, h⟩ := ar1 h
  obtain ⟨p0, e0, h⟩ := asA_inv h
  rw [e0] at eb
  subst eb
  exact body_sound mixed Tryz.func148 ok148 Tryz.call148 rfl (by rw [x148]; exact h)⟩
def aux160 : Aux := auxD
def tab160 : Tab Tryz.prog := ⟨[E88], fnT⟩
theorem ok160 : okFn Tryz.prog aux160 Tryz.f160 2 = true := by kernel_rfl
theorem x160 (p0 : Addr) (p1 : Addr) (K : Value → HP) : bodyX Tryz.prog tab160 aux160 Tryz.f160 [.pointer (some p0), .pointer (some p1)] K = S.safe_unlink_1 p0 p1 (fun r0 => K (.int .i64 r0)) := by kernel_rfl
def E160 : Entry Tryz.prog := ⟨160, S.safe_unlink_1_run, fun xs K w h => by
  obtain ⟨eb, h⟩ := ar2 h
  obtain ⟨p0, e0, h⟩ := asA_inv h
  obtain ⟨p1, e1, h⟩ := asA_inv h
  rw [e0, e1] at eb
  subst eb
  exact body_sound mixed Tryz.func160 ok160 Tryz.call160 rfl (by rw [x160]; exact h)⟩
def aux122 : Aux := auxD
def tab122 : Tab Tryz.prog := ⟨[E97, E160], fnT⟩
theorem ok122 : okFn Tryz.prog aux122 Tryz.f122 2 = true := by kernel_rfl
theorem x122 (p0 : Option Addr) (p1 : ByteArray) (K : Value → HP) : bodyX Tryz.prog tab122 aux122 Tryz.f122 [.pointer p0, .string p1] K = S.safe_unlink tab122.cx p0 p1 (K (.tuple #[])) := by kernel_rfl
def E122 : Entry Tryz.prog := ⟨122, S.safe_unlink_run tab122.cx, fun xs K w h => by
  obtain ⟨eb, h⟩ := ar2 h
  obtain ⟨p0, e0, h⟩ := asP_inv h
  obtain ⟨p1, e1, h⟩ := asS_inv h
  rw [e0, e1] at eb
  subst eb
  exact body_sound mixed Tryz.func122 ok122 Tryz.call122 rfl (by rw [x122]; exact h)⟩
def aux110 : Aux := auxD
def tab110 : Tab Tryz.prog := ⟨[E93, E94, E117, E122, E147, E148], fnT⟩
theorem ok110 : okFn Tryz.prog aux110 Tryz.f110 3 = true := by kernel_rfl
theorem x110 (p0 : Option Addr) (p1 : ByteArray) (p2 : Sl) (K : Value → HP) : bodyX Tryz.prog tab110 aux110 Tryz.f110 [.pointer p0, .string p1, p2.v] K = S.safe_Make tab110.cx p0 p1 p2 (fun r0 => K (.int .i64 r0)) := by kernel_rfl
def E110 : Entry Tryz.prog := ⟨110, S.safe_Make_run tab110.cx, fun xs K w h => by
  obtain ⟨eb, h⟩ := ar3 h
  obtain ⟨p0, e0, h⟩ := asP_inv h
  obtain ⟨p1, e1, h⟩ := asS_inv h
  obtain ⟨p2, e2, h⟩ := asL_inv h
  rw [e0, e1, e2] at eb
  subst eb
  exact body_sound mixed Tryz.func110 ok110 Tryz.call110 rfl (by rw [x110]; exact h)⟩
def aux64 : Aux := { plan := fun r => bif Nat.beq r 2 then .take 0 (.take 1 (.take 2 (.take 3 (.eff 4 [] (.take 5 (.take 6 (.take 7 (.take 8 (.take 9 (.take 10 (.take 11 (.take 12 (.take 13 (.take 14 (.take 15 (.take 16 (.done))))))))))))))))) else bif Nat.beq r 4 then .take 0 (.take 1 (.take 2 (.take 3 (.eff 4 [] (.take 5 (.take 6 (.take 7 (.take 8 (.take 9 (.take 10 (.take 11 (.take 12 (.take 13 (.take 14 (.take 15 (.take 16 (.take 17 (.take 18 (.take 19 (.take 20 (.take 21 (.take 22 (.done))))))))))))))))))))))) else bif Nat.beq r 12 then .take 0 (.take 1 (.take 2 (.take 3 (.take 4 (.take 5 (.take 6 (.take 7 (.take 8 (.take 10 (.eff 9 [3] (.eff 11 [] (.take 12 (.done))))))))))))) else bif Nat.beq r 15 then .take 0 (.take 1 (.take 2 (.take 3 (.take 4 (.take 5 (.take 6 (.take 7 (.take 8 (.take 9 (.take 10 (.take 11 (.eff 12 [4] (.take 13 (.eff 14 [4] (.eff 15 [] (.take 16 (.take 17 (.eff 18 [] (.done))))))))))))))))))) else .done, spec := fun _ => ⟨[], 0⟩, iter := fun _ => none }
def tab64 : Tab Tryz.prog := ⟨[E8, E29, E65, E66, E76, E77, E109, E110], fnT⟩
theorem ok64 : okFn Tryz.prog aux64 Tryz.f64 1 = true := by kernel_rfl
theorem x64 (p0 : Option Addr) (K : Value → HP) : bodyX Tryz.prog tab64 aux64 Tryz.f64 [.pointer p0] K = S.dbox_Box_room tab64.cx p0 (fun r0 => K (.int .i64 r0)) := by kernel_rfl
def E64 : Entry Tryz.prog := ⟨64, S.dbox_Box_room_run tab64.cx, fun xs K w h => by
  obtain ⟨eb, h⟩ := ar1 h
  obtain ⟨p0, e0, h⟩ := asP_inv h
  rw [e0] at eb
  subst eb
  exact body_sound mixed Tryz.func64 ok64 Tryz.call64 rfl (by rw [x64]; exact h)⟩
def aux18 : Aux := { plan := fun r => bif Nat.beq r 9 then .take 0 (.take 1 (.take 2 (.take 3 (.take 4 (.take 5 (.take 6 (.take 7 (.take 8 (.take 9 (.take 10 (.take 11 (.take 12 (.take 13 (.take 14 (.take 15 (.take 16 (.take 17 (.take 18 (.eff 19 [] (.take 20 (.done))))))))))))))))))))) else .done, spec := fun _ => ⟨[], 0⟩, iter := fun _ => none }
def tab18 : Tab Tryz.prog := ⟨[E29, E62, E63, E64, E65, E66], fnT⟩
theorem ok18 : okFn Tryz.prog aux18 Tryz.f18 2 = true := by kernel_rfl
theorem x18 (p0 : Option Addr) (p1 : G_api_Rec) (K : Value → HP) : bodyX Tryz.prog tab18 aux18 Tryz.f18 [.pointer p0, p1.v] K = S.dbox_Box_Put tab18.cx p0 p1 (fun r0 r1 => K (.tuple #[r0.v, .int .i64 r1])) := by kernel_rfl
def E18 : Entry Tryz.prog := ⟨18, S.dbox_Box_Put_run tab18.cx, fun xs K w h => by
  obtain ⟨eb, h⟩ := ar2 h
  obtain ⟨p0, e0, h⟩ := asP_inv h
  obtain ⟨p1, e1, h⟩ := as_G_api_Rec_inv h
  rw [e0, e1] at eb
  subst eb
  exact body_sound mixed Tryz.func18 ok18 Tryz.call18 rfl (by rw [x18]; exact h)⟩
def aux23 : Aux := { plan := fun _ => .done, spec := fun c => bif Nat.beq c 0 then ⟨[(3, .ll), (13, .ii .i64)], 14344⟩ else bif Nat.beq c 2 then ⟨[(3, .ll), (20, .ii .i64)], 1849384⟩ else ⟨[], 0⟩, iter := fun _ => none }
def tab23 : Tab Tryz.prog := ⟨[E62], fnT⟩
theorem ok23 : okFn Tryz.prog aux23 Tryz.f23 1 = true := by kernel_rfl
theorem x23 (p0 : Option Addr) (K : Value → HP) : bodyX Tryz.prog tab23 aux23 Tryz.f23 [.pointer p0] K = S.dbox_Box_Places p0 (fun r0 => K (.slice r0.a r0.len r0.cap)) := by kernel_rfl
def E23 : Entry Tryz.prog := ⟨23, S.dbox_Box_Places_run, fun xs K w h => by
  obtain ⟨eb, h⟩ := ar1 h
  obtain ⟨p0, e0, h⟩ := asP_inv h
  rw [e0] at eb
  subst eb
  exact body_sound mixed Tryz.func23 ok23 Tryz.call23 rfl (by rw [x23]; exact h)⟩
def aux81 : Aux := auxD
def tab81 : Tab Tryz.prog := ⟨[], fnT⟩
theorem ok81 : okFn Tryz.prog aux81 Tryz.f81 2 = true := by kernel_rfl
theorem x81 (p0 : G_api_Place) (p1 : Addr) (K : Value → HP) : bodyX Tryz.prog tab81 aux81 Tryz.f81 [p0.v, .pointer (some p1)] K = S.dbox_Box_Get_1 p0 p1 (fun r0 => K (.bool r0)) := by kernel_rfl
def E81 : Entry Tryz.prog := ⟨81, S.dbox_Box_Get_1_run, fun xs K w h => by
  obtain ⟨eb, h⟩ := ar2 h
  obtain ⟨p0, e0, h⟩ := as_G_api_Place_inv h
  obtain ⟨p1, e1, h⟩ := asA_inv h
  rw [e0, e1] at eb
  subst eb
  exact body_sound mixed Tryz.func81 ok81 Tryz.call81 rfl (by rw [x81]; exact h)⟩
def aux124 : Aux := { plan := fun _ => .done, spec := fun c => bif Nat.beq c 0 then ⟨[(8, .ii .i64)], 387⟩ else ⟨[], 0⟩, iter := fun _ => none }
def tab124 : Tab Tryz.prog := ⟨[], fnT⟩
theorem ok124 : okFn Tryz.prog aux124 Tryz.f124 2 = true := by kernel_rfl
theorem x124 (p0 : Sl) (p1 : FV) (K : Value → HP) : bodyX Tryz.prog tab124 aux124 Tryz.f124 [p0.v, p1.v] K = S.slices_IndexFunc_api_Place_api_Place tab124.cx p0 p1 (fun r0 => K (.int .i64 r0)) := by kernel_rfl
def E124 : Entry Tryz.prog := ⟨124, S.slices_IndexFunc_api_Place_api_Place_run tab124.cx, fun xs K w h => by
  obtain ⟨eb, h⟩ := ar2 h
  obtain ⟨p0, e0, h⟩ := asL_inv h
  obtain ⟨p1, e1, h⟩ := asF_inv h
  rw [e0, e1] at eb
  subst eb
  exact body_sound mixed Tryz.func124 ok124 Tryz.call124 rfl (by rw [x124]; exact h)⟩
def aux80 : Aux := auxD
def tab80 : Tab Tryz.prog := ⟨[E124], fnT⟩
theorem ok80 : okFn Tryz.prog aux80 Tryz.f80 2 = true := by kernel_rfl
theorem x80 (p0 : Sl) (p1 : FV) (K : Value → HP) : bodyX Tryz.prog tab80 aux80 Tryz.f80 [p0.v, p1.v] K = S.slices_ContainsFunc_api_Place_api_Place tab80.cx p0 p1 (fun r0 => K (.bool r0)) := by kernel_rfl
def E80 : Entry Tryz.prog := ⟨80, S.slices_ContainsFunc_api_Place_api_Place_run tab80.cx, fun xs K w h => by
  obtain ⟨eb, h⟩ := ar2 h
  obtain ⟨p0, e0, h⟩ := asL_inv h
  obtain ⟨p1, e1, h⟩ := asF_inv h
  rw [e0, e1] at eb
  subst eb
  exact body_sound mixed Tryz.func80 ok80 Tryz.call80 rfl (by rw [x80]; exact h)⟩
def aux28 : Aux := { plan := fun r => bif Nat.beq r 1 then .take 0 (.take 1 (.take 2 (.take 3 (.take 4 (.take 5 (.take 6 (.take 7 (.take 8 (.take 9 (.eff 10 [3] (.eff 11 [] (.take 12 (.take 13 (.take 14 (.take 15 (.take 16 (.done))))))))))))))))) else .done, spec := fun _ => ⟨[], 0⟩, iter := fun _ => none }
def tab28 : Tab Tryz.prog := ⟨[E8, E23, E79, E80, E81, E82], fnT⟩
theorem ok28 : okFn Tryz.prog aux28 Tryz.f28 2 = true := by kernel_rfl
theorem x28 (p0 : Option Addr) (p1 : G_api_Place) (K : Value → HP) : bodyX Tryz.prog tab28 aux28 Tryz.f28 [.pointer p0, p1.v] K = S.dbox_Box_Get tab28.cx p0 p1 (fun r0 r1 => K (.tuple #[r0.v, .int .i64 r1])) := by kernel_rfl
def E28 : Entry Tryz.prog := ⟨28, S.dbox_Box_Get_run tab28.cx, fun xs K w h => by
  obtain ⟨eb, h⟩ := ar2 h
  obtain ⟨p0, e0, h⟩ := asP_inv h
  obtain ⟨p1, e1, h⟩ := as_G_api_Place_inv h
  rw [e0, e1] at eb
  subst eb
  exact body_sound mixed Tryz.func28 ok28 Tryz.call28 rfl (by rw [x28]; exact h)⟩
def aux21 : Aux := auxD
def tab21 : Tab Tryz.prog := ⟨[], fnT⟩
theorem ok21 : okFn Tryz.prog aux21 Tryz.f21 1 = true := by kernel_rfl
theorem x21 (p0 : Option Addr) (K : Value → HP) : bodyX Tryz.prog tab21 aux21 Tryz.f21 [.pointer p0] K = S.dbox_Box_Next p0 (fun r0 => K (.int .i64 r0)) := by kernel_rfl
def E21 : Entry Tryz.prog := ⟨21, S.dbox_Box_Next_run, fun xs K w h => by
  obtain ⟨eb, h⟩ := ar1 h
  obtain ⟨p0, e0, h⟩ := asP_inv h
  rw [e0] at eb
  subst eb
  exact body_sound mixed Tryz.func21 ok21 Tryz.call21 rfl (by rw [x21]; exact h)⟩
def aux27 : Aux := { plan := fun _ => .done, spec := fun c => bif Nat.beq c 0 then ⟨[(3, .ii .i64), (11, .ii .i64)], 3592⟩ else ⟨[], 0⟩, iter := fun _ => none }
def tab27 : Tab Tryz.prog := ⟨[], fnT⟩
theorem ok27 : okFn Tryz.prog aux27 Tryz.f27 1 = true := by kernel_rfl
theorem x27 (p0 : Option Addr) (K : Value → HP) : bodyX Tryz.prog tab27 aux27 Tryz.f27 [.pointer p0] K = S.dbox_Box_Broken p0 (fun r0 => K (.int .i64 r0)) := by kernel_rfl
def E27 : Entry Tryz.prog := ⟨27, S.dbox_Box_Broken_run, fun xs K w h => by
  obtain ⟨eb, h⟩ := ar1 h
  obtain ⟨p0, e0, h⟩ := asP_inv h
  rw [e0] at eb
  subst eb
  exact body_sound mixed Tryz.func27 ok27 Tryz.call27 rfl (by rw [x27]; exact h)⟩
def aux6 : Aux := auxD
def tab6 : Tab Tryz.prog := ⟨[E8, E10, E12, E18, E21, E23, E27, E28, E29], fnT⟩
theorem ok6 : okFn Tryz.prog aux6 Tryz.f6 0 = true := by kernel_rfl
theorem x6 (K : Value → HP) : bodyX Tryz.prog tab6 aux6 Tryz.f6 [] K = S.lw18_awake tab6.cx (fun r0 => K (.bool r0)) := by kernel_rfl
def E6 : Entry Tryz.prog := ⟨6, S.lw18_awake_run tab6.cx, fun xs K w h => by
  obtain ⟨hl, h⟩ := arity_inv h
  obtain rfl := List.eq_nil_of_length_eq_zero hl
  exact body_sound mixed Tryz.func6 ok6 Tryz.call6 rfl (by rw [x6]; exact h)⟩
def aux7 : Aux := { plan := fun _ => .done, spec := fun c => bif Nat.beq c 0 then ⟨[(5, .ii .i64), (6, .ii .i64)], 99⟩ else ⟨[], 0⟩, iter := fun _ => none }
def tab7 : Tab Tryz.prog := ⟨[], fnT⟩
theorem ok7 : okFn Tryz.prog aux7 Tryz.f7 2 = true := by kernel_rfl
theorem x7 (p0 : Sl) (p1 : Int) (K : Value → HP) : bodyX Tryz.prog tab7 aux7 Tryz.f7 [p0.v, .int .i64 p1] K = S.rf04_Bulk p0 p1 (fun r0 => K (.int .i64 r0)) := by kernel_rfl
def E7 : Entry Tryz.prog := ⟨7, S.rf04_Bulk_run, fun xs K w h => by
  obtain ⟨eb, h⟩ := ar2 h
  obtain ⟨p0, e0, h⟩ := asL_inv h
  obtain ⟨p1, e1, h⟩ := asI_inv h
  rw [e0, e1] at eb
  subst eb
  exact body_sound mixed Tryz.func7 ok7 Tryz.call7 rfl (by rw [x7]; exact h)⟩
def aux34 : Aux := { plan := fun _ => .done, spec := fun c => bif Nat.beq c 0 then ⟨[(0, .ii .i64), (5, .ss), (6, .ii .i64)], 99⟩ else ⟨[], 0⟩, iter := fun _ => none }
def tab34 : Tab Tryz.prog := ⟨[], fnT⟩
theorem ok34 : okFn Tryz.prog aux34 Tryz.f34 2 = true := by kernel_rfl
theorem x34 (p0 : Int) (p1 : Int) (K : Value → HP) : bodyX Tryz.prog tab34 aux34 Tryz.f34 [.int .i64 p0, .int .i64 p1] K = S.rf18_digits p0 p1 (fun r0 => K (.string r0)) := by kernel_rfl
def E34 : Entry Tryz.prog := ⟨34, S.rf18_digits_run, fun xs K w h => by
  obtain ⟨eb, h⟩ := ar2 h
  obtain ⟨p0, e0, h⟩ := asI_inv h
  obtain ⟨p1, e1, h⟩ := asI_inv h
  rw [e0, e1] at eb
  subst eb
  exact body_sound mixed Tryz.func34 ok34 Tryz.call34 rfl (by rw [x34]; exact h)⟩
def aux9 : Aux := auxD
def tab9 : Tab Tryz.prog := ⟨[E34], fnT⟩
theorem ok9 : okFn Tryz.prog aux9 Tryz.f9 2 = true := by kernel_rfl
theorem x9 (p0 : Int) (p1 : Int) (K : Value → HP) : bodyX Tryz.prog tab9 aux9 Tryz.f9 [.int .i64 p0, .int .i64 p1] K = S.rf18_Name p0 p1 (fun r0 => K (.string r0)) := by kernel_rfl
def E9 : Entry Tryz.prog := ⟨9, S.rf18_Name_run, fun xs K w h => by
  obtain ⟨eb, h⟩ := ar2 h
  obtain ⟨p0, e0, h⟩ := asI_inv h
  obtain ⟨p1, e1, h⟩ := asI_inv h
  rw [e0, e1] at eb
  subst eb
  exact body_sound mixed Tryz.func9 ok9 Tryz.call9 rfl (by rw [x9]; exact h)⟩
def aux38 : Aux := { plan := fun _ => .done, spec := fun c => bif Nat.beq c 0 then ⟨[(3, .ii .i64)], 9⟩ else ⟨[], 0⟩, iter := fun _ => none }
def tab38 : Tab Tryz.prog := ⟨[], fnT⟩
theorem ok38 : okFn Tryz.prog aux38 Tryz.f38 1 = true := by kernel_rfl
theorem x38 (p0 : ByteArray) (K : Value → HP) : bodyX Tryz.prog tab38 aux38 Tryz.f38 [.string p0] K = S.rf04_Name p0 (fun r0 => K (.bool r0)) := by kernel_rfl
def E38 : Entry Tryz.prog := ⟨38, S.rf04_Name_run, fun xs K w h => by
  obtain ⟨eb, h⟩ := ar1 h
  obtain ⟨p0, e0, h⟩ := asS_inv h
  rw [e0] at eb
  subst eb
  exact body_sound mixed Tryz.func38 ok38 Tryz.call38 rfl (by rw [x38]; exact h)⟩
def aux39 : Aux := { plan := fun _ => .done, spec := fun c => bif Nat.beq c 0 then ⟨[(5, .ii .i64)], 35⟩ else ⟨[], 0⟩, iter := fun _ => none }
def tab39 : Tab Tryz.prog := ⟨[], fnT⟩
theorem ok39 : okFn Tryz.prog aux39 Tryz.f39 2 = true := by kernel_rfl
theorem x39 (p0 : Sl) (p1 : ByteArray) (K : Value → HP) : bodyX Tryz.prog tab39 aux39 Tryz.f39 [p0.v, .string p1] K = S.rf04_find p0 p1 (fun r0 => K (.int .i64 r0)) := by kernel_rfl
def E39 : Entry Tryz.prog := ⟨39, S.rf04_find_run, fun xs K w h => by
  obtain ⟨eb, h⟩ := ar2 h
  obtain ⟨p0, e0, h⟩ := asL_inv h
  obtain ⟨p1, e1, h⟩ := asS_inv h
  rw [e0, e1] at eb
  subst eb
  exact body_sound mixed Tryz.func39 ok39 Tryz.call39 rfl (by rw [x39]; exact h)⟩
def aux86 : Aux := { plan := fun _ => .done, spec := fun c => bif Nat.beq c 0 then ⟨[(5, .ll), (6, .ii .i64)], 99⟩ else ⟨[], 0⟩, iter := fun _ => none }
def tab86 : Tab Tryz.prog := ⟨[], fnT⟩
theorem ok86 : okFn Tryz.prog aux86 Tryz.f86 2 = true := by kernel_rfl
theorem x86 (p0 : Sl) (p1 : ByteArray) (K : Value → HP) : bodyX Tryz.prog tab86 aux86 Tryz.f86 [p0.v, .string p1] K = S.rf04_without p0 p1 (fun r0 => K (.slice r0.a r0.len r0.cap)) := by kernel_rfl
def E86 : Entry Tryz.prog := ⟨86, S.rf04_without_run, fun xs K w h => by
  obtain ⟨eb, h⟩ := ar2 h
  obtain ⟨p0, e0, h⟩ := asL_inv h
  obtain ⟨p1, e1, h⟩ := asS_inv h
  rw [e0, e1] at eb
  subst eb
  exact body_sound mixed Tryz.func86 ok86 Tryz.call86 rfl (by rw [x86]; exact h)⟩
def aux40 : Aux := { plan := fun r => bif Nat.beq r 3 then .take 0 (.take 1 (.take 2 (.take 3 (.take 4 (.take 5 (.take 6 (.take 7 (.take 8 (.take 9 (.take 10 (.take 11 (.take 12 (.done))))))))))))) else .done, spec := fun c => bif Nat.beq c 0 then ⟨[(5, .ii .i64)], 41⟩ else ⟨[], 0⟩, iter := fun _ => none }
def tab40 : Tab Tryz.prog := ⟨[E86], fnT⟩
theorem ok40 : okFn Tryz.prog aux40 Tryz.f40 2 = true := by kernel_rfl
theorem x40 (p0 : Sl) (p1 : G_rf04_Entry) (K : Value → HP) : bodyX Tryz.prog tab40 aux40 Tryz.f40 [p0.v, p1.v] K = S.rf04_put p0 p1 (fun r0 => K (.slice r0.a r0.len r0.cap)) := by kernel_rfl
def E40 : Entry Tryz.prog := ⟨40, S.rf04_put_run, fun xs K w h => by
  obtain ⟨eb, h⟩ := ar2 h
  obtain ⟨p0, e0, h⟩ := asL_inv h
  obtain ⟨p1, e1, h⟩ := as_G_rf04_Entry_inv h
  rw [e0, e1] at eb
  subst eb
  exact body_sound mixed Tryz.func40 ok40 Tryz.call40 rfl (by rw [x40]; exact h)⟩
def aux11 : Aux := { plan := fun r => bif Nat.beq r 9 then .take 0 (.take 1 (.eff 2 [] (.take 3 (.take 4 (.take 5 (.take 6 (.take 7 (.take 8 (.take 9 (.take 10 (.eff 11 [] (.take 12 (.take 13 (.take 14 (.take 15 (.take 16 (.take 17 (.take 18 (.take 19 (.take 20 (.take 21 (.take 22 (.done))))))))))))))))))))))) else bif Nat.beq r 12 then .take 0 (.take 1 (.take 2 (.take 3 (.take 4 (.take 5 (.take 6 (.take 7 (.take 8 (.take 9 (.take 10 (.take 11 (.eff 12 [4] (.eff 13 [] (.take 14 (.take 15 (.eff 16 [] (.done))))))))))))))))) else bif Nat.beq r 13 then .take 0 (.take 1 (.take 2 (.take 3 (.take 4 (.take 5 (.take 6 (.take 7 (.take 8 (.eff 9 [] (.take 10 (.take 11 (.eff 12 [] (.done))))))))))))) else .done, spec := fun c => bif Nat.beq c 0 then ⟨[(6, .ii .i64), (7, .ii .i64)], 227⟩ else ⟨[], 0⟩, iter := fun _ => none }
def tab11 : Tab Tryz.prog := ⟨[E38, E39, E40], fnT⟩
theorem ok11 : okFn Tryz.prog aux11 Tryz.f11 2 = true := by kernel_rfl
theorem x11 (p0 : Sl) (p1 : Int) (K : Value → HP) : bodyX Tryz.prog tab11 aux11 Tryz.f11 [p0.v, .int .i64 p1] K = S.rf04_New p0 p1 (fun r0 => K (.pointer r0)) := by kernel_rfl
def E11 : Entry Tryz.prog := ⟨11, S.rf04_New_run, fun xs K w h => by
  obtain ⟨eb, h⟩ := ar2 h
  obtain ⟨p0, e0, h⟩ := asL_inv h
  obtain ⟨p1, e1, h⟩ := asI_inv h
  rw [e0, e1] at eb
  subst eb
  exact body_sound mixed Tryz.func11 ok11 Tryz.call11 rfl (by rw [x11]; exact h)⟩
def aux138 : Aux := { plan := fun r => bif Nat.beq r 4 then .take 0 (.take 1 (.take 2 (.take 3 (.take 4 (.take 5 (.take 6 (.take 7 (.take 8 (.take 9 (.take 10 (.take 11 (.done)))))))))))) else .done, spec := fun _ => ⟨[], 0⟩, iter := fun _ => none }
def tab138 : Tab Tryz.prog := ⟨[], fnT⟩
theorem ok138 : okFn Tryz.prog aux138 Tryz.f138 1 = true := by kernel_rfl
theorem x138 (p0 : Option Addr) (K : Value → HP) : bodyX Tryz.prog tab138 aux138 Tryz.f138 [.pointer p0] K = S.rf04_Disk_begin p0 (fun r0 => K (.int .i64 r0)) := by kernel_rfl
def E138 : Entry Tryz.prog := ⟨138, S.rf04_Disk_begin_run, fun xs K w h => by
  obtain ⟨eb, h⟩ := ar1 h
  obtain ⟨p0, e0, h⟩ := asP_inv h
  rw [e0] at eb
  subst eb
  exact body_sound mixed Tryz.func138 ok138 Tryz.call138 rfl (by rw [x138]; exact h)⟩
def aux101 : Aux := auxD
def tab101 : Tab Tryz.prog := ⟨[E39], fnT⟩
theorem ok101 : okFn Tryz.prog aux101 Tryz.f101 2 = true := by kernel_rfl
theorem x101 (p0 : Option Addr) (p1 : ByteArray) (K : Value → HP) : bodyX Tryz.prog tab101 aux101 Tryz.f101 [.pointer p0, .string p1] K = S.rf04_Disk_Find p0 p1 (fun r0 => K (.int .i64 r0)) := by kernel_rfl
def E101 : Entry Tryz.prog := ⟨101, S.rf04_Disk_Find_run, fun xs K w h => by
  obtain ⟨eb, h⟩ := ar2 h
  obtain ⟨p0, e0, h⟩ := asP_inv h
  obtain ⟨p1, e1, h⟩ := asS_inv h
  rw [e0, e1] at eb
  subst eb
  exact body_sound mixed Tryz.func101 ok101 Tryz.call101 rfl (by rw [x101]; exact h)⟩
def aux174 : Aux := auxD
def tab174 : Tab Tryz.prog := ⟨[E39, E40, E86], fnT⟩
theorem ok174 : okFn Tryz.prog aux174 Tryz.f174 2 = true := by kernel_rfl
theorem x174 (p0 : Sl) (p1 : G_rf04_Turn) (K : Value → HP) : bodyX Tryz.prog tab174 aux174 Tryz.f174 [p0.v, p1.v] K = S.rf04_do p0 p1 (fun r0 => K (.slice r0.a r0.len r0.cap)) := by kernel_rfl
def E174 : Entry Tryz.prog := ⟨174, S.rf04_do_run, fun xs K w h => by
  obtain ⟨eb, h⟩ := ar2 h
  obtain ⟨p0, e0, h⟩ := asL_inv h
  obtain ⟨p1, e1, h⟩ := as_G_rf04_Turn_inv h
  rw [e0, e1] at eb
  subst eb
  exact body_sound mixed Tryz.func174 ok174 Tryz.call174 rfl (by rw [x174]; exact h)⟩
def aux139 : Aux := { plan := fun r => bif Nat.beq r 4 then .take 0 (.take 1 (.take 2 (.take 3 (.take 4 (.take 5 (.eff 6 [] (.take 7 (.take 8 (.eff 9 [] (.done)))))))))) else .done, spec := fun _ => ⟨[], 0⟩, iter := fun _ => none }
def tab139 : Tab Tryz.prog := ⟨[E174], fnT⟩
theorem ok139 : okFn Tryz.prog aux139 Tryz.f139 2 = true := by kernel_rfl
theorem x139 (p0 : Option Addr) (p1 : G_rf04_Turn) (K : Value → HP) : bodyX Tryz.prog tab139 aux139 Tryz.f139 [.pointer p0, p1.v] K = S.rf04_Disk_turn p0 p1 (K (.tuple #[])) := by kernel_rfl
def E139 : Entry Tryz.prog := ⟨139, S.rf04_Disk_turn_run, fun xs K w h => by
  obtain ⟨eb, h⟩ := ar2 h
  obtain ⟨p0, e0, h⟩ := asP_inv h
  obtain ⟨p1, e1, h⟩ := as_G_rf04_Turn_inv h
  rw [e0, e1] at eb
  subst eb
  exact body_sound mixed Tryz.func139 ok139 Tryz.call139 rfl (by rw [x139]; exact h)⟩
def aux98 : Aux := auxD
def tab98 : Tab Tryz.prog := ⟨[E101, E138, E139], fnT⟩
theorem ok98 : okFn Tryz.prog aux98 Tryz.f98 2 = true := by kernel_rfl
theorem x98 (p0 : Option Addr) (p1 : ByteArray) (K : Value → HP) : bodyX Tryz.prog tab98 aux98 Tryz.f98 [.pointer p0, .string p1] K = S.rf04_Disk_Unlink p0 p1 (fun r0 => K (.int .i64 r0)) := by kernel_rfl
def E98 : Entry Tryz.prog := ⟨98, S.rf04_Disk_Unlink_run, fun xs K w h => by
  obtain ⟨eb, h⟩ := ar2 h
  obtain ⟨p0, e0, h⟩ := asP_inv h
  obtain ⟨p1, e1, h⟩ := asS_inv h
  rw [e0, e1] at eb
  subst eb
  exact body_sound mixed Tryz.func98 ok98 Tryz.call98 rfl (by rw [x98]; exact h)⟩
def aux49 : Aux := { plan := fun _ => .done, spec := fun c => bif Nat.beq c 0 then ⟨[(5, .ll), (6, .ii .i64)], 99⟩ else bif Nat.beq c 2 then ⟨[(9, .ii .i64)], 545⟩ else ⟨[], 0⟩, iter := fun _ => none }
def tab49 : Tab Tryz.prog := ⟨[E98], fnT⟩
theorem ok49 : okFn Tryz.prog aux49 Tryz.f49 2 = true := by kernel_rfl
theorem x49 (p0 : Option Addr) (p1 : ByteArray) (K : Value → HP) : bodyX Tryz.prog tab49 aux49 Tryz.f49 [.pointer p0, .string p1] K = S.rf16_Tidy p0 p1 (fun r0 => K (.int .i64 r0)) := by kernel_rfl
def E49 : Entry Tryz.prog := ⟨49, S.rf16_Tidy_run, fun xs K w h => by
  obtain ⟨eb, h⟩ := ar2 h
  obtain ⟨p0, e0, h⟩ := asP_inv h
  obtain ⟨p1, e1, h⟩ := asS_inv h
  rw [e0, e1] at eb
  subst eb
  exact body_sound mixed Tryz.func49 ok49 Tryz.call49 rfl (by rw [x49]; exact h)⟩
def aux50 : Aux := { plan := fun _ => .done, spec := fun c => bif Nat.beq c 0 then ⟨[(6, .ii .i64), (7, .ii .i64)], 194⟩ else ⟨[], 0⟩, iter := fun _ => none }
def tab50 : Tab Tryz.prog := ⟨[E34], fnT⟩
theorem ok50 : okFn Tryz.prog aux50 Tryz.f50 2 = true := by kernel_rfl
theorem x50 (p0 : Int) (p1 : ByteArray) (K : Value → HP) : bodyX Tryz.prog tab50 aux50 Tryz.f50 [.int .i64 p0, .string p1] K = S.rf18_seqOf p0 p1 (fun r0 => K (.int .i64 r0)) := by kernel_rfl
def E50 : Entry Tryz.prog := ⟨50, S.rf18_seqOf_run, fun xs K w h => by
  obtain ⟨eb, h⟩ := ar2 h
  obtain ⟨p0, e0, h⟩ := asI_inv h
  obtain ⟨p1, e1, h⟩ := asS_inv h
  rw [e0, e1] at eb
  subst eb
  exact body_sound mixed Tryz.func50 ok50 Tryz.call50 rfl (by rw [x50]; exact h)⟩
def aux175 : Aux := { plan := fun _ => .done, spec := fun c => bif Nat.beq c 0 then ⟨[(8, .ii .u64), (9, .ii .i64)], 775⟩ else ⟨[], 0⟩, iter := fun _ => none }
def tab175 : Tab Tryz.prog := ⟨[], fnT⟩
theorem ok175 : okFn Tryz.prog aux175 Tryz.f175 3 = true := by kernel_rfl
theorem x175 (p0 : Sl) (p1 : Int) (p2 : Int) (K : Value → HP) : bodyX Tryz.prog tab175 aux175 Tryz.f175 [p0.v, .int .i64 p1, .int .i64 p2] K = S.rf01_Get p0 p1 p2 (fun r0 r1 => K (.tuple #[.int .u64 r0, .bool r1])) := by kernel_rfl
def E175 : Entry Tryz.prog := ⟨175, S.rf01_Get_run, fun xs K w h => by
  obtain ⟨eb, h⟩ := ar3 h
  obtain ⟨p0, e0, h⟩ := asL_inv h
  obtain ⟨p1, e1, h⟩ := asI_inv h
  obtain ⟨p2, e2, h⟩ := asI_inv h
  rw [e0, e1, e2] at eb
  subst eb
  exact body_sound mixed Tryz.func175 ok175 Tryz.call175 rfl (by rw [x175]; exact h)⟩
def aux176 : Aux := auxD
def tab176 : Tab Tryz.prog := ⟨[], fnT⟩
theorem ok176 : okFn Tryz.prog aux176 Tryz.f176 2 = true := by kernel_rfl
theorem x176 (p0 : Sl) (p1 : Int) (K : Value → HP) : bodyX Tryz.prog tab176 aux176 Tryz.f176 [p0.v, .int .i64 p1] K = S.rf03_read p0 p1 (fun r0 => K (r0.v)) := by kernel_rfl
def E176 : Entry Tryz.prog := ⟨176, S.rf03_read_run, fun xs K w h => by
  obtain ⟨eb, h⟩ := ar2 h
  obtain ⟨p0, e0, h⟩ := asL_inv h
  obtain ⟨p1, e1, h⟩ := asI_inv h
  rw [e0, e1] at eb
  subst eb
  exact body_sound mixed Tryz.func176 ok176 Tryz.call176 rfl (by rw [x176]; exact h)⟩
def aux217 : Aux := { plan := fun _ => .done, spec := fun c => bif Nat.beq c 0 then ⟨[(0, .ii .u64), (5, .ii .i64)], 35⟩ else ⟨[], 0⟩, iter := fun _ => none }
def tab217 : Tab Tryz.prog := ⟨[], fnT⟩
theorem ok217 : okFn Tryz.prog aux217 Tryz.f217 2 = true := by kernel_rfl
theorem x217 (p0 : Int) (p1 : Int) (K : Value → HP) : bodyX Tryz.prog tab217 aux217 Tryz.f217 [.int .u64 p0, .int .i64 p1] K = S.rf01_fits p0 p1 (fun r0 => K (.bool r0)) := by kernel_rfl
def E217 : Entry Tryz.prog := ⟨217, S.rf01_fits_run, fun xs K w h => by
  obtain ⟨eb, h⟩ := ar2 h
  obtain ⟨p0, e0, h⟩ := asI_inv h
  obtain ⟨p1, e1, h⟩ := asI_inv h
  rw [e0, e1] at eb
  subst eb
  exact body_sound mixed Tryz.func217 ok217 Tryz.call217 rfl (by rw [x217]; exact h)⟩
def aux214 : Aux := { plan := fun _ => .done, spec := fun c => bif Nat.beq c 0 then ⟨[(0, .ii .u64), (6, .ll), (7, .ii .i64)], 195⟩ else ⟨[], 0⟩, iter := fun _ => none }
def tab214 : Tab Tryz.prog := ⟨[E217], fnT⟩
theorem ok214 : okFn Tryz.prog aux214 Tryz.f214 2 = true := by kernel_rfl
theorem x214 (p0 : Int) (p1 : Int) (K : Value → HP) : bodyX Tryz.prog tab214 aux214 Tryz.f214 [.int .u64 p0, .int .i64 p1] K = S.rf01_Put p0 p1 (fun r0 r1 => K (.tuple #[.slice r0.a r0.len r0.cap, .bool r1])) := by kernel_rfl
def E214 : Entry Tryz.prog := ⟨214, S.rf01_Put_run, fun xs K w h => by
  obtain ⟨eb, h⟩ := ar2 h
  obtain ⟨p0, e0, h⟩ := asI_inv h
  obtain ⟨p1, e1, h⟩ := asI_inv h
  rw [e0, e1] at eb
  subst eb
  exact body_sound mixed Tryz.func214 ok214 Tryz.call214 rfl (by rw [x214]; exact h)⟩
def aux203 : Aux := auxD
def tab203 : Tab Tryz.prog := ⟨[E214], fnT⟩
theorem ok203 : okFn Tryz.prog aux203 Tryz.f203 2 = true := by kernel_rfl
theorem x203 (p0 : Int) (p1 : Int) (K : Value → HP) : bodyX Tryz.prog tab203 aux203 Tryz.f203 [.int .u64 p0, .int .i64 p1] K = S.rf03_number p0 p1 (fun r0 => K (.string r0)) := by kernel_rfl
def E203 : Entry Tryz.prog := ⟨203, S.rf03_number_run, fun xs K w h => by
  obtain ⟨eb, h⟩ := ar2 h
  obtain ⟨p0, e0, h⟩ := asI_inv h
  obtain ⟨p1, e1, h⟩ := asI_inv h
  rw [e0, e1] at eb
  subst eb
  exact body_sound mixed Tryz.func203 ok203 Tryz.call203 rfl (by rw [x203]; exact h)⟩
def aux218 : Aux := auxD
def tab218 : Tab Tryz.prog := ⟨[], fnT⟩
theorem ok218 : okFn Tryz.prog aux218 Tryz.f218 1 = true := by kernel_rfl
theorem x218 (p0 : Int) (K : Value → HP) : bodyX Tryz.prog tab218 aux218 Tryz.f218 [.int .u32 p0] K = S.rf02_step p0 (fun r0 => K (.int .u32 r0)) := by kernel_rfl
def E218 : Entry Tryz.prog := ⟨218, S.rf02_step_run, fun xs K w h => by
  obtain ⟨eb, h⟩ := ar1 h
  obtain ⟨p0, e0, h⟩ := asI_inv h
  rw [e0] at eb
  subst eb
  exact body_sound mixed Tryz.func218 ok218 Tryz.call218 rfl (by rw [x218]; exact h)⟩
def aux215 : Aux := { plan := fun _ => .done, spec := fun c => bif Nat.beq c 0 then ⟨[(5, .ii .u32), (6, .ii .i64)], 98⟩ else bif Nat.beq c 2 then ⟨[(5, .ii .u32), (7, .ii .i64)], 226⟩ else ⟨[], 0⟩, iter := fun _ => none }
def tab215 : Tab Tryz.prog := ⟨[E218], fnT⟩
theorem ok215 : okFn Tryz.prog aux215 Tryz.f215 2 = true := by kernel_rfl
theorem x215 (p0 : Int) (p1 : Sl) (K : Value → HP) : bodyX Tryz.prog tab215 aux215 Tryz.f215 [.int .u32 p0, p1.v] K = S.rf02_More p0 p1 (fun r0 => K (.int .u32 r0)) := by kernel_rfl
def E215 : Entry Tryz.prog := ⟨215, S.rf02_More_run, fun xs K w h => by
  obtain ⟨eb, h⟩ := ar2 h
  obtain ⟨p0, e0, h⟩ := asI_inv h
  obtain ⟨p1, e1, h⟩ := asL_inv h
  rw [e0, e1] at eb
  subst eb
  exact body_sound mixed Tryz.func215 ok215 Tryz.call215 rfl (by rw [x215]; exact h)⟩
def aux204 : Aux := auxD
def tab204 : Tab Tryz.prog := ⟨[E215], fnT⟩
theorem ok204 : okFn Tryz.prog aux204 Tryz.f204 1 = true := by kernel_rfl
theorem x204 (p0 : Sl) (K : Value → HP) : bodyX Tryz.prog tab204 aux204 Tryz.f204 [p0.v] K = S.rf02_Of p0 (fun r0 => K (.int .u32 r0)) := by kernel_rfl
def E204 : Entry Tryz.prog := ⟨204, S.rf02_Of_run, fun xs K w h => by
  obtain ⟨eb, h⟩ := ar1 h
  obtain ⟨p0, e0, h⟩ := asL_inv h
  rw [e0] at eb
  subst eb
  exact body_sound mixed Tryz.func204 ok204 Tryz.call204 rfl (by rw [x204]; exact h)⟩
def aux205 : Aux := { plan := fun _ => .done, spec := fun c => bif Nat.beq c 0 then ⟨[(3, .ll), (4, .ii .i64)], 25⟩ else ⟨[], 0⟩, iter := fun _ => none }
def tab205 : Tab Tryz.prog := ⟨[], fnT⟩
theorem ok205 : okFn Tryz.prog aux205 Tryz.f205 1 = true := by kernel_rfl
theorem x205 (p0 : Sl) (K : Value → HP) : bodyX Tryz.prog tab205 aux205 Tryz.f205 [p0.v] K = S.rf03_Veil p0 (fun r0 => K (.slice r0.a r0.len r0.cap)) := by kernel_rfl
def E205 : Entry Tryz.prog := ⟨205, S.rf03_Veil_run, fun xs K w h => by
  obtain ⟨eb, h⟩ := ar1 h
  obtain ⟨p0, e0, h⟩ := asL_inv h
  rw [e0] at eb
  subst eb
  exact body_sound mixed Tryz.func205 ok205 Tryz.call205 rfl (by rw [x205]; exact h)⟩
def aux177 : Aux := { plan := fun r => bif Nat.beq r 7 then .take 1 (.take 2 (.take 3 (.take 6 (.take 7 (.alt 0 [7] (.eff 4 [7] (.take 5 (.take 8 (.eff 9 [] (.eff 10 [] (.eff 11 [] (.take 12 (.take 13 (.done))))))))) 4 [7] (.take 5 (.take 8 (.alt 0 [7] (.eff 9 [] (.eff 10 [] (.eff 11 [] (.take 12 (.take 13 (.done)))))) 9 [] (.alt 0 [7] (.eff 10 [] (.eff 11 [] (.take 12 (.take 13 (.done))))) 10 [] (.eff 0 [7] (.eff 11 [] (.take 12 (.take 13 (.done)))))))))))))) else .done, spec := fun _ => ⟨[], 0⟩, iter := fun _ => none }
def tab177 : Tab Tryz.prog := ⟨[E203, E204, E205], fnT⟩
theorem ok177 : okFn Tryz.prog aux177 Tryz.f177 2 = true := by kernel_rfl
theorem x177 (p0 : Int) (p1 : Sl) (K : Value → HP) : bodyX Tryz.prog tab177 aux177 Tryz.f177 [.int .i64 p0, p1.v] K = S.rf03_Wrap p0 p1 (fun r0 r1 => K (.tuple #[.slice r0.a r0.len r0.cap, .int .i64 r1])) := by kernel_rfl
def E177 : Entry Tryz.prog := ⟨177, S.rf03_Wrap_run, fun xs K w h => by
  obtain ⟨eb, h⟩ := ar2 h
  obtain ⟨p0, e0, h⟩ := asI_inv h
  obtain ⟨p1, e1, h⟩ := asL_inv h
  rw [e0, e1] at eb
  subst eb
  exact body_sound mixed Tryz.func177 ok177 Tryz.call177 rfl (by rw [x177]; exact h)⟩
def aux140 : Aux := { plan := fun r => bif Nat.beq r 18 then .take 0 (.take 1 (.take 2 (.eff 3 [2] (.take 4 (.done))))) else bif Nat.beq r 21 then .take 0 (.take 1 (.take 2 (.take 3 (.take 4 (.take 5 (.eff 6 [] (.take 7 (.take 8 (.take 9 (.take 10 (.take 11 (.done)))))))))))) else bif Nat.beq r 22 then .take 0 (.take 1 (.take 2 (.take 3 (.take 4 (.take 5 (.take 6 (.take 7 (.done)))))))) else bif Nat.beq r 24 then .take 0 (.take 1 (.take 2 (.take 3 (.take 4 (.take 5 (.take 6 (.take 7 (.take 8 (.take 9 (.take 10 (.eff 11 [] (.take 12 (.done))))))))))))) else .done, spec := fun c => bif Nat.beq c 0 then ⟨[(6, .ii .i64), (7, .ll), (8, .ii .i64)], 467⟩ else ⟨[], 0⟩, iter := fun _ => none }
def tab140 : Tab Tryz.prog := ⟨[E175, E176, E177], fnT⟩
theorem ok140 : okFn Tryz.prog aux140 Tryz.f140 2 = true := by kernel_rfl
theorem x140 (p0 : Sl) (p1 : Int) (K : Value → HP) : bodyX Tryz.prog tab140 aux140 Tryz.f140 [p0.v, .int .i64 p1] K = S.rf03_At p0 p1 (fun r0 r1 => K (.tuple #[r0.v, .int .i64 r1])) := by kernel_rfl
def E140 : Entry Tryz.prog := ⟨140, S.rf03_At_run, fun xs K w h => by
  obtain ⟨eb, h⟩ := ar2 h
  obtain ⟨p0, e0, h⟩ := asL_inv h
  obtain ⟨p1, e1, h⟩ := asI_inv h
  rw [e0, e1] at eb
  subst eb
  exact body_sound mixed Tryz.func140 ok140 Tryz.call140 rfl (by rw [x140]; exact h)⟩
def aux99 : Aux := { plan := fun r => bif Nat.beq r 11 then .take 1 (.take 2 (.take 3 (.take 4 (.take 5 (.take 7 (.alt 0 [2, 7] (.alt 6 [7] (.eff 8 [2] (.eff 9 [] (.take 10 (.eff 11 [] (.done))))) 8 [2] (.eff 6 [7] (.eff 9 [] (.take 10 (.eff 11 [] (.done)))))) 8 [2] (.eff 0 [2, 7] (.eff 6 [7] (.eff 9 [] (.take 10 (.eff 11 [] (.done)))))))))))) else .done, spec := fun c => bif Nat.beq c 0 then ⟨[(4, .ii .i64)], 29⟩ else ⟨[], 0⟩, iter := fun _ => none }
def tab99 : Tab Tryz.prog := ⟨[E140], fnT⟩
theorem ok99 : okFn Tryz.prog aux99 Tryz.f99 1 = true := by kernel_rfl
theorem x99 (p0 : Sl) (K : Value → HP) : bodyX Tryz.prog tab99 aux99 Tryz.f99 [p0.v] K = S.rf03_Scan p0 (fun r0 => K (r0.v)) := by kernel_rfl
def E99 : Entry Tryz.prog := ⟨99, S.rf03_Scan_run, fun xs K w h => by
  obtain ⟨eb, h⟩ := ar1 h
  obtain ⟨p0, e0, h⟩ := asL_inv h
  rw [e0] at eb
  subst eb
  exact body_sound mixed Tryz.func99 ok99 Tryz.call99 rfl (by rw [x99]; exact h)⟩
def aux141 : Aux := auxD
def tab141 : Tab Tryz.prog := ⟨[E175], fnT⟩
theorem ok141 : okFn Tryz.prog aux141 Tryz.f141 3 = true := by kernel_rfl
theorem x141 (p0 : Sl) (p1 : Int) (p2 : Int) (K : Value → HP) : bodyX Tryz.prog tab141 aux141 Tryz.f141 [p0.v, .int .i64 p1, .int .i64 p2] K = S.rf14_get p0 p1 p2 (fun r0 => K (.int .i64 r0)) := by kernel_rfl
def E141 : Entry Tryz.prog := ⟨141, S.rf14_get_run, fun xs K w h => by
  obtain ⟨eb, h⟩ := ar3 h
  obtain ⟨p0, e0, h⟩ := asL_inv h
  obtain ⟨p1, e1, h⟩ := asI_inv h
  obtain ⟨p2, e2, h⟩ := asI_inv h
  rw [e0, e1, e2] at eb
  subst eb
  exact body_sound mixed Tryz.func141 ok141 Tryz.call141 rfl (by rw [x141]; exact h)⟩
def aux178 : Aux := auxD
def tab178 : Tab Tryz.prog := ⟨[], fnT⟩
theorem ok178 : okFn Tryz.prog aux178 Tryz.f178 3 = true := by kernel_rfl
theorem x178 (p0 : Int) (p1 : Int) (p2 : Int) (K : Value → HP) : bodyX Tryz.prog tab178 aux178 Tryz.f178 [.int .i64 p0, .int .i64 p1, .int .i64 p2] K = S.rf14_in p0 p1 p2 (fun r0 => K (.bool r0)) := by kernel_rfl
def E178 : Entry Tryz.prog := ⟨178, S.rf14_in_run, fun xs K w h => by
  obtain ⟨eb, h⟩ := ar3 h
  obtain ⟨p0, e0, h⟩ := asI_inv h
  obtain ⟨p1, e1, h⟩ := asI_inv h
  obtain ⟨p2, e2, h⟩ := asI_inv h
  rw [e0, e1, e2] at eb
  subst eb
  exact body_sound mixed Tryz.func178 ok178 Tryz.call178 rfl (by rw [x178]; exact h)⟩
def aux142 : Aux := auxD
def tab142 : Tab Tryz.prog := ⟨[E178], fnT⟩
theorem ok142 : okFn Tryz.prog aux142 Tryz.f142 1 = true := by kernel_rfl
theorem x142 (p0 : G_api_Rec) (K : Value → HP) : bodyX Tryz.prog tab142 aux142 Tryz.f142 [p0.v] K = S.rf14_within p0 (fun r0 => K (.bool r0)) := by kernel_rfl
def E142 : Entry Tryz.prog := ⟨142, S.rf14_within_run, fun xs K w h => by
  obtain ⟨eb, h⟩ := ar1 h
  obtain ⟨p0, e0, h⟩ := as_G_api_Rec_inv h
  rw [e0] at eb
  subst eb
  exact body_sound mixed Tryz.func142 ok142 Tryz.call142 rfl (by rw [x142]; exact h)⟩
def aux100 : Aux := auxD
def tab100 : Tab Tryz.prog := ⟨[E141, E142], fnT⟩
theorem ok100 : okFn Tryz.prog aux100 Tryz.f100 2 = true := by kernel_rfl
theorem x100 (p0 : Int) (p1 : Sl) (K : Value → HP) : bodyX Tryz.prog tab100 aux100 Tryz.f100 [.int .i64 p0, p1.v] K = S.rf14_Read p0 p1 (fun r0 r1 => K (.tuple #[r0.v, .int .i64 r1])) := by kernel_rfl
def E100 : Entry Tryz.prog := ⟨100, S.rf14_Read_run, fun xs K w h => by
  obtain ⟨eb, h⟩ := ar2 h
  obtain ⟨p0, e0, h⟩ := asI_inv h
  obtain ⟨p1, e1, h⟩ := asL_inv h
  rw [e0, e1] at eb
  subst eb
  exact body_sound mixed Tryz.func100 ok100 Tryz.call100 rfl (by rw [x100]; exact h)⟩
def aux51 : Aux := { plan := fun r => bif Nat.beq r 6 then .take 0 (.take 1 (.take 2 (.take 3 (.take 4 (.take 5 (.take 6 (.take 7 (.take 8 (.take 9 (.alt 10 [] (.take 11 (.take 12 (.take 13 (.eff 14 [4, 9] (.eff 15 [] (.take 16 (.done))))))) 14 [4, 9] (.eff 10 [] (.take 11 (.take 12 (.take 13 (.eff 15 [] (.take 16 (.done))))))))))))))))) else bif Nat.beq r 8 then .take 0 (.take 1 (.take 2 (.take 3 (.take 4 (.take 5 (.take 6 (.take 7 (.take 8 (.take 9 (.take 10 (.take 11 (.take 12 (.take 13 (.eff 14 [1] (.eff 15 [] (.take 16 (.eff 17 [] (.done)))))))))))))))))) else bif Nat.beq r 9 then .take 0 (.take 1 (.take 2 (.take 3 (.take 4 (.take 5 (.take 6 (.take 7 (.take 8 (.eff 9 [] (.done)))))))))) else .done, spec := fun c => bif Nat.beq c 0 then ⟨[(5, .ii .i64)], 60⟩ else ⟨[], 0⟩, iter := fun _ => none }
def tab51 : Tab Tryz.prog := ⟨[E99, E100], fnT⟩
theorem ok51 : okFn Tryz.prog aux51 Tryz.f51 1 = true := by kernel_rfl
theorem x51 (p0 : Sl) (K : Value → HP) : bodyX Tryz.prog tab51 aux51 Tryz.f51 [p0.v] K = S.rf14_Scan p0 (fun r0 => K (r0.v)) := by kernel_rfl
def E51 : Entry Tryz.prog := ⟨51, S.rf14_Scan_run, fun xs K w h => by
  obtain ⟨eb, h⟩ := ar1 h
  obtain ⟨p0, e0, h⟩ := asL_inv h
  rw [e0] at eb
  subst eb
  exact body_sound mixed Tryz.func51 ok51 Tryz.call51 rfl (by rw [x51]; exact h)⟩
def aux52 : Aux := auxD
def tab52 : Tab Tryz.prog := ⟨[], fnT⟩
theorem ok52 : okFn Tryz.prog aux52 Tryz.f52 2 = true := by kernel_rfl
theorem x52 (p0 : Int) (p1 : Int) (K : Value → HP) : bodyX Tryz.prog tab52 aux52 Tryz.f52 [.int .i64 p0, .int .i64 p1] K = S.rf18_more p0 p1 (fun r0 => K (.int .i64 r0)) := by kernel_rfl
def E52 : Entry Tryz.prog := ⟨52, S.rf18_more_run, fun xs K w h => by
  obtain ⟨eb, h⟩ := ar2 h
  obtain ⟨p0, e0, h⟩ := asI_inv h
  obtain ⟨p1, e1, h⟩ := asI_inv h
  rw [e0, e1] at eb
  subst eb
  exact body_sound mixed Tryz.func52 ok52 Tryz.call52 rfl (by rw [x52]; exact h)⟩
def aux143 : Aux := auxD
def tab143 : Tab Tryz.prog := ⟨[E138], fnT⟩
theorem ok143 : okFn Tryz.prog aux143 Tryz.f143 1 = true := by kernel_rfl
theorem x143 (p0 : Option Addr) (K : Value → HP) : bodyX Tryz.prog tab143 aux143 Tryz.f143 [.pointer p0] K = S.rf04_Disk_SyncDir p0 (fun r0 => K (.int .i64 r0)) := by kernel_rfl
def E143 : Entry Tryz.prog := ⟨143, S.rf04_Disk_SyncDir_run, fun xs K w h => by
  obtain ⟨eb, h⟩ := ar1 h
  obtain ⟨p0, e0, h⟩ := asP_inv h
  rw [e0] at eb
  subst eb
  exact body_sound mixed Tryz.func143 ok143 Tryz.call143 rfl (by rw [x143]; exact h)⟩
def aux144 : Aux := auxD
def tab144 : Tab Tryz.prog := ⟨[], fnT⟩
theorem ok144 : okFn Tryz.prog aux144 Tryz.f144 1 = true := by kernel_rfl
theorem x144 (p0 : Int) (K : Value → HP) : bodyX Tryz.prog tab144 aux144 Tryz.f144 [.int .i64 p0] K = S.rf16_bad p0 (fun r0 => K (.bool r0)) := by kernel_rfl
def E144 : Entry Tryz.prog := ⟨144, S.rf16_bad_run, fun xs K w h => by
  obtain ⟨eb, h⟩ := ar1 h
  obtain ⟨p0, e0, h⟩ := asI_inv h
  rw [e0] at eb
  subst eb
  exact body_sound mixed Tryz.func144 ok144 Tryz.call144 rfl (by rw [x144]; exact h)⟩
def aux102 : Aux := auxD
def tab102 : Tab Tryz.prog := ⟨[E143, E144], fnT⟩
theorem ok102 : okFn Tryz.prog aux102 Tryz.f102 1 = true := by kernel_rfl
theorem x102 (p0 : Option Addr) (K : Value → HP) : bodyX Tryz.prog tab102 aux102 Tryz.f102 [.pointer p0] K = S.rf16_SyncDir p0 (fun r0 => K (.int .i64 r0)) := by kernel_rfl
def E102 : Entry Tryz.prog := ⟨102, S.rf16_SyncDir_run, fun xs K w h => by
  obtain ⟨eb, h⟩ := ar1 h
  obtain ⟨p0, e0, h⟩ := asP_inv h
  rw [e0] at eb
  subst eb
  exact body_sound mixed Tryz.func102 ok102 Tryz.call102 rfl (by rw [x102]; exact h)⟩
def aux53 : Aux := auxD
def tab53 : Tab Tryz.prog := ⟨[E98, E101, E102], fnT⟩
theorem ok53 : okFn Tryz.prog aux53 Tryz.f53 2 = true := by kernel_rfl
theorem x53 (p0 : Option Addr) (p1 : ByteArray) (K : Value → HP) : bodyX Tryz.prog tab53 aux53 Tryz.f53 [.pointer p0, .string p1] K = S.rf16_Drop p0 p1 (fun r0 => K (.int .i64 r0)) := by kernel_rfl
def E53 : Entry Tryz.prog := ⟨53, S.rf16_Drop_run, fun xs K w h => by
  obtain ⟨eb, h⟩ := ar2 h
  obtain ⟨p0, e0, h⟩ := asP_inv h
  obtain ⟨p1, e1, h⟩ := asS_inv h
  rw [e0, e1] at eb
  subst eb
  exact body_sound mixed Tryz.func53 ok53 Tryz.call53 rfl (by rw [x53]; exact h)⟩
def aux54 : Aux := { plan := fun r => bif Nat.beq r 1 then .take 0 (.take 1 (.take 2 (.take 4 (.take 5 (.take 6 (.eff 3 [5] (.eff 7 [] (.take 8 (.done))))))))) else .done, spec := fun _ => ⟨[], 0⟩, iter := fun _ => none }
def tab54 : Tab Tryz.prog := ⟨[E52], fnT⟩
theorem ok54 : okFn Tryz.prog aux54 Tryz.f54 2 = true := by kernel_rfl
theorem x54 (p0 : Int) (p1 : G_api_Rec) (K : Value → HP) : bodyX Tryz.prog tab54 aux54 Tryz.f54 [.int .i64 p0, p1.v] K = S.rf18_count p0 p1 (fun r0 => K (.int .i64 r0)) := by kernel_rfl
def E54 : Entry Tryz.prog := ⟨54, S.rf18_count_run, fun xs K w h => by
  obtain ⟨eb, h⟩ := ar2 h
  obtain ⟨p0, e0, h⟩ := asI_inv h
  obtain ⟨p1, e1, h⟩ := as_G_api_Rec_inv h
  rw [e0, e1] at eb
  subst eb
  exact body_sound mixed Tryz.func54 ok54 Tryz.call54 rfl (by rw [x54]; exact h)⟩
def aux13 : Aux := { plan := fun r => bif Nat.beq r 17 then .take 0 (.take 1 (.take 2 (.take 3 (.take 4 (.take 5 (.take 6 (.take 7 (.take 8 (.take 9 (.take 10 (.take 11 (.take 12 (.take 13 (.take 14 (.take 15 (.done)))))))))))))))) else bif Nat.beq r 19 then .take 0 (.take 1 (.take 2 (.take 3 (.take 4 (.take 5 (.take 6 (.take 7 (.take 8 (.take 9 (.take 10 (.take 11 (.take 12 (.eff 13 [4] (.eff 14 [] (.take 15 (.take 16 (.eff 17 [] (.done)))))))))))))))))) else bif Nat.beq r 37 then .take 0 (.take 1 (.take 2 (.take 3 (.take 4 (.take 5 (.take 6 (.take 7 (.take 8 (.take 9 (.take 10 (.take 11 (.take 12 (.take 13 (.take 14 (.take 15 (.take 16 (.eff 17 [] (.take 18 (.take 19 (.eff 20 [] (.done))))))))))))))))))))) else .done, spec := fun c => bif Nat.beq c 0 then ⟨[(10, .ii .i64), (11, .ii .i64)], 3587⟩ else bif Nat.beq c 2 then ⟨[(10, .ii .i64), (15, .ii .i64)], 56835⟩ else bif Nat.beq c 4 then ⟨[(16, .ll), (17, .ii .i64)], 198147⟩ else bif Nat.beq c 6 then ⟨[(19, .ii .i64)], 722435⟩ else ⟨[], 0⟩, iter := fun _ => none }
def tab13 : Tab Tryz.prog := ⟨[E9, E34, E49, E50, E51, E52, E53, E54], fnT⟩
theorem ok13 : okFn Tryz.prog aux13 Tryz.f13 3 = true := by kernel_rfl
theorem x13 (p0 : Option Addr) (p1 : Int) (p2 : Int) (K : Value → HP) : bodyX Tryz.prog tab13 aux13 Tryz.f13 [.pointer p0, .int .i64 p1, .int .i64 p2] K = S.rf18_Open p0 p1 p2 (fun r0 r1 => K (.tuple #[.pointer r0, .int .i64 r1])) := by kernel_rfl
def E13 : Entry Tryz.prog := ⟨13, S.rf18_Open_run, fun xs K w h => by
  obtain ⟨eb, h⟩ := ar3 h
  obtain ⟨p0, e0, h⟩ := asP_inv h
  obtain ⟨p1, e1, h⟩ := asI_inv h
  obtain ⟨p2, e2, h⟩ := asI_inv h
  rw [e0, e1, e2] at eb
  subst eb
  exact body_sound mixed Tryz.func13 ok13 Tryz.call13 rfl (by rw [x13]; exact h)⟩
def aux103 : Aux := auxD
def tab103 : Tab Tryz.prog := ⟨[], fnT⟩
theorem ok103 : okFn Tryz.prog aux103 Tryz.f103 1 = true := by kernel_rfl
theorem x103 (p0 : Option Addr) (K : Value → HP) : bodyX Tryz.prog tab103 aux103 Tryz.f103 [.pointer p0] K = S.vdisk_Disk_Calls p0 (fun r0 => K (.int .i64 r0)) := by kernel_rfl
def E103 : Entry Tryz.prog := ⟨103, S.vdisk_Disk_Calls_run, fun xs K w h => by
  obtain ⟨eb, h⟩ := ar1 h
  obtain ⟨p0, e0, h⟩ := asP_inv h
  rw [e0] at eb
  subst eb
  exact body_sound mixed Tryz.func103 ok103 Tryz.call103 rfl (by rw [x103]; exact h)⟩
def aux69 : Aux := { plan := fun r => bif Nat.beq r 2 then .take 0 (.take 1 (.take 2 (.take 3 (.take 4 (.take 5 (.take 6 (.take 7 (.take 10 (.eff 8 [] (.take 9 (.done))))))))))) else .done, spec := fun c => bif Nat.beq c 0 then ⟨[(27, .ii .i64)], 234881033⟩ else bif Nat.beq c 2 then ⟨[], 4529848329⟩ else bif Nat.beq c 4 then ⟨[(8, .ll), (46, .ii .i64)], 123145302311176⟩ else ⟨[], 0⟩, iter := fun t => bif Nat.beq t 32 then some (9, 3) else none }
def tab69 : Tab Tryz.prog := ⟨[], fnT⟩
theorem ok69 : okFn Tryz.prog aux69 Tryz.f69 1 = true := by kernel_rfl
theorem x69 (p0 : Option Addr) (K : Value → HP) : bodyX Tryz.prog tab69 aux69 Tryz.f69 [.pointer p0] K = S.vdisk_Disk_known p0 (fun r0 => K (.slice r0.a r0.len r0.cap)) := by kernel_rfl
def E69 : Entry Tryz.prog := ⟨69, S.vdisk_Disk_known_run, fun xs K w h => by
  obtain ⟨eb, h⟩ := ar1 h
  obtain ⟨p0, e0, h⟩ := asP_inv h
  rw [e0] at eb
  subst eb
  exact body_sound mixed Tryz.func69 ok69 Tryz.call69 rfl (by rw [x69]; exact h)⟩
def aux104 : Aux := { plan := fun _ => .done, spec := fun c => bif Nat.beq c 0 then ⟨[(3, .ii .i64), (13, .ii .i64)], 14345⟩ else ⟨[], 0⟩, iter := fun _ => none }
def tab104 : Tab Tryz.prog := ⟨[E69], fnT⟩
theorem ok104 : okFn Tryz.prog aux104 Tryz.f104 1 = true := by kernel_rfl
theorem x104 (p0 : Option Addr) (K : Value → HP) : bodyX Tryz.prog tab104 aux104 Tryz.f104 [.pointer p0] K = S.vdisk_Disk_Waits p0 (fun r0 r1 => K (.tuple #[.int .i64 r0, .int .i64 r1])) := by kernel_rfl
def E104 : Entry Tryz.prog := ⟨104, S.vdisk_Disk_Waits_run, fun xs K w h => by
  obtain ⟨eb, h⟩ := ar1 h
  obtain ⟨p0, e0, h⟩ := asP_inv h
  rw [e0] at eb
  subst eb
  exact body_sound mixed Tryz.func104 ok104 Tryz.call104 rfl (by rw [x104]; exact h)⟩
def aux145 : Aux := { plan := fun _ => .done, spec := fun c => bif Nat.beq c 0 then ⟨[(5, .ii .i64)], 35⟩ else bif Nat.beq c 2 then ⟨[(6, .ii .i64)], 67⟩ else bif Nat.beq c 4 then ⟨[(7, .ii .i64)], 131⟩ else ⟨[], 0⟩, iter := fun _ => none }
def tab145 : Tab Tryz.prog := ⟨[], fnT⟩
theorem ok145 : okFn Tryz.prog aux145 Tryz.f145 2 = true := by kernel_rfl
theorem x145 (p0 : Option Addr) (p1 : Int) (K : Value → HP) : bodyX Tryz.prog tab145 aux145 Tryz.f145 [.pointer p0, .int .i64 p1] K = S.rf04_Disk_Known p0 p1 (fun r0 => K (.bool r0)) := by kernel_rfl
def E145 : Entry Tryz.prog := ⟨145, S.rf04_Disk_Known_run, fun xs K w h => by
  obtain ⟨eb, h⟩ := ar2 h
  obtain ⟨p0, e0, h⟩ := asP_inv h
  obtain ⟨p1, e1, h⟩ := asI_inv h
  rw [e0, e1] at eb
  subst eb
  exact body_sound mixed Tryz.func145 ok145 Tryz.call145 rfl (by rw [x145]; exact h)⟩
def aux105 : Aux := { plan := fun _ => .done, spec := fun c => bif Nat.beq c 0 then ⟨[(3, .ii .i64), (4, .ii .i64)], 25⟩ else ⟨[], 0⟩, iter := fun _ => none }
def tab105 : Tab Tryz.prog := ⟨[E145], fnT⟩
theorem ok105 : okFn Tryz.prog aux105 Tryz.f105 1 = true := by kernel_rfl
theorem x105 (p0 : Option Addr) (K : Value → HP) : bodyX Tryz.prog tab105 aux105 Tryz.f105 [.pointer p0] K = S.rf04_Disk_Writes p0 (fun r0 => K (.int .i64 r0)) := by kernel_rfl
def E105 : Entry Tryz.prog := ⟨105, S.rf04_Disk_Writes_run, fun xs K w h => by
  obtain ⟨eb, h⟩ := ar1 h
  obtain ⟨p0, e0, h⟩ := asP_inv h
  rw [e0] at eb
  subst eb
  exact body_sound mixed Tryz.func105 ok105 Tryz.call105 rfl (by rw [x105]; exact h)⟩
def aux55 : Aux := { plan := fun r => bif Nat.beq r 1 then .take 0 (.take 2 (.take 3 (.take 4 (.take 5 (.eff 1 [5] (.take 6 (.take 7 (.take 8 (.take 10 (.take 11 (.take 12 (.take 13 (.eff 9 [13] (.take 14 (.take 15 (.done)))))))))))))))) else bif Nat.beq r 13 then .take 0 (.take 1 (.take 2 (.take 3 (.take 4 (.take 5 (.take 6 (.take 7 (.take 8 (.take 9 (.take 10 (.take 11 (.take 12 (.take 13 (.take 14 (.take 15 (.take 16 (.take 17 (.take 18 (.take 19 (.take 20 (.take 21 (.take 22 (.take 23 (.take 24 (.take 25 (.take 26 (.take 27 (.take 28 (.take 29 (.take 30 (.take 31 (.take 32 (.done))))))))))))))))))))))))))))))))) else .done, spec := fun c => bif Nat.beq c 0 then ⟨[(8, .ii .i64)], 291⟩ else ⟨[], 0⟩, iter := fun _ => none }
def tab55 : Tab Tryz.prog := ⟨[E19, E42, E79, E103, E104, E105], fnT⟩
theorem ok55 : okFn Tryz.prog aux55 Tryz.f55 2 = true := by kernel_rfl
theorem x55 (p0 : Option Addr) (p1 : Option Addr) (K : Value → HP) : bodyX Tryz.prog tab55 aux55 Tryz.f55 [.pointer p0, .pointer p1] K = S.lw16_same tab55.cx p0 p1 (fun r0 => K (.bool r0)) := by kernel_rfl
def E55 : Entry Tryz.prog := ⟨55, S.lw16_same_run tab55.cx, fun xs K w h => by
  obtain ⟨eb, h⟩ := ar2 h
  obtain ⟨p0, e0, h⟩ := asP_inv h
  obtain ⟨p1, e1, h⟩ := asP_inv h
  rw [e0, e1] at eb
  subst eb
  exact body_sound mixed Tryz.func55 ok55 Tryz.call55 rfl (by rw [x55]; exact h)⟩
def aux14 : Aux := auxD
def tab14 : Tab Tryz.prog := ⟨[E55], fnT⟩
theorem ok14 : okFn Tryz.prog aux14 Tryz.f14 2 = true := by kernel_rfl
theorem x14 (p0 : Option Addr) (p1 : Option Addr) (K : Value → HP) : bodyX Tryz.prog tab14 aux14 Tryz.f14 [.pointer p0, .pointer p1] K = S.lw16_Apart tab14.cx p0 p1 (fun r0 => K (.int .i64 r0)) := by kernel_rfl
def E14 : Entry Tryz.prog := ⟨14, S.lw16_Apart_run tab14.cx, fun xs K w h => by
  obtain ⟨eb, h⟩ := ar2 h
  obtain ⟨p0, e0, h⟩ := asP_inv h
  obtain ⟨p1, e1, h⟩ := asP_inv h
  rw [e0, e1] at eb
  subst eb
  exact body_sound mixed Tryz.func14 ok14 Tryz.call14 rfl (by rw [x14]; exact h)⟩
def aux106 : Aux := auxD
def tab106 : Tab Tryz.prog := ⟨[], fnT⟩
theorem ok106 : okFn Tryz.prog aux106 Tryz.f106 1 = true := by kernel_rfl
theorem x106 (p0 : G_api_Rec) (K : Value → HP) : bodyX Tryz.prog tab106 aux106 Tryz.f106 [p0.v] K = S.rf18_Kept p0 (fun r0 => K (.bool r0)) := by kernel_rfl
def E106 : Entry Tryz.prog := ⟨106, S.rf18_Kept_run, fun xs K w h => by
  obtain ⟨eb, h⟩ := ar1 h
  obtain ⟨p0, e0, h⟩ := as_G_api_Rec_inv h
  rw [e0] at eb
  subst eb
  exact body_sound mixed Tryz.func106 ok106 Tryz.call106 rfl (by rw [x106]; exact h)⟩
def aux57 : Aux := { plan := fun r => bif Nat.beq r 10 then .take 0 (.take 1 (.take 2 (.take 3 (.take 4 (.take 5 (.take 6 (.take 7 (.take 8 (.take 9 (.take 10 (.take 11 (.take 12 (.take 13 (.eff 14 [] (.eff 15 [] (.take 16 (.done))))))))))))))))) else .done, spec := fun c => bif Nat.beq c 0 then ⟨[(3, .ll), (4, .ii .i64)], 25⟩ else bif Nat.beq c 2 then ⟨[(3, .ll), (5, .ii .i64)], 57⟩ else ⟨[], 0⟩, iter := fun _ => none }
def tab57 : Tab Tryz.prog := ⟨[E106], fnT⟩
theorem ok57 : okFn Tryz.prog aux57 Tryz.f57 1 = true := by kernel_rfl
theorem x57 (p0 : Option Addr) (K : Value → HP) : bodyX Tryz.prog tab57 aux57 Tryz.f57 [.pointer p0] K = S.rf18_Places p0 (fun r0 => K (.slice r0.a r0.len r0.cap)) := by kernel_rfl
def E57 : Entry Tryz.prog := ⟨57, S.rf18_Places_run, fun xs K w h => by
  obtain ⟨eb, h⟩ := ar1 h
  obtain ⟨p0, e0, h⟩ := asP_inv h
  rw [e0] at eb
  subst eb
  exact body_sound mixed Tryz.func57 ok57 Tryz.call57 rfl (by rw [x57]; exact h)⟩
def aux24 : Aux := auxD
def tab24 : Tab Tryz.prog := ⟨[], fnT⟩
theorem ok24 : okFn Tryz.prog aux24 Tryz.f24 2 = true := by kernel_rfl
theorem x24 (p0 : G_api_Rec) (p1 : G_api_Rec) (K : Value → HP) : bodyX Tryz.prog tab24 aux24 Tryz.f24 [p0.v, p1.v] K = S.rf14_Same p0 p1 (fun r0 => K (.bool r0)) := by kernel_rfl
def E24 : Entry Tryz.prog := ⟨24, S.rf14_Same_run, fun xs K w h => by
  obtain ⟨eb, h⟩ := ar2 h
  obtain ⟨p0, e0, h⟩ := as_G_api_Rec_inv h
  obtain ⟨p1, e1, h⟩ := as_G_api_Rec_inv h
  rw [e0, e1] at eb
  subst eb
  exact body_sound mixed Tryz.func24 ok24 Tryz.call24 rfl (by rw [x24]; exact h)⟩
def aux56 : Aux := { plan := fun r => bif Nat.beq r 6 then .take 0 (.take 1 (.take 2 (.take 3 (.take 4 (.take 5 (.take 6 (.take 7 (.take 8 (.take 9 (.take 10 (.take 11 (.take 12 (.take 13 (.take 14 (.take 15 (.take 16 (.take 17 (.take 18 (.take 19 (.take 20 (.take 21 (.take 22 (.take 23 (.take 24 (.take 25 (.take 26 (.take 27 (.take 28 (.take 29 (.take 30 (.take 31 (.take 32 (.take 33 (.take 34 (.eff 35 [] (.take 36 (.take 37 (.done)))))))))))))))))))))))))))))))))))))) else .done, spec := fun c => bif Nat.beq c 0 then ⟨[(5, .ii .i64)], 35⟩ else ⟨[], 0⟩, iter := fun _ => none }
def tab56 : Tab Tryz.prog := ⟨[E24], fnT⟩
theorem ok56 : okFn Tryz.prog aux56 Tryz.f56 2 = true := by kernel_rfl
theorem x56 (p0 : Sl) (p1 : Sl) (K : Value → HP) : bodyX Tryz.prog tab56 aux56 Tryz.f56 [p0.v, p1.v] K = S.rf18_SamePlaces p0 p1 (fun r0 => K (.bool r0)) := by kernel_rfl
def E56 : Entry Tryz.prog := ⟨56, S.rf18_SamePlaces_run, fun xs K w h => by
  obtain ⟨eb, h⟩ := ar2 h
  obtain ⟨p0, e0, h⟩ := asL_inv h
  obtain ⟨p1, e1, h⟩ := asL_inv h
  rw [e0, e1] at eb
  subst eb
  exact body_sound mixed Tryz.func56 ok56 Tryz.call56 rfl (by rw [x56]; exact h)⟩
def aux58 : Aux := { plan := fun r => bif Nat.beq r 3 then .take 0 (.take 1 (.take 2 (.take 3 (.take 4 (.take 5 (.take 6 (.take 7 (.take 8 (.take 9 (.take 10 (.take 11 (.take 12 (.take 13 (.done)))))))))))))) else .done, spec := fun _ => ⟨[], 0⟩, iter := fun _ => none }
def tab58 : Tab Tryz.prog := ⟨[], fnT⟩
theorem ok58 : okFn Tryz.prog aux58 Tryz.f58 1 = true := by kernel_rfl
theorem x58 (p0 : Option Addr) (K : Value → HP) : bodyX Tryz.prog tab58 aux58 Tryz.f58 [.pointer p0] K = S.rf18_Last p0 (fun r0 => K (.int .i64 r0)) := by kernel_rfl
def E58 : Entry Tryz.prog := ⟨58, S.rf18_Last_run, fun xs K w h => by
  obtain ⟨eb, h⟩ := ar1 h
  obtain ⟨p0, e0, h⟩ := asP_inv h
  rw [e0] at eb
  subst eb
  exact body_sound mixed Tryz.func58 ok58 Tryz.call58 rfl (by rw [x58]; exact h)⟩
def aux59 : Aux := { plan := fun _ => .done, spec := fun c => bif Nat.beq c 0 then ⟨[(3, .ii .i64), (4, .ii .i64)], 25⟩ else ⟨[], 0⟩, iter := fun _ => none }
def tab59 : Tab Tryz.prog := ⟨[], fnT⟩
theorem ok59 : okFn Tryz.prog aux59 Tryz.f59 1 = true := by kernel_rfl
theorem x59 (p0 : Option Addr) (K : Value → HP) : bodyX Tryz.prog tab59 aux59 Tryz.f59 [.pointer p0] K = S.rf18_Broken p0 (fun r0 => K (.int .i64 r0)) := by kernel_rfl
def E59 : Entry Tryz.prog := ⟨59, S.rf18_Broken_run, fun xs K w h => by
  obtain ⟨eb, h⟩ := ar1 h
  obtain ⟨p0, e0, h⟩ := asP_inv h
  rw [e0] at eb
  subst eb
  exact body_sound mixed Tryz.func59 ok59 Tryz.call59 rfl (by rw [x59]; exact h)⟩
def aux60 : Aux := { plan := fun _ => .done, spec := fun c => bif Nat.beq c 0 then ⟨[(3, .ll), (11, .ii .i64)], 3592⟩ else ⟨[], 0⟩, iter := fun _ => none }
def tab60 : Tab Tryz.prog := ⟨[], fnT⟩
theorem ok60 : okFn Tryz.prog aux60 Tryz.f60 1 = true := by kernel_rfl
theorem x60 (p0 : Option Addr) (K : Value → HP) : bodyX Tryz.prog tab60 aux60 Tryz.f60 [.pointer p0] K = S.dbox_Box_Containers p0 (fun r0 => K (.slice r0.a r0.len r0.cap)) := by kernel_rfl
def E60 : Entry Tryz.prog := ⟨60, S.dbox_Box_Containers_run, fun xs K w h => by
  obtain ⟨eb, h⟩ := ar1 h
  obtain ⟨p0, e0, h⟩ := asP_inv h
  rw [e0] at eb
  subst eb
  exact body_sound mixed Tryz.func60 ok60 Tryz.call60 rfl (by rw [x60]; exact h)⟩
def aux15 : Aux := { plan := fun r => bif Nat.beq r 1 then .take 0 (.take 2 (.eff 1 [] (.eff 3 [] (.eff 4 [] (.take 5 (.take 6 (.take 7 (.take 9 (.take 10 (.take 11 (.take 12 (.eff 8 [12] (.take 13 (.take 14 (.take 15 (.take 16 (.take 18 (.eff 17 [] (.eff 19 [] (.take 20 (.take 21 (.take 22 (.take 23 (.take 25 (.eff 24 [] (.eff 26 [] (.take 27 (.take 28 (.done))))))))))))))))))))))))))))) else bif Nat.beq r 9 then .take 0 (.take 1 (.take 2 (.take 3 (.take 4 (.take 5 (.take 6 (.take 7 (.take 8 (.take 9 (.take 10 (.take 11 (.take 12 (.done))))))))))))) else .done, spec := fun c => bif Nat.beq c 0 then ⟨[(6, .ii .i64)], 98⟩ else ⟨[], 0⟩, iter := fun _ => none }
def tab15 : Tab Tryz.prog := ⟨[E21, E23, E27, E29, E56, E57, E58, E59, E60], fnT⟩
theorem ok15 : okFn Tryz.prog aux15 Tryz.f15 2 = true := by kernel_rfl
theorem x15 (p0 : Option Addr) (p1 : Option Addr) (K : Value → HP) : bodyX Tryz.prog tab15 aux15 Tryz.f15 [.pointer p0, .pointer p1] K = S.lw18_same p0 p1 (fun r0 => K (.bool r0)) := by kernel_rfl
def E15 : Entry Tryz.prog := ⟨15, S.lw18_same_run, fun xs K w h => by
  obtain ⟨eb, h⟩ := ar2 h
  obtain ⟨p0, e0, h⟩ := asP_inv h
  obtain ⟨p1, e1, h⟩ := asP_inv h
  rw [e0, e1] at eb
  subst eb
  exact body_sound mixed Tryz.func15 ok15 Tryz.call15 rfl (by rw [x15]; exact h)⟩
def aux3 : Aux := auxD
def tab3 : Tab Tryz.prog := ⟨[E6, E7, E8, E9, E10, E11, E12, E13, E14, E15], fnT⟩
theorem x3 (p0 : Sl) (p1 : Int) (p2 : Int) (K : Value → HP) : bodyX Tryz.prog tab3 aux3 Tryz.f3 [p0.v, .int .i64 p1, .int .i64 p2] K = S.lw18_DboxOpens tab3.cx p0 p1 p2 (fun r0 => K (.bool r0)) := by kernel_rfl
def aux61 : Aux := auxD
def tab61 : Tab Tryz.prog := ⟨[], fnT⟩
theorem ok61 : okFn Tryz.prog aux61 Tryz.f61 2 = true := by kernel_rfl
theorem x61 (p0 : Int) (p1 : Int) (K : Value → HP) : bodyX Tryz.prog tab61 aux61 Tryz.f61 [.int .i64 p0, .int .i64 p1] K = S.vdisk_set p0 p1 (fun r0 => K (r0.v)) := by kernel_rfl
def E61 : Entry Tryz.prog := ⟨61, S.vdisk_set_run, fun xs K w h => by
  obtain ⟨eb, h⟩ := ar2 h
  obtain ⟨p0, e0, h⟩ := asI_inv h
  obtain ⟨p1, e1, h⟩ := asI_inv h
  rw [e0, e1] at eb
  subst eb
  exact body_sound mixed Tryz.func61 ok61 Tryz.call61 rfl (by rw [x61]; exact h)⟩
def aux16 : Aux := auxD
def tab16 : Tab Tryz.prog := ⟨[E61], fnT⟩
theorem ok16 : okFn Tryz.prog aux16 Tryz.f16 2 = true := by kernel_rfl
theorem x16 (p0 : Option Addr) (p1 : Int) (K : Value → HP) : bodyX Tryz.prog tab16 aux16 Tryz.f16 [.pointer p0, .int .i64 p1] K = S.vdisk_Disk_Crash p0 p1 (K (.tuple #[])) := by kernel_rfl
def E16 : Entry Tryz.prog := ⟨16, S.vdisk_Disk_Crash_run, fun xs K w h => by
  obtain ⟨eb, h⟩ := ar2 h
  obtain ⟨p0, e0, h⟩ := asP_inv h
  obtain ⟨p1, e1, h⟩ := asI_inv h
  rw [e0, e1] at eb
  subst eb
  exact body_sound mixed Tryz.func16 ok16 Tryz.call16 rfl (by rw [x16]; exact h)⟩
def aux17 : Aux := auxD
def tab17 : Tab Tryz.prog := ⟨[], fnT⟩
theorem ok17 : okFn Tryz.prog aux17 Tryz.f17 1 = true := by kernel_rfl
theorem x17 (p0 : G_api_Rec) (K : Value → HP) : bodyX Tryz.prog tab17 aux17 Tryz.f17 [p0.v] K = S.rf14_Light p0 (fun r0 => K (.bool r0)) := by kernel_rfl
def E17 : Entry Tryz.prog := ⟨17, S.rf14_Light_run, fun xs K w h => by
  obtain ⟨eb, h⟩ := ar1 h
  obtain ⟨p0, e0, h⟩ := as_G_api_Rec_inv h
  rw [e0] at eb
  subst eb
  exact body_sound mixed Tryz.func17 ok17 Tryz.call17 rfl (by rw [x17]; exact h)⟩
def aux70 : Aux := { plan := fun r => bif Nat.beq r 3 then .take 0 (.take 1 (.take 2 (.take 3 (.take 4 (.take 5 (.take 6 (.take 7 (.take 8 (.take 9 (.take 10 (.done))))))))))) else bif Nat.beq r 5 then .take 0 (.take 1 (.take 2 (.take 3 (.take 4 (.take 5 (.take 6 (.eff 7 [] (.done)))))))) else .done, spec := fun _ => ⟨[], 0⟩, iter := fun _ => none }
def tab70 : Tab Tryz.prog := ⟨[], fnT⟩
theorem ok70 : okFn Tryz.prog aux70 Tryz.f70 2 = true := by kernel_rfl
theorem x70 (p0 : Option Addr) (p1 : G_vdisk_patch) (K : Value → HP) : bodyX Tryz.prog tab70 aux70 Tryz.f70 [.pointer p0, p1.v] K = S.vdisk_keepers_next p0 p1 (fun r0 => K (r0.v)) := by kernel_rfl
def E70 : Entry Tryz.prog := ⟨70, S.vdisk_keepers_next_run, fun xs K w h => by
  obtain ⟨eb, h⟩ := ar2 h
  obtain ⟨p0, e0, h⟩ := asP_inv h
  obtain ⟨p1, e1, h⟩ := as_G_vdisk_patch_inv h
  rw [e0, e1] at eb
  subst eb
  exact body_sound mixed Tryz.func70 ok70 Tryz.call70 rfl (by rw [x70]; exact h)⟩
def aux22 : Aux := { plan := fun r => bif Nat.beq r 13 then .take 0 (.take 1 (.take 2 (.take 3 (.take 4 (.take 5 (.eff 6 [] (.take 7 (.take 8 (.eff 9 [] (.done)))))))))) else bif Nat.beq r 22 then .take 0 (.take 1 (.take 2 (.take 3 (.take 4 (.eff 5 [] (.done)))))) else .done, spec := fun c => bif Nat.beq c 0 then ⟨[(24, .ii .i64)], 29360259⟩ else bif Nat.beq c 2 then ⟨[(40, .ii .i64)], 1924174709379⟩ else bif Nat.beq c 4 then ⟨[(75, .ii .i64)], 66113130760175032991747⟩ else ⟨[], 0⟩, iter := fun _ => none }
def tab22 : Tab Tryz.prog := ⟨[E37, E68, E69, E70, E71, E72, E73], fnT⟩
theorem ok22 : okFn Tryz.prog aux22 Tryz.f22 3 = true := by kernel_rfl
theorem x22 (p0 : Option Addr) (p1 : Int) (p2 : Sl) (K : Value → HP) : bodyX Tryz.prog tab22 aux22 Tryz.f22 [.pointer p0, .int .i64 p1, p2.v] K = S.vdisk_Disk_Boot p0 p1 p2 (fun r0 => K (.int .i64 r0)) := by kernel_rfl
def E22 : Entry Tryz.prog := ⟨22, S.vdisk_Disk_Boot_run, fun xs K w h => by
  obtain ⟨eb, h⟩ := ar3 h
  obtain ⟨p0, e0, h⟩ := asP_inv h
  obtain ⟨p1, e1, h⟩ := asI_inv h
  obtain ⟨p2, e2, h⟩ := asL_inv h
  rw [e0, e1, e2] at eb
  subst eb
  exact body_sound mixed Tryz.func22 ok22 Tryz.call22 rfl (by rw [x22]; exact h)⟩
def aux4 : Aux := { plan := fun r => bif Nat.beq r 34 then .take 0 (.take 1 (.take 2 (.take 3 (.take 4 (.take 5 (.take 6 (.take 7 (.take 8 (.take 9 (.take 10 (.take 11 (.take 12 (.take 13 (.take 14 (.take 15 (.take 16 (.take 17 (.take 18 (.take 19 (.take 20 (.take 21 (.take 22 (.take 23 (.take 24 (.take 25 (.take 26 (.eff 27 [] (.take 28 (.take 29 (.take 30 (.done))))))))))))))))))))))))))))))) else bif Nat.beq r 39 then .take 0 (.take 1 (.take 2 (.take 3 (.take 4 (.take 5 (.take 6 (.take 7 (.take 8 (.eff 9 [] (.take 10 (.done))))))))))) else .done, spec := fun c => bif Nat.beq c 0 then ⟨[(14, .ll), (16, .ii .i64)], 120859⟩ else bif Nat.beq c 2 then ⟨[(22, .ii .i64)], 6307840⟩ else ⟨[], 0⟩, iter := fun _ => none }
def tab4 : Tab Tryz.prog := ⟨[E6, E10, E12, E16, E17, E18, E19, E20, E21, E22, E23, E24], fnT⟩
theorem ok4 : okFn Tryz.prog aux4 Tryz.f4 5 = true := by kernel_rfl
theorem x4 (p0 : Int) (p1 : Sl) (p2 : Int) (p3 : Int) (p4 : Sl) (K : Value → HP) : bodyX Tryz.prog tab4 aux4 Tryz.f4 [.int .i64 p0, p1.v, .int .i64 p2, .int .i64 p3, p4.v] K = S.lw18_DboxSure tab4.cx p0 p1 p2 p3 p4 (fun r0 => K (.bool r0)) := by kernel_rfl
def E4 : Entry Tryz.prog := ⟨4, S.lw18_DboxSure_run tab4.cx, fun xs K w h => by
  obtain ⟨eb, h⟩ := ar5 h
  obtain ⟨p0, e0, h⟩ := asI_inv h
  obtain ⟨p1, e1, h⟩ := asL_inv h
  obtain ⟨p2, e2, h⟩ := asI_inv h
  obtain ⟨p3, e3, h⟩ := asI_inv h
  obtain ⟨p4, e4, h⟩ := asL_inv h
  rw [e0, e1, e2, e3, e4] at eb
  subst eb
  exact body_sound mixed Tryz.func4 ok4 Tryz.call4 rfl (by rw [x4]; exact h)⟩
def aux25 : Aux := { plan := fun _ => .done, spec := fun c => bif Nat.beq c 0 then ⟨[(5, .ll), (6, .ii .i64)], 99⟩ else ⟨[], 0⟩, iter := fun _ => none }
def tab25 : Tab Tryz.prog := ⟨[], fnT⟩
theorem ok25 : okFn Tryz.prog aux25 Tryz.f25 2 = true := by kernel_rfl
theorem x25 (p0 : Sl) (p1 : Int) (K : Value → HP) : bodyX Tryz.prog tab25 aux25 Tryz.f25 [p0.v, .int .i64 p1] K = S.lw18_left p0 p1 (fun r0 => K (.slice r0.a r0.len r0.cap)) := by kernel_rfl
def E25 : Entry Tryz.prog := ⟨25, S.lw18_left_run, fun xs K w h => by
  obtain ⟨eb, h⟩ := ar2 h
  obtain ⟨p0, e0, h⟩ := asL_inv h
  obtain ⟨p1, e1, h⟩ := asI_inv h
  rw [e0, e1] at eb
  subst eb
  exact body_sound mixed Tryz.func25 ok25 Tryz.call25 rfl (by rw [x25]; exact h)⟩
def aux75 : Aux := auxD
def tab75 : Tab Tryz.prog := ⟨[E62, E63], fnT⟩
theorem ok75 : okFn Tryz.prog aux75 Tryz.f75 1 = true := by kernel_rfl
theorem x75 (p0 : G_api_Rec) (K : Value → HP) : bodyX Tryz.prog tab75 aux75 Tryz.f75 [p0.v] K = S.dbox_Box_Compact_1 p0 (fun r0 => K (.bool r0)) := by kernel_rfl
def E75 : Entry Tryz.prog := ⟨75, S.dbox_Box_Compact_1_run, fun xs K w h => by
  obtain ⟨eb, h⟩ := ar1 h
  obtain ⟨p0, e0, h⟩ := as_G_api_Rec_inv h
  rw [e0] at eb
  subst eb
  exact body_sound mixed Tryz.func75 ok75 Tryz.call75 rfl (by rw [x75]; exact h)⟩
def aux113 : Aux := { plan := fun _ => .done, spec := fun c => bif Nat.beq c 0 then ⟨[(8, .ii .i64)], 387⟩ else ⟨[], 0⟩, iter := fun _ => none }
def tab113 : Tab Tryz.prog := ⟨[], fnT⟩
theorem ok113 : okFn Tryz.prog aux113 Tryz.f113 2 = true := by kernel_rfl
theorem x113 (p0 : Sl) (p1 : FV) (K : Value → HP) : bodyX Tryz.prog tab113 aux113 Tryz.f113 [p0.v, p1.v] K = S.slices_IndexFunc_api_Rec_api_Rec tab113.cx p0 p1 (fun r0 => K (.int .i64 r0)) := by kernel_rfl
def E113 : Entry Tryz.prog := ⟨113, S.slices_IndexFunc_api_Rec_api_Rec_run tab113.cx, fun xs K w h => by
  obtain ⟨eb, h⟩ := ar2 h
  obtain ⟨p0, e0, h⟩ := asL_inv h
  obtain ⟨p1, e1, h⟩ := asF_inv h
  rw [e0, e1] at eb
  subst eb
  exact body_sound mixed Tryz.func113 ok113 Tryz.call113 rfl (by rw [x113]; exact h)⟩
def aux74 : Aux := auxD
def tab74 : Tab Tryz.prog := ⟨[E113], fnT⟩
theorem ok74 : okFn Tryz.prog aux74 Tryz.f74 2 = true := by kernel_rfl
theorem x74 (p0 : Sl) (p1 : FV) (K : Value → HP) : bodyX Tryz.prog tab74 aux74 Tryz.f74 [p0.v, p1.v] K = S.slices_ContainsFunc_api_Rec_api_Rec tab74.cx p0 p1 (fun r0 => K (.bool r0)) := by kernel_rfl
def E74 : Entry Tryz.prog := ⟨74, S.slices_ContainsFunc_api_Rec_api_Rec_run tab74.cx, fun xs K w h => by
  obtain ⟨eb, h⟩ := ar2 h
  obtain ⟨p0, e0, h⟩ := asL_inv h
  obtain ⟨p1, e1, h⟩ := asF_inv h
  rw [e0, e1] at eb
  subst eb
  exact body_sound mixed Tryz.func74 ok74 Tryz.call74 rfl (by rw [x74]; exact h)⟩
def aux116 : Aux := auxD
def tab116 : Tab Tryz.prog := ⟨[E117], fnT⟩
theorem ok116 : okFn Tryz.prog aux116 Tryz.f116 2 = true := by kernel_rfl
theorem x116 (p0 : Addr) (p1 : Addr) (K : Value → HP) : bodyX Tryz.prog tab116 aux116 Tryz.f116 [.pointer (some p0), .pointer (some p1)] K = S.safe_Swap_1 p0 p1 (fun r0 => K (.int .i64 r0)) := by kernel_rfl
def E116 : Entry Tryz.prog := ⟨116, S.safe_Swap_1_run, fun xs K w h => by
  obtain ⟨eb, h⟩ := ar2 h
  obtain ⟨p0, e0, h⟩ := asA_inv h
  obtain ⟨p1, e1, h⟩ := asA_inv h
  rw [e0, e1] at eb
  subst eb
  exact body_sound mixed Tryz.func116 ok116 Tryz.call116 rfl (by rw [x116]; exact h)⟩
def aux118 : Aux := auxD
def tab118 : Tab Tryz.prog := ⟨[E111], fnT⟩
theorem ok118 : okFn Tryz.prog aux118 Tryz.f118 3 = true := by kernel_rfl
theorem x118 (p0 : Addr) (p1 : Addr) (p2 : Addr) (K : Value → HP) : bodyX Tryz.prog tab118 aux118 Tryz.f118 [.pointer (some p0), .pointer (some p1), .pointer (some p2)] K = S.safe_Swap_2 tab118.cx p0 p1 p2 (fun r0 => K (.int .i64 r0)) := by kernel_rfl
def E118 : Entry Tryz.prog := ⟨118, S.safe_Swap_2_run tab118.cx, fun xs K w h => by
  obtain ⟨eb, h⟩ := ar3 h
  obtain ⟨p0, e0, h⟩ := asA_inv h
  obtain ⟨p1, e1, h⟩ := asA_inv h
  obtain ⟨p2, e2, h⟩ := asA_inv h
  rw [e0, e1, e2] at eb
  subst eb
  exact body_sound mixed Tryz.func118 ok118 Tryz.call118 rfl (by rw [x118]; exact h)⟩
def aux120 : Aux := auxD
def tab120 : Tab Tryz.prog := ⟨[E35, E67, E132, E159], fnT⟩
theorem ok120 : okFn Tryz.prog aux120 Tryz.f120 3 = true := by kernel_rfl
theorem x120 (p0 : Option Addr) (p1 : ByteArray) (p2 : ByteArray) (K : Value → HP) : bodyX Tryz.prog tab120 aux120 Tryz.f120 [.pointer p0, .string p1, .string p2] K = S.vdisk_Disk_Rename p0 p1 p2 (fun r0 => K (.int .i64 r0)) := by kernel_rfl
def E120 : Entry Tryz.prog := ⟨120, S.vdisk_Disk_Rename_run, fun xs K w h => by
  obtain ⟨eb, h⟩ := ar3 h
  obtain ⟨p0, e0, h⟩ := asP_inv h
  obtain ⟨p1, e1, h⟩ := asS_inv h
  obtain ⟨p2, e2, h⟩ := asS_inv h
  rw [e0, e1, e2] at eb
  subst eb
  exact body_sound mixed Tryz.func120 ok120 Tryz.call120 rfl (by rw [x120]; exact h)⟩
def aux119 : Aux := auxD
def tab119 : Tab Tryz.prog := ⟨[E120], fnT⟩
theorem ok119 : okFn Tryz.prog aux119 Tryz.f119 3 = true := by kernel_rfl
theorem x119 (p0 : Addr) (p1 : Addr) (p2 : Addr) (K : Value → HP) : bodyX Tryz.prog tab119 aux119 Tryz.f119 [.pointer (some p0), .pointer (some p1), .pointer (some p2)] K = S.safe_Swap_3 p0 p1 p2 (fun r0 => K (.int .i64 r0)) := by kernel_rfl
def E119 : Entry Tryz.prog := ⟨119, S.safe_Swap_3_run, fun xs K w h => by
  obtain ⟨eb, h⟩ := ar3 h
  obtain ⟨p0, e0, h⟩ := asA_inv h
  obtain ⟨p1, e1, h⟩ := asA_inv h
  obtain ⟨p2, e2, h⟩ := asA_inv h
  rw [e0, e1, e2] at eb
  subst eb
  exact body_sound mixed Tryz.func119 ok119 Tryz.call119 rfl (by rw [x119]; exact h)⟩
def aux121 : Aux := auxD
def tab121 : Tab Tryz.prog := ⟨[E20, E97], fnT⟩
theorem ok121 : okFn Tryz.prog aux121 Tryz.f121 1 = true := by kernel_rfl
theorem x121 (p0 : Addr) (K : Value → HP) : bodyX Tryz.prog tab121 aux121 Tryz.f121 [.pointer (some p0)] K = S.safe_Swap_4 tab121.cx p0 (fun r0 => K (.int .i64 r0)) := by kernel_rfl
def E121 : Entry Tryz.prog := ⟨121, S.safe_Swap_4_run tab121.cx, fun xs K w h => by
  obtain ⟨eb, h⟩ := ar1 h
  obtain ⟨p0, e0, h⟩ := asA_inv h
  rw [e0] at eb
  subst eb
  exact body_sound mixed Tryz.func121 ok121 Tryz.call121 rfl (by rw [x121]; exact h)⟩
def aux78 : Aux := auxD
def tab78 : Tab Tryz.prog := ⟨[E88, E93, E94, E116, E118, E119, E121, E122], fnT⟩
theorem ok78 : okFn Tryz.prog aux78 Tryz.f78 3 = true := by kernel_rfl
theorem x78 (p0 : Option Addr) (p1 : ByteArray) (p2 : Sl) (K : Value → HP) : bodyX Tryz.prog tab78 aux78 Tryz.f78 [.pointer p0, .string p1, p2.v] K = S.safe_Swap tab78.cx p0 p1 p2 (fun r0 => K (.int .i64 r0)) := by kernel_rfl
def E78 : Entry Tryz.prog := ⟨78, S.safe_Swap_run tab78.cx, fun xs K w h => by
  obtain ⟨eb, h⟩ := ar3 h
  obtain ⟨p0, e0, h⟩ := asP_inv h
  obtain ⟨p1, e1, h⟩ := asS_inv h
  obtain ⟨p2, e2, h⟩ := asL_inv h
  rw [e0, e1, e2] at eb
  subst eb
  exact body_sound mixed Tryz.func78 ok78 Tryz.call78 rfl (by rw [x78]; exact h)⟩
def aux26 : Aux := { plan := fun r => bif Nat.beq r 17 then .take 0 (.take 1 (.take 2 (.take 3 (.take 4 (.take 5 (.take 6 (.take 7 (.take 8 (.take 10 (.eff 9 [3] (.eff 11 [] (.take 12 (.done))))))))))))) else bif Nat.beq r 26 then .take 0 (.take 1 (.take 2 (.take 3 (.take 4 (.take 5 (.eff 6 [4] (.take 7 (.take 8 (.take 9 (.eff 10 [] (.done))))))))))) else bif Nat.beq r 31 then .take 0 (.take 1 (.take 2 (.take 3 (.take 4 (.take 5 (.take 6 (.take 7 (.take 8 (.take 9 (.eff 10 [3] (.eff 11 [] (.take 12 (.done))))))))))))) else .done, spec := fun c => bif Nat.beq c 0 then ⟨[(7, .ll), (37, .ii .i64)], 240518168803⟩ else bif Nat.beq c 2 then ⟨[(96, .ii .i64)], 138649284399962590788701921281⟩ else bif Nat.beq c 4 then ⟨[(113, .ii .i64)], 18173039004871896699856737152270337⟩ else ⟨[], 0⟩, iter := fun _ => none }
def tab26 : Tab Tryz.prog := ⟨[E8, E29, E47, E48, E74, E75, E76, E77, E78], fnT⟩
theorem ok26 : okFn Tryz.prog aux26 Tryz.f26 2 = true := by kernel_rfl
theorem x26 (p0 : Option Addr) (p1 : Sl) (K : Value → HP) : bodyX Tryz.prog tab26 aux26 Tryz.f26 [.pointer p0, p1.v] K = S.dbox_Box_Compact tab26.cx p0 p1 (fun r0 => K (.int .i64 r0)) := by kernel_rfl
def E26 : Entry Tryz.prog := ⟨26, S.dbox_Box_Compact_run tab26.cx, fun xs K w h => by
  obtain ⟨eb, h⟩ := ar2 h
  obtain ⟨p0, e0, h⟩ := asP_inv h
  obtain ⟨p1, e1, h⟩ := asL_inv h
  rw [e0, e1] at eb
  subst eb
  exact body_sound mixed Tryz.func26 ok26 Tryz.call26 rfl (by rw [x26]; exact h)⟩
def aux5 : Aux := { plan := fun r => bif Nat.beq r 35 then .take 0 (.take 1 (.take 2 (.take 3 (.take 4 (.take 5 (.take 6 (.take 7 (.take 8 (.take 9 (.eff 10 [] (.take 11 (.take 12 (.done))))))))))))) else bif Nat.beq r 36 then .take 0 (.take 1 (.take 2 (.take 3 (.take 4 (.take 5 (.take 6 (.take 7 (.take 8 (.take 9 (.take 10 (.eff 11 [] (.take 12 (.take 13 (.done)))))))))))))) else .done, spec := fun c => bif Nat.beq c 0 then ⟨[(16, .ii .i64)], 90175⟩ else bif Nat.beq c 2 then ⟨[(24, .bb), (25, .bb), (26, .ii .i64)], 127270912⟩ else ⟨[], 0⟩, iter := fun _ => none }
def tab5 : Tab Tryz.prog := ⟨[E6, E10, E12, E16, E17, E18, E19, E20, E21, E22, E23, E24, E25, E26, E27], fnT⟩
theorem x5 (p0 : Int) (p1 : Sl) (p2 : Int) (p3 : Int) (p4 : Int) (p5 : Sl) (K : Value → HP) : bodyX Tryz.prog tab5 aux5 Tryz.f5 [.int .i64 p0, p1.v, .int .i64 p2, .int .i64 p3, .int .i64 p4, p5.v] K = S.lw18_DboxCompacts tab5.cx p0 p1 p2 p3 p4 p5 (fun r0 => K (.bool r0)) := by kernel_rfl
end Go.Proofs
end

/- Parts of the proof that pigeonholelaw18.DboxCompacts returns true at every input and leaves the input as it was: maps.Keys and slices.Sorted, by the contracts of the kit. -/
import Derived.Test.YtjojclbfnnkajaaGreatPhA
import Derived.Ground.GgzProg
import Derived.Ground.SlgmProg
import Derived.Shelf.SlIter.Nil
import Derived.Shelf.SortM.Plain
import Derived.Shelf.SortM.SortNone
import Derived.Test.YtjojclbfnnkajaaGreatProg
import Derived.KernelRfl
section
namespace Go.Proofs
open Go.RowKit Go.Maps Go.Sort Go.Shelf
def Tryz.Ib : Go.Shelf.Ren := ⟨fun | 7 => 90 | 10 => 135 | n => n, fun | 23 => 68 | 26 => 9 | 3 => 3 | 28 => 157 | 0 => 0 | 27 => 156 | 33 => 76 | 4 => 4 | n => n, fun | n => n⟩
theorem Tryz.H7 : Go.Proofs.SlLaysZ.n7 Tryz.prog Tryz.Ib := {
 mixed := by kernel_rfl
 f7 := ⟨Tryz.f90.name, by decide, Tryz.func90.trans (congrArg some (by kernel_rfl))⟩
 f10 := ⟨Tryz.f135.name, by decide, Tryz.func135.trans (congrArg some (by kernel_rfl))⟩
 t0 := Tryz.underlying0
 a0 := Tryz.isAgg0
 z0 := Tryz.sizeOf0
 v0 := Tryz.zeroValue0
 t4 := Tryz.underlying4
 a4 := Tryz.isAgg4
 z4 := Tryz.sizeOf4
 v4 := Tryz.zeroValue4
 t23 := Tryz.underlying68
 a23 := Tryz.isAgg68
 z23 := Tryz.sizeOf68
 v23 := Tryz.zeroValue68
 t26 := Tryz.underlying9
 a26 := Tryz.isAgg9
 z26 := Tryz.sizeOf9
 v26 := Tryz.zeroValue9
 t27 := Tryz.underlying156
 a27 := Tryz.isAgg156
 z27 := Tryz.sizeOf156
 v27 := Tryz.zeroValue156
 t28 := Tryz.underlying157
 a28 := Tryz.isAgg157
 z28 := Tryz.sizeOf157
 v28 := Tryz.zeroValue157
 t33 := Tryz.underlying76
 a33 := Tryz.isAgg76
 z33 := Tryz.sizeOf76
 v33 := Tryz.zeroValue76 }
def Tryz.Nr : Go.Shelf.Ren := ⟨fun | 6 => 89 | 8 => 133 | 9 => 134 | 11 => 171 | 13 => 173 | 12 => 172 | 23 => 201 | 24 => 202 | 14 => 192 | 15 => 193 | 16 => 194 | 17 => 195 | 18 => 196 | 19 => 197 | 20 => 198 | 21 => 199 | 22 => 200 | 25 => 208 | 26 => 209 | 27 => 210 | 28 => 211 | 29 => 212 | 30 => 213 | 31 => 216 | n => n, fun | 26 => 9 | 28 => 157 | 24 => 98 | 0 => 0 | 3 => 3 | 37 => 193 | 48 => 218 | 50 => 215 | 4 => 4 | 40 => 258 | 39 => 257 | 45 => 75 | 5 => 5 | 9 => 9 | 51 => 268 | 55 => 178 | 57 => 273 | 58 => 173 | 33 => 76 | n => n, fun | n => n⟩
theorem Tryz.UR : Go.Proofs.SlLaysZ.n6 Tryz.prog Tryz.Nr := {
 mixed := by kernel_rfl
 f6 := ⟨Tryz.f89.name, by decide, Tryz.func89.trans (congrArg some (by kernel_rfl))⟩
 f8 := ⟨Tryz.f133.name, by decide, Tryz.func133.trans (congrArg some (by kernel_rfl))⟩
 f11 := ⟨Tryz.f171.name, by decide, Tryz.func171.trans (congrArg some (by kernel_rfl))⟩
 t0 := Tryz.underlying0
 a0 := Tryz.isAgg0
 z0 := Tryz.sizeOf0
 v0 := Tryz.zeroValue0
 t24 := Tryz.underlying98
 a24 := Tryz.isAgg98
 z24 := Tryz.sizeOf98
 v24 := Tryz.zeroValue98
 t26 := Tryz.underlying9
 a26 := Tryz.isAgg9
 z26 := Tryz.sizeOf9
 v26 := Tryz.zeroValue9
 t28 := Tryz.underlying157
 a28 := Tryz.isAgg157
 z28 := Tryz.sizeOf157
 v28 := Tryz.zeroValue157
 i26 := by kernel_rfl }
def Tryz.acd : Go.Shelf.Ren := ⟨fun | 6 => 134 | 8 => 173 | 9 => 172 | 19 => 201 | 20 => 202 | 21 => 192 | 22 => 193 | 23 => 194 | 24 => 195 | 25 => 196 | 26 => 197 | 27 => 198 | 28 => 199 | 29 => 200 | 36 => 208 | 31 => 209 | 32 => 210 | 37 => 211 | 38 => 212 | 39 => 213 | 41 => 216 | n => n, fun | 27 => 98 | 29 => 9 | 3 => 3 | 32 => 193 | 26 => 98 | 0 => 0 | 44 => 218 | 46 => 215 | 4 => 4 | 36 => 258 | 35 => 257 | 41 => 75 | 5 => 5 | 9 => 9 | 53 => 268 | 57 => 178 | 63 => 273 | 64 => 173 | n => n, fun | n => n⟩
theorem Tryz.Ju : Go.Proofs.SlLaysM.n6 Tryz.prog Tryz.acd := {
 mixed := by kernel_rfl
 f6 := ⟨Tryz.f134.name, by decide, Tryz.func134.trans (congrArg some (by kernel_rfl))⟩
 f8 := Tryz.func173.trans (congrArg some (by kernel_rfl))
 f9 := ⟨Tryz.f172.name, by decide, Tryz.func172.trans (congrArg some (by kernel_rfl))⟩
 f19 := Tryz.func201.trans (congrArg some (by kernel_rfl))
 f20 := Tryz.func202.trans (congrArg some (by kernel_rfl))
 f21 := ⟨Tryz.f192.name, by decide, Tryz.func192.trans (congrArg some (by kernel_rfl))⟩
 f22 := ⟨Tryz.f193.name, by decide, Tryz.func193.trans (congrArg some (by kernel_rfl))⟩
 f23 := ⟨Tryz.f194.name, by decide, Tryz.func194.trans (congrArg some (by kernel_rfl))⟩
 f24 := ⟨Tryz.f195.name, by decide, Tryz.func195.trans (congrArg some (by kernel_rfl))⟩
 f25 := ⟨Tryz.f196.name, by decide, Tryz.func196.trans (congrArg some (by kernel_rfl))⟩
 f26 := ⟨Tryz.f197.name, by decide, Tryz.func197.trans (congrArg some (by kernel_rfl))⟩
 f27 := ⟨Tryz.f198.name, by decide, Tryz.func198.trans (congrArg some (by kernel_rfl))⟩
 f28 := ⟨Tryz.f199.name, by decide, Tryz.func199.trans (congrArg some (by kernel_rfl))⟩
 f29 := ⟨Tryz.f200.name, by decide, Tryz.func200.trans (congrArg some (by kernel_rfl))⟩
 f31 := Tryz.func209.trans (congrArg some (by kernel_rfl))
 f32 := Tryz.func210.trans (congrArg some (by kernel_rfl))
 f36 := ⟨Tryz.f208.name, by decide, Tryz.func208.trans (congrArg some (by kernel_rfl))⟩
 f37 := ⟨Tryz.f211.name, by decide, Tryz.func211.trans (congrArg some (by kernel_rfl))⟩
 f38 := ⟨Tryz.f212.name, by decide, Tryz.func212.trans (congrArg some (by kernel_rfl))⟩
 f39 := ⟨Tryz.f213.name, by decide, Tryz.func213.trans (congrArg some (by kernel_rfl))⟩
 f41 := ⟨Tryz.f216.name, by decide, Tryz.func216.trans (congrArg some (by kernel_rfl))⟩
 t0 := Tryz.underlying0
 a0 := Tryz.isAgg0
 z0 := Tryz.sizeOf0
 v0 := Tryz.zeroValue0
 t3 := Tryz.underlying3
 a3 := Tryz.isAgg3
 z3 := Tryz.sizeOf3
 v3 := Tryz.zeroValue3
 t4 := Tryz.underlying4
 a4 := Tryz.isAgg4
 z4 := Tryz.sizeOf4
 v4 := Tryz.zeroValue4
 t5 := Tryz.underlying5
 a5 := Tryz.isAgg5
 z5 := Tryz.sizeOf5
 v5 := Tryz.zeroValue5
 t9 := Tryz.underlying9
 a9 := Tryz.isAgg9
 z9 := Tryz.sizeOf9
 v9 := Tryz.zeroValue9
 t26 := Tryz.underlying98
 a26 := Tryz.isAgg98
 z26 := Tryz.sizeOf98
 v26 := Tryz.zeroValue98
 t27 := Tryz.underlying98
 a27 := Tryz.isAgg98
 z27 := Tryz.sizeOf98
 v27 := Tryz.zeroValue98
 t29 := Tryz.underlying9
 a29 := Tryz.isAgg9
 z29 := Tryz.sizeOf9
 v29 := Tryz.zeroValue9
 t32 := Tryz.underlying193
 a32 := Tryz.isAgg193
 z32 := Tryz.sizeOf193
 v32 := Tryz.zeroValue193
 t35 := Tryz.underlying257
 a35 := Tryz.isAgg257
 z35 := Tryz.sizeOf257
 v35 := Tryz.zeroValue257
 t36 := Tryz.underlying258
 a36 := Tryz.isAgg258
 z36 := Tryz.sizeOf258
 v36 := Tryz.zeroValue258
 t41 := Tryz.underlying75
 a41 := Tryz.isAgg75
 z41 := Tryz.sizeOf75
 v41 := Tryz.zeroValue75
 t44 := Tryz.underlying218
 a44 := Tryz.isAgg218
 z44 := Tryz.sizeOf218
 v44 := Tryz.zeroValue218
 t46 := Tryz.underlying215
 a46 := Tryz.isAgg215
 z46 := Tryz.sizeOf215
 v46 := Tryz.zeroValue215
 t53 := Tryz.underlying268
 a53 := Tryz.isAgg268
 z53 := Tryz.sizeOf268
 v53 := Tryz.zeroValue268
 t57 := Tryz.underlying178
 a57 := Tryz.isAgg178
 z57 := Tryz.sizeOf178
 v57 := Tryz.zeroValue178
 t63 := Tryz.underlying273
 a63 := Tryz.isAgg273
 z63 := Tryz.sizeOf273
 v63 := Tryz.zeroValue273
 t64 := Tryz.underlying173
 a64 := Tryz.isAgg173
 z64 := Tryz.sizeOf173
 v64 := Tryz.zeroValue173 }
theorem Tryz.abO (m : Nat) : AnyZ.SortsIn Tryz.prog Tryz.Nr Fence.wide m :=
 ⟨fun blk off cap ss W hH hblk hsz => callsIn_wide.2 (AnyM.slices_Sort_string Tryz.Ju blk off cap ss W hH hblk hsz),
  fun p cap W => callsIn_wide.2 (AnyM.slices_Sort_string_none Tryz.Ju p cap W)⟩
theorem Tryz.QO (mb : Option Nat) (W : World) : CallsIn Fence.wide 5 Tryz.prog 90 #[.map mb] W fun e w' => e = .returned (.func (.func 135) #[] #[.pointer (some ⟨W.heap.size, 0, none⟩)]) ∧ w' = W.alloc (.cells #[.map mb] 68) :=
 AnyZ.keys_in Tryz.H7 Fence.wide 5 trivial rfl mb W
end Go.Proofs
end
section
set_option linter.all false
namespace Go.Proofs
open Go.Ph Go.Ph.S Go.ChangeMaps
theorem Ll {n : Nat} {P : Program} {f : Nat} {args : Array Value} {w : World} {R : Ending → World → Prop} (h : CallsIn Fence.wide n P f args w R) : Calls P f args w R := callsIn_wide.1 h
def aD (s : String) : Fn := bif s == "maps_Keys_vdisk_names_string_int" then .func 135 else .func 0
def PL : Entry Tryz.prog := ⟨90, S.PS ⟨pU Tryz.prog, aD⟩, fun xs K w h => by
 obtain ⟨hl, h⟩ := mj h
 obtain ⟨p0, e0, h⟩ := A4 h
 have ea := jM xs
 rw [hl] at ea
 have eb : xs = [xs.getD 0 undef] := ea
 rw [e0] at eb
 subst eb
 refine .inr ⟨90, _, enters_of Tryz.func90 (by kernel_rfl) rfl _ _, ?_⟩
 refine (Ll (Tryz.QO p0 w)).mono ?_
 rintro e w' ⟨rfl, rfl⟩
 exact ⟨_, rfl, ⟨rfl, rfl, rfl⟩, h 68⟩⟩
theorem Ez : ∀ (x y : List UInt8), Op.bytesLess x y = decide (x < y)
 | [], [] => by simp [Op.bytesLess]
 | _ :: _, [] => by simp [Op.bytesLess]
 | [], _ :: _ => by simp [Op.bytesLess]
 | a :: x, b :: y => by
  rw [Op.bytesLess, Ez x y]
  simp only [List.cons_lt_cons_iff]
  by_cases h1 : a < b <;> by_cases h2 : a = b <;> by_cases h3 : x < y <;> simp [h1, h2, h3]
theorem UO (a b : ByteArray) : eT a b = leB a.data.toList b.data.toList := by
 unfold eT slt leB
 rw [Ez, ByteArray.toList_eq, ByteArray.toList_eq, ← decide_not]
 exact decide_eq_decide.2 List.not_lt
theorem N7 {ks : List ByteArray} {ss : List (List UInt8)} (h : ss.Perm (ks.map (fun k => k.data.toList))) : (ss.mergeSort leB).map encStr = (ks.mergeSort eT).map Value.string := by
 rw [mergeSort_of_perm h, ← List.map_mergeSort (r := eT) (fun a _ b _ => UO a b), List.map_map]
 refine List.map_congr_left fun k _ => ?_
 simp [encStr]
def qT : Value → Option (DataW Unit × List MemPlace) := fun _ => some (.nil, [])
theorem afa {x : MapEntry} {k : ByteArray} (hx : x.key = .string k) (hk : k.size ≤ 9223372036854775807) : WideElems.rd Tryz.prog 9 qT x = some (.string k.data.toList, .nil) := by
 unfold WideElems.rd
 have : keyOf Tryz.prog 9 x.key = some (.string k.data.toList) := by
  rw [hx]
  have u : Tryz.prog.underlying 9 = some .string := by kernel_rfl
  have hk' : k.size ≤ maxLen := by unfold maxLen; omega
  simp only [keyOf, u, mapKey, hk', if_true]
 rw [this]; rfl
theorem ac0 {es : List MapEntry} {ks : List ByteArray} (h : es.map (·.key) = ks.map Value.string) (hk : ∀ k ∈ ks, k.size ≤ 9223372036854775807) :
  (∀ x ∈ es, ∃ y, WideElems.rd Tryz.prog 9 qT x = some y) ∧ (es.map fun x => strOf (WideElems.rg Tryz.prog 9 qT x).1) = ks.map (fun k => k.data.toList) := by
 induction es generalizing ks with
 | nil => cases ks with
  | nil => exact ⟨by simp, rfl⟩
  | cons => simp at h
 | cons e r ih => cases ks with
  | nil => simp at h
  | cons k ks =>
   simp only [List.map_cons, List.cons.injEq] at h
   have r1 := afa h.1 (hk k (by simp))
   obtain ⟨i1, i2⟩ := ih h.2 fun k hk' => hk k (by simp [hk'])
   refine ⟨fun x hx => ?_, ?_⟩
   ·rcases List.mem_cons.1 hx with rfl | hx
    ·exact ⟨_, r1⟩
    ·exact i1 x hx
   ·simp only [List.map_cons, i2]
    rw [WideElems.rg_of r1]; rfl
theorem PO (G : MapEntry → Lit × DataW Unit) (es : List MapEntry) {ss : List (List UInt8)} (h : ss.Perm (strKeys (.map ((es.map G).foldr DataW.insert [])))) : ss.Perm (es.map fun x => strOf (G x).1) := by
 refine h.trans ?_
 have := (WideShapes.sorted_perm (es.map G)).map fun p => strOf p.1
 rw [List.map_map] at this
 exact this
theorem RW (g j : Nat) : (⟨g, 0, none⟩ : Addr).add j = ⟨g, j, none⟩ := by unfold Addr.add; split <;> simp_all
theorem ad4 (xs : List Value) (K : Value → HP) (w : World) (h : S.GH ⟨pU Tryz.prog, aD⟩ xs K w.heap) : iY Tryz.prog 89 xs w K := by
 obtain ⟨hl, h⟩ := mj h
 obtain ⟨p0, e0, h⟩ := oM h
 have ea := jM xs
 rw [hl] at ea
 have eb : xs = [xs.getD 0 undef] := ea
 rw [e0] at eb
 subst eb
 obtain ⟨b, m, es, cl, ks, h1, h2, h3, h4, h5, h6, h7, h8, h9, h10, h11, hK⟩ := h
 obtain ⟨pf, p1, pc⟩ := p0
 have h1' : pf = .func 135 := h1
 subst h1'
 have h2' : p1 = #[] := h2
 subst h2'
 have h3' : pc = #[.pointer (some ⟨b, 0, none⟩)] := h3
 subst h3'
 obtain ⟨r1, r2⟩ := ac0 h6 h10
 have hlen : es.size = ks.length := by have := congrArg List.length h6; simpa using this
 have hb : b < w.heap.size := by
  have h4 : cell w.heap (af b) = _ := h4
  unfold cell at h4
  by_cases hb : b < w.heap.size
  ·exact hb
  ·have : w.heap[(af b).block]? = none := Array.getElem?_eq_none (by show w.heap.size ≤ b; omega)
   rw [this] at h4; simp at h4
 have hst : MapKept.Stamped es cl := by
  refine ⟨h7, h8, ?_⟩
  rw [h6]
  exact List.Pairwise.map _ (fun a b hab e => hab (by injection e)) h9
 have hcell : w.cell? ⟨b, 0, none⟩ = some (.map (some m)) := h4
 have hown : w.ownsMap Tryz.prog 9 qT m es.size (.map ((es.toList.map (WideElems.rg Tryz.prog 9 qT)).foldr DataW.insert [])) :=
  ⟨es, cl, h5, ⟨by unfold maxLen; omega, hst, r1⟩, Nat.le_refl _, rfl⟩
 have hsz : Maps.size (.map ((es.toList.map (WideElems.rg Tryz.prog 9 qT)).foldr DataW.insert [])) = es.size := by
  rw [Maps.size_eq, (WideShapes.sorted_perm _).length_eq]; simp
 refine .inr ⟨89, _, enters_of Tryz.func89 (by kernel_rfl) rfl _ _, ?_⟩
 have hseq := AnyZ.keys_gives (ρ := Tryz.Ib) { Tryz.H7 with } Fence.wide 2 trivial rfl (by omega) b m es.size _ w hb hcell hown
 refine (Ll (AnyZ.sorted_in Tryz.UR Fence.wide 5 trivial trivial trivial trivial rfl (by omega) (Tryz.abO _) (enters_of Tryz.func134 (by kernel_rfl) rfl) 135 #[.pointer (some ⟨b, 0, none⟩)] trivial (enters_of Tryz.func135 (by kernel_rfl) rfl) _ _ (by rw [hsz]; unfold maxLen; omega) (by rw [hsz]; omega) w hseq)).mono ?_
 rintro e w' ⟨v, ss, rfl, hss, hrow, hnil, hbl⟩
 have hperm : ss.Perm (ks.map (fun k => k.data.toList)) := by
  rw [← r2]
  exact PO _ _ hss
 have hsort := N7 hperm
 have hlen2 : ss.length = (ks.mergeSort eT).length := by rw [hperm.length_eq, List.length_mergeSort]; simp
 refine ⟨v, rfl, ⟨hbl.os, hbl.tape, hbl.output⟩, ?_⟩
 obtain ⟨q0, q⟩ := hrow
 rw [hsort] at q
 rcases q with ⟨rfl, hz⟩ | ⟨g, cap, cur, rfl, hg, hgb, c1, c2, c3, c4⟩
 ·refine hK ⟨none, 0, 0⟩ w'.heap hbl.size hbl.block ⟨?_, Nat.le_refl _, ?_⟩ (by intro a ha; cases ha)
  ·show 0 = _; omega
  ·exact ⟨List.eq_nil_of_length_eq_zero (by omega), rfl⟩
 ·refine hK ⟨some ⟨g, 0, none⟩, ss.length, cap⟩ w'.heap hbl.size hbl.block ⟨hlen2, c1, ?_⟩ (by intro a ha; cases ha; exact hg)
  refine ⟨rfl, fun j x hj => ?_⟩
  have hx : cur[j]? = some (.string x) := by
   have h1 : ((ks.mergeSort eT).map Value.string)[j]? = some (.string x) := by rw [List.getElem?_map, hj]; rfl
   rw [← c4, Nat.mul_one] at h1
   rw [List.getElem?_take] at h1
   split at h1
   ·simpa using h1
   ·cases h1
  rw [RW]
  unfold cell
  simp only [hgb]
  exact hx
def XQ : Entry Tryz.prog := ⟨89, S.GH ⟨pU Tryz.prog, aD⟩, ad4⟩
end Go.Proofs
end

/- Parts of the proof that pigeonholelaw18.DboxOpens returns true at every input and leaves the input as it was: maps.Keys and slices.Sorted, by the contracts of the kit. -/
import Derived.Test.YtjojclbfnnkajaaGreatPhA
import Derived.Ground.GgzProg
import Derived.Ground.SlgmProg
import Derived.Shelf.SlIter.Nil
import Derived.Shelf.SortM.Plain
import Derived.Shelf.SortM.SortNone
import Derived.Test.YtjojclbfnnkajaaGreatProg
import Derived.KernelRfl
section
namespace Go.Proofs
open Go.RowKit Go.Maps Go.Sort Go.Shelf
shelf_lay_g SlLaysZ.n7 Ggz 7 at Tryz 90 as Tryz.keys90
shelf_lay_g SlLaysZ.n6 Ggz 6 at Tryz 89 as Tryz.sorted89
shelf_lay_g SlLaysM.n6 Slgm 6 at Tryz 134 as Tryz.sort134
/-- slices.Sort's two contracts at this dump, at the fence that asks nothing. -/
theorem Tryz.sorts89 (m : Nat) : AnyZ.SortsIn Tryz.prog Tryz.sorted89_ren Fence.wide m :=
  ⟨fun blk off cap ss W hH hblk hsz => callsIn_wide.2 (AnyM.slices_Sort_string Tryz.sort134 blk off cap ss W hH hblk hsz),
   fun p cap W => callsIn_wide.2 (AnyM.slices_Sort_string_none Tryz.sort134 p cap W)⟩
/-- **maps.Keys[pigeonhole/vdisk.names,string,int], at whatever map, the nil one too:** a function value over ONE NEW BLOCK, which holds the map. -/
theorem Tryz.maps_Keys_90 (mb : Option Nat) (W : World) : CallsIn Fence.wide 5 Tryz.prog 90 #[.map mb] W fun e w' => e = .returned (.func (.func 135) #[] #[.pointer (some ⟨W.heap.size, 0, none⟩)]) ∧ w' = W.alloc (.cells #[.map mb] 68) :=
  AnyZ.keys_in Tryz.keys90 Fence.wide 5 trivial rfl mb W
end Go.Proofs
end
section
set_option linter.all false
namespace Go.Proofs
open Go.Ph Go.Ph.S Go.ChangeMaps
theorem calls_of_in {n : Nat} {P : Program} {f : Nat} {args : Array Value} {w : World} {R : Ending → World → Prop} (h : CallsIn Fence.wide n P f args w R) : Calls P f args w R := callsIn_wide.1 h
def fnT (s : String) : Fn := bif s == "maps_Keys_vdisk_names_string_int" then .func 135 else .func 0
def E90 : Entry Tryz.prog := ⟨90, S.maps_Keys_vdisk_names_string_int_run ⟨callV Tryz.prog, fnT⟩, fun xs K w h => by
  obtain ⟨hl, h⟩ := arity_inv h
  obtain ⟨p0, e0, h⟩ := asM_inv h
  have ea := list_eq_getD xs
  rw [hl] at ea
  have eb : xs = [xs.getD 0 undef] := ea
  rw [e0] at eb
  subst eb
  refine .inr ⟨90, _, enters_of Tryz.func90 (by kernel_rfl) rfl _ _, ?_⟩
  refine (calls_of_in (Tryz.maps_Keys_90 p0 w)).mono ?_
  rintro e w' ⟨rfl, rfl⟩
  exact ⟨_, rfl, ⟨rfl, rfl, rfl⟩, h 68⟩⟩
theorem so_less : ∀ (x y : List UInt8), Op.bytesLess x y = decide (x < y)
  | [], [] => by simp [Op.bytesLess]
  | _ :: _, [] => by simp [Op.bytesLess]
  | [], _ :: _ => by simp [Op.bytesLess]
  | a :: x, b :: y => by
    rw [Op.bytesLess, so_less x y]
    simp only [List.cons_lt_cons_iff]
    by_cases h1 : a < b <;> by_cases h2 : a = b <;> by_cases h3 : x < y <;> simp [h1, h2, h3]
theorem so_le (a b : ByteArray) : bLe a b = leB a.data.toList b.data.toList := by
  unfold bLe slt leB
  rw [so_less, ByteArray.toList_eq, ByteArray.toList_eq, ← decide_not]
  exact decide_eq_decide.2 List.not_lt
theorem so_sort {ks : List ByteArray} {ss : List (List UInt8)} (h : ss.Perm (ks.map (fun k => k.data.toList))) : (ss.mergeSort leB).map encStr = (ks.mergeSort bLe).map Value.string := by
  rw [mergeSort_of_perm h, ← List.map_mergeSort (r := bLe) (fun a _ b _ => so_le a b), List.map_map]
  refine List.map_congr_left fun k _ => ?_
  simp [encStr]
def soR : Value → Option (DataW Unit × List MemPlace) := fun _ => some (.nil, [])
theorem so_rd {x : MapEntry} {k : ByteArray} (hx : x.key = .string k) (hk : k.size ≤ 9223372036854775807) : WideElems.rd Tryz.prog 9 soR x = some (.string k.data.toList, .nil) := by
  unfold WideElems.rd
  have : keyOf Tryz.prog 9 x.key = some (.string k.data.toList) := by
    rw [hx]
    have u : Tryz.prog.underlying 9 = some .string := by kernel_rfl
    have hk' : k.size ≤ maxLen := by unfold maxLen; omega
    simp only [keyOf, u, mapKey, hk', if_true]
  rw [this]; rfl
theorem so_keys {es : List MapEntry} {ks : List ByteArray} (h : es.map (·.key) = ks.map Value.string) (hk : ∀ k ∈ ks, k.size ≤ 9223372036854775807) :
    (∀ x ∈ es, ∃ y, WideElems.rd Tryz.prog 9 soR x = some y) ∧ (es.map fun x => strOf (WideElems.rg Tryz.prog 9 soR x).1) = ks.map (fun k => k.data.toList) := by
  induction es generalizing ks with
  | nil => cases ks with
    | nil => exact ⟨by simp, rfl⟩
    | cons => simp at h
  | cons e r ih => cases ks with
    | nil => simp at h
    | cons k ks =>
      simp only [List.map_cons, List.cons.injEq] at h
      have r1 := so_rd h.1 (hk k (by simp))
      obtain ⟨i1, i2⟩ := ih h.2 fun k hk' => hk k (by simp [hk'])
      refine ⟨fun x hx => ?_, ?_⟩
      · rcases List.mem_cons.1 hx with rfl | hx
        · exact ⟨_, r1⟩
        · exact i1 x hx
      · simp only [List.map_cons, i2]
        rw [WideElems.rg_of r1]; rfl
theorem so_perm (G : MapEntry → Lit × DataW Unit) (es : List MapEntry) {ss : List (List UInt8)} (h : ss.Perm (strKeys (.map ((es.map G).foldr DataW.insert [])))) : ss.Perm (es.map fun x => strOf (G x).1) := by
  refine h.trans ?_
  have := (WideShapes.sorted_perm (es.map G)).map fun p => strOf p.1
  rw [List.map_map] at this
  exact this
theorem so_add (g j : Nat) : (⟨g, 0, none⟩ : Addr).add j = ⟨g, j, none⟩ := by unfold Addr.add; split <;> simp_all
theorem sorted_entry (xs : List Value) (K : Value → HP) (w : World) (h : S.slices_Sorted_string_run ⟨callV Tryz.prog, fnT⟩ xs K w.heap) : CallOk Tryz.prog 89 xs w K := by
  obtain ⟨hl, h⟩ := arity_inv h
  obtain ⟨p0, e0, h⟩ := asF_inv h
  have ea := list_eq_getD xs
  rw [hl] at ea
  have eb : xs = [xs.getD 0 undef] := ea
  rw [e0] at eb
  subst eb
  obtain ⟨b, m, es, cl, ks, h1, h2, h3, h4, h5, h6, h7, h8, h9, h10, h11, hK⟩ := h
  obtain ⟨pf, p1, pc⟩ := p0
  have h1' : pf = .func 135 := h1
  subst h1'
  have h2' : p1 = #[] := h2
  subst h2'
  have h3' : pc = #[.pointer (some ⟨b, 0, none⟩)] := h3
  subst h3'
  obtain ⟨r1, r2⟩ := so_keys h6 h10
  have hlen : es.size = ks.length := by have := congrArg List.length h6; simpa using this
  have hb : b < w.heap.size := by
    have h4 : cell w.heap (at0 b) = _ := h4
    unfold cell at h4
    by_cases hb : b < w.heap.size
    · exact hb
    · have : w.heap[(at0 b).block]? = none := Array.getElem?_eq_none (by show w.heap.size ≤ b; omega)
      rw [this] at h4; simp at h4
  have hst : MapKept.Stamped es cl := by
    refine ⟨h7, h8, ?_⟩
    rw [h6]
    exact List.Pairwise.map _ (fun a b hab e => hab (by injection e)) h9
  have hcell : w.cell? ⟨b, 0, none⟩ = some (.map (some m)) := h4
  have hown : w.ownsMap Tryz.prog 9 soR m es.size (.map ((es.toList.map (WideElems.rg Tryz.prog 9 soR)).foldr DataW.insert [])) :=
    ⟨es, cl, h5, ⟨by unfold maxLen; omega, hst, r1⟩, Nat.le_refl _, rfl⟩
  have hsz : Maps.size (.map ((es.toList.map (WideElems.rg Tryz.prog 9 soR)).foldr DataW.insert [])) = es.size := by
    rw [Maps.size_eq, (WideShapes.sorted_perm _).length_eq]; simp
  refine .inr ⟨89, _, enters_of Tryz.func89 (by kernel_rfl) rfl _ _, ?_⟩
  have hseq := AnyZ.keys_gives (ρ := Tryz.keys90_ren) { Tryz.keys90 with } Fence.wide 2 trivial rfl (by omega) b m es.size _ w hb hcell hown
  refine (calls_of_in (AnyZ.sorted_in Tryz.sorted89 Fence.wide 5 trivial trivial trivial trivial rfl (by omega) (Tryz.sorts89 _) (enters_of Tryz.func134 (by kernel_rfl) rfl) 135 #[.pointer (some ⟨b, 0, none⟩)] trivial (enters_of Tryz.func135 (by kernel_rfl) rfl) _ _ (by rw [hsz]; unfold maxLen; omega) (by rw [hsz]; omega) w hseq)).mono ?_
  rintro e w' ⟨v, ss, rfl, hss, hrow, hnil, hbl⟩
  have hperm : ss.Perm (ks.map (fun k => k.data.toList)) := by
    rw [← r2]
    exact so_perm _ _ hss
  have hsort := so_sort hperm
  have hlen2 : ss.length = (ks.mergeSort bLe).length := by rw [hperm.length_eq, List.length_mergeSort]; simp
  refine ⟨v, rfl, ⟨hbl.os, hbl.tape, hbl.output⟩, ?_⟩
  obtain ⟨q0, q⟩ := hrow
  rw [hsort] at q
  rcases q with ⟨rfl, hz⟩ | ⟨g, cap, cur, rfl, hg, hgb, c1, c2, c3, c4⟩
  · refine hK ⟨none, 0, 0⟩ w'.heap hbl.size hbl.block ⟨?_, Nat.le_refl _, ?_⟩ (by intro a ha; cases ha)
    · show 0 = _; omega
    · exact ⟨List.eq_nil_of_length_eq_zero (by omega), rfl⟩
  · refine hK ⟨some ⟨g, 0, none⟩, ss.length, cap⟩ w'.heap hbl.size hbl.block ⟨hlen2, c1, ?_⟩ (by intro a ha; cases ha; exact hg)
    refine ⟨rfl, fun j x hj => ?_⟩
    have hx : cur[j]? = some (.string x) := by
      have h1 : ((ks.mergeSort bLe).map Value.string)[j]? = some (.string x) := by rw [List.getElem?_map, hj]; rfl
      rw [← c4, Nat.mul_one] at h1
      rw [List.getElem?_take] at h1
      split at h1
      · simpa using h1
      · cases h1
    rw [so_add]
    unfold cell
    simp only [hgb]
    exact hx
def E89 : Entry Tryz.prog := ⟨89, S.slices_Sorted_string_run ⟨callV Tryz.prog, fnT⟩, sorted_entry⟩
end Go.Proofs
end

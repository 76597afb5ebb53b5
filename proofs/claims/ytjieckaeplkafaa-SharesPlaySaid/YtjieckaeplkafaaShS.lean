/- Shares: maps.Keys, slices.Sorted, maps.Clone at this program's map; listed. -/
import Derived.Test.YtjieckaeplkafaaShLay
import Derived.Test.YtjieckaeplkafaaShPL
import Derived.Shelf.SlMaps.Clone
import Derived.WideShapes
set_option linter.unusedSimpArgs false
set_option linter.unusedVariables false
namespace Go.Proofs.Ytjieckaeplkafaa
open Go.RowKit Go.Maps Go.Sort Go.Shelf Go.MapKept
open Go.WideElems (Fit rd rg pl)
theorem sorts_in (m : Nat) : AnyZI.SortsIn Try.prog sortedA_ren Fence.wide m :=
  ⟨fun blk off cap ss W hH hblk hsz => callsIn_wide.2 (AnyM.slices_Sort_int sortA blk off cap ss W hH hblk hsz),
   fun p cap W => callsIn_wide.2 (AnyM.slices_Sort_int_none sortA p cap W)⟩
theorem keys_ok (mb : Option Nat) (W : World) : Calls Try.prog 51 #[.map mb] W fun e w' =>
    e = .returned (.func (.func 62) #[] #[.pointer (some ⟨W.heap.size, 0, none⟩)]) ∧ w' = W.alloc (.cells #[.map mb] 55) :=
  callsIn_wide.1 (AnyZI.keys_in keysA Fence.wide 5 trivial rfl mb W)
theorem KV.owns {w : World} {b : Nat} {l : List (Int × Value)} (h : KV w b l) {P : Program} {k : TypeId} (hk : P.underlying k = some (.int .i64)) :
    ∃ D : DataW Unit, w.ownsMap P k (fun _ => some (.nil, [])) b l.length D ∧ Maps.size D = l.length ∧ (intKeys D).Perm (l.map (·.1)) := by
  have hw : ∀ p ∈ l, (Lit.int .i64 p.1).wf = true := by obtain ⟨_, _, _, _, _, _, hw⟩ := h; exact hw
  obtain ⟨es, clock, hb, F, hs, he⟩ := h.parts hk
  refine ⟨_, ⟨es, clock, hb, F, by omega, rfl⟩, by simp [Maps.size, length_sorted, hs], ?_⟩
  refine ((Go.WideShapes.sorted_perm _).map (fun p : Lit × DataW Unit => Go.intOf p.1)).trans (List.Perm.of_eq ?_)
  have h1 : ∀ x ∈ es.toList, Go.intOf (rg P k (H := Unit) (fun _ => some (.nil, [])) x).1 = (match x.key with | .int _ a => a | _ => 0) := by
    intro x hx
    have : (x.key, x.val) ∈ l.map (fun p => (Value.int .i64 p.1, p.2)) := by rw [← he]; exact List.mem_map.2 ⟨x, hx, rfl⟩
    obtain ⟨p, hp, h2⟩ := List.mem_map.1 this
    injection h2 with h2 _
    rw [← h2]
    simp [rg, Go.WideElems.rd, ← h2, Maps.keyOf_int_mk hk (hw p hp), Go.intOf]
  rw [List.map_map]
  have h2 : es.toList.map (fun x => (match x.key with | .int _ a => a | _ => (0 : Int))) = l.map (·.1) := by
    have := congrArg (List.map (fun q : Value × Value => (match q.1 with | .int _ a => a | _ => (0 : Int)))) he
    rw [List.map_map, List.map_map] at this
    exact this
  rw [← h2]
  exact List.map_congr_left h1
theorem sorted_ok (b : Nat) (l : List (Int × Value)) (w : World) (h : KV w b l) (hl : l.length ≤ 1000000) :
    Calls Try.prog 50 #[.func (.func 62) #[] #[.pointer (some ⟨w.heap.size, 0, none⟩)]] (w.alloc (.cells #[.map (some b)] 55)) fun e w' =>
      ∃ A c, e = .returned (.slice A l.length c) ∧ Row w' (New w) 3 1 (.slice A l.length c) l.length (ints .i64 ((l.map (·.1)).mergeSort (fun x y => decide (x ≤ y)))) ∧ Fr Nil w w' := by
  refine (callsIn_wide (n := 5)).1 ?_
  obtain ⟨D, hown, hsz, hperm⟩ := h.owns (P := Try.prog) (k := 3) Try.underlying3
  have hbl := h.lt
  have hseq : SeqGives Fence.wide 2 Try.prog 62 #[.pointer (some ⟨w.heap.size, 0, none⟩)] encZ (fun ss => ss.Perm (intKeys D)) (Maps.size D) (w.alloc (.cells #[.map (some b)] 55)) :=
    AnyZI.keys_gives (ρ := keysA_ren) { keysA with } Fence.wide _ trivial rfl (by omega) w.heap.size b l.length D _ (by simp) (by simp) (by
      obtain ⟨es, clock, hb, Ft, hs, hD⟩ := hown
      exact ⟨es, clock, (Below.heap_alloc _ _ b hbl).trans hb, Ft, hs, hD⟩)
  have cS := AnyZI.sorted_in sortedA Fence.wide 5 trivial trivial trivial trivial rfl (by omega) (sorts_in _) (enters_of Try.func61 (by kernel_rfl) rfl) 62 #[.pointer (some ⟨w.heap.size, 0, none⟩)] trivial (enters_of Try.func62 (by kernel_rfl) rfl) _ _ (by rw [hsz]; unfold maxLen; omega) (by rw [hsz]; omega) _ hseq
  refine (show CallsIn _ _ Try.prog 50 _ _ _ from cS).mono ?_
  rintro e w' ⟨v, ss, rfl, hS, hrow, hnil, hb⟩
  have hp : ss.Perm (l.map (·.1)) := hS.trans hperm
  have hlen : ss.length = l.length := by rw [hp.length_eq, List.length_map]
  have hms : ss.mergeSort (fun x y => decide (x ≤ y)) = (l.map (·.1)).mergeSort (fun x y => decide (x ≤ y)) := mergeSort_of_perm_i hp
  rw [hlen, hms] at hrow
  have hR : Row w' (New w) 3 1 v l.length (ints .i64 ((l.map (·.1)).mergeSort (fun x y => decide (x ≤ y)))) := by
    refine ⟨ownsRow_base_a hrow (by omega), fun k hk => ?_⟩
    have := (hrow.lt k hk).1
    simp at this
    unfold New; omega
  obtain ⟨A, c, rfl⟩ := hR.slice
  exact ⟨A, c, rfl, hR, Fr.of_below (((Below.refl _ w).alloc (Nat.le_refl _) _).trans (hb.mono (by simp)))⟩
set_option maxRecDepth 20000 in
theorem mclone_ok (b : Nat) (l : List (Int × Value)) (w : World) (h : KV w b l) :
    Calls Try.prog 37 #[.map (some b)] w fun e w' =>
      e = .returned (.map (some w.heap.size)) ∧ KV w' w.heap.size l ∧ Fr Nil w w' := by
  obtain ⟨es, clock, hb, hr⟩ := h
  have hq := fun w => run_eql_map_nil_sl (P := Try.prog) w 55 _ _ (some b) Try.underlying55
  go_enter Try.func37, Try.ntmps37
  go_wp2
  rw [run_callFunc_extern Try.func53 (by kernel_rfl) (by kernel_rfl) (by kernel_rfl) (e := Extern.MapsClone.clone) (by kernel_rfl), run_maps_clone_sl w 55 hb]
  simp only [Result.andThen]
  rw [Oper.upon_value]
  go_wp2
  rw [run_typeAssert_map_sl _ 55 _ _ _ _ Try.underlying55]
  simp only [Result.andThen]
  rw [Oper.upon_value]
  go_wp2
  go_ret
  exact ⟨rfl, ⟨es, clock, (MapKept.heap_alloc w _).1, hr⟩, (Fr.refl _ _).alloc _⟩
end Go.Proofs.Ytjieckaeplkafaa

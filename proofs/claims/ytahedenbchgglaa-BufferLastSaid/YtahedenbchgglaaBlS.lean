/- slices.Sorted(maps.Keys(m)) at a map without entries. -/
import Derived.Test.YtahedenbchgglaaBlLay
import Derived.Test.YtahedenbchgglaaBlPL
set_option linter.unusedSimpArgs false
set_option linter.unusedVariables false
namespace Go.Proofs.Ytahedenbchgglaa
open Go.RowKit Go.Maps Go.Sort Go.Shelf
theorem sorts_in (m : Nat) : AnyZI.SortsIn Try.prog sortedA_ren Fence.wide m :=
  ⟨fun blk off cap ss W hH hblk hsz => callsIn_wide.2 (AnyM.slices_Sort_int sortA blk off cap ss W hH hblk hsz),
   fun p cap W => callsIn_wide.2 (AnyM.slices_Sort_int_none sortA p cap W)⟩
theorem keys_ok (mb : Option Nat) (W : World) : Calls Try.prog 18 #[.map mb] W fun e w' =>
    e = .returned (.func (.func 21) #[] #[.pointer (some ⟨W.heap.size, 0, none⟩)]) ∧ w' = W.alloc (.cells #[.map mb] 41) :=
  callsIn_wide.1 (AnyZI.keys_in keysA Fence.wide 5 trivial rfl mb W)
theorem KV.empty {w : World} {b : Nat} (h : KV w b []) {P : Program} {k : TypeId} (hk : P.underlying k = some (.int .i64)) : w.ownsMap P k (H := Unit) (fun _ => some (.nil, [])) b 0 (.map []) := by
  obtain ⟨es, clock, hb, F, hs, -⟩ := h.parts hk
  have h0 : es = #[] := Array.eq_empty_of_size_eq_zero (by simpa using hs)
  subst h0
  exact ⟨#[], clock, hb, F, Nat.le_refl _, rfl⟩
theorem sorted_none (b : Nat) (w : World) (h : KV w b []) :
    Calls Try.prog 17 #[.func (.func 21) #[] #[.pointer (some ⟨w.heap.size, 0, none⟩)]] (w.alloc (.cells #[.map (some b)] 41)) fun e w' =>
      e = .returned (.slice none 0 0) ∧ Fr Nil w w' := by
  refine (callsIn_wide (n := 5)).1 ?_
  have hown := KV.empty h (P := Try.prog) (k := 3) Try.underlying3
  have hbl := h.lt
  have hseq : SeqGives Fence.wide 2 Try.prog 21 #[.pointer (some ⟨w.heap.size, 0, none⟩)] encZ (fun ss => ss.Perm (intKeys (.map [] : DataW Unit))) (Maps.size (.map [] : DataW Unit)) (w.alloc (.cells #[.map (some b)] 41)) :=
    AnyZI.keys_gives (ρ := keysA_ren) { keysA with } Fence.wide _ trivial rfl (by omega) w.heap.size b 0 (.map []) _ (by simp) (by simp) (by
      obtain ⟨es, clock, hb, Ft, hs, hD⟩ := hown
      exact ⟨es, clock, (Below.heap_alloc _ _ b hbl).trans hb, Ft, hs, hD⟩)
  have cS := AnyZI.sorted_in sortedA Fence.wide 5 trivial trivial trivial trivial rfl (by omega) (sorts_in _) (enters_of Try.func20 (by kernel_rfl) rfl) 21 #[.pointer (some ⟨w.heap.size, 0, none⟩)] trivial (enters_of Try.func21 (by kernel_rfl) rfl) _ _ (by decide) (by decide) _ hseq
  refine (show CallsIn _ _ Try.prog 17 _ _ _ from cS).mono ?_
  rintro e w' ⟨v, ss, rfl, hS, hrow, hnil, hb⟩
  have hss : ss = [] := List.perm_nil.1 (by simpa [intKeys] using hS)
  obtain rfl : v = .slice none 0 0 := hnil.2 hss
  exact ⟨rfl, Fr.of_below (((Below.refl _ w).alloc (Nat.le_refl _) _).trans (hb.mono (by simp)))⟩
end Go.Proofs.Ytahedenbchgglaa

/- Runs: List, Free, Greatest, Copy. -/
import Derived.Test.YtjieckaeplkafaaSRnT
import Derived.Deep.QuietTactic
import Derived.BigQuiet
set_option linter.unusedSimpArgs false
set_option linter.unusedVariables false
namespace Go.Proofs.Ytjieckaeplkafaa
open Go.RowKit
theorem list_ok (T : Nat → Prop) (pb bl : Nat) (l : List Rn) (w : World) (h : Rs w T pb bl l) (hl : l.length ≤ 100000) :
    Calls Try.prog 19 #[.pointer (some ⟨pb, 0, none⟩)] w fun e w' => ∃ A c, e = .returned (.slice A l.length c) ∧ Row w' (New w) 33 2 (.slice A l.length c) l.length (dbl l) ∧ Fr Nil w w' := by
  obtain ⟨hT1, sv, hb, hr⟩ := h
  obtain ⟨A, c, rfl⟩ := hr.slice
  have c1 := hb.cell 1
  clear hb
  go_enter Try.func19, Try.ntmps19
  go_wp2_with fail
  refine (clone_ok T A l.length c l (by omega) w hr.view).mono ?_
  rintro e w1 ⟨A1, c1, rfl, h1, h2⟩
  go_wp2
  go_ret
  exact ⟨A1, c1, rfl, h1, h2⟩
def frN (l : List Rn) (i : Nat) : Nat := ((l.take i).map Rn.n).sum
def mxN (l : List Rn) (i : Nat) : Nat := ((l.take i).map Rn.n).foldl max 0
theorem frN_succ {l : List Rn} {i : Nat} (h : i < l.length) : frN l (i + 1) = frN l i + (rn l i).n := by
  unfold frN; rw [List.take_succ_eq_append_getElem h, List.map_append, List.sum_append, rn_eq h]; simp
theorem mxN_succ {l : List Rn} {i : Nat} (h : i < l.length) : mxN l (i + 1) = max (mxN l i) (rn l i).n := by
  unfold mxN; rw [List.take_succ_eq_append_getElem h, List.map_append, List.foldl_append, rn_eq h]; simp
theorem frN_le {bl : Nat} {l : List Rn} (h : Lok bl l) : ∀ i, i ≤ l.length → frN l i ≤ i * 8192
  | 0, _ => by simp [frN]
  | i + 1, hi => by
    have := frN_le h i (by omega)
    have h2 := h.2.2 i (by omega)
    have h3 := h.1
    rw [frN_succ (by omega)]; omega
theorem mxN_le {bl : Nat} {l : List Rn} (h : Lok bl l) : ∀ i, i ≤ l.length → mxN l i ≤ 8192
  | 0, _ => by simp [mxN]
  | i + 1, hi => by
    have := mxN_le h i (by omega)
    have h2 := h.2.2 i (by omega)
    have h3 := h.1
    rw [mxN_succ (by omega)]; omega
def sumN (l : List Rn) : Nat := frN l l.length
def topN (l : List Rn) : Nat := mxN l l.length
theorem free_ok (T : Nat → Prop) (pb bl : Nat) (l : List Rn) (w : World) (h : Rs w T pb bl l) (hl : Lok bl l) :
    Calls Try.prog 15 #[.pointer (some ⟨pb, 0, none⟩)] w fun e w' => e = .returned (.int .i64 (sumN l : Nat)) ∧ Fr Nil w w' := by
  have HL := hid hl; clear hl
  have Hli := hid (list_ok T pb bl l w h (Nat.le_trans HL.out.2.1 (by decide)))
  clear h
  go_enter Try.func15, Try.ntmps15
  go_wp2_with fail
  refine Hli.out.mono ?_
  rintro e w1 ⟨A, c, rfl, h1, h2⟩
  obtain ⟨L, hL⟩ : ∃ L, L = l.length := ⟨_, rfl⟩
  have HLl := hid hL
  have hL9 : L ≤ 8192 := by rw [hL]; exact HL.out.2.1
  have hv := h1.view
  rw [← hL] at hv ⊢
  have Hv := hid hv
  clear hL h1 hv
  go_wp2_with fail
  go_loopw [3, 9] (fun v3 v9 wr => ∃ i : Nat, v3 = .int .i64 (frN l i : Nat) ∧ v9 = .int .i64 i ∧ i ≤ L ∧ Fr Nil w1 wr) (fun _ v9 _ => L - (intOf v9).toNat)
  case atStart => exact ⟨0, by simp [frN], rfl, by omega, Fr.refl _ _⟩
  case round =>
    obtain ⟨i, rfl, rfl, hi, hfw⟩ := hrel
    by_cases hlt : i < L
    · obtain ⟨b, o, rfl, -, hbl, q0, q1⟩ := rn_at (Hv.out.fr hfw fun _ _ _ h => h) hlt
      have hS := hid (frN_succ (l := l) (i := i) (by rw [← HLl.out]; exact hlt))
      have hB := frN_le HL.out i (by rw [← HLl.out]; exact hi)
      have hbo := HL.out.2.2 i (by rw [← HLl.out]; exact hlt)
      have hbl8 := HL.out.1
      have hn8 : (rn l i).n ≤ 8192 := by omega
      have hB2 : frN l i ≤ 100000000 := by omega
      clear hB hbo hbl8
      have hal : Fr Nil wr (wr.alloc (.cells #[.int .i64 ((rn l i).a : Nat), .int .i64 ((rn l i).n : Nat)] 33)) := (Fr.refl _ _).alloc _
      go_wp2_with fail
      go_roundw
      case rel => exact ⟨i + 1, by rw [hS.out]; simp; try (split <;> omega), by go_num, by omega, hfw.then hal⟩
      case measure => simp [intOf]; omega
    · have hE := hid (show sumN l = frN l i from by unfold sumN; rw [show i = l.length by rw [← HLl.out]; omega])
      go_wp2
      go_ret
      rw [hE.out]
      exact ⟨rfl, h2.then hfw⟩
theorem greatest_ok (T : Nat → Prop) (pb bl : Nat) (l : List Rn) (w : World) (h : Rs w T pb bl l) (hl : Lok bl l) :
    Calls Try.prog 45 #[.pointer (some ⟨pb, 0, none⟩)] w fun e w' => e = .returned (.int .i64 (topN l : Nat)) ∧ Fr Nil w w' := by
  have HL := hid hl; clear hl
  have Hli := hid (list_ok T pb bl l w h (Nat.le_trans HL.out.2.1 (by decide)))
  clear h
  go_enter Try.func45, Try.ntmps45
  go_wp2_with fail
  refine Hli.out.mono ?_
  rintro e w1 ⟨A, c, rfl, h1, h2⟩
  obtain ⟨L, hL⟩ : ∃ L, L = l.length := ⟨_, rfl⟩
  have HLl := hid hL
  have hL9 : L ≤ 8192 := by rw [hL]; exact HL.out.2.1
  have hv := h1.view
  rw [← hL] at hv ⊢
  have Hv := hid hv
  clear hL h1 hv
  go_wp2_with fail
  go_loopw [3, 9] (fun v3 v9 wr => ∃ i : Nat, v3 = .int .i64 (mxN l i : Nat) ∧ v9 = .int .i64 i ∧ i ≤ L ∧ Fr Nil w1 wr) (fun _ v9 _ => L - (intOf v9).toNat)
  case atStart => exact ⟨0, by simp [mxN], rfl, by omega, Fr.refl _ _⟩
  case round =>
    obtain ⟨i, rfl, rfl, hi, hfw⟩ := hrel
    by_cases hlt : i < L
    · obtain ⟨b, o, rfl, -, hbl, q0, q1⟩ := rn_at (Hv.out.fr hfw fun _ _ _ h => h) hlt
      have hS := hid (mxN_succ (l := l) (i := i) (by rw [← HLl.out]; exact hlt))
      have hB := mxN_le HL.out i (by rw [← HLl.out]; exact hi)
      have hbo := HL.out.2.2 i (by rw [← HLl.out]; exact hlt)
      have hbl8 := HL.out.1
      have hn8 : (rn l i).n ≤ 8192 := by omega
      have hB2 : mxN l i ≤ 100000000 := by omega
      clear hB hbo hbl8
      have hal : Fr Nil wr (wr.alloc (.cells #[.int .i64 ((rn l i).a : Nat), .int .i64 ((rn l i).n : Nat)] 33)) := (Fr.refl _ _).alloc _
      go_wp2_with fail
      go_roundw
      case rel => exact ⟨i + 1, by rw [hS.out]; simp; try (split <;> omega), by go_num, by omega, hfw.then hal⟩
      case measure => simp [intOf]; omega
    · have hE := hid (show topN l = mxN l i from by unfold topN; rw [show i = l.length by rw [← HLl.out]; omega])
      go_wp2
      go_ret
      rw [hE.out]
      exact ⟨rfl, h2.then hfw⟩
end Go.Proofs.Ytjieckaeplkafaa

/- PlatterKnown: sizes that are none, blocks that are none, bytes that are too few; the greatest. -/
import Derived.Test.YtidjmjfoheagmaaPlatA
set_option linter.unusedSimpArgs false
set_option linter.unusedVariables false
namespace Go.Proofs.Ytidjmjfoheagmaa
open Go.RowKit

set_option maxRecDepth 100000 in
set_option maxHeartbeats 8000000 in
theorem known_law (w : World) : Calls Try.prog 5 #[] w fun e w' => e = .returned (.bool true) ∧ Fr Nil w w' := by
  go_enter Try.func5, Try.ntmps5
  go_wp2_with fail
  refine (awake_ok w).mono ?_
  rintro e w1 ⟨rfl, hf1⟩
  go_wp2_with fail
  refine (pnew_bad 63 (by omega) w1).mono ?_
  rintro e w2 ⟨rfl, rfl⟩
  go_wp2_with fail
  refine (pnew_bad 8193 (by omega) w1).mono ?_
  rintro e w2 ⟨rfl, rfl⟩
  go_wp2_with fail
  refine (pnew_ok 8192 (by omega) (by omega) w1).mono ?_
  rintro e w2 ⟨pb, rfl, hP2, hf2⟩
  have k0 := okm_fresh 8192 (by omega)
  have l0 : (fresh 8192).bl.length = 8192 := by simp [fresh]
  have n0 : (fresh 8192).fa = [] := rfl
  have c0 : ∀ k, (fresh 8192).co k = 0 := fun _ => rfl
  have ca0 : (fresh 8192).ca = [] := rfl
  generalize fresh 8192 = p0 at *
  go_wp2_with fail
  refine (blocks_ok _ pb p0 w2 hP2).mono ?_
  rintro e w3 ⟨rfl, rfl⟩
  rw [l0]
  go_wp2_with fail
  have hP2b := hP2.bd
  refine (full_rep 1 w2).mono ?_
  rintro e w3 ⟨g3, rfl, hR3, hf3⟩
  go_wp2_with fail
  refine (write_ok (fun k => New w1 k ∧ k < w2.heap.size) (New w2) pb p0 8191 _ _ w3 (hP2b.fr hf3 fun _ _ h => h) k0.ok (not_bad (by exact n0) _) (by rw [l0]; omega) hR3.view (byt_full (by omega)) (fun k hk h => by have : w2.heap.size ≤ k := hk; omega)).mono ?_
  rintro e w4 ⟨rfl, hP4, hf4⟩
  have s1 := hf1.size
  have s2 := hf2.size
  have s3 := hf3.size
  have s4 := hf4.size
  have hP4' : IsP w4 (New w1) pb ((p0.ask 2).put 8191 (rep 1)) := hP4.mono fun k hk => hk.elim (fun h => h.1) (fun h => by unfold New; omega)
  have hF4 : Fr (New w1) w1 w4 := (hf2.nil.then hf3.nil).then (hf4.mono fun k hk => hk.1)
  have k4 := (k0.ask 2).put (n := 8191) (rep 1) (by show 8191 < p0.bl.length; omega)
  clear hP2 hP2b hP4 hR3 hf3 hf4
  go_wp2_with fail
  refine (full_rep 1 w4).mono ?_
  rintro e w5 ⟨g5, rfl, -, hf5⟩
  go_wp2_with fail
  refine (write_bad (New w1) pb _ 8192 _ _ _ w5 (hP4'.fr hf5 fun _ _ h => h) k4.ok (not_bad (by exact n0) _) (.inl (by show ¬ (_ ∧ (8192 : Int) < (p0.bl.length : Int)); omega))).mono ?_
  rintro e w6 ⟨rfl, hP6, hf6⟩
  have k6 := k4.ask 2
  go_wp2_with fail
  refine (full_rep 1 w6).mono ?_
  rintro e w7 ⟨g7, rfl, -, hf7⟩
  go_wp2_with fail
  refine (write_bad (New w1) pb _ 0 _ _ _ w7 (hP6.fr hf7 fun _ _ h => h) k6.ok (not_bad (by exact n0) _) (.inr (by decide))).mono ?_
  rintro e w8 ⟨rfl, hP8, hf8⟩
  have k8 := k6.ask 2
  go_wp2_with fail
  refine (read_bad (New w1) pb _ (-1) w8 hP8 k8.ok (not_bad (by exact n0) _) (by omega)).mono ?_
  rintro e w9 ⟨rfl, hP9, hf9⟩
  have k9 := k8.ask 1
  go_wp2_with fail
  refine (read_bad (New w1) pb _ 8192 w9 hP9 k9.ok (not_bad (by exact n0) _) (by show ¬ (_ ∧ (8192 : Int) < (p0.bl.length : Int)); omega)).mono ?_
  rintro e w10 ⟨rfl, hP10, hf10⟩
  have k10 := k9.ask 1
  have g10 : ((((((((p0.ask 2).put 8191 (rep 1)).ask 2).ask 2).ask 1).ask 1)).get 8191) = rep 1 := by
    show lastC (p0.ca ++ [(8191, rep 1)]) 8191 _ = rep 1
    rw [ca0]
    simp [lastC]
  go_wp2_with fail
  refine (read_ok (New w1) pb _ 8191 w10 hP10 k10.ok (not_bad (by exact n0) _) (by show 8191 < p0.bl.length; omega)).mono ?_
  rintro e w11 ⟨A11, c11, rfl, hR11, -, -, hP11, hf11⟩
  rw [g10] at hR11
  have hF11 : Fr (New w1) w1 w11 := (((((((hF4.then hf5.nil).then hf6).then hf7.nil).then hf8).then hf9).then hf10).then hf11)
  have hFw : Fr Nil w w11 := hf1.trans hF11 (fun k hk => .inr (by have : w1.heap.size ≤ k := hk; omega))
  have co2 : (((((((p0.ask 2).put 8191 (rep 1)).ask 2).ask 2).ask 1).ask 1).ask 1).co 2 = 3 := by
    show p0.co 2 + 1 + 1 + 1 = 3
    rw [c0]
  have co1 : (((((((p0.ask 2).put 8191 (rep 1)).ask 2).ask 2).ask 1).ask 1).ask 1).co 1 = 3 := by
    show p0.co 1 + 1 + 1 + 1 = 3
    rw [c0]
  have ca1 : (((((((p0.ask 2).put 8191 (rep 1)).ask 2).ask 2).ask 1).ask 1).ask 1).ca.length = 1 := by
    show (p0.ca ++ [(8191, rep 1)]).length = 1
    rw [ca0]; rfl
  generalize ((((((p0.ask 2).put 8191 (rep 1)).ask 2).ask 2).ask 1).ask 1).ask 1 = q at *
  have hX := hR11.view
  have hS : (convert 22 9 (.slice A11 64 c11)).run Try.prog w11.drew = .ok (.string (str (rep 1))) w11.drew := conv_row (w := w11.drew) hX
  clear hR11 hP4' hP6 hP8 hP9 hP10 g10 k0 k4 k6 k8 k9 k10
  go_wp2_with fail
  refine wpU_region (k := 49) (S := fun w' => (convert 22 9 (.slice A11 64 c11)).run Try.prog w' = .ok (.string (str (rep 1))) w') (by kernel_rfl) ?_
  refine wpU_take (i := 0) (v := ?_) rfl (by kernel_rfl) (by kernel_rfl) (fun _ _ _ h => h) _ _ _ _ (by kernel_rfl) (by kernel_rfl) (by kernel_rfl) (Or.inl ⟨by kernel_rfl, ?_⟩) hS ?_
  rotate_left
  · (intro w9 hS9; obtain s0 := hS9; go_simp); (try with_reducible rfl)
  try simp only [Act.put, List.setIfInBounds_toArray, List.set_cons_zero, List.set_cons_succ]
  refine wpU_take (i := 1) (v := ?_) rfl (by kernel_rfl) (by kernel_rfl) (fun _ _ _ h => h) _ _ _ _ (by kernel_rfl) (by kernel_rfl) (by kernel_rfl) (Or.inl ⟨by kernel_rfl, ?_⟩) hS ?_
  rotate_left
  · (intro w9 hS9; obtain s0 := hS9; go_simp); (try with_reducible rfl)
  try simp only [Act.put, List.setIfInBounds_toArray, List.set_cons_zero, List.set_cons_succ]
  refine wpU_take (i := 2) (v := ?_) rfl (by kernel_rfl) (by kernel_rfl) (fun _ _ _ h => h) _ _ _ _ (by kernel_rfl) (by kernel_rfl) (by kernel_rfl) (Or.inl ⟨by kernel_rfl, ?_⟩) hS ?_
  rotate_left
  · (intro w9 hS9; obtain s0 := hS9; go_simp); (try with_reducible rfl)
  try simp only [Act.put, List.setIfInBounds_toArray, List.set_cons_zero, List.set_cons_succ]
  refine wpU_take (i := 3) (v := ?_) rfl (by kernel_rfl) (by kernel_rfl) (fun _ _ _ h => h) _ _ _ _ (by kernel_rfl) (by kernel_rfl) (by kernel_rfl) (Or.inl ⟨by kernel_rfl, ?_⟩) hS ?_
  rotate_left
  · (intro w9 hS9; obtain s0 := hS9; go_simp); (try with_reducible rfl)
  try simp only [Act.put, List.setIfInBounds_toArray, List.set_cons_zero, List.set_cons_succ]
  refine wpU_take (i := 4) (v := ?_) rfl (by kernel_rfl) (by kernel_rfl) (fun _ _ _ h => h) _ _ _ _ (by kernel_rfl) (by kernel_rfl) (by kernel_rfl) (Or.inl ⟨by kernel_rfl, ?_⟩) hS ?_
  rotate_left
  · (intro w9 hS9; obtain s0 := hS9; go_simp); (try with_reducible rfl)
  try simp only [Act.put, List.setIfInBounds_toArray, List.set_cons_zero, List.set_cons_succ]
  refine wpU_take (i := 5) (v := ?_) rfl (by kernel_rfl) (by kernel_rfl) (fun _ _ _ h => h) _ _ _ _ (by kernel_rfl) (by kernel_rfl) (by kernel_rfl) (Or.inl ⟨by kernel_rfl, ?_⟩) hS ?_
  rotate_left
  · (intro w9 hS9; obtain s0 := hS9; go_simp); (try with_reducible rfl)
  try simp only [Act.put, List.setIfInBounds_toArray, List.set_cons_zero, List.set_cons_succ]
  refine wpU_take (i := 6) (v := ?_) rfl (by kernel_rfl) (by kernel_rfl) (fun _ _ _ h => h) _ _ _ _ (by kernel_rfl) (by kernel_rfl) (by kernel_rfl) (Or.inl ⟨by kernel_rfl, ?_⟩) hS ?_
  rotate_left
  · (intro w9 hS9; obtain s0 := hS9; go_simp); (try with_reducible rfl)
  try simp only [Act.put, List.setIfInBounds_toArray, List.set_cons_zero, List.set_cons_succ]
  refine wpU_take (i := 7) (v := ?_) rfl (by kernel_rfl) (by kernel_rfl) (fun _ _ _ h => h) _ _ _ _ (by kernel_rfl) (by kernel_rfl) (by kernel_rfl) (Or.inl ⟨by kernel_rfl, ?_⟩) hS ?_
  rotate_left
  · (intro w9 hS9; obtain s0 := hS9; go_simp); (try with_reducible rfl)
  try simp only [Act.put, List.setIfInBounds_toArray, List.set_cons_zero, List.set_cons_succ]
  refine wpU_take (i := 8) (v := ?_) rfl (by kernel_rfl) (by kernel_rfl) (fun _ _ _ h => h) _ _ _ _ (by kernel_rfl) (by kernel_rfl) (by kernel_rfl) (Or.inl ⟨by kernel_rfl, ?_⟩) hS ?_
  rotate_left
  · (intro w9 hS9; obtain s0 := hS9; go_simp); (try with_reducible rfl)
  try simp only [Act.put, List.setIfInBounds_toArray, List.set_cons_zero, List.set_cons_succ]
  refine wpU_take (i := 9) (v := ?_) rfl (by kernel_rfl) (by kernel_rfl) (fun _ _ _ h => h) _ _ _ _ (by kernel_rfl) (by kernel_rfl) (by kernel_rfl) (Or.inl ⟨by kernel_rfl, ?_⟩) hS ?_
  rotate_left
  · (intro w9 hS9; obtain s0 := hS9; go_simp); (try with_reducible rfl)
  try simp only [Act.put, List.setIfInBounds_toArray, List.set_cons_zero, List.set_cons_succ]
  refine wpU_take (i := 10) (v := ?_) rfl (by kernel_rfl) (by kernel_rfl) (fun _ _ _ h => h) _ _ _ _ (by kernel_rfl) (by kernel_rfl) (by kernel_rfl) (Or.inl ⟨by kernel_rfl, ?_⟩) hS ?_
  rotate_left
  · (intro w9 hS9; obtain s0 := hS9; go_simp); (try with_reducible rfl)
  try simp only [Act.put, List.setIfInBounds_toArray, List.set_cons_zero, List.set_cons_succ]
  refine wpU_take (i := 11) (v := ?_) rfl (by kernel_rfl) (by kernel_rfl) (fun _ _ _ h => h) _ _ _ _ (by kernel_rfl) (by kernel_rfl) (by kernel_rfl) (Or.inl ⟨by kernel_rfl, ?_⟩) hS ?_
  rotate_left
  · (intro w9 hS9; obtain s0 := hS9; go_simp); (try with_reducible rfl)
  try simp only [Act.put, List.setIfInBounds_toArray, List.set_cons_zero, List.set_cons_succ]
  refine wpU_take (i := 12) (v := ?_) rfl (by kernel_rfl) (by kernel_rfl) (fun _ _ _ h => h) _ _ _ _ (by kernel_rfl) (by kernel_rfl) (by kernel_rfl) (Or.inl ⟨by kernel_rfl, ?_⟩) hS ?_
  rotate_left
  · (intro w9 hS9; obtain s0 := hS9; go_simp); (try with_reducible rfl)
  try simp only [Act.put, List.setIfInBounds_toArray, List.set_cons_zero, List.set_cons_succ]
  refine wpU_take (i := 13) (v := ?_) rfl (by kernel_rfl) (by kernel_rfl) (fun _ _ _ h => h) _ _ _ _ (by kernel_rfl) (by kernel_rfl) (by kernel_rfl) (Or.inl ⟨by kernel_rfl, ?_⟩) hS ?_
  rotate_left
  · (intro w9 hS9; obtain s0 := hS9; go_simp); (try with_reducible rfl)
  try simp only [Act.put, List.setIfInBounds_toArray, List.set_cons_zero, List.set_cons_succ]
  refine wpU_take (i := 14) (v := ?_) rfl (by kernel_rfl) (by kernel_rfl) (fun _ _ _ h => h) _ _ _ _ (by kernel_rfl) (by kernel_rfl) (by kernel_rfl) (Or.inl ⟨by kernel_rfl, ?_⟩) hS ?_
  rotate_left
  · (intro w9 hS9; obtain s0 := hS9; go_simp); (try with_reducible rfl)
  try simp only [Act.put, List.setIfInBounds_toArray, List.set_cons_zero, List.set_cons_succ]
  refine wpU_take (i := 15) (v := ?_) rfl (by kernel_rfl) (by kernel_rfl) (fun _ _ _ h => h) _ _ _ _ (by kernel_rfl) (by kernel_rfl) (by kernel_rfl) (Or.inl ⟨by kernel_rfl, ?_⟩) hS ?_
  rotate_left
  · (intro w9 hS9; obtain s0 := hS9; go_simp); (try with_reducible rfl)
  try simp only [Act.put, List.setIfInBounds_toArray, List.set_cons_zero, List.set_cons_succ]
  refine wpU_take (i := 16) (v := ?_) rfl (by kernel_rfl) (by kernel_rfl) (fun _ _ _ h => h) _ _ _ _ (by kernel_rfl) (by kernel_rfl) (by kernel_rfl) (Or.inl ⟨by kernel_rfl, ?_⟩) hS ?_
  rotate_left
  · (intro w9 hS9; obtain s0 := hS9; go_simp); (try with_reducible rfl)
  try simp only [Act.put, List.setIfInBounds_toArray, List.set_cons_zero, List.set_cons_succ]
  refine wpU_take (i := 17) (v := ?_) rfl (by kernel_rfl) (by kernel_rfl) (fun _ _ _ h => h) _ _ _ _ (by kernel_rfl) (by kernel_rfl) (by kernel_rfl) (Or.inl ⟨by kernel_rfl, ?_⟩) hS ?_
  rotate_left
  · (intro w9 hS9; obtain s0 := hS9; go_simp); (try with_reducible rfl)
  try simp only [Act.put, List.setIfInBounds_toArray, List.set_cons_zero, List.set_cons_succ]
  refine wpU_take (i := 18) (v := ?_) rfl (by kernel_rfl) (by kernel_rfl) (fun _ _ _ h => h) _ _ _ _ (by kernel_rfl) (by kernel_rfl) (by kernel_rfl) (Or.inl ⟨by kernel_rfl, ?_⟩) hS ?_
  rotate_left
  · (intro w9 hS9; obtain s0 := hS9; go_simp); (try with_reducible rfl)
  try simp only [Act.put, List.setIfInBounds_toArray, List.set_cons_zero, List.set_cons_succ]
  refine wpU_take (i := 19) (v := ?_) rfl (by kernel_rfl) (by kernel_rfl) (fun _ _ _ h => h) _ _ _ _ (by kernel_rfl) (by kernel_rfl) (by kernel_rfl) (Or.inl ⟨by kernel_rfl, ?_⟩) hS ?_
  rotate_left
  · (intro w9 hS9; obtain s0 := hS9; go_simp); (try with_reducible rfl)
  try simp only [Act.put, List.setIfInBounds_toArray, List.set_cons_zero, List.set_cons_succ]
  refine wpU_take (i := 20) (v := ?_) rfl (by kernel_rfl) (by kernel_rfl) (fun _ _ _ h => h) _ _ _ _ (by kernel_rfl) (by kernel_rfl) (by kernel_rfl) (Or.inl ⟨by kernel_rfl, ?_⟩) hS ?_
  rotate_left
  · (intro w9 hS9; obtain s0 := hS9; go_simp); (try with_reducible rfl)
  try simp only [Act.put, List.setIfInBounds_toArray, List.set_cons_zero, List.set_cons_succ]
  refine wpU_take (i := 21) (v := ?_) rfl (by kernel_rfl) (by kernel_rfl) (fun _ _ _ h => h) _ _ _ _ (by kernel_rfl) (by kernel_rfl) (by kernel_rfl) (Or.inl ⟨by kernel_rfl, ?_⟩) hS ?_
  rotate_left
  · (intro w9 hS9; obtain s0 := hS9; go_simp); (try with_reducible rfl)
  try simp only [Act.put, List.setIfInBounds_toArray, List.set_cons_zero, List.set_cons_succ]
  refine wpU_take (i := 22) (v := ?_) rfl (by kernel_rfl) (by kernel_rfl) (fun _ _ _ h => h) _ _ _ _ (by kernel_rfl) (by kernel_rfl) (by kernel_rfl) (Or.inl ⟨by kernel_rfl, ?_⟩) hS ?_
  rotate_left
  · (intro w9 hS9; obtain s0 := hS9; go_simp); (try with_reducible rfl)
  try simp only [Act.put, List.setIfInBounds_toArray, List.set_cons_zero, List.set_cons_succ]
  refine wpU_take (i := 23) (v := ?_) rfl (by kernel_rfl) (by kernel_rfl) (fun _ _ _ h => h) _ _ _ _ (by kernel_rfl) (by kernel_rfl) (by kernel_rfl) (Or.inl ⟨by kernel_rfl, ?_⟩) hS ?_
  rotate_left
  · (intro w9 hS9; obtain s0 := hS9; go_simp); (try with_reducible rfl)
  try simp only [Act.put, List.setIfInBounds_toArray, List.set_cons_zero, List.set_cons_succ]
  refine wpU_take (i := 24) (v := ?_) rfl (by kernel_rfl) (by kernel_rfl) (fun _ _ _ h => h) _ _ _ _ (by kernel_rfl) (by kernel_rfl) (by kernel_rfl) (Or.inl ⟨by kernel_rfl, ?_⟩) hS ?_
  rotate_left
  · (intro w9 hS9; obtain s0 := hS9; go_simp); (try with_reducible rfl)
  try simp only [Act.put, List.setIfInBounds_toArray, List.set_cons_zero, List.set_cons_succ]
  refine wpU_next (i := 25) rfl (by kernel_rfl) (fun K hK => ?_)
  go_simp
  refine (full_rep 1 w11.drew).mono ?_
  rintro e wA ⟨gA, rfl, hRA, hfA⟩
  have hXA := View.fr (w := w11.drew) hX hfA fun _ _ _ h => h
  have hSA := conv_row hXA
  have cA := conv_row hRA.view
  have hPA := IsP.fr (w := w11.drew) hP11 hfA fun _ _ h => h
  refine hK.out _ _ (fun _ => hSA) ?_
  clear hK K
  try simp only [Act.put, List.setIfInBounds_toArray, List.set_cons_zero, List.set_cons_succ]
  refine wpU_next (i := 26) rfl (by kernel_rfl) (fun K hK => ?_)
  go_simp
  refine hK.out _ _ (fun _ => hSA) ?_
  clear hK K
  try simp only [Act.put, List.setIfInBounds_toArray, List.set_cons_zero, List.set_cons_succ]
  refine wpU_take (i := 27) (v := ?_) rfl (by kernel_rfl) (by kernel_rfl) (fun _ _ _ h => h) _ _ _ _ (by kernel_rfl) (by kernel_rfl) (by kernel_rfl) (Or.inl ⟨by kernel_rfl, ?_⟩) hSA ?_
  rotate_left
  · (intro w9 hS9; obtain s0 := hS9; go_simp); (try with_reducible rfl)
  try simp only [Act.put, List.setIfInBounds_toArray, List.set_cons_zero, List.set_cons_succ]
  refine wpU_take (i := 28) (v := ?_) rfl (by kernel_rfl) (by kernel_rfl) (fun _ _ _ h => h) _ _ _ _ (by kernel_rfl) (by kernel_rfl) (by kernel_rfl) (Or.inl ⟨by kernel_rfl, ?_⟩) hSA ?_
  rotate_left
  · (intro w9 hS9; obtain s0 := hS9; go_simp); (try with_reducible rfl)
  try simp only [Act.put, List.setIfInBounds_toArray, List.set_cons_zero, List.set_cons_succ]
  refine wpU_take (i := 29) (v := ?_) rfl (by kernel_rfl) (by kernel_rfl) (fun _ _ _ h => h) _ _ _ _ (by kernel_rfl) (by kernel_rfl) (by kernel_rfl) (Or.inl ⟨by kernel_rfl, ?_⟩) hSA ?_
  rotate_left
  · (intro w9 hS9; obtain s0 := hS9; go_simp); (try with_reducible rfl)
  try simp only [Act.put, List.setIfInBounds_toArray, List.set_cons_zero, List.set_cons_succ]
  refine wpU_take (i := 30) (v := ?_) rfl (by kernel_rfl) (by kernel_rfl) (fun _ _ _ h => h) _ _ _ _ (by kernel_rfl) (by kernel_rfl) (by kernel_rfl) (Or.inl ⟨by kernel_rfl, ?_⟩) hSA ?_
  rotate_left
  · (intro w9 hS9; obtain s0 := hS9; go_simp); (try with_reducible rfl)
  try simp only [Act.put, List.setIfInBounds_toArray, List.set_cons_zero, List.set_cons_succ]
  refine wpU_next (i := 31) rfl (by kernel_rfl) (fun K hK => ?_)
  go_simp
  refine (cached_ok _ pb q wA hPA).mono ?_
  rintro e wB ⟨rfl, rfl⟩
  rw [ca1]
  refine hK.out _ _ (fun _ => hSA) ?_
  clear hK K
  try simp only [Act.put, List.setIfInBounds_toArray, List.set_cons_zero, List.set_cons_succ]
  refine wpU_take (i := 32) (v := ?_) rfl (by kernel_rfl) (by kernel_rfl) (fun _ _ _ h => h) _ _ _ _ (by kernel_rfl) (by kernel_rfl) (by kernel_rfl) (Or.inl ⟨by kernel_rfl, ?_⟩) hSA ?_
  rotate_left
  · (intro w9 hS9; obtain s0 := hS9; go_simp); (try with_reducible rfl)
  try simp only [Act.put, List.setIfInBounds_toArray, List.set_cons_zero, List.set_cons_succ]
  refine wpU_take (i := 33) (v := ?_) rfl (by kernel_rfl) (by kernel_rfl) (fun _ _ _ h => h) _ _ _ _ (by kernel_rfl) (by kernel_rfl) (by kernel_rfl) (Or.inl ⟨by kernel_rfl, ?_⟩) hSA ?_
  rotate_left
  · (intro w9 hS9; obtain s0 := hS9; go_simp); (try with_reducible rfl)
  try simp only [Act.put, List.setIfInBounds_toArray, List.set_cons_zero, List.set_cons_succ]
  refine wpU_take (i := 34) (v := ?_) rfl (by kernel_rfl) (by kernel_rfl) (fun _ _ _ h => h) _ _ _ _ (by kernel_rfl) (by kernel_rfl) (by kernel_rfl) (Or.inl ⟨by kernel_rfl, ?_⟩) hSA ?_
  rotate_left
  · (intro w9 hS9; obtain s0 := hS9; go_simp); (try with_reducible rfl)
  try simp only [Act.put, List.setIfInBounds_toArray, List.set_cons_zero, List.set_cons_succ]
  refine wpU_take (i := 35) (v := ?_) rfl (by kernel_rfl) (by kernel_rfl) (fun _ _ _ h => h) _ _ _ _ (by kernel_rfl) (by kernel_rfl) (by kernel_rfl) (Or.inl ⟨by kernel_rfl, ?_⟩) hSA ?_
  rotate_left
  · (intro w9 hS9; obtain s0 := hS9; go_simp); (try with_reducible rfl)
  try simp only [Act.put, List.setIfInBounds_toArray, List.set_cons_zero, List.set_cons_succ]
  refine wpU_next (i := 36) rfl (by kernel_rfl) (fun K hK => ?_)
  go_simp
  refine (count_ok _ pb q 2 (.inr (.inl rfl)) wA hPA).mono ?_
  rintro e wB ⟨rfl, rfl⟩
  rw [co2]
  refine hK.out _ _ (fun _ => hSA) ?_
  clear hK K
  try simp only [Act.put, List.setIfInBounds_toArray, List.set_cons_zero, List.set_cons_succ]
  refine wpU_take (i := 37) (v := ?_) rfl (by kernel_rfl) (by kernel_rfl) (fun _ _ _ h => h) _ _ _ _ (by kernel_rfl) (by kernel_rfl) (by kernel_rfl) (Or.inl ⟨by kernel_rfl, ?_⟩) hSA ?_
  rotate_left
  · (intro w9 hS9; obtain s0 := hS9; go_simp); (try with_reducible rfl)
  try simp only [Act.put, List.setIfInBounds_toArray, List.set_cons_zero, List.set_cons_succ]
  refine wpU_take (i := 38) (v := ?_) rfl (by kernel_rfl) (by kernel_rfl) (fun _ _ _ h => h) _ _ _ _ (by kernel_rfl) (by kernel_rfl) (by kernel_rfl) (Or.inl ⟨by kernel_rfl, ?_⟩) hSA ?_
  rotate_left
  · (intro w9 hS9; obtain s0 := hS9; go_simp); (try with_reducible rfl)
  try simp only [Act.put, List.setIfInBounds_toArray, List.set_cons_zero, List.set_cons_succ]
  refine wpU_take (i := 39) (v := ?_) rfl (by kernel_rfl) (by kernel_rfl) (fun _ _ _ h => h) _ _ _ _ (by kernel_rfl) (by kernel_rfl) (by kernel_rfl) (Or.inl ⟨by kernel_rfl, ?_⟩) hSA ?_
  rotate_left
  · (intro w9 hS9; obtain s0 := hS9; go_simp); (try with_reducible rfl)
  try simp only [Act.put, List.setIfInBounds_toArray, List.set_cons_zero, List.set_cons_succ]
  refine wpU_take (i := 40) (v := ?_) rfl (by kernel_rfl) (by kernel_rfl) (fun _ _ _ h => h) _ _ _ _ (by kernel_rfl) (by kernel_rfl) (by kernel_rfl) (Or.inl ⟨by kernel_rfl, ?_⟩) hSA ?_
  rotate_left
  · (intro w9 hS9; obtain s0 := hS9; go_simp); (try with_reducible rfl)
  try simp only [Act.put, List.setIfInBounds_toArray, List.set_cons_zero, List.set_cons_succ]
  refine wpU_next (i := 41) rfl (by kernel_rfl) (fun K hK => ?_)
  go_simp
  refine (count_ok _ pb q 1 (.inl rfl) wA hPA).mono ?_
  rintro e wB ⟨rfl, rfl⟩
  rw [co1]
  refine hK.out _ _ (fun _ => hSA) ?_
  clear hK K
  try simp only [Act.put, List.setIfInBounds_toArray, List.set_cons_zero, List.set_cons_succ]
  refine wpU_take (i := 42) (v := ?_) rfl (by kernel_rfl) (by kernel_rfl) (fun _ _ _ h => h) _ _ _ _ (by kernel_rfl) (by kernel_rfl) (by kernel_rfl) (Or.inl ⟨by kernel_rfl, ?_⟩) hSA ?_
  rotate_left
  · (intro w9 hS9; obtain s0 := hS9; go_simp); (try with_reducible rfl)
  try simp only [Act.put, List.setIfInBounds_toArray, List.set_cons_zero, List.set_cons_succ]
  refine wpU_take (i := 43) (v := ?_) rfl (by kernel_rfl) (by kernel_rfl) (fun _ _ _ h => h) _ _ _ _ (by kernel_rfl) (by kernel_rfl) (by kernel_rfl) (Or.inl ⟨by kernel_rfl, ?_⟩) hSA ?_
  rotate_left
  · (intro w9 hS9; obtain s0 := hS9; go_simp); (try with_reducible rfl)
  try simp only [Act.put, List.setIfInBounds_toArray, List.set_cons_zero, List.set_cons_succ]
  refine wpU_take (i := 44) (v := ?_) rfl (by kernel_rfl) (by kernel_rfl) (fun _ _ _ h => h) _ _ _ _ (by kernel_rfl) (by kernel_rfl) (by kernel_rfl) (Or.inl ⟨by kernel_rfl, ?_⟩) hSA ?_
  rotate_left
  · (intro w9 hS9; obtain s0 := hS9; go_simp); (try with_reducible rfl)
  try simp only [Act.put, List.setIfInBounds_toArray, List.set_cons_zero, List.set_cons_succ]
  refine wpU_take (i := 45) (v := ?_) rfl (by kernel_rfl) (by kernel_rfl) (fun _ _ _ h => h) _ _ _ _ (by kernel_rfl) (by kernel_rfl) (by kernel_rfl) (Or.inl ⟨by kernel_rfl, ?_⟩) hSA ?_
  rotate_left
  · (intro w9 hS9; obtain s0 := hS9; go_simp); (try with_reducible rfl)
  try simp only [Act.put, List.setIfInBounds_toArray, List.set_cons_zero, List.set_cons_succ]
  refine wpU_next (i := 46) rfl (by kernel_rfl) (fun K hK => ?_)
  go_simp
  refine (count_none _ rfl 0 (.inl (by decide)) wA).mono ?_
  rintro e wB ⟨rfl, rfl⟩
  refine hK.out _ _ (fun _ => hSA) ?_
  clear hK K
  try simp only [Act.put, List.setIfInBounds_toArray, List.set_cons_zero, List.set_cons_succ]
  refine wpU_take (i := 47) (v := ?_) rfl (by kernel_rfl) (by kernel_rfl) (fun _ _ _ h => h) _ _ _ _ (by kernel_rfl) (by kernel_rfl) (by kernel_rfl) (Or.inl ⟨by kernel_rfl, ?_⟩) hSA ?_
  rotate_left
  · (intro w9 hS9; obtain s0 := hS9; go_simp); (try with_reducible rfl)
  try simp only [Act.put, List.setIfInBounds_toArray, List.set_cons_zero, List.set_cons_succ]
  refine wpU_take (i := 48) (v := ?_) rfl (by kernel_rfl) (by kernel_rfl) (fun _ _ _ h => h) _ _ _ _ (by kernel_rfl) (by kernel_rfl) (by kernel_rfl) (Or.inl ⟨by kernel_rfl, ?_⟩) hSA ?_
  rotate_left
  · (intro w9 hS9; obtain s0 := hS9; go_simp); (try with_reducible rfl)
  try simp only [Act.put, List.setIfInBounds_toArray, List.set_cons_zero, List.set_cons_succ]
  refine wpU_next (i := 49) rfl (by kernel_rfl) (fun K hK => ?_)
  go_simp
  refine hK.out _ _ (fun h => absurd rfl h) ?_
  refine wpU_done (by kernel_rfl) ?_ _
  clear hK K
  go_wp2
  go_ret
  exact ⟨rfl, hFw.drew.then hfA⟩
end Go.Proofs.Ytidjmjfoheagmaa

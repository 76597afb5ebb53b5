/- Faults, same. -/
import Derived.Test.YtidjmjfoheagmaaQPdA
set_option linter.unusedSimpArgs false
set_option linter.unusedVariables false
namespace Go.Proofs.Ytidjmjfoheagmaa
open Go.RowKit
theorem flatF_app (a b : List (Int × Int)) : flatF (a ++ b) = flatF a ++ flatF b := by simp [flatF]
set_option maxRecDepth 20000 in
theorem faults_ok (S : Nat → Prop) (A : Option Addr) (c n : Nat) (fa : List (Int × Int)) (hn : n = fa.length) (hl : n ≤ 1000) (w : World) (hv : View w S 2 (.slice A n c) n (flatF fa)) :
    Calls Try.prog 40 #[.slice A n c] w fun e w' => ∃ B d, e = .returned (.slice B n d) ∧ View w' (New w) 2 (.slice B n d) n (flatF fa) ∧ Fr Nil w w' := by
  have Hv := hid hv
  have Hn := hid hn
  clear hv hn
  go_enter Try.func40, Try.ntmps40
  go_wp2_with fail
  go_loopw [3, 4] (fun v3 v4 wr => ∃ (i : Nat) (B : Option Addr) (d : Nat), v3 = .slice B i d ∧ v4 = .int .i64 i ∧ i ≤ n ∧ Hid (Row wr (New w) 46 2 (.slice B i d) i (flatF (fa.take i))) ∧ Fr Nil w wr) (fun _ v4 _ => n - (intOf v4).toNat)
  case atStart => exact ⟨0, none, 0, rfl, rfl, by omega, hid (Row.nil _ _ _ _), Fr.refl _ _⟩
  case round =>
    obtain ⟨i, B, d, rfl, rfl, hi, hA, hfw⟩ := hrel
    by_cases hlt : i < n
    · obtain ⟨b, o, x, y, rfl, hx, q0, q1⟩ := fau_at (Hv.out.fr hfw fun _ _ _ h => h) Hn.out hlt
      have Hx := hid hx
      clear hx
      go_upto_region 5 with (fail)
      have hS : (fun w' : World => w'.cell? ⟨b, o + i * 2, none⟩ = some (.int .i64 x) ∧ w'.cell? ⟨b, o + i * 2 + 1, none⟩ = some (.int .i64 y)) wr.drew := ⟨q0, q1⟩
      refine wpU_region (k := 13) (S := fun w' : World => w'.cell? ⟨b, o + i * 2, none⟩ = some (.int .i64 x) ∧ w'.cell? ⟨b, o + i * 2 + 1, none⟩ = some (.int .i64 y)) (by kernel_rfl) ?_
      refine wpU_take (i := 0) (v := ?_) rfl (by kernel_rfl) (by kernel_rfl) (fun _ _ _ h => h) _ _ _ _ (by kernel_rfl) (by kernel_rfl) (by kernel_rfl) (Or.inl ⟨by kernel_rfl, ?_⟩) hS ?_
      rotate_left
      · (intro w9 hS9; obtain ⟨s0, s1⟩ := hS9; go_simp); (try with_reducible rfl)
      try simp only [Act.put, List.getElem_toArray, List.getElem_cons_succ, List.getElem_cons_zero, List.setIfInBounds_toArray, List.set_cons_zero, List.set_cons_succ]
      refine wpU_take (i := 1) (v := ?_) rfl (by kernel_rfl) (by kernel_rfl) (fun _ _ _ h => h) _ _ _ _ (by kernel_rfl) (by kernel_rfl) (by kernel_rfl) (Or.inl ⟨by kernel_rfl, ?_⟩) hS ?_
      rotate_left
      · (intro w9 hS9; obtain ⟨s0, s1⟩ := hS9; go_simp); (try with_reducible rfl)
      try simp only [Act.put, List.getElem_toArray, List.getElem_cons_succ, List.getElem_cons_zero, List.setIfInBounds_toArray, List.set_cons_zero, List.set_cons_succ]
      refine wpU_take (i := 2) (v := ?_) rfl (by kernel_rfl) (by kernel_rfl) (fun _ _ _ h => h) _ _ _ _ (by kernel_rfl) (by kernel_rfl) (by kernel_rfl) (Or.inl ⟨by kernel_rfl, ?_⟩) hS ?_
      rotate_left
      · (intro w9 hS9; obtain ⟨s0, s1⟩ := hS9; go_simp); (try with_reducible rfl)
      try simp only [Act.put, List.getElem_toArray, List.getElem_cons_succ, List.getElem_cons_zero, List.setIfInBounds_toArray, List.set_cons_zero, List.set_cons_succ]
      refine wpU_take (i := 3) (v := ?_) rfl (by kernel_rfl) (by kernel_rfl) (fun _ _ _ h => h) _ _ _ _ (by kernel_rfl) (by kernel_rfl) (by kernel_rfl) (Or.inl ⟨by kernel_rfl, ?_⟩) hS ?_
      rotate_left
      · (intro w9 hS9; obtain ⟨s0, s1⟩ := hS9; go_simp); (try with_reducible rfl)
      try simp only [Act.put, List.getElem_toArray, List.getElem_cons_succ, List.getElem_cons_zero, List.setIfInBounds_toArray, List.set_cons_zero, List.set_cons_succ]
      refine wpU_take (i := 4) (v := ?_) rfl (by kernel_rfl) (by kernel_rfl) (fun _ _ _ h => h) _ _ _ _ (by kernel_rfl) (by kernel_rfl) (by kernel_rfl) (Or.inl ⟨by kernel_rfl, ?_⟩) hS ?_
      rotate_left
      · (intro w9 hS9; obtain ⟨s0, s1⟩ := hS9; go_simp); (try with_reducible rfl)
      try simp only [Act.put, List.getElem_toArray, List.getElem_cons_succ, List.getElem_cons_zero, List.setIfInBounds_toArray, List.set_cons_zero, List.set_cons_succ]
      refine wpU_take (i := 5) (v := ?_) rfl (by kernel_rfl) (by kernel_rfl) (fun _ _ _ h => h) _ _ _ _ (by kernel_rfl) (by kernel_rfl) (by kernel_rfl) (Or.inl ⟨by kernel_rfl, ?_⟩) hS ?_
      rotate_left
      · (intro w9 hS9; obtain ⟨s0, s1⟩ := hS9; go_simp); (try with_reducible rfl)
      try simp only [Act.put, List.getElem_toArray, List.getElem_cons_succ, List.getElem_cons_zero, List.setIfInBounds_toArray, List.set_cons_zero, List.set_cons_succ]
      refine wpU_take (i := 6) (v := ?_) rfl (by kernel_rfl) (by kernel_rfl) (fun _ _ _ h => h) _ _ _ _ (by kernel_rfl) (by kernel_rfl) (by kernel_rfl) (Or.inl ⟨by kernel_rfl, ?_⟩) hS ?_
      rotate_left
      · (intro w9 hS9; obtain ⟨s0, s1⟩ := hS9; go_simp); (try with_reducible rfl)
      try simp only [Act.put, List.getElem_toArray, List.getElem_cons_succ, List.getElem_cons_zero, List.setIfInBounds_toArray, List.set_cons_zero, List.set_cons_succ]
      refine wpU_take (i := 7) (v := ?_) rfl (by kernel_rfl) (by kernel_rfl) (fun _ _ _ h => h) _ _ _ _ (by kernel_rfl) (by kernel_rfl) (by kernel_rfl) (Or.inl ⟨by kernel_rfl, ?_⟩) hS ?_
      rotate_left
      · (intro w9 hS9; obtain ⟨s0, s1⟩ := hS9; go_simp); (try with_reducible rfl)
      try simp only [Act.put, List.getElem_toArray, List.getElem_cons_succ, List.getElem_cons_zero, List.setIfInBounds_toArray, List.set_cons_zero, List.set_cons_succ]
      refine wpU_take (i := 8) (v := ?_) rfl (by kernel_rfl) (by kernel_rfl) (fun _ _ _ h => h) _ _ _ _ (by kernel_rfl) (by kernel_rfl) (by kernel_rfl) (Or.inl ⟨by kernel_rfl, ?_⟩) hS ?_
      rotate_left
      · (intro w9 hS9; obtain ⟨s0, s1⟩ := hS9; go_simp); (try with_reducible rfl)
      try simp only [Act.put, List.getElem_toArray, List.getElem_cons_succ, List.getElem_cons_zero, List.setIfInBounds_toArray, List.set_cons_zero, List.set_cons_succ]
      refine wpU_take (i := 9) (v := ?_) rfl (by kernel_rfl) (by kernel_rfl) (fun _ _ _ h => h) _ _ _ _ (by kernel_rfl) (by kernel_rfl) (by kernel_rfl) (Or.inl ⟨by kernel_rfl, ?_⟩) hS ?_
      rotate_left
      · (intro w9 hS9; obtain ⟨s0, s1⟩ := hS9; go_simp); (try with_reducible rfl)
      try simp only [Act.put, List.getElem_toArray, List.getElem_cons_succ, List.getElem_cons_zero, List.setIfInBounds_toArray, List.set_cons_zero, List.set_cons_succ]
      refine wpU_take (i := 10) (v := ?_) rfl (by kernel_rfl) (by kernel_rfl) (fun _ _ _ h => h) _ _ _ _ (by kernel_rfl) (by kernel_rfl) (by kernel_rfl) (Or.inl ⟨by kernel_rfl, ?_⟩) hS ?_
      rotate_left
      · (intro w9 hS9; obtain ⟨s0, s1⟩ := hS9; go_simp); (try with_reducible rfl)
      try simp only [Act.put, List.getElem_toArray, List.getElem_cons_succ, List.getElem_cons_zero, List.setIfInBounds_toArray, List.set_cons_zero, List.set_cons_succ]
      refine wpU_take (i := 11) (v := ?_) rfl (by kernel_rfl) (by kernel_rfl) (fun _ _ _ h => h) _ _ _ _ (by kernel_rfl) (by kernel_rfl) (by kernel_rfl) (Or.inl ⟨by kernel_rfl, ?_⟩) hS ?_
      rotate_left
      · (intro w9 hS9; obtain ⟨s0, s1⟩ := hS9; go_simp); (try with_reducible rfl)
      try simp only [Act.put, List.getElem_toArray, List.getElem_cons_succ, List.getElem_cons_zero, List.setIfInBounds_toArray, List.set_cons_zero, List.set_cons_succ]
      refine wpU_next (i := 12) rfl (by kernel_rfl) (fun K hK => ?_)
      go_simp
      obtain ⟨W5, hW5⟩ : ∃ W5, W5 = wr.drew.alloc (.cells #[.int .i64 x, .int .i64 y] 46) := ⟨_, rfl⟩
      have hv5 : View W5 (New wr) 2 (.slice (some ⟨wr.heap.size, 0, none⟩) 1 1) 1 [.int .i64 x, .int .i64 y] := by rw [hW5]; exact View.lit wr.drew #[.int .i64 x, .int .i64 y] 46 (0, 0) 1 rfl (by omega)
      have hf5 : Fr Nil wr W5 := by rw [hW5]; exact ((Fr.refl _ _).drew).alloc _
      have hS5 : (fun w' : World => w'.cell? ⟨b, o + i * 2, none⟩ = some (.int .i64 x) ∧ w'.cell? ⟨b, o + i * 2 + 1, none⟩ = some (.int .i64 y)) W5 := ⟨hf5.cell q0 fun h => h, hf5.cell q1 fun h => h⟩
      refine hK.out _ _ (fun _ => by show (fun w' : World => w'.cell? ⟨b, o + i * 2, none⟩ = some (.int .i64 x) ∧ w'.cell? ⟨b, o + i * 2 + 1, none⟩ = some (.int .i64 y)) (wr.drew.alloc _); rw [← hW5]; exact hS5) ?_
      show wpU _ _ _ _ _ _ _ _ _ (wr.drew.alloc _)
      rw [← hW5]
      clear hW5
      clear hK K
      try simp only [Act.put, List.getElem_toArray, List.getElem_cons_succ, List.getElem_cons_zero, List.setIfInBounds_toArray, List.set_cons_zero, List.set_cons_succ]
      refine wpU_next (i := 13) rfl (by kernel_rfl) (fun K hK => ?_)
      refine step_app_view (by rfl) _ _ 47 (by rfl) (.agg #[.int .i64 0, .int .i64 0]) 16 Try.underlying47 info_fault (by rfl) (by decide) (hA.out.frS hf5 fun _ _ h => h) (by rfl) hv5 (by rfl) (by simp [Value.oneCell']) (by omega) (by decide) ?_
      intro B7 c7 w7 r7 f7
      have hs5 := hf5.size
      have hsw := hfw.size
      have f57 : Fr Nil w w7 := (hfw.then hf5).trans f7 fun k hk => .inr (hA.out.2 k hk)
      have hR7 := hid (show Row w7 (New w) 46 2 (.slice B7 (i + 1) c7) (i + 1) (flatF (fa.take (i + 1))) from by
        rw [List.take_add_one, Hx.out, flatF_app]
        exact r7.mono fun k hk => hk.elim (fun h => hA.out.2 k h) (fun h => Nat.le_trans hsw (Nat.le_trans hs5 h)))
      have hF7 := hid f57
      refine hK.out _ _ (fun h => absurd rfl h.1) ?_
      clear hK K r7 f7 f57
      try simp only [Act.put, List.getElem_toArray, List.getElem_cons_succ, List.getElem_cons_zero, List.setIfInBounds_toArray, List.set_cons_zero, List.set_cons_succ]
      refine wpU_next (i := 14) rfl (by kernel_rfl) (fun K hK => ?_)
      go_simp
      refine hK.out _ _ (fun h => absurd (h.2 : true = false) (by decide)) ?_
      refine wpU_done (by kernel_rfl) ?_ _
      clear hK K
      go_wp2_with fail
      go_roundw
      case rel => exact ⟨i + 1, B7, c7, rfl, by go_num, by omega, hR7, hF7.out⟩
      case measure => simp [intOf]; omega
    · have hic := hid (show i = n by omega)
      have Hfin := hid (show View wr (New w) 2 (.slice B i d) i (flatF fa) from by
        have := hA.out.view
        rwa [List.take_of_length_le (by rw [hic.out, Hn.out]; exact Nat.le_refl _)] at this)
      go_wp2
      go_ret
      have he := hic.out
      subst he
      exact ⟨B, d, rfl, Hfin.out, hfw⟩
end Go.Proofs.Ytidjmjfoheagmaa

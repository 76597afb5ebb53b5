/- PlatterFails: just the operation that is planned fails, and does nothing; all others are done. -/
import Derived.Test.YtidjmjfoheagmaaPlatFailsP
set_option linter.unusedSimpArgs false
set_option linter.unusedVariables false
namespace Go.Proofs.Ytidjmjfoheagmaa
open Go.RowKit

theorem one_fault (w : World) (a b : Int) : View (w.alloc (.cells #[.int .i64 a, .int .i64 b] 46)) (New w) 2 (.slice (some ⟨w.heap.size, 0, none⟩) 1 1) 1 (flatF [(a, b)]) :=
  View.lit w #[.int .i64 a, .int .i64 b] 46 (0, 0) 1 rfl (by omega)

set_option maxRecDepth 100000 in
set_option maxHeartbeats 8000000 in
theorem fails_1 (a0 : Int) (b0 : 0 ≤ a0 ∧ a0 < 256) (a1 : Int) (b1 : 0 ≤ a1 ∧ a1 < 256) (e0 : a0 % 3 = 0) (w : World) :
    Calls Try.prog 6 #[.int .u8 a0, .int .u8 a1] w fun e w' => e = .returned (.bool true) ∧ Fr Nil w w' := by
  obtain ⟨wn, hwn, hwn8⟩ : ∃ wn : Nat, 1 + a1 % 8 = (wn : Int) ∧ 1 ≤ wn ∧ wn ≤ 8 := ⟨(1 + a1 % 8).toNat, by omega, by omega, by omega⟩
  go_enter Try.func6, Try.ntmps6
  go_wp2_with fail
  refine (awake_ok w).mono ?_
  rintro e w1 ⟨rfl, hf1⟩
  go_wp2_with fail
  refine (pnew_ok 64 (by omega) (by omega) w1).mono ?_
  rintro e w2 ⟨pb, rfl, hP2, hf2⟩
  go_wp2_with fail
  have hl0 := one_fault w2 1 (wn : Int)
  refine (fail_ok (New w1) (New w2) pb (fresh 64) _ 1 [(1, (wn : Int))] rfl (by omega) _ (hP2.fr ((Fr.refl Nil w2).alloc _) fun _ _ h => h) hl0).mono ?_
  rintro e W2 ⟨rfl, hPW, hfW⟩
  have s1 := hf1.size
  have s2 := hf2.size
  have hPW' : IsP W2 (New w1) pb ((fresh 64).fail [(((1 : Nat) : Int), (wn : Int))]) := hPW.mono fun k hk => hk.elim id (fun h => by simp at h; unfold New; omega)
  have hF2 : Fr (New w1) w1 W2 := (hf2.nil.then ((Fr.refl (New w1) w2).alloc _)).then hfW
  have hQ0 := QI_start 1 wn
  generalize (fresh 64).fail [(((1 : Nat) : Int), (wn : Int))] = p0 at *
  have Hwn := hid hwn8; clear hwn8 hwn e0 hPW hl0
  go_wp2_with fail
  go_loopw [9] (fun v9 wr => ∃ (i : Nat) (q : Pl), v9 = .int .i64 i ∧ Fr (New w1) W2 wr ∧ IsP wr (New w1) pb q ∧ QI q i 1 wn) (fun v9 _ => 10 - (intOf v9).toNat)
  case atStart => exact ⟨1, p0, rfl, Fr.refl _ _, hPW', hQ0⟩
  case round =>
    obtain ⟨i, q, rfl, hfr, hPr, hQ⟩ := hrel
    have hi1 := hQ.2.2.2.2.2.2.1
    have hi10 := hQ.2.2.2.2.2.2.2
    have HQ := hid hQ; clear hQ
    by_cases hi9 : i ≤ 9
    · by_cases hiw : i = wn
      · have d1 : ((i : Int) == (wn : Int)) = true := by rw [hiw]; simp
        have d2 : (i == wn) = true := by simpa using hiw
        have Hw := hid hiw; clear hiw
        obtain ⟨L, hL⟩ : ∃ L, L = q.ca.length := ⟨_, rfl⟩
        have hLb : L ≤ 40 := by have := HQ.out.2.2.2.1.2.2.2.1; omega
        have HL := hid hL.symm; clear hL
        go_wp2_with fail
        refine (cached_ok _ pb q _ hPr).mono ?_
        rintro e wC ⟨rfl, rfl⟩
        rw [HL.out]
        go_wp2_with fail
        refine (full_rep i _).mono ?_
        rintro e w5 ⟨g5, rfl, hR5, hf5⟩
        go_wp2_with fail
        refine (write_any (fun k => New w1 k ∧ k < wr.heap.size) (New wr) pb q i _ _ w5 false (by rw [HQ.out.bad2]; have := Hw.out; constructor <;> intro <;> (first | omega | (rename_i hh; cases hh; done) | (rename_i hh; exact absurd hh.1 (by decide)))) (hPr.bd.fr hf5 fun _ _ h => h) (HQ.out.2.2.2.1.ok (by omega)) (by rw [HQ.out.2.2.1]; omega) hR5.view (byt_full (by omega)) (fun k hk h => by have : wr.heap.size ≤ k := hk; omega)).mono ?_
        rintro e w6 ⟨rfl, hP6, hf6⟩
        have s3 := hF2.size
        have sr := hfr.size
        have s5 := hf5.size
        have s6 := hf6.size
        replace hP6 : IsP w6 (New w1) pb (wrote false q i (rep i)) := hP6.mono fun k hk => hk.elim (fun h => h.1) (fun h => by unfold New; omega)
        have hF6 : Fr (New w1) W2 w6 := (hfr.then hf5.nil).then (hf6.mono fun k hk => hk.1)
        have hc6 : (wrote false q i (rep i)).ca.length = L + 1 := by rw [QI.ca6, HL.out]; rfl
        have Hc6 := hid hc6; clear hc6
        go_wp2_with fail
        refine (cached_ok _ pb _ _ hP6).mono ?_
        rintro e wC ⟨rfl, rfl⟩
        rw [Hc6.out]
        go_wp2_with fail
        refine (cached_ok _ pb _ _ hP6).mono ?_
        rintro e wC ⟨rfl, rfl⟩
        rw [Hc6.out]
        go_wp2_with fail
        refine (read_any (New w1) pb _ i w6 true (by rw [HQ.out.bad1]; have := Hw.out; constructor <;> intro <;> first | rfl | omega | (refine ⟨rfl, ?_⟩; omega)) hP6 ((HQ.out.okm6 hi9 _).ok (by omega)) (by rw [HQ.out.len6]; omega)).mono ?_
        rintro e w7 ⟨A7, c7, rfl, hX7, hP7, hf7⟩
        have hF7 : Fr (New w1) W2 w7 := hF6.then hf7
        go_wp2_with fail
        have hS : True := trivial
        refine wpU_region (k := 9) (S := fun w' => True) (by kernel_rfl) ?_
        refine wpU_take (i := 0) (v := ?_) rfl (by kernel_rfl) (by kernel_rfl) (fun _ _ _ h => h) _ _ _ _ (by kernel_rfl) (by kernel_rfl) (by kernel_rfl) (Or.inl ⟨by kernel_rfl, ?_⟩) hS ?_
        rotate_left
        · (intro w9 hS9; obtain s0 := hS9; go_simp); (try with_reducible rfl)
        try simp only [Act.put, List.setIfInBounds_toArray, List.set_cons_zero, List.set_cons_succ]
        refine wpU_take (i := 1) (v := ?_) rfl (by kernel_rfl) (by kernel_rfl) (fun _ _ _ h => h) _ _ _ _ (by kernel_rfl) (by kernel_rfl) (by kernel_rfl) (Or.inl ⟨by kernel_rfl, ?_⟩) hS ?_
        rotate_left
        · (intro w9 hS9; obtain s0 := hS9; go_simp); (try with_reducible rfl)
        try simp only [Act.put, List.setIfInBounds_toArray, List.set_cons_zero, List.set_cons_succ]
        refine wpU_take (i := 2) (v := ?_) rfl (by kernel_rfl) (by kernel_rfl) (fun _ _ _ h => h) _ _ _ _ (by kernel_rfl) (by kernel_rfl) (by kernel_rfl) (Or.inl ⟨by kernel_rfl, ?_⟩) hS ?_
        rotate_left
        · (intro w9 hS9; obtain s0 := hS9; go_simp); (try with_reducible rfl)
        try simp only [Act.put, List.setIfInBounds_toArray, List.set_cons_zero, List.set_cons_succ]
        refine wpU_take (i := 3) (v := undef) rfl (by kernel_rfl) (by kernel_rfl) (fun _ _ _ h => h) _ _ _ _ (by kernel_rfl) (by kernel_rfl) (by kernel_rfl) (Or.inr ⟨by kernel_rfl, rfl⟩) hS ?_
        try simp only [Act.put, List.setIfInBounds_toArray, List.set_cons_zero, List.set_cons_succ]
        refine wpU_take (i := 4) (v := undef) rfl (by kernel_rfl) (by kernel_rfl) (fun _ _ _ h => h) _ _ _ _ (by kernel_rfl) (by kernel_rfl) (by kernel_rfl) (Or.inr ⟨by kernel_rfl, rfl⟩) hS ?_
        try simp only [Act.put, List.setIfInBounds_toArray, List.set_cons_zero, List.set_cons_succ]
        refine wpU_take (i := 5) (v := undef) rfl (by kernel_rfl) (by kernel_rfl) (fun _ _ _ h => h) _ _ _ _ (by kernel_rfl) (by kernel_rfl) (by kernel_rfl) (Or.inr ⟨by kernel_rfl, rfl⟩) hS ?_
        try simp only [Act.put, List.setIfInBounds_toArray, List.set_cons_zero, List.set_cons_succ]
        refine wpU_take (i := 6) (v := undef) rfl (by kernel_rfl) (by kernel_rfl) (fun _ _ _ h => h) _ _ _ _ (by kernel_rfl) (by kernel_rfl) (by kernel_rfl) (Or.inr ⟨by kernel_rfl, rfl⟩) hS ?_
        try simp only [Act.put, List.setIfInBounds_toArray, List.set_cons_zero, List.set_cons_succ]
        refine wpU_take (i := 7) (v := undef) rfl (by kernel_rfl) (by kernel_rfl) (fun _ _ _ h => h) _ _ _ _ (by kernel_rfl) (by kernel_rfl) (by kernel_rfl) (Or.inr ⟨by kernel_rfl, rfl⟩) hS ?_
        try simp only [Act.put, List.setIfInBounds_toArray, List.set_cons_zero, List.set_cons_succ]
        refine wpU_take (i := 8) (v := undef) rfl (by kernel_rfl) (by kernel_rfl) (fun _ _ _ h => h) _ _ _ _ (by kernel_rfl) (by kernel_rfl) (by kernel_rfl) (Or.inr ⟨by kernel_rfl, rfl⟩) hS ?_
        try simp only [Act.put, List.setIfInBounds_toArray, List.set_cons_zero, List.set_cons_succ]
        refine wpU_next (i := 9) rfl (by kernel_rfl) (fun K hK => ?_)
        go_simp
        refine hK.out _ _ (fun h => absurd rfl h) ?_
        refine wpU_done (by kernel_rfl) ?_ _
        clear hK K
        have hPA : IsP w7.drew (New w1) pb _ := hP7
        have hFA : Fr (New w1) W2 w7.drew := hF7.drew
        have Hc7 : Hid (((wrote false q i (rep i)).ask 1).ca.length = L + 1) := hid Hc6.out
        go_wp2_with fail
        refine (cached_ok _ pb _ _ hPA).mono ?_
        rintro e wC ⟨rfl, rfl⟩
        rw [Hc7.out]
        go_wp2_with fail
        refine (sync_any (New w1) pb _ _ false (by rw [HQ.out.bad3]; have := Hw.out; constructor <;> intro <;> (first | omega | (rename_i hh; cases hh; done) | (rename_i hh; exact absurd hh.1 (by decide)))) hPA (((HQ.out.okm6 hi9 _).ask 1).ok (by omega))).mono ?_
        rintro e w8 ⟨rfl, hP8, hf8⟩
        have hF8 : Fr (New w1) W2 w8 := hFA.then hf8
        have hc8 : Hid ((synced false ((wrote false q i (rep i)).ask 1)).ca.length = 0) := hid (rfl)
        go_wp2_with fail
        refine (cached_ok _ pb _ _ hP8).mono ?_
        rintro e wC ⟨rfl, rfl⟩
        rw [hc8.out]
        go_wp2
        go_roundw
        case rel => exact ⟨i + 1, _, by go_num, hF8, hP8, HQ.out.next hi9 false false⟩
        case measure => simp [intOf]; omega
      · have d1 : ((i : Int) == (wn : Int)) = false := by rw [beq_eq_false_iff_ne]; omega
        have d2 : (i == wn) = false := by rw [beq_eq_false_iff_ne]; exact hiw
        have Hw := hid hiw; clear hiw
        obtain ⟨L, hL⟩ : ∃ L, L = q.ca.length := ⟨_, rfl⟩
        have hLb : L ≤ 40 := by have := HQ.out.2.2.2.1.2.2.2.1; omega
        have HL := hid hL.symm; clear hL
        go_wp2_with fail
        refine (cached_ok _ pb q _ hPr).mono ?_
        rintro e wC ⟨rfl, rfl⟩
        rw [HL.out]
        go_wp2_with fail
        refine (full_rep i _).mono ?_
        rintro e w5 ⟨g5, rfl, hR5, hf5⟩
        go_wp2_with fail
        refine (write_any (fun k => New w1 k ∧ k < wr.heap.size) (New wr) pb q i _ _ w5 false (by rw [HQ.out.bad2]; have := Hw.out; constructor <;> intro hh <;> first | (cases hh; done) | exact absurd hh.2 this) (hPr.bd.fr hf5 fun _ _ h => h) (HQ.out.2.2.2.1.ok (by omega)) (by rw [HQ.out.2.2.1]; omega) hR5.view (byt_full (by omega)) (fun k hk h => by have : wr.heap.size ≤ k := hk; omega)).mono ?_
        rintro e w6 ⟨rfl, hP6, hf6⟩
        have s3 := hF2.size
        have sr := hfr.size
        have s5 := hf5.size
        have s6 := hf6.size
        replace hP6 : IsP w6 (New w1) pb (wrote false q i (rep i)) := hP6.mono fun k hk => hk.elim (fun h => h.1) (fun h => by unfold New; omega)
        have hF6 : Fr (New w1) W2 w6 := (hfr.then hf5.nil).then (hf6.mono fun k hk => hk.1)
        have hc6 : (wrote false q i (rep i)).ca.length = L + 1 := by rw [QI.ca6, HL.out]; rfl
        have Hc6 := hid hc6; clear hc6
        go_wp2_with fail
        refine (cached_ok _ pb _ _ hP6).mono ?_
        rintro e wC ⟨rfl, rfl⟩
        rw [Hc6.out]
        go_wp2_with fail
        refine (cached_ok _ pb _ _ hP6).mono ?_
        rintro e wC ⟨rfl, rfl⟩
        rw [Hc6.out]
        go_wp2_with fail
        refine (read_any (New w1) pb _ i w6 false (by rw [HQ.out.bad1]; have := Hw.out; constructor <;> intro hh <;> first | (cases hh; done) | exact absurd hh.2 this) hP6 ((HQ.out.okm6 hi9 _).ok (by omega)) (by rw [HQ.out.len6]; omega)).mono ?_
        rintro e w7 ⟨A7, c7, rfl, hX7, hP7, hf7⟩
        have hF7 : Fr (New w1) W2 w7 := hF6.then hf7
        have hg6 : (wrote false q i (rep i)).get i = rep i := HQ.out.get6 hi9 _
        replace hX7 : View w7 (New w6) 1 (.slice A7 64 c7) 64 (bys (rep i)) := by rw [← hg6]; exact hX7
        clear hg6
        have hS : (convert 22 9 (.slice A7 64 c7)).run Try.prog w7.drew = .ok (.string (str (rep i))) w7.drew := conv_row (w := w7.drew) hX7
        go_wp2_with fail
        refine wpU_region (k := 9) (S := fun w' => (convert 22 9 (.slice A7 64 c7)).run Try.prog w' = .ok (.string (str (rep i))) w') (by kernel_rfl) ?_
        refine wpU_take (i := 0) (v := ?_) rfl (by kernel_rfl) (by kernel_rfl) (fun _ _ _ h => h) _ _ _ _ (by kernel_rfl) (by kernel_rfl) (by kernel_rfl) (Or.inl ⟨by kernel_rfl, ?_⟩) hS ?_
        rotate_left
        · (intro w9 hS9; obtain s0 := hS9; go_simp); (try with_reducible rfl)
        try simp only [Act.put, List.setIfInBounds_toArray, List.set_cons_zero, List.set_cons_succ]
        refine wpU_take (i := 1) (v := ?_) rfl (by kernel_rfl) (by kernel_rfl) (fun _ _ _ h => h) _ _ _ _ (by kernel_rfl) (by kernel_rfl) (by kernel_rfl) (Or.inl ⟨by kernel_rfl, ?_⟩) hS ?_
        rotate_left
        · (intro w9 hS9; obtain s0 := hS9; go_simp); (try with_reducible rfl)
        try simp only [Act.put, List.setIfInBounds_toArray, List.set_cons_zero, List.set_cons_succ]
        refine wpU_take (i := 2) (v := ?_) rfl (by kernel_rfl) (by kernel_rfl) (fun _ _ _ h => h) _ _ _ _ (by kernel_rfl) (by kernel_rfl) (by kernel_rfl) (Or.inl ⟨by kernel_rfl, ?_⟩) hS ?_
        rotate_left
        · (intro w9 hS9; obtain s0 := hS9; go_simp); (try with_reducible rfl)
        try simp only [Act.put, List.setIfInBounds_toArray, List.set_cons_zero, List.set_cons_succ]
        refine wpU_take (i := 3) (v := ?_) rfl (by kernel_rfl) (by kernel_rfl) (fun _ _ _ h => h) _ _ _ _ (by kernel_rfl) (by kernel_rfl) (by kernel_rfl) (Or.inl ⟨by kernel_rfl, ?_⟩) hS ?_
        rotate_left
        · (intro w9 hS9; obtain s0 := hS9; go_simp); (try with_reducible rfl)
        try simp only [Act.put, List.setIfInBounds_toArray, List.set_cons_zero, List.set_cons_succ]
        refine wpU_take (i := 4) (v := ?_) rfl (by kernel_rfl) (by kernel_rfl) (fun _ _ _ h => h) _ _ _ _ (by kernel_rfl) (by kernel_rfl) (by kernel_rfl) (Or.inl ⟨by kernel_rfl, ?_⟩) hS ?_
        rotate_left
        · (intro w9 hS9; obtain s0 := hS9; go_simp); (try with_reducible rfl)
        try simp only [Act.put, List.setIfInBounds_toArray, List.set_cons_zero, List.set_cons_succ]
        refine wpU_take (i := 5) (v := ?_) rfl (by kernel_rfl) (by kernel_rfl) (fun _ _ _ h => h) _ _ _ _ (by kernel_rfl) (by kernel_rfl) (by kernel_rfl) (Or.inl ⟨by kernel_rfl, ?_⟩) hS ?_
        rotate_left
        · (intro w9 hS9; obtain s0 := hS9; go_simp); (try with_reducible rfl)
        try simp only [Act.put, List.setIfInBounds_toArray, List.set_cons_zero, List.set_cons_succ]
        refine wpU_next (i := 6) rfl (by kernel_rfl) (fun K hK => ?_)
        go_simp
        refine (full_rep i w7.drew).mono ?_
        rintro e wA ⟨gA, rfl, hRA, hfA⟩
        have hSA := conv_row (View.fr (w := w7.drew) hX7 hfA fun _ _ _ h => h)
        have cA := conv_row hRA.view
        refine hK.out _ _ (fun _ => hSA) ?_
        clear hK K
        try simp only [Act.put, List.setIfInBounds_toArray, List.set_cons_zero, List.set_cons_succ]
        refine wpU_next (i := 7) rfl (by kernel_rfl) (fun K hK => ?_)
        go_simp
        refine hK.out _ _ (fun _ => hSA) ?_
        clear hK K
        try simp only [Act.put, List.setIfInBounds_toArray, List.set_cons_zero, List.set_cons_succ]
        refine wpU_take (i := 8) (v := ?_) rfl (by kernel_rfl) (by kernel_rfl) (fun _ _ _ h => h) _ _ _ _ (by kernel_rfl) (by kernel_rfl) (by kernel_rfl) (Or.inl ⟨by kernel_rfl, ?_⟩) hSA ?_
        rotate_left
        · (intro w9 hS9; obtain s0 := hS9; go_simp); (try with_reducible rfl)
        try simp only [Act.put, List.setIfInBounds_toArray, List.set_cons_zero, List.set_cons_succ]
        refine wpU_next (i := 9) rfl (by kernel_rfl) (fun K hK => ?_)
        go_simp
        refine hK.out _ _ (fun h => absurd rfl h) ?_
        refine wpU_done (by kernel_rfl) ?_ _
        clear hK K
        have hPA := IsP.fr (w := w7.drew) hP7 hfA fun _ _ h => h
        have hFA : Fr (New w1) W2 wA := hF7.drew.then hfA.nil
        have Hc7 : Hid (((wrote false q i (rep i)).ask 1).ca.length = L + 1) := hid Hc6.out
        go_wp2_with fail
        refine (cached_ok _ pb _ _ hPA).mono ?_
        rintro e wC ⟨rfl, rfl⟩
        rw [Hc7.out]
        go_wp2_with fail
        refine (sync_any (New w1) pb _ _ false (by rw [HQ.out.bad3]; have := Hw.out; constructor <;> intro hh <;> first | (cases hh; done) | exact absurd hh.2 this) hPA (((HQ.out.okm6 hi9 _).ask 1).ok (by omega))).mono ?_
        rintro e w8 ⟨rfl, hP8, hf8⟩
        have hF8 : Fr (New w1) W2 w8 := hFA.then hf8
        have hc8 : Hid ((synced false ((wrote false q i (rep i)).ask 1)).ca.length = 0) := hid (rfl)
        go_wp2_with fail
        refine (cached_ok _ pb _ _ hP8).mono ?_
        rintro e wC ⟨rfl, rfl⟩
        rw [hc8.out]
        go_wp2
        go_roundw
        case rel => exact ⟨i + 1, _, by go_num, hF8, hP8, HQ.out.next hi9 false false⟩
        case measure => simp [intOf]; omega
    · have hi : i = 10 := by omega
      subst hi
      have h9 : ∀ op, op = 1 ∨ op = 2 ∨ op = 3 → q.co op = 9 := fun op hop => by have := (HQ.out.1 op hop).1; omega
      have H9 := hid h9; clear h9
      go_wp2_with fail
      refine (count_ok _ pb q 1 (.inl rfl) _ hPr).mono ?_
      rintro e wC ⟨rfl, rfl⟩
      rw [H9.out 1 (by omega)]
      go_wp2_with fail
      refine (count_ok _ pb q 2 (.inr (.inl rfl)) _ hPr).mono ?_
      rintro e wC ⟨rfl, rfl⟩
      rw [H9.out 2 (by omega)]
      go_wp2_with fail
      refine (count_ok _ pb q 3 (.inr (.inr rfl)) _ hPr).mono ?_
      rintro e wC ⟨rfl, rfl⟩
      rw [H9.out 3 (by omega)]
      go_wp2
      go_ret
      exact ⟨rfl, hf1.trans (hF2.then hfr) (fun k hk => .inr (by have : w1.heap.size ≤ k := hk; omega))⟩

set_option maxRecDepth 100000 in
set_option maxHeartbeats 8000000 in
theorem fails_2 (a0 : Int) (b0 : 0 ≤ a0 ∧ a0 < 256) (a1 : Int) (b1 : 0 ≤ a1 ∧ a1 < 256) (e0 : a0 % 3 = 1) (w : World) :
    Calls Try.prog 6 #[.int .u8 a0, .int .u8 a1] w fun e w' => e = .returned (.bool true) ∧ Fr Nil w w' := by
  obtain ⟨wn, hwn, hwn8⟩ : ∃ wn : Nat, 1 + a1 % 8 = (wn : Int) ∧ 1 ≤ wn ∧ wn ≤ 8 := ⟨(1 + a1 % 8).toNat, by omega, by omega, by omega⟩
  go_enter Try.func6, Try.ntmps6
  go_wp2_with fail
  refine (awake_ok w).mono ?_
  rintro e w1 ⟨rfl, hf1⟩
  go_wp2_with fail
  refine (pnew_ok 64 (by omega) (by omega) w1).mono ?_
  rintro e w2 ⟨pb, rfl, hP2, hf2⟩
  go_wp2_with fail
  have hl0 := one_fault w2 2 (wn : Int)
  refine (fail_ok (New w1) (New w2) pb (fresh 64) _ 1 [(2, (wn : Int))] rfl (by omega) _ (hP2.fr ((Fr.refl Nil w2).alloc _) fun _ _ h => h) hl0).mono ?_
  rintro e W2 ⟨rfl, hPW, hfW⟩
  have s1 := hf1.size
  have s2 := hf2.size
  have hPW' : IsP W2 (New w1) pb ((fresh 64).fail [(((2 : Nat) : Int), (wn : Int))]) := hPW.mono fun k hk => hk.elim id (fun h => by simp at h; unfold New; omega)
  have hF2 : Fr (New w1) w1 W2 := (hf2.nil.then ((Fr.refl (New w1) w2).alloc _)).then hfW
  have hQ0 := QI_start 2 wn
  generalize (fresh 64).fail [(((2 : Nat) : Int), (wn : Int))] = p0 at *
  have Hwn := hid hwn8; clear hwn8 hwn e0 hPW hl0
  go_wp2_with fail
  go_loopw [9] (fun v9 wr => ∃ (i : Nat) (q : Pl), v9 = .int .i64 i ∧ Fr (New w1) W2 wr ∧ IsP wr (New w1) pb q ∧ QI q i 2 wn) (fun v9 _ => 10 - (intOf v9).toNat)
  case atStart => exact ⟨1, p0, rfl, Fr.refl _ _, hPW', hQ0⟩
  case round =>
    obtain ⟨i, q, rfl, hfr, hPr, hQ⟩ := hrel
    have hi1 := hQ.2.2.2.2.2.2.1
    have hi10 := hQ.2.2.2.2.2.2.2
    have HQ := hid hQ; clear hQ
    by_cases hi9 : i ≤ 9
    · by_cases hiw : i = wn
      · have d1 : ((i : Int) == (wn : Int)) = true := by rw [hiw]; simp
        have d2 : (i == wn) = true := by simpa using hiw
        have Hw := hid hiw; clear hiw
        obtain ⟨L, hL⟩ : ∃ L, L = q.ca.length := ⟨_, rfl⟩
        have hLb : L ≤ 40 := by have := HQ.out.2.2.2.1.2.2.2.1; omega
        have HL := hid hL.symm; clear hL
        go_wp2_with fail
        refine (cached_ok _ pb q _ hPr).mono ?_
        rintro e wC ⟨rfl, rfl⟩
        rw [HL.out]
        go_wp2_with fail
        refine (full_rep i _).mono ?_
        rintro e w5 ⟨g5, rfl, hR5, hf5⟩
        go_wp2_with fail
        refine (write_any (fun k => New w1 k ∧ k < wr.heap.size) (New wr) pb q i _ _ w5 true (by rw [HQ.out.bad2]; have := Hw.out; constructor <;> intro <;> first | rfl | omega | (refine ⟨rfl, ?_⟩; omega)) (hPr.bd.fr hf5 fun _ _ h => h) (HQ.out.2.2.2.1.ok (by omega)) (by rw [HQ.out.2.2.1]; omega) hR5.view (byt_full (by omega)) (fun k hk h => by have : wr.heap.size ≤ k := hk; omega)).mono ?_
        rintro e w6 ⟨rfl, hP6, hf6⟩
        have s3 := hF2.size
        have sr := hfr.size
        have s5 := hf5.size
        have s6 := hf6.size
        replace hP6 : IsP w6 (New w1) pb (wrote true q i (rep i)) := hP6.mono fun k hk => hk.elim (fun h => h.1) (fun h => by unfold New; omega)
        have hF6 : Fr (New w1) W2 w6 := (hfr.then hf5.nil).then (hf6.mono fun k hk => hk.1)
        have hc6 : (wrote true q i (rep i)).ca.length = L := by rw [QI.ca6, HL.out]; rfl
        have Hc6 := hid hc6; clear hc6
        go_wp2_with fail
        refine (cached_ok _ pb _ _ hP6).mono ?_
        rintro e wC ⟨rfl, rfl⟩
        rw [Hc6.out]
        go_wp2_with fail
        refine (cached_ok _ pb _ _ hP6).mono ?_
        rintro e wC ⟨rfl, rfl⟩
        rw [Hc6.out]
        go_wp2_with fail
        refine (read_any (New w1) pb _ i w6 false (by rw [HQ.out.bad1]; have := Hw.out; constructor <;> intro <;> (first | omega | (rename_i hh; cases hh; done) | (rename_i hh; exact absurd hh.1 (by decide)))) hP6 ((HQ.out.okm6 hi9 _).ok (by omega)) (by rw [HQ.out.len6]; omega)).mono ?_
        rintro e w7 ⟨A7, c7, rfl, hX7, hP7, hf7⟩
        have hF7 : Fr (New w1) W2 w7 := hF6.then hf7
        have hg6 : (wrote true q i (rep i)).get i = rep 0 := HQ.out.get6 hi9 _
        replace hX7 : View w7 (New w6) 1 (.slice A7 64 c7) 64 (bys (rep 0)) := by rw [← hg6]; exact hX7
        clear hg6
        have hS : (convert 22 9 (.slice A7 64 c7)).run Try.prog w7.drew = .ok (.string (str (rep 0))) w7.drew := conv_row (w := w7.drew) hX7
        go_wp2_with fail
        refine wpU_region (k := 9) (S := fun w' => (convert 22 9 (.slice A7 64 c7)).run Try.prog w' = .ok (.string (str (rep 0))) w') (by kernel_rfl) ?_
        refine wpU_take (i := 0) (v := ?_) rfl (by kernel_rfl) (by kernel_rfl) (fun _ _ _ h => h) _ _ _ _ (by kernel_rfl) (by kernel_rfl) (by kernel_rfl) (Or.inl ⟨by kernel_rfl, ?_⟩) hS ?_
        rotate_left
        · (intro w9 hS9; obtain s0 := hS9; go_simp); (try with_reducible rfl)
        try simp only [Act.put, List.setIfInBounds_toArray, List.set_cons_zero, List.set_cons_succ]
        refine wpU_take (i := 1) (v := ?_) rfl (by kernel_rfl) (by kernel_rfl) (fun _ _ _ h => h) _ _ _ _ (by kernel_rfl) (by kernel_rfl) (by kernel_rfl) (Or.inl ⟨by kernel_rfl, ?_⟩) hS ?_
        rotate_left
        · (intro w9 hS9; obtain s0 := hS9; go_simp); (try with_reducible rfl)
        try simp only [Act.put, List.setIfInBounds_toArray, List.set_cons_zero, List.set_cons_succ]
        refine wpU_take (i := 2) (v := ?_) rfl (by kernel_rfl) (by kernel_rfl) (fun _ _ _ h => h) _ _ _ _ (by kernel_rfl) (by kernel_rfl) (by kernel_rfl) (Or.inl ⟨by kernel_rfl, ?_⟩) hS ?_
        rotate_left
        · (intro w9 hS9; obtain s0 := hS9; go_simp); (try with_reducible rfl)
        try simp only [Act.put, List.setIfInBounds_toArray, List.set_cons_zero, List.set_cons_succ]
        refine wpU_take (i := 3) (v := ?_) rfl (by kernel_rfl) (by kernel_rfl) (fun _ _ _ h => h) _ _ _ _ (by kernel_rfl) (by kernel_rfl) (by kernel_rfl) (Or.inl ⟨by kernel_rfl, ?_⟩) hS ?_
        rotate_left
        · (intro w9 hS9; obtain s0 := hS9; go_simp); (try with_reducible rfl)
        try simp only [Act.put, List.setIfInBounds_toArray, List.set_cons_zero, List.set_cons_succ]
        refine wpU_take (i := 4) (v := ?_) rfl (by kernel_rfl) (by kernel_rfl) (fun _ _ _ h => h) _ _ _ _ (by kernel_rfl) (by kernel_rfl) (by kernel_rfl) (Or.inl ⟨by kernel_rfl, ?_⟩) hS ?_
        rotate_left
        · (intro w9 hS9; obtain s0 := hS9; go_simp); (try with_reducible rfl)
        try simp only [Act.put, List.setIfInBounds_toArray, List.set_cons_zero, List.set_cons_succ]
        refine wpU_take (i := 5) (v := ?_) rfl (by kernel_rfl) (by kernel_rfl) (fun _ _ _ h => h) _ _ _ _ (by kernel_rfl) (by kernel_rfl) (by kernel_rfl) (Or.inl ⟨by kernel_rfl, ?_⟩) hS ?_
        rotate_left
        · (intro w9 hS9; obtain s0 := hS9; go_simp); (try with_reducible rfl)
        try simp only [Act.put, List.setIfInBounds_toArray, List.set_cons_zero, List.set_cons_succ]
        refine wpU_next (i := 6) rfl (by kernel_rfl) (fun K hK => ?_)
        go_simp
        refine (full_rep 0 w7.drew).mono ?_
        rintro e wA ⟨gA, rfl, hRA, hfA⟩
        have hSA := conv_row (View.fr (w := w7.drew) hX7 hfA fun _ _ _ h => h)
        have cA := conv_row hRA.view
        refine hK.out _ _ (fun _ => hSA) ?_
        clear hK K
        try simp only [Act.put, List.setIfInBounds_toArray, List.set_cons_zero, List.set_cons_succ]
        refine wpU_next (i := 7) rfl (by kernel_rfl) (fun K hK => ?_)
        go_simp
        refine hK.out _ _ (fun _ => hSA) ?_
        clear hK K
        try simp only [Act.put, List.setIfInBounds_toArray, List.set_cons_zero, List.set_cons_succ]
        refine wpU_take (i := 8) (v := ?_) rfl (by kernel_rfl) (by kernel_rfl) (fun _ _ _ h => h) _ _ _ _ (by kernel_rfl) (by kernel_rfl) (by kernel_rfl) (Or.inl ⟨by kernel_rfl, ?_⟩) hSA ?_
        rotate_left
        · (intro w9 hS9; obtain s0 := hS9; go_simp); (try with_reducible rfl)
        try simp only [Act.put, List.setIfInBounds_toArray, List.set_cons_zero, List.set_cons_succ]
        refine wpU_next (i := 9) rfl (by kernel_rfl) (fun K hK => ?_)
        go_simp
        refine hK.out _ _ (fun h => absurd rfl h) ?_
        refine wpU_done (by kernel_rfl) ?_ _
        clear hK K
        have hPA := IsP.fr (w := w7.drew) hP7 hfA fun _ _ h => h
        have hFA : Fr (New w1) W2 wA := hF7.drew.then hfA.nil
        have Hc7 : Hid (((wrote true q i (rep i)).ask 1).ca.length = L) := hid Hc6.out
        go_wp2_with fail
        refine (cached_ok _ pb _ _ hPA).mono ?_
        rintro e wC ⟨rfl, rfl⟩
        rw [Hc7.out]
        go_wp2_with fail
        refine (sync_any (New w1) pb _ _ false (by rw [HQ.out.bad3]; have := Hw.out; constructor <;> intro <;> (first | omega | (rename_i hh; cases hh; done) | (rename_i hh; exact absurd hh.1 (by decide)))) hPA (((HQ.out.okm6 hi9 _).ask 1).ok (by omega))).mono ?_
        rintro e w8 ⟨rfl, hP8, hf8⟩
        have hF8 : Fr (New w1) W2 w8 := hFA.then hf8
        have hc8 : Hid ((synced false ((wrote true q i (rep i)).ask 1)).ca.length = 0) := hid (rfl)
        go_wp2_with fail
        refine (cached_ok _ pb _ _ hP8).mono ?_
        rintro e wC ⟨rfl, rfl⟩
        rw [hc8.out]
        go_wp2
        go_roundw
        case rel => exact ⟨i + 1, _, by go_num, hF8, hP8, HQ.out.next hi9 true false⟩
        case measure => simp [intOf]; omega
      · have d1 : ((i : Int) == (wn : Int)) = false := by rw [beq_eq_false_iff_ne]; omega
        have d2 : (i == wn) = false := by rw [beq_eq_false_iff_ne]; exact hiw
        have Hw := hid hiw; clear hiw
        obtain ⟨L, hL⟩ : ∃ L, L = q.ca.length := ⟨_, rfl⟩
        have hLb : L ≤ 40 := by have := HQ.out.2.2.2.1.2.2.2.1; omega
        have HL := hid hL.symm; clear hL
        go_wp2_with fail
        refine (cached_ok _ pb q _ hPr).mono ?_
        rintro e wC ⟨rfl, rfl⟩
        rw [HL.out]
        go_wp2_with fail
        refine (full_rep i _).mono ?_
        rintro e w5 ⟨g5, rfl, hR5, hf5⟩
        go_wp2_with fail
        refine (write_any (fun k => New w1 k ∧ k < wr.heap.size) (New wr) pb q i _ _ w5 false (by rw [HQ.out.bad2]; have := Hw.out; constructor <;> intro hh <;> first | (cases hh; done) | exact absurd hh.2 this) (hPr.bd.fr hf5 fun _ _ h => h) (HQ.out.2.2.2.1.ok (by omega)) (by rw [HQ.out.2.2.1]; omega) hR5.view (byt_full (by omega)) (fun k hk h => by have : wr.heap.size ≤ k := hk; omega)).mono ?_
        rintro e w6 ⟨rfl, hP6, hf6⟩
        have s3 := hF2.size
        have sr := hfr.size
        have s5 := hf5.size
        have s6 := hf6.size
        replace hP6 : IsP w6 (New w1) pb (wrote false q i (rep i)) := hP6.mono fun k hk => hk.elim (fun h => h.1) (fun h => by unfold New; omega)
        have hF6 : Fr (New w1) W2 w6 := (hfr.then hf5.nil).then (hf6.mono fun k hk => hk.1)
        have hc6 : (wrote false q i (rep i)).ca.length = L + 1 := by rw [QI.ca6, HL.out]; rfl
        have Hc6 := hid hc6; clear hc6
        go_wp2_with fail
        refine (cached_ok _ pb _ _ hP6).mono ?_
        rintro e wC ⟨rfl, rfl⟩
        rw [Hc6.out]
        go_wp2_with fail
        refine (cached_ok _ pb _ _ hP6).mono ?_
        rintro e wC ⟨rfl, rfl⟩
        rw [Hc6.out]
        go_wp2_with fail
        refine (read_any (New w1) pb _ i w6 false (by rw [HQ.out.bad1]; have := Hw.out; constructor <;> intro hh <;> first | (cases hh; done) | exact absurd hh.2 this) hP6 ((HQ.out.okm6 hi9 _).ok (by omega)) (by rw [HQ.out.len6]; omega)).mono ?_
        rintro e w7 ⟨A7, c7, rfl, hX7, hP7, hf7⟩
        have hF7 : Fr (New w1) W2 w7 := hF6.then hf7
        have hg6 : (wrote false q i (rep i)).get i = rep i := HQ.out.get6 hi9 _
        replace hX7 : View w7 (New w6) 1 (.slice A7 64 c7) 64 (bys (rep i)) := by rw [← hg6]; exact hX7
        clear hg6
        have hS : (convert 22 9 (.slice A7 64 c7)).run Try.prog w7.drew = .ok (.string (str (rep i))) w7.drew := conv_row (w := w7.drew) hX7
        go_wp2_with fail
        refine wpU_region (k := 9) (S := fun w' => (convert 22 9 (.slice A7 64 c7)).run Try.prog w' = .ok (.string (str (rep i))) w') (by kernel_rfl) ?_
        refine wpU_take (i := 0) (v := ?_) rfl (by kernel_rfl) (by kernel_rfl) (fun _ _ _ h => h) _ _ _ _ (by kernel_rfl) (by kernel_rfl) (by kernel_rfl) (Or.inl ⟨by kernel_rfl, ?_⟩) hS ?_
        rotate_left
        · (intro w9 hS9; obtain s0 := hS9; go_simp); (try with_reducible rfl)
        try simp only [Act.put, List.setIfInBounds_toArray, List.set_cons_zero, List.set_cons_succ]
        refine wpU_take (i := 1) (v := ?_) rfl (by kernel_rfl) (by kernel_rfl) (fun _ _ _ h => h) _ _ _ _ (by kernel_rfl) (by kernel_rfl) (by kernel_rfl) (Or.inl ⟨by kernel_rfl, ?_⟩) hS ?_
        rotate_left
        · (intro w9 hS9; obtain s0 := hS9; go_simp); (try with_reducible rfl)
        try simp only [Act.put, List.setIfInBounds_toArray, List.set_cons_zero, List.set_cons_succ]
        refine wpU_take (i := 2) (v := ?_) rfl (by kernel_rfl) (by kernel_rfl) (fun _ _ _ h => h) _ _ _ _ (by kernel_rfl) (by kernel_rfl) (by kernel_rfl) (Or.inl ⟨by kernel_rfl, ?_⟩) hS ?_
        rotate_left
        · (intro w9 hS9; obtain s0 := hS9; go_simp); (try with_reducible rfl)
        try simp only [Act.put, List.setIfInBounds_toArray, List.set_cons_zero, List.set_cons_succ]
        refine wpU_take (i := 3) (v := ?_) rfl (by kernel_rfl) (by kernel_rfl) (fun _ _ _ h => h) _ _ _ _ (by kernel_rfl) (by kernel_rfl) (by kernel_rfl) (Or.inl ⟨by kernel_rfl, ?_⟩) hS ?_
        rotate_left
        · (intro w9 hS9; obtain s0 := hS9; go_simp); (try with_reducible rfl)
        try simp only [Act.put, List.setIfInBounds_toArray, List.set_cons_zero, List.set_cons_succ]
        refine wpU_take (i := 4) (v := ?_) rfl (by kernel_rfl) (by kernel_rfl) (fun _ _ _ h => h) _ _ _ _ (by kernel_rfl) (by kernel_rfl) (by kernel_rfl) (Or.inl ⟨by kernel_rfl, ?_⟩) hS ?_
        rotate_left
        · (intro w9 hS9; obtain s0 := hS9; go_simp); (try with_reducible rfl)
        try simp only [Act.put, List.setIfInBounds_toArray, List.set_cons_zero, List.set_cons_succ]
        refine wpU_take (i := 5) (v := ?_) rfl (by kernel_rfl) (by kernel_rfl) (fun _ _ _ h => h) _ _ _ _ (by kernel_rfl) (by kernel_rfl) (by kernel_rfl) (Or.inl ⟨by kernel_rfl, ?_⟩) hS ?_
        rotate_left
        · (intro w9 hS9; obtain s0 := hS9; go_simp); (try with_reducible rfl)
        try simp only [Act.put, List.setIfInBounds_toArray, List.set_cons_zero, List.set_cons_succ]
        refine wpU_next (i := 6) rfl (by kernel_rfl) (fun K hK => ?_)
        go_simp
        refine (full_rep i w7.drew).mono ?_
        rintro e wA ⟨gA, rfl, hRA, hfA⟩
        have hSA := conv_row (View.fr (w := w7.drew) hX7 hfA fun _ _ _ h => h)
        have cA := conv_row hRA.view
        refine hK.out _ _ (fun _ => hSA) ?_
        clear hK K
        try simp only [Act.put, List.setIfInBounds_toArray, List.set_cons_zero, List.set_cons_succ]
        refine wpU_next (i := 7) rfl (by kernel_rfl) (fun K hK => ?_)
        go_simp
        refine hK.out _ _ (fun _ => hSA) ?_
        clear hK K
        try simp only [Act.put, List.setIfInBounds_toArray, List.set_cons_zero, List.set_cons_succ]
        refine wpU_take (i := 8) (v := ?_) rfl (by kernel_rfl) (by kernel_rfl) (fun _ _ _ h => h) _ _ _ _ (by kernel_rfl) (by kernel_rfl) (by kernel_rfl) (Or.inl ⟨by kernel_rfl, ?_⟩) hSA ?_
        rotate_left
        · (intro w9 hS9; obtain s0 := hS9; go_simp); (try with_reducible rfl)
        try simp only [Act.put, List.setIfInBounds_toArray, List.set_cons_zero, List.set_cons_succ]
        refine wpU_next (i := 9) rfl (by kernel_rfl) (fun K hK => ?_)
        go_simp
        refine hK.out _ _ (fun h => absurd rfl h) ?_
        refine wpU_done (by kernel_rfl) ?_ _
        clear hK K
        have hPA := IsP.fr (w := w7.drew) hP7 hfA fun _ _ h => h
        have hFA : Fr (New w1) W2 wA := hF7.drew.then hfA.nil
        have Hc7 : Hid (((wrote false q i (rep i)).ask 1).ca.length = L + 1) := hid Hc6.out
        go_wp2_with fail
        refine (cached_ok _ pb _ _ hPA).mono ?_
        rintro e wC ⟨rfl, rfl⟩
        rw [Hc7.out]
        go_wp2_with fail
        refine (sync_any (New w1) pb _ _ false (by rw [HQ.out.bad3]; have := Hw.out; constructor <;> intro hh <;> first | (cases hh; done) | exact absurd hh.2 this) hPA (((HQ.out.okm6 hi9 _).ask 1).ok (by omega))).mono ?_
        rintro e w8 ⟨rfl, hP8, hf8⟩
        have hF8 : Fr (New w1) W2 w8 := hFA.then hf8
        have hc8 : Hid ((synced false ((wrote false q i (rep i)).ask 1)).ca.length = 0) := hid (rfl)
        go_wp2_with fail
        refine (cached_ok _ pb _ _ hP8).mono ?_
        rintro e wC ⟨rfl, rfl⟩
        rw [hc8.out]
        go_wp2
        go_roundw
        case rel => exact ⟨i + 1, _, by go_num, hF8, hP8, HQ.out.next hi9 false false⟩
        case measure => simp [intOf]; omega
    · have hi : i = 10 := by omega
      subst hi
      have h9 : ∀ op, op = 1 ∨ op = 2 ∨ op = 3 → q.co op = 9 := fun op hop => by have := (HQ.out.1 op hop).1; omega
      have H9 := hid h9; clear h9
      go_wp2_with fail
      refine (count_ok _ pb q 1 (.inl rfl) _ hPr).mono ?_
      rintro e wC ⟨rfl, rfl⟩
      rw [H9.out 1 (by omega)]
      go_wp2_with fail
      refine (count_ok _ pb q 2 (.inr (.inl rfl)) _ hPr).mono ?_
      rintro e wC ⟨rfl, rfl⟩
      rw [H9.out 2 (by omega)]
      go_wp2_with fail
      refine (count_ok _ pb q 3 (.inr (.inr rfl)) _ hPr).mono ?_
      rintro e wC ⟨rfl, rfl⟩
      rw [H9.out 3 (by omega)]
      go_wp2
      go_ret
      exact ⟨rfl, hf1.trans (hF2.then hfr) (fun k hk => .inr (by have : w1.heap.size ≤ k := hk; omega))⟩

set_option maxRecDepth 100000 in
set_option maxHeartbeats 8000000 in
theorem fails_3 (a0 : Int) (b0 : 0 ≤ a0 ∧ a0 < 256) (a1 : Int) (b1 : 0 ≤ a1 ∧ a1 < 256) (e0 : a0 % 3 = 2) (w : World) :
    Calls Try.prog 6 #[.int .u8 a0, .int .u8 a1] w fun e w' => e = .returned (.bool true) ∧ Fr Nil w w' := by
  obtain ⟨wn, hwn, hwn8⟩ : ∃ wn : Nat, 1 + a1 % 8 = (wn : Int) ∧ 1 ≤ wn ∧ wn ≤ 8 := ⟨(1 + a1 % 8).toNat, by omega, by omega, by omega⟩
  go_enter Try.func6, Try.ntmps6
  go_wp2_with fail
  refine (awake_ok w).mono ?_
  rintro e w1 ⟨rfl, hf1⟩
  go_wp2_with fail
  refine (pnew_ok 64 (by omega) (by omega) w1).mono ?_
  rintro e w2 ⟨pb, rfl, hP2, hf2⟩
  go_wp2_with fail
  have hl0 := one_fault w2 3 (wn : Int)
  refine (fail_ok (New w1) (New w2) pb (fresh 64) _ 1 [(3, (wn : Int))] rfl (by omega) _ (hP2.fr ((Fr.refl Nil w2).alloc _) fun _ _ h => h) hl0).mono ?_
  rintro e W2 ⟨rfl, hPW, hfW⟩
  have s1 := hf1.size
  have s2 := hf2.size
  have hPW' : IsP W2 (New w1) pb ((fresh 64).fail [(((3 : Nat) : Int), (wn : Int))]) := hPW.mono fun k hk => hk.elim id (fun h => by simp at h; unfold New; omega)
  have hF2 : Fr (New w1) w1 W2 := (hf2.nil.then ((Fr.refl (New w1) w2).alloc _)).then hfW
  have hQ0 := QI_start 3 wn
  generalize (fresh 64).fail [(((3 : Nat) : Int), (wn : Int))] = p0 at *
  have Hwn := hid hwn8; clear hwn8 hwn e0 hPW hl0
  go_wp2_with fail
  go_loopw [9] (fun v9 wr => ∃ (i : Nat) (q : Pl), v9 = .int .i64 i ∧ Fr (New w1) W2 wr ∧ IsP wr (New w1) pb q ∧ QI q i 3 wn) (fun v9 _ => 10 - (intOf v9).toNat)
  case atStart => exact ⟨1, p0, rfl, Fr.refl _ _, hPW', hQ0⟩
  case round =>
    obtain ⟨i, q, rfl, hfr, hPr, hQ⟩ := hrel
    have hi1 := hQ.2.2.2.2.2.2.1
    have hi10 := hQ.2.2.2.2.2.2.2
    have HQ := hid hQ; clear hQ
    by_cases hi9 : i ≤ 9
    · by_cases hiw : i = wn
      · have d1 : ((i : Int) == (wn : Int)) = true := by rw [hiw]; simp
        have d2 : (i == wn) = true := by simpa using hiw
        have Hw := hid hiw; clear hiw
        obtain ⟨L, hL⟩ : ∃ L, L = q.ca.length := ⟨_, rfl⟩
        have hLb : L ≤ 40 := by have := HQ.out.2.2.2.1.2.2.2.1; omega
        have HL := hid hL.symm; clear hL
        go_wp2_with fail
        refine (cached_ok _ pb q _ hPr).mono ?_
        rintro e wC ⟨rfl, rfl⟩
        rw [HL.out]
        go_wp2_with fail
        refine (full_rep i _).mono ?_
        rintro e w5 ⟨g5, rfl, hR5, hf5⟩
        go_wp2_with fail
        refine (write_any (fun k => New w1 k ∧ k < wr.heap.size) (New wr) pb q i _ _ w5 false (by rw [HQ.out.bad2]; have := Hw.out; constructor <;> intro <;> (first | omega | (rename_i hh; cases hh; done) | (rename_i hh; exact absurd hh.1 (by decide)))) (hPr.bd.fr hf5 fun _ _ h => h) (HQ.out.2.2.2.1.ok (by omega)) (by rw [HQ.out.2.2.1]; omega) hR5.view (byt_full (by omega)) (fun k hk h => by have : wr.heap.size ≤ k := hk; omega)).mono ?_
        rintro e w6 ⟨rfl, hP6, hf6⟩
        have s3 := hF2.size
        have sr := hfr.size
        have s5 := hf5.size
        have s6 := hf6.size
        replace hP6 : IsP w6 (New w1) pb (wrote false q i (rep i)) := hP6.mono fun k hk => hk.elim (fun h => h.1) (fun h => by unfold New; omega)
        have hF6 : Fr (New w1) W2 w6 := (hfr.then hf5.nil).then (hf6.mono fun k hk => hk.1)
        have hc6 : (wrote false q i (rep i)).ca.length = L + 1 := by rw [QI.ca6, HL.out]; rfl
        have Hc6 := hid hc6; clear hc6
        go_wp2_with fail
        refine (cached_ok _ pb _ _ hP6).mono ?_
        rintro e wC ⟨rfl, rfl⟩
        rw [Hc6.out]
        go_wp2_with fail
        refine (cached_ok _ pb _ _ hP6).mono ?_
        rintro e wC ⟨rfl, rfl⟩
        rw [Hc6.out]
        go_wp2_with fail
        refine (read_any (New w1) pb _ i w6 false (by rw [HQ.out.bad1]; have := Hw.out; constructor <;> intro <;> (first | omega | (rename_i hh; cases hh; done) | (rename_i hh; exact absurd hh.1 (by decide)))) hP6 ((HQ.out.okm6 hi9 _).ok (by omega)) (by rw [HQ.out.len6]; omega)).mono ?_
        rintro e w7 ⟨A7, c7, rfl, hX7, hP7, hf7⟩
        have hF7 : Fr (New w1) W2 w7 := hF6.then hf7
        have hg6 : (wrote false q i (rep i)).get i = rep i := HQ.out.get6 hi9 _
        replace hX7 : View w7 (New w6) 1 (.slice A7 64 c7) 64 (bys (rep i)) := by rw [← hg6]; exact hX7
        clear hg6
        have hS : (convert 22 9 (.slice A7 64 c7)).run Try.prog w7.drew = .ok (.string (str (rep i))) w7.drew := conv_row (w := w7.drew) hX7
        go_wp2_with fail
        refine wpU_region (k := 9) (S := fun w' => (convert 22 9 (.slice A7 64 c7)).run Try.prog w' = .ok (.string (str (rep i))) w') (by kernel_rfl) ?_
        refine wpU_take (i := 0) (v := ?_) rfl (by kernel_rfl) (by kernel_rfl) (fun _ _ _ h => h) _ _ _ _ (by kernel_rfl) (by kernel_rfl) (by kernel_rfl) (Or.inl ⟨by kernel_rfl, ?_⟩) hS ?_
        rotate_left
        · (intro w9 hS9; obtain s0 := hS9; go_simp); (try with_reducible rfl)
        try simp only [Act.put, List.setIfInBounds_toArray, List.set_cons_zero, List.set_cons_succ]
        refine wpU_take (i := 1) (v := ?_) rfl (by kernel_rfl) (by kernel_rfl) (fun _ _ _ h => h) _ _ _ _ (by kernel_rfl) (by kernel_rfl) (by kernel_rfl) (Or.inl ⟨by kernel_rfl, ?_⟩) hS ?_
        rotate_left
        · (intro w9 hS9; obtain s0 := hS9; go_simp); (try with_reducible rfl)
        try simp only [Act.put, List.setIfInBounds_toArray, List.set_cons_zero, List.set_cons_succ]
        refine wpU_take (i := 2) (v := ?_) rfl (by kernel_rfl) (by kernel_rfl) (fun _ _ _ h => h) _ _ _ _ (by kernel_rfl) (by kernel_rfl) (by kernel_rfl) (Or.inl ⟨by kernel_rfl, ?_⟩) hS ?_
        rotate_left
        · (intro w9 hS9; obtain s0 := hS9; go_simp); (try with_reducible rfl)
        try simp only [Act.put, List.setIfInBounds_toArray, List.set_cons_zero, List.set_cons_succ]
        refine wpU_take (i := 3) (v := ?_) rfl (by kernel_rfl) (by kernel_rfl) (fun _ _ _ h => h) _ _ _ _ (by kernel_rfl) (by kernel_rfl) (by kernel_rfl) (Or.inl ⟨by kernel_rfl, ?_⟩) hS ?_
        rotate_left
        · (intro w9 hS9; obtain s0 := hS9; go_simp); (try with_reducible rfl)
        try simp only [Act.put, List.setIfInBounds_toArray, List.set_cons_zero, List.set_cons_succ]
        refine wpU_take (i := 4) (v := ?_) rfl (by kernel_rfl) (by kernel_rfl) (fun _ _ _ h => h) _ _ _ _ (by kernel_rfl) (by kernel_rfl) (by kernel_rfl) (Or.inl ⟨by kernel_rfl, ?_⟩) hS ?_
        rotate_left
        · (intro w9 hS9; obtain s0 := hS9; go_simp); (try with_reducible rfl)
        try simp only [Act.put, List.setIfInBounds_toArray, List.set_cons_zero, List.set_cons_succ]
        refine wpU_take (i := 5) (v := ?_) rfl (by kernel_rfl) (by kernel_rfl) (fun _ _ _ h => h) _ _ _ _ (by kernel_rfl) (by kernel_rfl) (by kernel_rfl) (Or.inl ⟨by kernel_rfl, ?_⟩) hS ?_
        rotate_left
        · (intro w9 hS9; obtain s0 := hS9; go_simp); (try with_reducible rfl)
        try simp only [Act.put, List.setIfInBounds_toArray, List.set_cons_zero, List.set_cons_succ]
        refine wpU_next (i := 6) rfl (by kernel_rfl) (fun K hK => ?_)
        go_simp
        refine (full_rep i w7.drew).mono ?_
        rintro e wA ⟨gA, rfl, hRA, hfA⟩
        have hSA := conv_row (View.fr (w := w7.drew) hX7 hfA fun _ _ _ h => h)
        have cA := conv_row hRA.view
        refine hK.out _ _ (fun _ => hSA) ?_
        clear hK K
        try simp only [Act.put, List.setIfInBounds_toArray, List.set_cons_zero, List.set_cons_succ]
        refine wpU_next (i := 7) rfl (by kernel_rfl) (fun K hK => ?_)
        go_simp
        refine hK.out _ _ (fun _ => hSA) ?_
        clear hK K
        try simp only [Act.put, List.setIfInBounds_toArray, List.set_cons_zero, List.set_cons_succ]
        refine wpU_take (i := 8) (v := ?_) rfl (by kernel_rfl) (by kernel_rfl) (fun _ _ _ h => h) _ _ _ _ (by kernel_rfl) (by kernel_rfl) (by kernel_rfl) (Or.inl ⟨by kernel_rfl, ?_⟩) hSA ?_
        rotate_left
        · (intro w9 hS9; obtain s0 := hS9; go_simp); (try with_reducible rfl)
        try simp only [Act.put, List.setIfInBounds_toArray, List.set_cons_zero, List.set_cons_succ]
        refine wpU_next (i := 9) rfl (by kernel_rfl) (fun K hK => ?_)
        go_simp
        refine hK.out _ _ (fun h => absurd rfl h) ?_
        refine wpU_done (by kernel_rfl) ?_ _
        clear hK K
        have hPA := IsP.fr (w := w7.drew) hP7 hfA fun _ _ h => h
        have hFA : Fr (New w1) W2 wA := hF7.drew.then hfA.nil
        have Hc7 : Hid (((wrote false q i (rep i)).ask 1).ca.length = L + 1) := hid Hc6.out
        go_wp2_with fail
        refine (cached_ok _ pb _ _ hPA).mono ?_
        rintro e wC ⟨rfl, rfl⟩
        rw [Hc7.out]
        go_wp2_with fail
        refine (sync_any (New w1) pb _ _ true (by rw [HQ.out.bad3]; have := Hw.out; constructor <;> intro <;> first | rfl | omega | (refine ⟨rfl, ?_⟩; omega)) hPA (((HQ.out.okm6 hi9 _).ask 1).ok (by omega))).mono ?_
        rintro e w8 ⟨rfl, hP8, hf8⟩
        have hF8 : Fr (New w1) W2 w8 := hFA.then hf8
        have hc8 : Hid ((synced true ((wrote false q i (rep i)).ask 1)).ca.length = L + 1) := hid (Hc7.out)
        go_wp2_with fail
        refine (cached_ok _ pb _ _ hP8).mono ?_
        rintro e wC ⟨rfl, rfl⟩
        rw [hc8.out]
        go_wp2
        go_roundw
        case rel => exact ⟨i + 1, _, by go_num, hF8, hP8, HQ.out.next hi9 false true⟩
        case measure => simp [intOf]; omega
      · have d1 : ((i : Int) == (wn : Int)) = false := by rw [beq_eq_false_iff_ne]; omega
        have d2 : (i == wn) = false := by rw [beq_eq_false_iff_ne]; exact hiw
        have Hw := hid hiw; clear hiw
        obtain ⟨L, hL⟩ : ∃ L, L = q.ca.length := ⟨_, rfl⟩
        have hLb : L ≤ 40 := by have := HQ.out.2.2.2.1.2.2.2.1; omega
        have HL := hid hL.symm; clear hL
        go_wp2_with fail
        refine (cached_ok _ pb q _ hPr).mono ?_
        rintro e wC ⟨rfl, rfl⟩
        rw [HL.out]
        go_wp2_with fail
        refine (full_rep i _).mono ?_
        rintro e w5 ⟨g5, rfl, hR5, hf5⟩
        go_wp2_with fail
        refine (write_any (fun k => New w1 k ∧ k < wr.heap.size) (New wr) pb q i _ _ w5 false (by rw [HQ.out.bad2]; have := Hw.out; constructor <;> intro hh <;> first | (cases hh; done) | exact absurd hh.2 this) (hPr.bd.fr hf5 fun _ _ h => h) (HQ.out.2.2.2.1.ok (by omega)) (by rw [HQ.out.2.2.1]; omega) hR5.view (byt_full (by omega)) (fun k hk h => by have : wr.heap.size ≤ k := hk; omega)).mono ?_
        rintro e w6 ⟨rfl, hP6, hf6⟩
        have s3 := hF2.size
        have sr := hfr.size
        have s5 := hf5.size
        have s6 := hf6.size
        replace hP6 : IsP w6 (New w1) pb (wrote false q i (rep i)) := hP6.mono fun k hk => hk.elim (fun h => h.1) (fun h => by unfold New; omega)
        have hF6 : Fr (New w1) W2 w6 := (hfr.then hf5.nil).then (hf6.mono fun k hk => hk.1)
        have hc6 : (wrote false q i (rep i)).ca.length = L + 1 := by rw [QI.ca6, HL.out]; rfl
        have Hc6 := hid hc6; clear hc6
        go_wp2_with fail
        refine (cached_ok _ pb _ _ hP6).mono ?_
        rintro e wC ⟨rfl, rfl⟩
        rw [Hc6.out]
        go_wp2_with fail
        refine (cached_ok _ pb _ _ hP6).mono ?_
        rintro e wC ⟨rfl, rfl⟩
        rw [Hc6.out]
        go_wp2_with fail
        refine (read_any (New w1) pb _ i w6 false (by rw [HQ.out.bad1]; have := Hw.out; constructor <;> intro hh <;> first | (cases hh; done) | exact absurd hh.2 this) hP6 ((HQ.out.okm6 hi9 _).ok (by omega)) (by rw [HQ.out.len6]; omega)).mono ?_
        rintro e w7 ⟨A7, c7, rfl, hX7, hP7, hf7⟩
        have hF7 : Fr (New w1) W2 w7 := hF6.then hf7
        have hg6 : (wrote false q i (rep i)).get i = rep i := HQ.out.get6 hi9 _
        replace hX7 : View w7 (New w6) 1 (.slice A7 64 c7) 64 (bys (rep i)) := by rw [← hg6]; exact hX7
        clear hg6
        have hS : (convert 22 9 (.slice A7 64 c7)).run Try.prog w7.drew = .ok (.string (str (rep i))) w7.drew := conv_row (w := w7.drew) hX7
        go_wp2_with fail
        refine wpU_region (k := 9) (S := fun w' => (convert 22 9 (.slice A7 64 c7)).run Try.prog w' = .ok (.string (str (rep i))) w') (by kernel_rfl) ?_
        refine wpU_take (i := 0) (v := ?_) rfl (by kernel_rfl) (by kernel_rfl) (fun _ _ _ h => h) _ _ _ _ (by kernel_rfl) (by kernel_rfl) (by kernel_rfl) (Or.inl ⟨by kernel_rfl, ?_⟩) hS ?_
        rotate_left
        · (intro w9 hS9; obtain s0 := hS9; go_simp); (try with_reducible rfl)
        try simp only [Act.put, List.setIfInBounds_toArray, List.set_cons_zero, List.set_cons_succ]
        refine wpU_take (i := 1) (v := ?_) rfl (by kernel_rfl) (by kernel_rfl) (fun _ _ _ h => h) _ _ _ _ (by kernel_rfl) (by kernel_rfl) (by kernel_rfl) (Or.inl ⟨by kernel_rfl, ?_⟩) hS ?_
        rotate_left
        · (intro w9 hS9; obtain s0 := hS9; go_simp); (try with_reducible rfl)
        try simp only [Act.put, List.setIfInBounds_toArray, List.set_cons_zero, List.set_cons_succ]
        refine wpU_take (i := 2) (v := ?_) rfl (by kernel_rfl) (by kernel_rfl) (fun _ _ _ h => h) _ _ _ _ (by kernel_rfl) (by kernel_rfl) (by kernel_rfl) (Or.inl ⟨by kernel_rfl, ?_⟩) hS ?_
        rotate_left
        · (intro w9 hS9; obtain s0 := hS9; go_simp); (try with_reducible rfl)
        try simp only [Act.put, List.setIfInBounds_toArray, List.set_cons_zero, List.set_cons_succ]
        refine wpU_take (i := 3) (v := ?_) rfl (by kernel_rfl) (by kernel_rfl) (fun _ _ _ h => h) _ _ _ _ (by kernel_rfl) (by kernel_rfl) (by kernel_rfl) (Or.inl ⟨by kernel_rfl, ?_⟩) hS ?_
        rotate_left
        · (intro w9 hS9; obtain s0 := hS9; go_simp); (try with_reducible rfl)
        try simp only [Act.put, List.setIfInBounds_toArray, List.set_cons_zero, List.set_cons_succ]
        refine wpU_take (i := 4) (v := ?_) rfl (by kernel_rfl) (by kernel_rfl) (fun _ _ _ h => h) _ _ _ _ (by kernel_rfl) (by kernel_rfl) (by kernel_rfl) (Or.inl ⟨by kernel_rfl, ?_⟩) hS ?_
        rotate_left
        · (intro w9 hS9; obtain s0 := hS9; go_simp); (try with_reducible rfl)
        try simp only [Act.put, List.setIfInBounds_toArray, List.set_cons_zero, List.set_cons_succ]
        refine wpU_take (i := 5) (v := ?_) rfl (by kernel_rfl) (by kernel_rfl) (fun _ _ _ h => h) _ _ _ _ (by kernel_rfl) (by kernel_rfl) (by kernel_rfl) (Or.inl ⟨by kernel_rfl, ?_⟩) hS ?_
        rotate_left
        · (intro w9 hS9; obtain s0 := hS9; go_simp); (try with_reducible rfl)
        try simp only [Act.put, List.setIfInBounds_toArray, List.set_cons_zero, List.set_cons_succ]
        refine wpU_next (i := 6) rfl (by kernel_rfl) (fun K hK => ?_)
        go_simp
        refine (full_rep i w7.drew).mono ?_
        rintro e wA ⟨gA, rfl, hRA, hfA⟩
        have hSA := conv_row (View.fr (w := w7.drew) hX7 hfA fun _ _ _ h => h)
        have cA := conv_row hRA.view
        refine hK.out _ _ (fun _ => hSA) ?_
        clear hK K
        try simp only [Act.put, List.setIfInBounds_toArray, List.set_cons_zero, List.set_cons_succ]
        refine wpU_next (i := 7) rfl (by kernel_rfl) (fun K hK => ?_)
        go_simp
        refine hK.out _ _ (fun _ => hSA) ?_
        clear hK K
        try simp only [Act.put, List.setIfInBounds_toArray, List.set_cons_zero, List.set_cons_succ]
        refine wpU_take (i := 8) (v := ?_) rfl (by kernel_rfl) (by kernel_rfl) (fun _ _ _ h => h) _ _ _ _ (by kernel_rfl) (by kernel_rfl) (by kernel_rfl) (Or.inl ⟨by kernel_rfl, ?_⟩) hSA ?_
        rotate_left
        · (intro w9 hS9; obtain s0 := hS9; go_simp); (try with_reducible rfl)
        try simp only [Act.put, List.setIfInBounds_toArray, List.set_cons_zero, List.set_cons_succ]
        refine wpU_next (i := 9) rfl (by kernel_rfl) (fun K hK => ?_)
        go_simp
        refine hK.out _ _ (fun h => absurd rfl h) ?_
        refine wpU_done (by kernel_rfl) ?_ _
        clear hK K
        have hPA := IsP.fr (w := w7.drew) hP7 hfA fun _ _ h => h
        have hFA : Fr (New w1) W2 wA := hF7.drew.then hfA.nil
        have Hc7 : Hid (((wrote false q i (rep i)).ask 1).ca.length = L + 1) := hid Hc6.out
        go_wp2_with fail
        refine (cached_ok _ pb _ _ hPA).mono ?_
        rintro e wC ⟨rfl, rfl⟩
        rw [Hc7.out]
        go_wp2_with fail
        refine (sync_any (New w1) pb _ _ false (by rw [HQ.out.bad3]; have := Hw.out; constructor <;> intro hh <;> first | (cases hh; done) | exact absurd hh.2 this) hPA (((HQ.out.okm6 hi9 _).ask 1).ok (by omega))).mono ?_
        rintro e w8 ⟨rfl, hP8, hf8⟩
        have hF8 : Fr (New w1) W2 w8 := hFA.then hf8
        have hc8 : Hid ((synced false ((wrote false q i (rep i)).ask 1)).ca.length = 0) := hid (rfl)
        go_wp2_with fail
        refine (cached_ok _ pb _ _ hP8).mono ?_
        rintro e wC ⟨rfl, rfl⟩
        rw [hc8.out]
        go_wp2
        go_roundw
        case rel => exact ⟨i + 1, _, by go_num, hF8, hP8, HQ.out.next hi9 false false⟩
        case measure => simp [intOf]; omega
    · have hi : i = 10 := by omega
      subst hi
      have h9 : ∀ op, op = 1 ∨ op = 2 ∨ op = 3 → q.co op = 9 := fun op hop => by have := (HQ.out.1 op hop).1; omega
      have H9 := hid h9; clear h9
      go_wp2_with fail
      refine (count_ok _ pb q 1 (.inl rfl) _ hPr).mono ?_
      rintro e wC ⟨rfl, rfl⟩
      rw [H9.out 1 (by omega)]
      go_wp2_with fail
      refine (count_ok _ pb q 2 (.inr (.inl rfl)) _ hPr).mono ?_
      rintro e wC ⟨rfl, rfl⟩
      rw [H9.out 2 (by omega)]
      go_wp2_with fail
      refine (count_ok _ pb q 3 (.inr (.inr rfl)) _ hPr).mono ?_
      rintro e wC ⟨rfl, rfl⟩
      rw [H9.out 3 (by omega)]
      go_wp2
      go_ret
      exact ⟨rfl, hf1.trans (hF2.then hfr) (fun k hk => .inr (by have : w1.heap.size ≤ k := hk; omega))⟩

theorem fails_law (a0 : Int) (w0 : (Lit.int .u8 a0).wf = true) (a1 : Int) (w1 : (Lit.int .u8 a1).wf = true) (w : World) :
    Calls Try.prog 6 #[.int .u8 a0, .int .u8 a1] w fun e w' => e = .returned (.bool true) ∧ Fr Nil w w' := by
  have h0 := bounds_u8 w0
  have h1 := bounds_u8 w1
  have h : a0 % 3 = 0 ∨ a0 % 3 = 1 ∨ a0 % 3 = 2 := by omega
  rcases h with h | h | h
  · exact fails_1 a0 h0 a1 h1 h w
  · exact fails_2 a0 h0 a1 h1 h w
  · exact fails_3 a0 h0 a1 h1 h w
end Go.Proofs.Ytidjmjfoheagmaa

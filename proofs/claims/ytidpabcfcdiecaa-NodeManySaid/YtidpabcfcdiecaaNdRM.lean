/- The reference's run, gen, PlaceMay, May (chapter 13). -/
import Derived.Test.YtidpabcfcdiecaaNdI
import Derived.Deep.QuietTactic
import Derived.BigQuiet
set_option linter.unusedSimpArgs false
set_option linter.unusedVariables false
namespace Go.Proofs.Ytidpabcfcdiecaa
open Go.RowKit

def runOk (a n : Int) : Prop := (0 ≤ a ∧ a ≤ 8191) ∧ (1 ≤ n ∧ n ≤ 128) ∧ a + n ≤ 8192
instance (a n : Int) : Decidable (runOk a n) := by unfold runOk; infer_instance
theorem lOk_run (a n g : Int) : lOk a n g ↔ runOk a n ∧ (0 ≤ g ∧ g ≤ 268435455) := by unfold lOk runOk; omega

theorem run_ok (a n : Int) (r : Bool) (hr : decide (runOk a n) = r) (w : World) : Calls Try.prog 30 #[.int .i64 a, .int .i64 n] w fun e w' => e = .returned (.bool r) ∧ w = w' := by
  subst hr
  by_cases h1 : 0 ≤ a
  · by_cases h2 : a < 8192
    · by_cases h3 : 1 ≤ n
      · by_cases h4 : n ≤ 128
        · by_cases h5 : n ≤ 8192 - a
          · rw [decide_eq_true (show runOk a n by unfold runOk; omega)]
            go_enter Try.func30, Try.ntmps30
            go_wp2
            go_ret
            exact ⟨rfl, rfl⟩
          · rw [decide_eq_false (show ¬ runOk a n by unfold runOk; omega)]
            go_enter Try.func30, Try.ntmps30
            go_wp2
            go_ret
            exact ⟨rfl, rfl⟩
        · rw [decide_eq_false (show ¬ runOk a n by unfold runOk; omega)]
          go_enter Try.func30, Try.ntmps30
          go_wp2
          go_ret
          exact ⟨rfl, rfl⟩
      · rw [decide_eq_false (show ¬ runOk a n by unfold runOk; omega)]
        go_enter Try.func30, Try.ntmps30
        go_wp2
        go_ret
        exact ⟨rfl, rfl⟩
    · rw [decide_eq_false (show ¬ runOk a n by unfold runOk; omega)]
      go_enter Try.func30, Try.ntmps30
      go_wp2
      go_ret
      exact ⟨rfl, rfl⟩
  · rw [decide_eq_false (show ¬ runOk a n by unfold runOk; omega)]
    go_enter Try.func30, Try.ntmps30
    go_wp2
    go_ret
    exact ⟨rfl, rfl⟩

theorem gen_ok (g : Int) (r : Bool) (hr : decide (0 ≤ g ∧ g ≤ 268435455) = r) (w : World) : Calls Try.prog 31 #[.int .i64 g] w fun e w' => e = .returned (.bool r) ∧ w = w' := by
  subst hr
  by_cases h1 : 0 ≤ g
  · by_cases h2 : g < 268435456
    · rw [decide_eq_true (show 0 ≤ g ∧ g ≤ 268435455 by omega)]
      go_enter Try.func31, Try.ntmps31
      go_wp2
      go_ret
      exact ⟨rfl, rfl⟩
    · rw [decide_eq_false (show ¬ (0 ≤ g ∧ g ≤ 268435455) by omega)]
      go_enter Try.func31, Try.ntmps31
      go_wp2
      go_ret
      exact ⟨rfl, rfl⟩
  · rw [decide_eq_false (show ¬ (0 ≤ g ∧ g ≤ 268435455) by omega)]
    go_enter Try.func31, Try.ntmps31
    go_wp2
    go_ret
    exact ⟨rfl, rfl⟩

theorem pmay_ok (k : Kd) (g : Int) (r : Bool) (hr : decide (eOk k g) = r) (w : World) : Calls Try.prog 29 #[.agg #[.int .i64 k.a, .int .i64 k.n, .int .i64 k.g], .int .i64 g] w fun e w' => e = .returned (.bool r) ∧ Fr Nil w w' := by
  obtain ⟨a, n, s⟩ := k
  subst hr
  have hf : Fr Nil w (w.alloc (.cells #[.int .i64 a, .int .i64 n, .int .i64 s] 54)) := (Fr.refl Nil w).alloc _
  by_cases h1 : runOk a n
  · have hr1 := hid (decide_eq_true h1)
    by_cases h2 : 0 ≤ s
    · by_cases h3 : s < 8
      · by_cases h4 : 0 ≤ g ∧ g ≤ 268435455
        · have hr2 := hid (decide_eq_true h4)
          rw [decide_eq_true (show eOk ⟨a, n, s⟩ g from ⟨(lOk_run _ _ _).2 ⟨h1, h4⟩, h2, by show s ≤ 7; omega⟩)]
          clear h1 h4
          go_enter Try.func29, Try.ntmps29
          go_wp2_with first | (go_at_call 30; (refine (run_ok _ _ _ hr1.out _).mono ?_; rintro e w9 ⟨rfl, rfl⟩)) | (go_at_call 31; (refine (gen_ok _ _ hr2.out _).mono ?_; rintro e w9 ⟨rfl, rfl⟩))
          go_ret
          exact ⟨rfl, hf⟩
        · have hr2 := hid (decide_eq_false h4)
          rw [decide_eq_false (show ¬ eOk ⟨a, n, s⟩ g from fun h => h4 ((lOk_run _ _ _).1 h.1).2)]
          clear h1 h4
          go_enter Try.func29, Try.ntmps29
          go_wp2_with first | (go_at_call 30; (refine (run_ok _ _ _ hr1.out _).mono ?_; rintro e w9 ⟨rfl, rfl⟩)) | (go_at_call 31; (refine (gen_ok _ _ hr2.out _).mono ?_; rintro e w9 ⟨rfl, rfl⟩))
          go_ret
          exact ⟨rfl, hf⟩
      · rw [decide_eq_false (show ¬ eOk ⟨a, n, s⟩ g from fun h => h3 (by have : s ≤ 7 := h.2.2; omega))]
        clear h1
        have hr2 := hid trivial
        go_enter Try.func29, Try.ntmps29
        go_wp2_with first | (go_at_call 30; (refine (run_ok _ _ _ hr1.out _).mono ?_; rintro e w9 ⟨rfl, rfl⟩)) | (go_at_call 31; (refine (gen_ok _ _ hr2.out _).mono ?_; rintro e w9 ⟨rfl, rfl⟩))
        go_ret
        exact ⟨rfl, hf⟩
    · rw [decide_eq_false (show ¬ eOk ⟨a, n, s⟩ g from fun h => h2 h.2.1)]
      clear h1
      have hr2 := hid trivial
      go_enter Try.func29, Try.ntmps29
      go_wp2_with first | (go_at_call 30; (refine (run_ok _ _ _ hr1.out _).mono ?_; rintro e w9 ⟨rfl, rfl⟩)) | (go_at_call 31; (refine (gen_ok _ _ hr2.out _).mono ?_; rintro e w9 ⟨rfl, rfl⟩))
      go_ret
      exact ⟨rfl, hf⟩
  · have hr1 := hid (decide_eq_false h1)
    rw [decide_eq_false (show ¬ eOk ⟨a, n, s⟩ g from fun h => h1 ((lOk_run _ _ _).1 h.1).1)]
    clear h1
    have hr2 := hid trivial
    go_enter Try.func29, Try.ntmps29
    go_wp2_with first | (go_at_call 30; (refine (run_ok _ _ _ hr1.out _).mono ?_; rintro e w9 ⟨rfl, rfl⟩)) | (go_at_call 31; (refine (gen_ok _ _ hr2.out _).mono ?_; rintro e w9 ⟨rfl, rfl⟩))
    go_ret
    exact ⟨rfl, hf⟩
end Go.Proofs.Ytidpabcfcdiecaa

/- node.May and what it calls: within, lies, keys, Entry, leaf, inner. -/
import Derived.Test.YtidpabcfcdiecaaNdV
import Derived.Test.YtidpabcfcdiecaaNdQ
import Derived.Test.YtidpabcfcdiecaaUntil
set_option linter.unusedSimpArgs false
set_option linter.unusedVariables false
namespace Go.Proofs.Ytidpabcfcdiecaa
open Go.RowKit

theorem within_ok (a b c : Int) (r : Bool) (hr : decide (b ≤ a ∧ a ≤ c) = r) (w : World) : Calls Try.prog 25 #[.int .i64 a, .int .i64 b, .int .i64 c] w fun e w' => e = .returned (.bool r) ∧ w = w' := by
  subst hr
  by_cases h1 : b ≤ a
  · by_cases h2 : a ≤ c
    · rw [decide_eq_true (show b ≤ a ∧ a ≤ c from ⟨h1, h2⟩)]
      go_enter Try.func25, Try.ntmps25
      go_wp2
      go_ret
      exact ⟨rfl, rfl⟩
    · rw [decide_eq_false (show ¬ (b ≤ a ∧ a ≤ c) from fun h => h2 h.2)]
      go_enter Try.func25, Try.ntmps25
      go_wp2
      go_ret
      exact ⟨rfl, rfl⟩
  · rw [decide_eq_false (show ¬ (b ≤ a ∧ a ≤ c) from fun h => h1 h.1)]
    go_enter Try.func25, Try.ntmps25
    go_wp2
    go_ret
    exact ⟨rfl, rfl⟩


theorem lies_ok (a n g : Int) (r : Bool) (hr : decide (lOk a n g) = r) (w : World) : Calls Try.prog 41 #[.int .i64 a, .int .i64 n, .int .i64 g] w fun e w' => e = .returned (.bool r) ∧ w = w' := by
  subst hr
  by_cases h1 : 0 ≤ a ∧ a ≤ 8191
  · by_cases h2 : 1 ≤ n ∧ n ≤ 128
    · by_cases h3 : a + n ≤ 8192
      · by_cases h4 : 0 ≤ g ∧ g ≤ 268435455
        · rw [decide_eq_true (show lOk a n g from ⟨h1, h2, h3, h4⟩)]
          go_enter Try.func41, Try.ntmps41
          go_wp2_with (go_at_call 25; first | (refine (within_ok _ _ _ true (decide_eq_true (by omega)) _).mono ?_; rintro e w9 ⟨rfl, rfl⟩) | (refine (within_ok _ _ _ false (decide_eq_false (by omega)) _).mono ?_; rintro e w9 ⟨rfl, rfl⟩))
          go_ret
          exact ⟨rfl, rfl⟩
        · rw [decide_eq_false (show ¬ lOk a n g from fun h => h4 h.2.2.2)]
          go_enter Try.func41, Try.ntmps41
          go_wp2_with (go_at_call 25; first | (refine (within_ok _ _ _ true (decide_eq_true (by omega)) _).mono ?_; rintro e w9 ⟨rfl, rfl⟩) | (refine (within_ok _ _ _ false (decide_eq_false (by omega)) _).mono ?_; rintro e w9 ⟨rfl, rfl⟩))
          go_ret
          exact ⟨rfl, rfl⟩
      · rw [decide_eq_false (show ¬ lOk a n g from fun h => h3 h.2.2.1)]
        go_enter Try.func41, Try.ntmps41
        go_wp2_with (go_at_call 25; first | (refine (within_ok _ _ _ true (decide_eq_true (by omega)) _).mono ?_; rintro e w9 ⟨rfl, rfl⟩) | (refine (within_ok _ _ _ false (decide_eq_false (by omega)) _).mono ?_; rintro e w9 ⟨rfl, rfl⟩))
        go_ret
        exact ⟨rfl, rfl⟩
    · rw [decide_eq_false (show ¬ lOk a n g from fun h => h2 h.2.1)]
      go_enter Try.func41, Try.ntmps41
      go_wp2_with (go_at_call 25; first | (refine (within_ok _ _ _ true (decide_eq_true (by omega)) _).mono ?_; rintro e w9 ⟨rfl, rfl⟩) | (refine (within_ok _ _ _ false (decide_eq_false (by omega)) _).mono ?_; rintro e w9 ⟨rfl, rfl⟩))
      go_ret
      exact ⟨rfl, rfl⟩
  · rw [decide_eq_false (show ¬ lOk a n g from fun h => h1 h.1)]
    go_enter Try.func41, Try.ntmps41
    go_wp2_with (go_at_call 25; first | (refine (within_ok _ _ _ true (decide_eq_true (by omega)) _).mono ?_; rintro e w9 ⟨rfl, rfl⟩) | (refine (within_ok _ _ _ false (decide_eq_false (by omega)) _).mono ?_; rintro e w9 ⟨rfl, rfl⟩))
    go_ret
    exact ⟨rfl, rfl⟩

theorem entry_ok (k : Kd) (g : Int) (r : Bool) (hr : decide (eOk k g) = r) (w : World) : Calls Try.prog 39 #[.agg #[.int .i64 k.a, .int .i64 k.n, .int .i64 k.g], .int .i64 g] w fun e w' => e = .returned (.bool r) ∧ Fr Nil w w' := by
  obtain ⟨a, n, s⟩ := k
  subst hr
  have hf : Fr Nil w (w.alloc (.cells #[.int .i64 a, .int .i64 n, .int .i64 s] 54)) := (Fr.refl Nil w).alloc _
  by_cases h1 : lOk a n g
  · by_cases h2 : 0 ≤ s ∧ s ≤ 7
    · rw [decide_eq_true (show eOk ⟨a, n, s⟩ g from ⟨h1, h2⟩)]
      have h1' := decide_eq_true h1
      have H1 := hid h1; clear h1
      go_enter Try.func39, Try.ntmps39
      go_wp2_with (first | (go_at_call 25; first | (refine (within_ok _ _ _ true (decide_eq_true (by omega)) _).mono ?_; rintro e w9 ⟨rfl, rfl⟩) | (refine (within_ok _ _ _ false (decide_eq_false (by omega)) _).mono ?_; rintro e w9 ⟨rfl, rfl⟩)) | (go_at_call 41; refine (lies_ok _ _ _ _ h1' _).mono ?_; rintro e w9 ⟨rfl, rfl⟩))
      go_ret
      exact ⟨rfl, hf⟩
    · rw [decide_eq_false (show ¬ eOk ⟨a, n, s⟩ g from fun h => h2 h.2)]
      have h1' := decide_eq_true h1
      have H1 := hid h1; clear h1
      go_enter Try.func39, Try.ntmps39
      go_wp2_with (first | (go_at_call 25; first | (refine (within_ok _ _ _ true (decide_eq_true (by omega)) _).mono ?_; rintro e w9 ⟨rfl, rfl⟩) | (refine (within_ok _ _ _ false (decide_eq_false (by omega)) _).mono ?_; rintro e w9 ⟨rfl, rfl⟩)) | (go_at_call 41; refine (lies_ok _ _ _ _ h1' _).mono ?_; rintro e w9 ⟨rfl, rfl⟩))
      go_ret
      exact ⟨rfl, hf⟩
  · rw [decide_eq_false (show ¬ eOk ⟨a, n, s⟩ g from fun h => h1 h.1)]
    have h1' := decide_eq_false h1
    have H1 := hid h1; clear h1
    go_enter Try.func39, Try.ntmps39
    go_wp2_with (first | (go_at_call 25; first | (refine (within_ok _ _ _ true (decide_eq_true (by omega)) _).mono ?_; rintro e w9 ⟨rfl, rfl⟩) | (refine (within_ok _ _ _ false (decide_eq_false (by omega)) _).mono ?_; rintro e w9 ⟨rfl, rfl⟩)) | (go_at_call 41; refine (lies_ok _ _ _ _ h1' _).mono ?_; rintro e w9 ⟨rfl, rfl⟩))
    go_ret
    exact ⟨rfl, hf⟩
set_option maxRecDepth 100000 in
theorem keys_ok (S : Nat → Prop) (A : Option Addr) (c : Nat) (ks : List Int) (r : Bool) (hr : decide (keysOk ks) = r) (w : World) (hv : View w S 1 (.slice A ks.length c) ks.length (ints .i64 ks)) :
    Calls Try.prog 26 #[.slice A ks.length c] w fun e w' => e = .returned (.bool r) ∧ w = w' := by
  subst hr
  have hfalse : ∀ i, i < ks.length → ¬ kOk ks i → decide (keysOk ks) = false := fun i hi h => decide_eq_false fun h9 => h (h9.2 i hi)
  obtain ⟨n, hn⟩ : ∃ n, n = ks.length := ⟨_, rfl⟩
  rw [← hn] at hv ⊢
  have Hn := hid hn; clear hn
  by_cases h8 : 8 < n
  · rw [decide_eq_false (show ¬ keysOk ks from fun h => by have := h.1; have := Hn.out; omega)]
    go_enter Try.func26, Try.ntmps26
    go_wp2
    go_ret
    exact ⟨rfl, rfl⟩
  go_enter Try.func26, Try.ntmps26
  go_wp2_with fail
  go_loop [10] (fun v10 => ∃ i : Nat, v10 = .int .i64 i ∧ i ≤ n ∧ Hid (∀ j, j < i → kOk ks j)) (fun v10 => n - (intOf v10).toNat)
  case atStart => exact ⟨0, rfl, by omega, hid fun j hj => absurd hj (by omega)⟩
  case round =>
    obtain ⟨i, rfl, hi, hok⟩ := hrel
    by_cases hlt : i < n
    · obtain ⟨b, o, rfl, -, -, hc⟩ := ints_cells hv (by omega)
      have c0 := hc i hlt
      by_cases hw : 0 ≤ kz ks i ∧ kz ks i ≤ 511
      · cases i with
        | zero =>
          rw [Nat.add_zero] at c0
          clear hc
          go_wp2_with (go_at_call 25; first | (refine (within_ok _ _ _ true (decide_eq_true (by omega)) _).mono ?_; rintro e w9 ⟨rfl, rfl⟩) | (refine (within_ok _ _ _ false (decide_eq_false (by omega)) _).mono ?_; rintro e w9 ⟨rfl, rfl⟩))
          go_round
          case rel => exact ⟨1, by go_num, by omega, hid fun j hj => by obtain rfl : j = 0 := by omega
                                                                        exact ⟨hw, fun h => absurd h (by omega)⟩⟩
          case measure => simp [intOf]; omega
        | succ m =>
          have c1 := hc m (by omega)
          clear hc
          by_cases hlt2 : kz ks m < kz ks (m + 1)
          · go_wp2_with (go_at_call 25; first | (refine (within_ok _ _ _ true (decide_eq_true (by omega)) _).mono ?_; rintro e w9 ⟨rfl, rfl⟩) | (refine (within_ok _ _ _ false (decide_eq_false (by omega)) _).mono ?_; rintro e w9 ⟨rfl, rfl⟩))
            go_round
            case rel => exact ⟨m + 2, by go_num, by omega, hid fun j hj => by
                                rcases Nat.lt_or_ge j (m + 1) with h | h
                                · exact hok.out j h
                                · obtain rfl : j = m + 1 := by omega
                                  exact ⟨hw, fun _ => hlt2⟩⟩
            case measure => simp [intOf]; omega
          · have hF := hid (hfalse (m + 1) (by rw [← Hn.out]; exact hlt) (fun h => hlt2 (h.2 (by omega))))
            clear hfalse
            go_wp2_with (go_at_call 25; first | (refine (within_ok _ _ _ true (decide_eq_true (by omega)) _).mono ?_; rintro e w9 ⟨rfl, rfl⟩) | (refine (within_ok _ _ _ false (decide_eq_false (by omega)) _).mono ?_; rintro e w9 ⟨rfl, rfl⟩))
            go_ret
            rw [hF.out]
            exact ⟨rfl, rfl⟩
      · have hF := hid (hfalse i (by rw [← Hn.out]; exact hlt) (fun h => hw h.1))
        clear hfalse hc
        go_wp2_with (go_at_call 25; first | (refine (within_ok _ _ _ true (decide_eq_true (by omega)) _).mono ?_; rintro e w9 ⟨rfl, rfl⟩) | (refine (within_ok _ _ _ false (decide_eq_false (by omega)) _).mono ?_; rintro e w9 ⟨rfl, rfl⟩))
        go_ret
        rw [hF.out]
        exact ⟨rfl, rfl⟩
    · have hT := hid (show decide (keysOk ks) = true from decide_eq_true ⟨by have := Hn.out; omega, fun j hj => hok.out j (by have := Hn.out; omega)⟩)
      clear hfalse
      go_wp2
      go_ret
      rw [hT.out]
      exact ⟨rfl, rfl⟩

end Go.Proofs.Ytidpabcfcdiecaa

/- The reference's Runs: Mark, Give, Free. -/
import Derived.Test.YtjieckaeplkafaaSRpW
set_option linter.unusedSimpArgs false
set_option linter.unusedVariables false
namespace Go.Proofs.Ytjieckaeplkafaa
open Go.RowKit
theorem ref_give (mb fb bl : Nat) (L : List Rn) (F : List Bool) (a n : Int) (w : World) (hR : Rf w mb fb F) (hF : Fre bl L F) (ha : -9223372036854775808 ≤ a ∧ a < 9223372036854775808) (hn : -9223372036854775808 ≤ n ∧ n < 9223372036854775808) :
    Calls Try.prog 42 #[.pointer (some ⟨mb, 0, none⟩), .int .i64 a, .int .i64 n] w fun e w' => e = .returned (.bool (giveR bl L a n)) ∧ (∃ F', Rf w' mb fb F' ∧ Fre bl (giveL bl L a n) F') ∧ Fr (fun k => k = fb) w w' := by
  have hl8 : F.length ≤ 8192 := by rw [hF.2.1]; exact hF.1.1
  have HR := hid hR
  have HF := hid hF
  have Hall := hid (ref_all mb fb F a n false w hR hl8 ha hn)
  clear hR hF
  have HE := hid (HF.out.all_give a n)
  go_enter Try.func42, Try.ntmps42
  go_wp2_with fail
  refine Hall.out.mono ?_
  rintro e w1 ⟨rfl, rfl⟩
  cases hB : allB F a n false with
  | false =>
    have E : Hid (giveR bl L a n = false) := hid (by rw [← HE.out]; exact hB)
    have HB := hid hB
    clear hB
    go_wp2
    go_ret
    exact ⟨by rw [E.out]; rfl, ⟨F, HR.out, HF.out.give0 HB.out⟩, Fr.refl _ _⟩
  | true =>
    have E : Hid (giveR bl L a n = true) := hid (by rw [← HE.out]; exact hB)
    have hr : (0 : Int) ≤ a ∧ 1 ≤ n ∧ a < F.length ∧ n ≤ F.length - a := by
      unfold allB at hB
      rw [Bool.and_eq_true, decide_eq_true_eq] at hB
      exact hB.1
    obtain ⟨X, rfl⟩ : ∃ X : Nat, a = X := ⟨a.toNat, by omega⟩
    obtain ⟨N, rfl⟩ : ∃ N : Nat, n = N := ⟨n.toNat, by omega⟩
    have hXN : X + N ≤ F.length := by omega
    obtain ⟨Ln, hLn⟩ : ∃ Ln, Ln = F.length := ⟨_, rfl⟩
    rw [← hLn] at hXN hl8
    have HLn := hid hLn
    have HB := hid hB
    clear hB hr hLn
    go_wp2_with fail
    go_loopw [7] (fun v7 wr => ∃ (i : Nat) (F' : List Bool), v7 = .int .i64 i ∧ i ≤ N ∧ Hid (Rf wr mb fb F' ∧ SetR F F' X i true) ∧ Fr (fun k => k = fb) w wr) (fun v7 _ => N - (intOf v7).toNat)
    case atStart => exact ⟨0, F, rfl, by omega, hid ⟨HR.out, SetR.zero _ _ _⟩, Fr.refl _ _⟩
    case round =>
      obtain ⟨i, F', rfl, hi, hA, hfw⟩ := hrel
      have c0 := hA.out.1.1.cell 0
      rw [hA.out.2.1, ← HLn.out] at c0
      by_cases hlt : i < N
      · have q0 := hA.out.1.at (k := X + i) (by rw [hA.out.2.1, ← HLn.out]; omega)
        have z0 := hA.out.1.2.frozen (X + i)
        go_wp2_with fail
        go_roundw
        case rel => exact ⟨i + 1, F'.set (X + i) true, by go_num, by omega, hid ⟨hA.out.1.set _ _, hA.out.2.succ (by rw [← HLn.out]; omega)⟩, hfw.setCell (a := ⟨fb, X + i, none⟩) (.inl rfl) _⟩
        case measure => simp [intOf]; omega
      · obtain rfl : i = N := by omega
        go_wp2
        go_ret
        exact ⟨by rw [E.out]; rfl, ⟨F', hA.out.1, HF.out.give HB.out hA.out.2⟩, hfw⟩
theorem ref_free (mb fb bl : Nat) (L : List Rn) (F : List Bool) (w : World) (hR : Rf w mb fb F) (hF : Fre bl L F) :
    Calls Try.prog 44 #[.pointer (some ⟨mb, 0, none⟩)] w fun e w' => e = .returned (.int .i64 (sumN L : Nat)) ∧ w = w' := by
  have hbl : bl ≤ 8192 := hF.1.1
  have c0 := hR.1.cell 0
  rw [hF.2.1] at c0
  have HR := hid hR
  have HS := hid hF.sum
  have HL := hid hF.2.1
  clear hR hF
  go_enter Try.func44, Try.ntmps44
  go_wp2_with fail
  go_loopw [3, 4] (fun v3 v4 wr => ∃ i : Nat, v3 = .int .i64 (cntT F i : Nat) ∧ v4 = .int .i64 i ∧ i ≤ bl ∧ w = wr) (fun _ v4 _ => bl - (intOf v4).toNat)
  case atStart => exact ⟨0, rfl, rfl, by omega, rfl⟩
  case round =>
    obtain ⟨i, rfl, rfl, hi, rfl⟩ := hrel
    by_cases hlt : i < bl
    · have q0 := HR.out.at (k := i) (by rw [HL.out]; exact hlt)
      have hc := cntT_le F i
      have hs := cntT_succ F i
      cases hb : F.getD i false with
      | false =>
        rw [hb] at q0 hs
        have Hs := hid (show cntT F (i + 1) = cntT F i by rw [hs]; rfl)
        clear hs hb
        go_wp2_with fail
        go_roundw
        case rel => exact ⟨i + 1, by rw [Hs.out], by go_num, by omega, trivial⟩
        case measure => simp [intOf]; omega
      | true =>
        rw [hb] at q0 hs
        have Hs := hid (show cntT F (i + 1) = cntT F i + 1 by rw [hs]; rfl)
        clear hs hb
        go_wp2_with fail
        go_roundw
        case rel => exact ⟨i + 1, by rw [Hs.out]; go_num, by go_num, by omega, trivial⟩
        case measure => simp [intOf]; omega
    · obtain rfl : i = bl := by omega
      go_wp2
      go_ret
      exact ⟨by rw [← HS.out]; rfl, rfl⟩
end Go.Proofs.Ytjieckaeplkafaa

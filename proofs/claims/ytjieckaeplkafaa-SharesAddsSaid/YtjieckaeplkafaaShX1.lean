/- The law SharesAdds. -/
import Derived.Test.YtjieckaeplkafaaShE
set_option linter.unusedSimpArgs false
set_option linter.unusedVariables false
namespace Go.Proofs.Ytjieckaeplkafaa
open Go.RowKit
theorem adds_take : ∀ f, f < 15 → takeR [⟨0, 20⟩] ((f + 1 : Nat) : Int) = (0, true) ∧ takeL [⟨0, 20⟩] ((f + 1 : Nat) : Int) = [⟨f + 1, 19 - f⟩] := by decide
set_option maxRecDepth 20000 in
theorem adds_law (a : Int) (ha : (Lit.int .i64 a).wf = true) (n : Int) (hn : (Lit.int .i64 n).wf = true) (k : Int) (hk : (Lit.int .u8 k).wf = true) (w : World) :
    Calls Try.prog 4 #[.int .i64 a, .int .i64 n, .int .u8 k] w fun e w' => e = .returned (.bool true) ∧ Fr Nil w w' := by
  have hkb := bounds_u8 hk
  obtain ⟨q, rfl⟩ : ∃ q : Nat, k = q := ⟨k.toNat, by omega⟩
  have hq : q < 256 := by omega
  have hwr : IntKind.i64.wrap (q : Int) = (q : Int) := by rw [IntKind.wrap_i64]; omega
  have hrm : ((q : Int) % 15) = ((q % 15 : Nat) : Int) := by omega
  have hrt : Int.tmod (q : Int) 15 = ((q % 15 : Nat) : Int) := by rw [← hrm]; exact Int.tmod_eq_emod_of_nonneg (by omega)
  obtain ⟨f, hf⟩ : ∃ f, f = q % 15 := ⟨_, rfl⟩
  have hf15 : f < 15 := by omega
  rw [← hf] at hrm hrt
  obtain ⟨t1, t2⟩ := adds_take f hf15
  have T1 := hid t1; have T2 := hid t2
  have Ha := hid ha
  clear ha hk hkb hf t1 t2
  go_enter Try.func4, Try.ntmps4
  go_wp2_with fail
  refine (awake_ok w).mono ?_
  rintro e w1 ⟨rfl, f1⟩
  have F1 := hid f1
  clear f1
  go_wp2_with fail
  refine (sw_new 20 w1).mono ?_
  rintro e w2 ⟨pb, T, rfl, h1, h2, f2⟩
  rw [show newBl 20 = 20 by decide, show newL 20 = [⟨0, 20⟩] by decide] at h1
  have H1 := hid h1; have H2 := hid h2; have F2 := hid f2
  clear h1 h2 f2
  go_wp2_with fail
  refine (sw_shares H1.out H2.out F2.out).mono ?_
  rintro e w3 ⟨sb, rfl, h3⟩
  have H3 := hid h3
  clear h3 H1 H2 F2
  by_cases hfine : 0 ≤ a ∧ 1 ≤ n
  · have g1 : decide (a ≥ 0) = true := by simp; omega
    have g2 : decide (n ≥ 1) = true := by simp; omega
    have g3 : decide (0 ≤ a) = true := by simp; omega
    have g4 : decide (1 ≤ n) = true := by simp; omega
    clear hfine
    go_upto_region 11 with (fail)
    clear hrm hrt hwr hq hn g1 g2 g3 g4
    have Hf := hid hf15
    have hf1 : f ≤ 100 := by omega
    clear hf15
    go_wp2_with fail
    have hc1 : ((f : Int) + 1) = ((f + 1 : Nat) : Int) := by omega
    try rw [hc1]
    clear hc1
    refine (sw_take H3.out ((f + 1 : Nat) : Int) (0, true) [⟨f + 1, 19 - f⟩] T1.out T2.out).mono ?_
    rintro e w4 ⟨rfl, hq⟩
    have K4 := hid hq
    clear hq H3
    go_wp2_with fail
    refine (sw_more K4.out 0 false [] rfl rfl (by decide) (by decide) (by simp)).mono ?_
    rintro e w5 ⟨rfl, hq⟩
    have K5 := hid hq
    clear hq K4
    go_wp2_with fail
    refine (sw_less K5.out 0 false [] [] rfl rfl rfl (by decide) (by decide) (by decide) (by simp)).mono ?_
    rintro e w6 ⟨rfl, hq⟩
    have K6 := hid hq
    clear hq K5
    go_wp2_with fail
    refine (sw_add K6.out 0 (f + 1) [⟨0, f + 1, 1⟩] rfl (by decide) (Nat.succ_le_succ (Nat.zero_le _)) rfl rfl (by decide) (by decide)).mono ?_
    rintro e w7 ⟨rfl, hq⟩
    have K7 := hid hq
    clear hq K6
    go_wp2_with fail
    refine (sw_addno K7.out 0 1 (by decide) rfl).mono ?_
    rintro e w8 ⟨rfl, hq⟩
    have K8 := hid hq
    clear hq K7
    go_wp2_with fail
    refine (sw_uses K8.out 0 1 rfl (by decide)).mono ?_
    rintro e w9 ⟨rfl, rfl⟩
    go_wp2_with fail
    refine (sw_uses K8.out 1 0 rfl (by decide)).mono ?_
    rintro e w10 ⟨rfl, rfl⟩
    go_wp2_with fail
    refine (sw_more K8.out 0 true [⟨0, f + 1, 2⟩] rfl rfl (by decide) (by simp) (by intro u hu; simp at hu; rw [hu]; simp)).mono ?_
    rintro e w11 ⟨rfl, hq⟩
    have K11 := hid hq
    clear hq K8
    go_wp2_with fail
    refine (sw_less K11.out 0 true [⟨0, f + 1, 1⟩] [] rfl rfl rfl (by decide) (by simp) (by simp) (by intro u hu; simp at hu; rw [hu]; simp)).mono ?_
    rintro e w12 ⟨rfl, hq⟩
    have K12 := hid hq
    clear hq K11
    go_wp2_with fail
    refine (sw_less K12.out 0 true [] [⟨0, f + 1, 1⟩] rfl rfl rfl (by decide) (by simp) (by simp) (by intro u hu; simp at hu; rw [hu]; simp)).mono ?_
    rintro e w13 ⟨rfl, hq⟩
    have K13 := hid hq
    clear hq K12
    go_wp2_with fail
    refine (sw_less K13.out 0 false [] [⟨0, f + 1, 1⟩] rfl rfl rfl (by decide) (by simp) (by simp) (by simp)).mono ?_
    rintro e w14 ⟨rfl, hq⟩
    have K14 := hid hq
    clear hq K13
    go_wp2_with fail
    refine (sw_more K14.out 0 false [] rfl rfl (by decide) (by simp) (by simp)).mono ?_
    rintro e w15 ⟨rfl, hq⟩
    have K15 := hid hq
    clear hq K14
    go_wp2_with fail
    refine (sw_uses K15.out 0 0 rfl (by decide)).mono ?_
    rintro e w16 ⟨rfl, rfl⟩
    go_wp2_with fail
    refine (sw_late K15.out (by simp)).mono ?_
    rintro e w17 ⟨B, c, rfl, -, -, hq⟩
    have K17 := hid hq
    clear hq K15
    go_wp2_with fail
    refine (sw_list K17.out (by simp)).mono ?_
    rintro e w18 ⟨B, c, rfl, -, -, hq⟩
    have K18 := hid hq
    clear hq K17
    go_wp2
    go_ret
    exact ⟨rfl, F1.out.then K18.out.fr0⟩
  · have hno : fineI [] [] a n = false := by
      unfold fineI
      by_cases h : 1 ≤ n
      · rw [decide_eq_false (show ¬ 0 ≤ a by omega)]; simp
      · rw [decide_eq_false h]; simp
    have Hno := hid hno
    clear hno
    by_cases h0 : 0 ≤ a
    · have g1 : decide (a ≥ 0) = true := by simp; omega
      have g2 : decide (n ≥ 1) = false := by simp; omega
      have g3 : decide (0 ≤ a) = true := by simp; omega
      have g4 : decide (1 ≤ n) = false := by simp; omega
      clear hfine h0
      go_wp2_with fail
      refine (sw_addno H3.out a n Ha.out Hno.out).mono ?_
      rintro e w4 ⟨rfl, h4⟩
      have H4 := hid h4
      clear h4 H3
      go_wp2_with fail
      refine (sw_list H4.out (by decide)).mono ?_
      rintro e w5 ⟨B, c, rfl, -, -, h5⟩
      have F5 := hid h5.fr0
      clear h5 H4
      go_wp2
      go_ret
      exact ⟨rfl, F1.out.then F5.out⟩
    · have g1 : decide (a ≥ 0) = false := by simp; omega
      have g3 : decide (0 ≤ a) = false := by simp; omega
      clear hfine h0
      go_wp2_with fail
      refine (sw_addno H3.out a n Ha.out Hno.out).mono ?_
      rintro e w4 ⟨rfl, h4⟩
      have H4 := hid h4
      clear h4 H3
      go_wp2_with fail
      refine (sw_list H4.out (by decide)).mono ?_
      rintro e w5 ⟨B, c, rfl, -, -, h5⟩
      have F5 := hid h5.fr0
      clear h5 H4
      go_wp2
      go_ret
      exact ⟨rfl, F1.out.then F5.out⟩
end Go.Proofs.Ytjieckaeplkafaa

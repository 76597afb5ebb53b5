/- Same; the argument []Deed opened. -/
import Derived.Test.YtjieckaeplkafaaSRpT
set_option linter.unusedSimpArgs false
set_option linter.unusedVariables false
namespace Go.Proofs.Ytjieckaeplkafaa
open Go.RowKit Go.ChangeShapes Go.WideShapes Go.Deep
set_option maxRecDepth 20000 in
theorem same_ok (T : Nat → Prop) (pb mb fb bl : Nat) (L : List Rn) (F : List Bool) (w : World) (h : RsT w T pb bl L) (hR : Rf w mb fb F) (hF : Fre bl L F) :
    Calls Try.prog 32 #[.pointer (some ⟨pb, 0, none⟩), .pointer (some ⟨mb, 0, none⟩)] w fun e w' => e = .returned (.bool true) ∧ Fr Nil w w' := by
  have H := hid h
  have HR := hid hR
  have HF := hid hF
  have HL := hid hF.1.lok
  clear h hR hF
  go_enter Try.func32, Try.ntmps32
  go_wp2_with fail
  refine (list_t H.out).mono ?_
  rintro e w1 ⟨A1, c1, rfl, r1, f1⟩
  have HR1 := hid (HR.out.nil f1)
  go_wp2_with fail
  refine (ref_list mb fb bl L F w1 HR1.out HF.out).mono ?_
  rintro e w2 ⟨A2, c2, rfl, r2, f2⟩
  have F2 := hid (f1.then f2)
  have HV1 := hid (r1.view.fr f2 fun _ _ _ h => h)
  have HV2 := hid r2.view
  obtain ⟨M, hM⟩ : ∃ M, M = L.length := ⟨_, rfl⟩
  have HM := hid hM
  have hM8 : M ≤ 8192 := by rw [hM]; exact HL.out.2.1
  rw [← hM] at HV1 HV2 ⊢
  clear hM f1 f2 r1 r2 HR1
  go_wp2_with fail
  refine (free_t (H.out.nil F2.out)).mono ?_
  rintro e w3 ⟨rfl, f3⟩
  have F3 := hid (F2.out.then f3)
  have HV13 := hid (HV1.out.fr f3 fun _ _ _ h => h)
  have HV23 := hid (HV2.out.fr f3 fun _ _ _ h => h)
  clear f3 HV1 HV2
  go_wp2_with fail
  refine (ref_free mb fb bl L F w3 (HR.out.nil F3.out) HF.out).mono ?_
  rintro e w4 ⟨rfl, rfl⟩
  go_wp2_with fail
  refine (greatest_t (H.out.nil F3.out)).mono ?_
  rintro e w4 ⟨rfl, f4⟩
  have F4 := hid (F3.out.then f4)
  have HV14 := hid (HV13.out.fr f4 fun _ _ _ h => h)
  have HV24 := hid (HV23.out.fr f4 fun _ _ _ h => h)
  clear f4 HV13 HV23
  go_wp2_with fail
  refine (ref_greatest mb fb bl L F w4 (HR.out.nil F4.out) HF.out).mono ?_
  rintro e w5 ⟨rfl, f5⟩
  have F5 := hid (F4.out.then f5)
  have HV15 := hid (HV14.out.fr f5 fun _ _ _ h => h)
  have HV25 := hid (HV24.out.fr f5 fun _ _ _ h => h)
  clear f5 HV14 HV24
  go_wp2_with fail
  go_loopw [7] (fun v7 wr => ∃ i : Nat, v7 = .int .i64 i ∧ i ≤ M ∧ Fr Nil w5 wr) (fun v7 _ => M - (intOf v7).toNat)
  case atStart => exact ⟨0, rfl, by omega, Fr.refl _ _⟩
  case round =>
    obtain ⟨i, rfl, hi, hfw⟩ := hrel
    by_cases hlt : i < M
    · obtain ⟨b1, o1, rfl, -, hb1, p0, p1⟩ := rn_at (HV15.out.fr hfw fun _ _ _ h => h) hlt
      obtain ⟨b2, o2, rfl, -, hb2, q0, q1⟩ := rn_at (HV25.out.fr hfw fun _ _ _ h => h) hlt
      go_upto_region 7 with (fail)
      go_quiet (fail)
      go_wp2_with fail
      go_roundw
      case rel => exact ⟨i + 1, by go_num, by omega, (hfw).then ((Fr.refl _ _).drewN _)⟩
      case measure => simp [intOf]; omega
    · go_wp2
      go_ret
      exact ⟨rfl, F5.out.then hfw⟩
end Go.Proofs.Ytjieckaeplkafaa

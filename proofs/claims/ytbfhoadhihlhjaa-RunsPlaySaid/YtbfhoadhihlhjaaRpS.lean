/- Same; the argument []Deed opened. -/
import Derived.Test.YtbfhoadhihlhjaaRpT
import Derived.Test.YtbfhoadhihlhjaaOpen
set_option linter.unusedSimpArgs false
set_option linter.unusedVariables false
namespace Go.Proofs.Ytbfhoadhihlhjaa
open Go.RowKit Go.ChangeShapes Go.WideShapes Go.Deep
set_option maxRecDepth 20000 in
theorem same_ok (T : Nat → Prop) (pb mb fb bl : Nat) (L : List Rn) (F : List Bool) (w : World) (h : RsT w T pb bl L) (hR : Rf w mb fb F) (hF : Fre bl L F) :
    Calls Try.prog 21 #[.pointer (some ⟨pb, 0, none⟩), .pointer (some ⟨mb, 0, none⟩)] w fun e w' => e = .returned (.bool true) ∧ Fr Nil w w' := by
  have H := hid h
  have HR := hid hR
  have HF := hid hF
  have HL := hid hF.1.lok
  clear h hR hF
  go_enter Try.func21, Try.ntmps21
  go_wp2_with fail
  refine (list_t H.out).mono ?_
  rintro e w1 ⟨A1, c1, rfl, r1, f1⟩
  have HR1 := hid (HR.out.nil f1)
  go_wp2_with fail
  refine (ref_list mb fb bl L F w1 HR1.out HF.out).mono ?_
  rintro e w2 ⟨A2, c2, rfl, r2, f2⟩
  have F2 := hid (f1.then f2)
  have HV1 := hid (r1.view.fr f2 fun _ _ _ h => h)
  have HV2 := hid r2.view
  obtain ⟨M, hM⟩ : ∃ M, M = L.length := ⟨_, rfl⟩
  have HM := hid hM
  have hM8 : M ≤ 8192 := by rw [hM]; exact HL.out.2.1
  rw [← hM] at HV1 HV2 ⊢
  clear hM f1 f2 r1 r2 HR1
  go_wp2_with fail
  refine (free_t (H.out.nil F2.out)).mono ?_
  rintro e w3 ⟨rfl, f3⟩
  have F3 := hid (F2.out.then f3)
  have HV13 := hid (HV1.out.fr f3 fun _ _ _ h => h)
  have HV23 := hid (HV2.out.fr f3 fun _ _ _ h => h)
  clear f3 HV1 HV2
  go_wp2_with fail
  refine (ref_free mb fb bl L F w3 (HR.out.nil F3.out) HF.out).mono ?_
  rintro e w4 ⟨rfl, rfl⟩
  go_wp2_with fail
  refine (greatest_t (H.out.nil F3.out)).mono ?_
  rintro e w4 ⟨rfl, f4⟩
  have F4 := hid (F3.out.then f4)
  have HV14 := hid (HV13.out.fr f4 fun _ _ _ h => h)
  have HV24 := hid (HV23.out.fr f4 fun _ _ _ h => h)
  clear f4 HV13 HV23
  go_wp2_with fail
  refine (ref_greatest mb fb bl L F w4 (HR.out.nil F4.out) HF.out).mono ?_
  rintro e w5 ⟨rfl, f5⟩
  have F5 := hid (F4.out.then f5)
  have HV15 := hid (HV14.out.fr f5 fun _ _ _ h => h)
  have HV25 := hid (HV24.out.fr f5 fun _ _ _ h => h)
  clear f5 HV14 HV24
  go_wp2_with fail
  go_loopw [7] (fun v7 wr => ∃ i : Nat, v7 = .int .i64 i ∧ i ≤ M ∧ Fr Nil w5 wr) (fun v7 _ => M - (intOf v7).toNat)
  case atStart => exact ⟨0, rfl, by omega, Fr.refl _ _⟩
  case round =>
    obtain ⟨i, rfl, hi, hfw⟩ := hrel
    by_cases hlt : i < M
    · obtain ⟨b1, o1, rfl, -, hb1, p0, p1⟩ := rn_at (HV15.out.fr hfw fun _ _ _ h => h) hlt
      obtain ⟨b2, o2, rfl, -, hb2, q0, q1⟩ := rn_at (HV25.out.fr hfw fun _ _ _ h => h) hlt
      go_upto_region 7 with (fail)
      go_quiet (fail)
      go_wp2_with fail
      go_roundw
      case rel => exact ⟨i + 1, by go_num, by omega, (hfw).then ((Fr.refl _ _).drewN _)⟩
      case measure => simp [intOf]; omega
    · go_wp2
      go_ret
      exact ⟨rfl, F5.out.then hfw⟩
/-- A deed. -/
structure Ded where
  d : Int
  a : Int
  n : Int
def DedAt (w : World) (b o : Nat) (p : Ded) : Prop :=
  w.cell? ⟨b, o, none⟩ = some (.int .i64 p.d) ∧ w.cell? ⟨b, o + 1, none⟩ = some (.int .i64 p.a) ∧ w.cell? ⟨b, o + 2, none⟩ = some (.int .i64 p.n) ∧
    (-9223372036854775808 ≤ p.d ∧ p.d < 9223372036854775808) ∧ (-9223372036854775808 ≤ p.a ∧ p.a < 9223372036854775808) ∧ (-9223372036854775808 ≤ p.n ∧ p.n < 9223372036854775808)
def Deds (w : World) (S : Nat → Prop) (v : Value) (n : Nat) (ps : List Ded) : Prop :=
  ps.length = n ∧ ∃ A c, v = .slice A n c ∧ n ≤ 9223372036854775807 ∧ (0 < n → ∃ b o, A = some ⟨b, o, none⟩ ∧ S b ∧ b < w.heap.size ∧ ∀ i p, ps[i]? = some p → DedAt w b (o + i * 3) p)
theorem choose_lt {α : Type} [Inhabited α] {n : Nat} {p : Nat → α → Prop} (h : ∀ i, i < n → ∃ a, p i a) : ∃ f : Nat → α, ∀ i, i < n → p i (f i) :=
  ⟨fun i => if hi : i < n then Classical.choose (h i hi) else default, fun i hi => by dsimp only; rw [dif_pos hi]; exact Classical.choose_spec (h i hi)⟩
instance : Inhabited Ded := ⟨⟨0, 0, 0⟩⟩
theorem open_deeds {H : Type} {enc : TypeId × Value → H} {W : World} {base : Nat} {v : Value} {d : DataW H} {p : List MemPlace} (hv : Value.okWide Try.prog W .any base 37 v)
    (h : DataW.Trod enc Try.prog W 0 (fun _ => true) true 37 v d p) : ∃ n ps, Deds W (fun k => k < W.heap.size) v n ps := by
  obtain ⟨A, len, cap, rfl⟩ := okWide_slice Try.underlying37 hv
  obtain ⟨A', len', cap', e, cells, hview, hf⟩ := open_recs Try.underlying37 Try.underlying41 (by kernel_rfl) (by kernel_rfl) (by decide) ⟨A, len, cap, rfl⟩ h
  injection e with ea el ec
  subst ea; subst el; subst ec
  have hone : ∀ i, i < len → ∃ q : Ded, (cells[i * 3]? = some (.int .i64 q.d) ∧ cells[i * 3 + 1]? = some (.int .i64 q.a) ∧ cells[i * 3 + 2]? = some (.int .i64 q.n) ∧
      (-9223372036854775808 ≤ q.d ∧ q.d < 9223372036854775808) ∧ (-9223372036854775808 ≤ q.a ∧ q.a < 9223372036854775808) ∧ (-9223372036854775808 ≤ q.n ∧ q.n < 9223372036854775808)) := by
    intro i hi
    obtain ⟨u0, n0, y0, hu0, hy0⟩ := hf i hi 0 _ rfl
    obtain ⟨u1, n1, y1, hu1, hy1⟩ := hf i hi 1 _ rfl
    obtain ⟨u2, n2, y2, hu2, hy2⟩ := hf i hi 2 _ rfl
    obtain ⟨d0, e0, _, w0⟩ := DataW.trod_int Try.underlying3 hy0
    obtain ⟨d1, e1, _, w1⟩ := DataW.trod_int Try.underlying3 hy1
    obtain ⟨d2, e2, _, w2⟩ := DataW.trod_int Try.underlying3 hy2
    simp only [List.cons.injEq, and_true] at e0 e1 e2
    subst e0; subst e1; subst e2
    exact ⟨⟨d0, d1, d2⟩, hu0, hu1, hu2, bounds_i64 w0, bounds_i64 w1, bounds_i64 w2⟩
  obtain ⟨f, hfn⟩ := choose_lt hone
  refine ⟨len, (List.range len).map f, by simp, A, cap, rfl, hview.le, fun hn => ?_⟩
  obtain ⟨_, A3, c3, e3, _, _, _, _, h5⟩ := hview
  injection e3 with ea _ ec
  subst ea; subst ec
  obtain ⟨b, o, rfl, hb, _, hc⟩ := h5 hn
  refine ⟨b, o, rfl, hb, hb, fun i q hi => ?_⟩
  have hil : i < len := by
    have := (List.getElem?_eq_some_iff.1 hi).1
    simpa using this
  have hq : f i = q := by
    rw [List.getElem?_map, List.getElem?_range hil] at hi
    simpa using hi
  obtain ⟨g0, g1, g2, g3⟩ := hfn i hil
  rw [hq] at g0 g1 g2 g3
  exact ⟨hc _ _ g0, hc _ _ g1, hc _ _ g2, g3⟩
end Go.Proofs.Ytbfhoadhihlhjaa

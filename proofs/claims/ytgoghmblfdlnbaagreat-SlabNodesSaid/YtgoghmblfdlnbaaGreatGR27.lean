/- The texts VNdRM2 of this proof, one behind the other. Conditions: those of each. -/
import Derived.Test.YtgoghmblfdlnbaaGreatGR26
section
/- The reference's May (chapter 13): its walk. -/
set_option linter.unusedSimpArgs false
set_option linter.unusedVariables false
namespace Go.Proofs.YtgoghmblfdlnbaaGreat.nd
open Go.RowKit

set_option maxRecDepth 100000 in
set_option maxHeartbeats 1600000 in
theorem refmay_ok (S : Nat → Prop) (q : Ptr) (x : Nd) (r : Bool) (hr : decide (MayNd x) = r) (w : World) (hV : Vs w S q x) :
    Calls Tryz.prog 21 #[.agg #[.int .i64 x.h, .slice q.A1 x.ks.length q.c1, .slice q.A2 x.ps.length q.c2, .slice q.A3 x.gs.length q.c3, .slice q.A4 x.ds.length q.c4]] w fun e w' => e = .returned (.bool r) ∧ Fr Nil w w' := by
  subst hr
  obtain ⟨h, ks, ps, gs, ds⟩ := x
  obtain ⟨A1, c1, A2, c2, A3, c3, A4, c4⟩ := q
  obtain ⟨hk, hp, hg, hd⟩ := hV
  have f0 : ¬ (0 ≤ h ∧ h ≤ 5) → decide (MayNd ⟨h, ks, ps, gs, ds⟩) = false := fun h => decide_eq_false fun h9 => h h9.1
  have f1 : 8 < ks.length → decide (MayNd ⟨h, ks, ps, gs, ds⟩) = false := fun h => decide_eq_false fun h9 => by have h8 : ks.length ≤ 8 := h9.2.1.1; omega
  have f2 : ∀ i, i < ks.length → ¬ kOk ks i → decide (MayNd ⟨h, ks, ps, gs, ds⟩) = false := fun i hi h => decide_eq_false fun h9 => h (h9.2.1.2 i hi)
  have f3 : h = 0 → ¬ (ps.length = ks.length ∧ gs.length = ks.length ∧ ds.length = 0) → decide (MayNd ⟨h, ks, ps, gs, ds⟩) = false := fun h0 h => decide_eq_false fun h9 => h ⟨(h9.2.2.1 h0).1, (h9.2.2.1 h0).2.1, (h9.2.2.1 h0).2.2.1⟩
  have f4 : h = 0 → ∀ i, i < ks.length → ¬ eOk (kd ps i) (kz gs i) → decide (MayNd ⟨h, ks, ps, gs, ds⟩) = false := fun h0 i hi h => decide_eq_false fun h9 => h ((h9.2.2.1 h0).2.2.2 i hi)
  have f5 : h ≠ 0 → ¬ (ds.length = ks.length ∧ 0 < ks.length ∧ ps.length = 0 ∧ gs.length = 0) → decide (MayNd ⟨h, ks, ps, gs, ds⟩) = false := fun h0 h => decide_eq_false fun h9 => h ⟨(h9.2.2.2 h0).2.1, (h9.2.2.2 h0).1, (h9.2.2.2 h0).2.2.1, (h9.2.2.2 h0).2.2.2.1⟩
  have f6 : h ≠ 0 → ∀ i, i < ks.length → ¬ lOk (kd ds i).a (kd ds i).n (kd ds i).g → decide (MayNd ⟨h, ks, ps, gs, ds⟩) = false := fun h0 i hi h => decide_eq_false fun h9 => h ((h9.2.2.2 h0).2.2.2.2 i hi)
  have f7 : (0 ≤ h ∧ h ≤ 5) → ks.length ≤ 8 → (∀ i, i < ks.length → kOk ks i) → h = 0 → (ps.length = ks.length ∧ gs.length = ks.length ∧ ds.length = 0) → (∀ i, i < ks.length → eOk (kd ps i) (kz gs i)) → decide (MayNd ⟨h, ks, ps, gs, ds⟩) = true := fun a b c d e f => decide_eq_true ⟨a, ⟨b, c⟩, fun _ => ⟨e.1, e.2.1, e.2.2, f⟩, fun h => absurd d h⟩
  have f8 : (0 ≤ h ∧ h ≤ 5) → ks.length ≤ 8 → (∀ i, i < ks.length → kOk ks i) → h ≠ 0 → (ds.length = ks.length ∧ 0 < ks.length ∧ ps.length = 0 ∧ gs.length = 0) → (∀ i, i < ks.length → lOk (kd ds i).a (kd ds i).n (kd ds i).g) → decide (MayNd ⟨h, ks, ps, gs, ds⟩) = true := fun a b c d e f => decide_eq_true ⟨a, ⟨b, c⟩, fun h => absurd h d, fun _ => ⟨e.2.1, e.1, e.2.2.1, e.2.2.2, f⟩⟩
  generalize decide (MayNd ⟨h, ks, ps, gs, ds⟩) = r at *
  dsimp only at hk hp hg hd ⊢
  generalize ks.length = n at *
  generalize ps.length = n2 at *
  generalize gs.length = n3 at *
  generalize ds.length = n4 at *
  have F0 := hid f0; have F1 := hid f1; have F2 := hid f2; have F3 := hid f3; have F4 := hid f4; have F5 := hid f5; have F6 := hid f6; have F7 := hid f7; have F8 := hid f8
  clear f0 f1 f2 f3 f4 f5 f6 f7 f8
  have hle : n ≤ 9223372036854775807 := hk.le
  have hle2 : n2 ≤ 9223372036854775807 := hp.le
  have hle3 : n3 ≤ 9223372036854775807 := hg.le
  have hle4 : n4 ≤ 9223372036854775807 := hd.le
  have hfr : Fr Nil w (w.alloc (.cells #[.int .i64 h, .slice A1 n c1, .slice A2 n2 c2, .slice A3 n3 c3, .slice A4 n4 c4] 55)) := (Fr.refl Nil w).alloc _
  by_cases hh0 : 0 ≤ h
  rotate_left
  · have HF := hid (F0.out (by omega))
    have hh1 : h < 0 := by omega
    go_enter Tryz.func21, Tryz.ntmps21
    go_wp2_with fail
    go_ret
    rw [HF.out]
    exact ⟨rfl, hfr⟩
  by_cases hh6 : h < 6
  rotate_left
  · have HF := hid (F0.out (by omega))
    go_enter Tryz.func21, Tryz.ntmps21
    go_wp2_with fail
    go_ret
    rw [HF.out]
    exact ⟨rfl, hfr⟩
  by_cases hn8 : 8 < n
  · have HF := hid (F1.out (by omega))
    go_enter Tryz.func21, Tryz.ntmps21
    go_wp2_with fail
    go_ret
    rw [HF.out]
    exact ⟨rfl, hfr⟩
  go_enter Tryz.func21, Tryz.ntmps21
  go_wp2_with fail
  obtain ⟨W1, hW1⟩ : ∃ W1, W1 = w.alloc (.cells #[.int .i64 h, .slice A1 n c1, .slice A2 n2 c2, .slice A3 n3 c3, .slice A4 n4 c4] 55) := ⟨_, rfl⟩
  have hb : Blk W1 w.heap.size #[.int .i64 h, .slice A1 n c1, .slice A2 n2 c2, .slice A3 n3 c3, .slice A4 n4 c4] 55 := by rw [hW1]; exact Blk.new _ _ _
  rw [← hW1] at hfr ⊢
  clear hW1
  replace hk := hk.fr hfr fun _ _ _ h => h
  replace hp := hp.fr hfr fun _ _ _ h => h
  replace hg := hg.fr hfr fun _ _ _ h => h
  replace hd := hd.fr hfr fun _ _ _ h => h
  generalize w.heap.size = nb at *
  go_loopw [3] (fun v3 wr => ∃ i : Nat, v3 = .int .i64 i ∧ i ≤ n ∧ Fr Nil W1 wr ∧ Hid (∀ j, j < i → kOk ks j)) (fun v3 _ => n - (intOf v3).toNat)
  case atStart => exact ⟨0, rfl, by omega, Fr.refl _ _, hid fun j hj => absurd hj (by omega)⟩
  case round =>
    obtain ⟨i, rfl, hi, hfw, hok⟩ := hrel
    have hkw := hk.fr hfw fun _ _ _ h => h
    have hbw := hb.fr hfw fun h => h
    have b1 : wr.cell? ⟨nb, 1, none⟩ = some (.slice A1 n c1) := hbw.cell 1
    by_cases hlt : i < n
    · obtain ⟨b, o, rfl, -, -, kc⟩ := ints_cells hkw (by omega)
      have k0 := kc i hlt
      have hz0 : (0 : Int) ≤ (i : Int) := by omega
      have hz1 : (i : Int) < (n : Int) := by omega
      by_cases hneg : kz ks i < 0
      · have HF := hid (F2.out i hlt (fun h => by have := h.1; omega))
        have hdn : decide (kz ks i < 0) = true := decide_eq_true hneg
        clear kc
        go_wp2_with fail
        go_quiet (fail)
        go_wp2
        go_ret
        rw [HF.out]
        exact ⟨rfl, hfr.then (hfw.drewN _)⟩
      by_cases hbig : 512 ≤ kz ks i
      · have HF := hid (F2.out i hlt (fun h => by have := h.1; omega))
        have hdn : decide (kz ks i < 0) = false := decide_eq_false hneg
        have hdb : decide (512 ≤ kz ks i) = true := decide_eq_true hbig
        clear kc
        go_wp2_with fail
        go_quiet (fail)
        go_wp2
        go_ret
        rw [HF.out]
        exact ⟨rfl, hfr.then (hfw.drewN _)⟩
      have hdn : decide (kz ks i < 0) = false := decide_eq_false hneg
      have hdb : decide (512 ≤ kz ks i) = false := decide_eq_false hbig
      cases i with
      | zero =>
        rw [Nat.add_zero] at k0
        have hok1 : Hid (∀ j, j < 0 + 1 → kOk ks j) := hid (fun j hj => by obtain rfl : j = 0 := by omega
                                                                           exact ⟨by omega, fun h => absurd h (by omega)⟩)
        clear kc
        go_wp2_with fail
        go_quiet (fail)
        go_wp2
        go_roundw
        case rel => exact ⟨1, by go_num, by omega, (hfw.drewN _), hok1⟩
        case measure => simp [intOf]; omega
      | succ m =>
        have k1 := kc m (by omega)
        have hzm : (0 : Int) ≤ (m : Int) := by omega
        have hzm2 : (m : Int) < (n : Int) := by omega
        clear kc
        by_cases hlt2 : kz ks m < kz ks (m + 1)
        · have hok1 : Hid (∀ j, j < m + 1 + 1 → kOk ks j) := hid (fun j hj => by
            rcases Nat.lt_or_ge j (m + 1) with h | h
            · exact hok.out j h
            · obtain rfl : j = m + 1 := by omega
              exact ⟨by omega, fun _ => hlt2⟩)
          have hdl : decide (kz ks (m + 1) ≤ kz ks m) = false := decide_eq_false (by omega)
          go_wp2_with fail
          go_quiet (fail)
          go_wp2
          go_roundw
          case rel => exact ⟨m + 1 + 1, by go_num, by omega, (hfw.drewN _), hok1⟩
          case measure => simp [intOf]; omega
        · have HF := hid (F2.out (m + 1) hlt (fun h => hlt2 (h.2 (by omega))))
          have hdl : decide (kz ks (m + 1) ≤ kz ks m) = true := decide_eq_true (by omega)
          go_wp2_with fail
          go_quiet (fail)
          go_wp2
          go_ret
          rw [HF.out]
          exact ⟨rfl, hfr.then (hfw.drewN _)⟩
    · have hin : i = n := by omega
      have hkeys : Hid (∀ j, j < n → kOk ks j) := hid (fun j hj => hok.out j (by omega))
      have b0 : wr.cell? ⟨nb, 0, none⟩ = some (.int .i64 h) := hbw.cell 0
      have b2 : wr.cell? ⟨nb, 2, none⟩ = some (.slice A2 n2 c2) := hbw.cell 2
      have b3 : wr.cell? ⟨nb, 3, none⟩ = some (.slice A3 n3 c3) := hbw.cell 3
      have b4 : wr.cell? ⟨nb, 4, none⟩ = some (.slice A4 n4 c4) := hbw.cell 4
      have hfw0 : Fr Nil w wr := hfr.then hfw
      have hpw := hp.fr hfw fun _ _ _ h => h
      have hgw := hg.fr hfw fun _ _ _ h => h
      have hdw := hd.fr hfw fun _ _ _ h => h
      clear hok hk hp hg hd hb hfr hfw hin
      by_cases h0 : h = 0
      · have hb0 : (h == 0) = true := by simpa using h0
        by_cases hlen : n2 = n ∧ n3 = n ∧ n4 = 0
        · obtain ⟨rfl, rfl, rfl⟩ := hlen
          have H0 := hid h0; clear h0
          clear hdw
          go_wp2_with fail
          clear b0 b1 b2 b3 b4 hkw
          obtain ⟨wo, rfl⟩ : ∃ wo : World, wo = wr := ⟨_, rfl⟩
          go_loopw [4] (fun v4 wr => ∃ j : Nat, v4 = .int .i64 j ∧ j ≤ n3 ∧ Fr Nil wo wr ∧ Hid (∀ m, m < j → eOk (kd ps m) (kz gs m))) (fun v4 _ => n3 - (intOf v4).toNat)
          case atStart => exact ⟨0, rfl, by omega, Fr.refl _ _, hid fun j hj => absurd hj (by omega)⟩
          case round =>
            obtain ⟨j, rfl, hj, hfq, hok2⟩ := hrel
            have hpq := hpw.fr hfq fun _ _ _ h => h
            have hgq := hgw.fr hfq fun _ _ _ h => h
            have hbq := hbw.fr hfq fun h => h
            have b1 : wr.cell? ⟨nb, 1, none⟩ = some (.slice A1 n3 c1) := hbq.cell 1
            by_cases hlt2 : j < n3
            · obtain ⟨b, o, rfl, -, hbl, k0, k1, k2⟩ := kd_at hpq hlt2
              obtain ⟨b2, o2, rfl, -, hbl2, k3⟩ := int_at hgq hlt2
              have hz0 : (0 : Int) ≤ (j : Int) := by omega
              have hz1 : (j : Int) < (n3 : Int) := by omega
              have hS : (fun w' : World => w'.cell? ⟨nb, 2, none⟩ = some (.slice (some ⟨b, o, none⟩) n3 c2) ∧ w'.cell? ⟨nb, 3, none⟩ = some (.slice (some ⟨b2, o2, none⟩) n3 c3) ∧ w'.cell? ⟨b, o + j * 3, none⟩ = some (.int .i64 (kd ps j).a) ∧ w'.cell? ⟨b, o + j * 3 + 1, none⟩ = some (.int .i64 (kd ps j).n) ∧ w'.cell? ⟨b, o + j * 3 + 2, none⟩ = some (.int .i64 (kd ps j).g) ∧ w'.cell? ⟨b2, o2 + j, none⟩ = some (.int .i64 (kz gs j))) wr.drew := ⟨hbq.cell 2, hbq.cell 3, k0, k1, k2, k3⟩
              clear hpq hgq hbq k0 k1 k2 k3
              by_cases hent : eOk (kd ps j) (kz gs j)
              · have hdec := hid (decide_eq_true hent)
                have Hent := hid hent
                clear hent
                go_wp2_with fail
                clear b1
                refine wpU_region (k := 11) (S := (fun w' : World => w'.cell? ⟨nb, 2, none⟩ = some (.slice (some ⟨b, o, none⟩) n3 c2) ∧ w'.cell? ⟨nb, 3, none⟩ = some (.slice (some ⟨b2, o2, none⟩) n3 c3) ∧ w'.cell? ⟨b, o + j * 3, none⟩ = some (.int .i64 (kd ps j).a) ∧ w'.cell? ⟨b, o + j * 3 + 1, none⟩ = some (.int .i64 (kd ps j).n) ∧ w'.cell? ⟨b, o + j * 3 + 2, none⟩ = some (.int .i64 (kd ps j).g) ∧ w'.cell? ⟨b2, o2 + j, none⟩ = some (.int .i64 (kz gs j)))) (by kernel_rfl) ?_
                refine wpU_take (i := 0) (v := ?_) rfl (by kernel_rfl) (by kernel_rfl) (fun _ _ _ h => h) _ _ _ _ (by kernel_rfl) (by kernel_rfl) (by kernel_rfl) (Or.inl ⟨by kernel_rfl, ?_⟩) hS ?_
                rotate_left
                · (intro w9 hS9; obtain ⟨s0, s1, s2, s3, s4, s5⟩ := hS9; go_simp); (try with_reducible rfl)
                try simp only [Act.put, List.setIfInBounds_toArray, List.set_cons_zero, List.set_cons_succ]
                refine wpU_take (i := 1) (v := ?_) rfl (by kernel_rfl) (by kernel_rfl) (fun _ _ _ h => h) _ _ _ _ (by kernel_rfl) (by kernel_rfl) (by kernel_rfl) (Or.inl ⟨by kernel_rfl, ?_⟩) hS ?_
                rotate_left
                · (intro w9 hS9; obtain ⟨s0, s1, s2, s3, s4, s5⟩ := hS9; go_simp); (try with_reducible rfl)
                try simp only [Act.put, List.setIfInBounds_toArray, List.set_cons_zero, List.set_cons_succ]
                refine wpU_take (i := 2) (v := ?_) rfl (by kernel_rfl) (by kernel_rfl) (fun _ _ _ h => h) _ _ _ _ (by kernel_rfl) (by kernel_rfl) (by kernel_rfl) (Or.inl ⟨by kernel_rfl, ?_⟩) hS ?_
                rotate_left
                · (intro w9 hS9; obtain ⟨s0, s1, s2, s3, s4, s5⟩ := hS9; go_simp); (try with_reducible rfl)
                try simp only [Act.put, List.setIfInBounds_toArray, List.set_cons_zero, List.set_cons_succ]
                refine wpU_take (i := 3) (v := ?_) rfl (by kernel_rfl) (by kernel_rfl) (fun _ _ _ h => h) _ _ _ _ (by kernel_rfl) (by kernel_rfl) (by kernel_rfl) (Or.inl ⟨by kernel_rfl, ?_⟩) hS ?_
                rotate_left
                · (intro w9 hS9; obtain ⟨s0, s1, s2, s3, s4, s5⟩ := hS9; go_simp); (try with_reducible rfl)
                try simp only [Act.put, List.setIfInBounds_toArray, List.set_cons_zero, List.set_cons_succ]
                refine wpU_take (i := 4) (v := ?_) rfl (by kernel_rfl) (by kernel_rfl) (fun _ _ _ h => h) _ _ _ _ (by kernel_rfl) (by kernel_rfl) (by kernel_rfl) (Or.inl ⟨by kernel_rfl, ?_⟩) hS ?_
                rotate_left
                · (intro w9 hS9; obtain ⟨s0, s1, s2, s3, s4, s5⟩ := hS9; go_simp); (try with_reducible rfl)
                try simp only [Act.put, List.setIfInBounds_toArray, List.set_cons_zero, List.set_cons_succ]
                refine wpU_take (i := 5) (v := ?_) rfl (by kernel_rfl) (by kernel_rfl) (fun _ _ _ h => h) _ _ _ _ (by kernel_rfl) (by kernel_rfl) (by kernel_rfl) (Or.inl ⟨by kernel_rfl, ?_⟩) hS ?_
                rotate_left
                · (intro w9 hS9; obtain ⟨s0, s1, s2, s3, s4, s5⟩ := hS9; go_simp); (try with_reducible rfl)
                try simp only [Act.put, List.setIfInBounds_toArray, List.set_cons_zero, List.set_cons_succ]
                refine wpU_take (i := 6) (v := ?_) rfl (by kernel_rfl) (by kernel_rfl) (fun _ _ _ h => h) _ _ _ _ (by kernel_rfl) (by kernel_rfl) (by kernel_rfl) (Or.inl ⟨by kernel_rfl, ?_⟩) hS ?_
                rotate_left
                · (intro w9 hS9; obtain ⟨s0, s1, s2, s3, s4, s5⟩ := hS9; go_simp); (try with_reducible rfl)
                try simp only [Act.put, List.setIfInBounds_toArray, List.set_cons_zero, List.set_cons_succ]
                refine wpU_take (i := 7) (v := ?_) rfl (by kernel_rfl) (by kernel_rfl) (fun _ _ _ h => h) _ _ _ _ (by kernel_rfl) (by kernel_rfl) (by kernel_rfl) (Or.inl ⟨by kernel_rfl, ?_⟩) hS ?_
                rotate_left
                · (intro w9 hS9; obtain ⟨s0, s1, s2, s3, s4, s5⟩ := hS9; go_simp); (try with_reducible rfl)
                try simp only [Act.put, List.setIfInBounds_toArray, List.set_cons_zero, List.set_cons_succ]
                refine wpU_take (i := 8) (v := ?_) rfl (by kernel_rfl) (by kernel_rfl) (fun _ _ _ h => h) _ _ _ _ (by kernel_rfl) (by kernel_rfl) (by kernel_rfl) (Or.inl ⟨by kernel_rfl, ?_⟩) hS ?_
                rotate_left
                · (intro w9 hS9; obtain ⟨s0, s1, s2, s3, s4, s5⟩ := hS9; go_simp); (try with_reducible rfl)
                try simp only [Act.put, List.setIfInBounds_toArray, List.set_cons_zero, List.set_cons_succ]
                refine wpU_take (i := 9) (v := ?_) rfl (by kernel_rfl) (by kernel_rfl) (fun _ _ _ h => h) _ _ _ _ (by kernel_rfl) (by kernel_rfl) (by kernel_rfl) (Or.inl ⟨by kernel_rfl, ?_⟩) hS ?_
                rotate_left
                · (intro w9 hS9; obtain ⟨s0, s1, s2, s3, s4, s5⟩ := hS9; go_simp); (try with_reducible rfl)
                try simp only [Act.put, List.setIfInBounds_toArray, List.set_cons_zero, List.set_cons_succ]
                refine wpU_next (i := 10) rfl (by kernel_rfl) (fun K hK => ?_)
                go_simp
                refine (pmay_ok (kd ps j) (kz gs j) _ hdec.out _).mono ?_
                rintro e w3 ⟨rfl, hf3⟩
                have hS3 : (fun w' : World => w'.cell? ⟨nb, 2, none⟩ = some (.slice (some ⟨b, o, none⟩) n3 c2) ∧ w'.cell? ⟨nb, 3, none⟩ = some (.slice (some ⟨b2, o2, none⟩) n3 c3) ∧ w'.cell? ⟨b, o + j * 3, none⟩ = some (.int .i64 (kd ps j).a) ∧ w'.cell? ⟨b, o + j * 3 + 1, none⟩ = some (.int .i64 (kd ps j).n) ∧ w'.cell? ⟨b, o + j * 3 + 2, none⟩ = some (.int .i64 (kd ps j).g) ∧ w'.cell? ⟨b2, o2 + j, none⟩ = some (.int .i64 (kz gs j))) w3 := ⟨hf3.cell hS.1 fun h => h, hf3.cell hS.2.1 fun h => h, hf3.cell hS.2.2.1 fun h => h, hf3.cell hS.2.2.2.1 fun h => h, hf3.cell hS.2.2.2.2.1 fun h => h, hf3.cell hS.2.2.2.2.2 fun h => h⟩
                refine hK.out _ _ (fun _ => hS3) ?_
                clear hK K
                try simp only [Act.put, List.setIfInBounds_toArray, List.set_cons_zero, List.set_cons_succ]
                refine wpU_next (i := 11) rfl (by kernel_rfl) (fun K hK => ?_)
                go_simp
                refine hK.out _ _ (fun h => absurd rfl h.1) ?_
                refine wpU_done (by kernel_rfl) ?_ _
                clear hK K
                go_wp2
                go_roundw
                case rel =>
                  refine ⟨j + 1, by go_num, by omega, hfq.drew.then hf3, hid fun m hm => ?_⟩
                  rcases Nat.lt_or_ge m j with h | h
                  · exact hok2.out m h
                  · obtain rfl : m = j := by omega
                    exact Hent.out
                case measure => simp [intOf]; omega
              · have hdec := hid (decide_eq_false hent)
                have HF := hid (F4.out H0.out j hlt2 hent)
                clear hent
                go_wp2_with fail
                clear b1
                refine wpU_region (k := 11) (S := (fun w' : World => w'.cell? ⟨nb, 2, none⟩ = some (.slice (some ⟨b, o, none⟩) n3 c2) ∧ w'.cell? ⟨nb, 3, none⟩ = some (.slice (some ⟨b2, o2, none⟩) n3 c3) ∧ w'.cell? ⟨b, o + j * 3, none⟩ = some (.int .i64 (kd ps j).a) ∧ w'.cell? ⟨b, o + j * 3 + 1, none⟩ = some (.int .i64 (kd ps j).n) ∧ w'.cell? ⟨b, o + j * 3 + 2, none⟩ = some (.int .i64 (kd ps j).g) ∧ w'.cell? ⟨b2, o2 + j, none⟩ = some (.int .i64 (kz gs j)))) (by kernel_rfl) ?_
                refine wpU_take (i := 0) (v := ?_) rfl (by kernel_rfl) (by kernel_rfl) (fun _ _ _ h => h) _ _ _ _ (by kernel_rfl) (by kernel_rfl) (by kernel_rfl) (Or.inl ⟨by kernel_rfl, ?_⟩) hS ?_
                rotate_left
                · (intro w9 hS9; obtain ⟨s0, s1, s2, s3, s4, s5⟩ := hS9; go_simp); (try with_reducible rfl)
                try simp only [Act.put, List.setIfInBounds_toArray, List.set_cons_zero, List.set_cons_succ]
                refine wpU_take (i := 1) (v := ?_) rfl (by kernel_rfl) (by kernel_rfl) (fun _ _ _ h => h) _ _ _ _ (by kernel_rfl) (by kernel_rfl) (by kernel_rfl) (Or.inl ⟨by kernel_rfl, ?_⟩) hS ?_
                rotate_left
                · (intro w9 hS9; obtain ⟨s0, s1, s2, s3, s4, s5⟩ := hS9; go_simp); (try with_reducible rfl)
                try simp only [Act.put, List.setIfInBounds_toArray, List.set_cons_zero, List.set_cons_succ]
                refine wpU_take (i := 2) (v := ?_) rfl (by kernel_rfl) (by kernel_rfl) (fun _ _ _ h => h) _ _ _ _ (by kernel_rfl) (by kernel_rfl) (by kernel_rfl) (Or.inl ⟨by kernel_rfl, ?_⟩) hS ?_
                rotate_left
                · (intro w9 hS9; obtain ⟨s0, s1, s2, s3, s4, s5⟩ := hS9; go_simp); (try with_reducible rfl)
                try simp only [Act.put, List.setIfInBounds_toArray, List.set_cons_zero, List.set_cons_succ]
                refine wpU_take (i := 3) (v := ?_) rfl (by kernel_rfl) (by kernel_rfl) (fun _ _ _ h => h) _ _ _ _ (by kernel_rfl) (by kernel_rfl) (by kernel_rfl) (Or.inl ⟨by kernel_rfl, ?_⟩) hS ?_
                rotate_left
                · (intro w9 hS9; obtain ⟨s0, s1, s2, s3, s4, s5⟩ := hS9; go_simp); (try with_reducible rfl)
                try simp only [Act.put, List.setIfInBounds_toArray, List.set_cons_zero, List.set_cons_succ]
                refine wpU_take (i := 4) (v := ?_) rfl (by kernel_rfl) (by kernel_rfl) (fun _ _ _ h => h) _ _ _ _ (by kernel_rfl) (by kernel_rfl) (by kernel_rfl) (Or.inl ⟨by kernel_rfl, ?_⟩) hS ?_
                rotate_left
                · (intro w9 hS9; obtain ⟨s0, s1, s2, s3, s4, s5⟩ := hS9; go_simp); (try with_reducible rfl)
                try simp only [Act.put, List.setIfInBounds_toArray, List.set_cons_zero, List.set_cons_succ]
                refine wpU_take (i := 5) (v := ?_) rfl (by kernel_rfl) (by kernel_rfl) (fun _ _ _ h => h) _ _ _ _ (by kernel_rfl) (by kernel_rfl) (by kernel_rfl) (Or.inl ⟨by kernel_rfl, ?_⟩) hS ?_
                rotate_left
                · (intro w9 hS9; obtain ⟨s0, s1, s2, s3, s4, s5⟩ := hS9; go_simp); (try with_reducible rfl)
                try simp only [Act.put, List.setIfInBounds_toArray, List.set_cons_zero, List.set_cons_succ]
                refine wpU_take (i := 6) (v := ?_) rfl (by kernel_rfl) (by kernel_rfl) (fun _ _ _ h => h) _ _ _ _ (by kernel_rfl) (by kernel_rfl) (by kernel_rfl) (Or.inl ⟨by kernel_rfl, ?_⟩) hS ?_
                rotate_left
                · (intro w9 hS9; obtain ⟨s0, s1, s2, s3, s4, s5⟩ := hS9; go_simp); (try with_reducible rfl)
                try simp only [Act.put, List.setIfInBounds_toArray, List.set_cons_zero, List.set_cons_succ]
                refine wpU_take (i := 7) (v := ?_) rfl (by kernel_rfl) (by kernel_rfl) (fun _ _ _ h => h) _ _ _ _ (by kernel_rfl) (by kernel_rfl) (by kernel_rfl) (Or.inl ⟨by kernel_rfl, ?_⟩) hS ?_
                rotate_left
                · (intro w9 hS9; obtain ⟨s0, s1, s2, s3, s4, s5⟩ := hS9; go_simp); (try with_reducible rfl)
                try simp only [Act.put, List.setIfInBounds_toArray, List.set_cons_zero, List.set_cons_succ]
                refine wpU_take (i := 8) (v := ?_) rfl (by kernel_rfl) (by kernel_rfl) (fun _ _ _ h => h) _ _ _ _ (by kernel_rfl) (by kernel_rfl) (by kernel_rfl) (Or.inl ⟨by kernel_rfl, ?_⟩) hS ?_
                rotate_left
                · (intro w9 hS9; obtain ⟨s0, s1, s2, s3, s4, s5⟩ := hS9; go_simp); (try with_reducible rfl)
                try simp only [Act.put, List.setIfInBounds_toArray, List.set_cons_zero, List.set_cons_succ]
                refine wpU_take (i := 9) (v := ?_) rfl (by kernel_rfl) (by kernel_rfl) (fun _ _ _ h => h) _ _ _ _ (by kernel_rfl) (by kernel_rfl) (by kernel_rfl) (Or.inl ⟨by kernel_rfl, ?_⟩) hS ?_
                rotate_left
                · (intro w9 hS9; obtain ⟨s0, s1, s2, s3, s4, s5⟩ := hS9; go_simp); (try with_reducible rfl)
                try simp only [Act.put, List.setIfInBounds_toArray, List.set_cons_zero, List.set_cons_succ]
                refine wpU_next (i := 10) rfl (by kernel_rfl) (fun K hK => ?_)
                go_simp
                refine (pmay_ok (kd ps j) (kz gs j) _ hdec.out _).mono ?_
                rintro e w3 ⟨rfl, hf3⟩
                have hS3 : (fun w' : World => w'.cell? ⟨nb, 2, none⟩ = some (.slice (some ⟨b, o, none⟩) n3 c2) ∧ w'.cell? ⟨nb, 3, none⟩ = some (.slice (some ⟨b2, o2, none⟩) n3 c3) ∧ w'.cell? ⟨b, o + j * 3, none⟩ = some (.int .i64 (kd ps j).a) ∧ w'.cell? ⟨b, o + j * 3 + 1, none⟩ = some (.int .i64 (kd ps j).n) ∧ w'.cell? ⟨b, o + j * 3 + 2, none⟩ = some (.int .i64 (kd ps j).g) ∧ w'.cell? ⟨b2, o2 + j, none⟩ = some (.int .i64 (kz gs j))) w3 := ⟨hf3.cell hS.1 fun h => h, hf3.cell hS.2.1 fun h => h, hf3.cell hS.2.2.1 fun h => h, hf3.cell hS.2.2.2.1 fun h => h, hf3.cell hS.2.2.2.2.1 fun h => h, hf3.cell hS.2.2.2.2.2 fun h => h⟩
                refine hK.out _ _ (fun _ => hS3) ?_
                clear hK K
                try simp only [Act.put, List.setIfInBounds_toArray, List.set_cons_zero, List.set_cons_succ]
                refine wpU_next (i := 11) rfl (by kernel_rfl) (fun K hK => ?_)
                go_simp
                refine hK.out _ _ (fun h => absurd rfl h.1) ?_
                refine wpU_done (by kernel_rfl) ?_ _
                clear hK K
                go_wp2
                go_ret
                rw [HF.out]
                exact ⟨rfl, hfw0.then (hfq.drew.then hf3)⟩
            · have HT := hid (F7.out ⟨by omega, by omega⟩ (by omega) hkeys.out H0.out (by simp) (fun m hm => hok2.out m (by omega)))
              go_wp2
              go_ret
              rw [HT.out]
              exact ⟨rfl, hfw0.then hfq⟩
        · have HF := hid (F3.out h0 hlen)
          by_cases e1 : n2 = n
          · by_cases e2 : n3 = n
            · have e3 : 0 < n4 := by omega
              clear hlen
              subst e1; subst e2
              go_wp2
              go_ret
              rw [HF.out]
              exact ⟨rfl, hfw0⟩
            · clear hlen
              subst e1
              go_wp2
              go_ret
              rw [HF.out]
              exact ⟨rfl, hfw0⟩
          · clear hlen
            go_wp2
            go_ret
            rw [HF.out]
            exact ⟨rfl, hfw0⟩
      · have hb0 : (h == 0) = false := by simpa using h0
        by_cases hlen : n4 = n ∧ 0 < n ∧ n2 = 0 ∧ n3 = 0
        · obtain ⟨rfl, hpos, rfl, rfl⟩ := hlen
          have H0 := hid h0; clear h0
          clear hgw hpw
          go_wp2_with fail
          clear b0 b1 b2 b3 b4 hkw
          obtain ⟨wo, rfl⟩ : ∃ wo : World, wo = wr := ⟨_, rfl⟩
          go_loopw [5] (fun v5 wr => ∃ j : Nat, v5 = .int .i64 j ∧ j ≤ n4 ∧ Fr Nil wo wr ∧ Hid (∀ m, m < j → lOk (kd ds m).a (kd ds m).n (kd ds m).g)) (fun v5 _ => n4 - (intOf v5).toNat)
          case atStart => exact ⟨0, rfl, by omega, Fr.refl _ _, hid fun j hj => absurd hj (by omega)⟩
          case round =>
            obtain ⟨j, rfl, hj, hfq, hok2⟩ := hrel
            have hdq := hdw.fr hfq fun _ _ _ h => h
            have hbq := hbw.fr hfq fun h => h
            have b4 : wr.cell? ⟨nb, 4, none⟩ = some (.slice A4 n4 c4) := hbq.cell 4
            by_cases hlt2 : j < n4
            · obtain ⟨b, o, rfl, -, hbl, k0, k1, k2⟩ := kd_at hdq hlt2
              have hz0 : (0 : Int) ≤ (j : Int) := by omega
              have hz1 : (j : Int) < (n4 : Int) := by omega
              clear hdq hbq
              by_cases hrun : runOk (kd ds j).a (kd ds j).n
              · have hr1 := hid (decide_eq_true hrun)
                by_cases hg : 0 ≤ (kd ds j).g ∧ (kd ds j).g ≤ 268435455
                · have hr2 := hid (decide_eq_true hg)
                  have Hent := hid ((lOk_run _ _ _).2 ⟨hrun, hg⟩)
                  clear hrun hg
                  go_wp2_with fail
                  go_quiet (((first | (go_at_call 47; exact Calls.quiet_of_same ((run_ok _ _ _ hr1.out _).mono (by rintro e w' ⟨rfl, rfl⟩; exact ⟨rfl, rfl⟩))) | (go_at_call 48; exact Calls.quiet_of_same ((gen_ok _ _ hr2.out _).mono (by rintro e w' ⟨rfl, rfl⟩; exact ⟨rfl, rfl⟩))))))
                  go_wp2
                  go_roundw
                  case rel =>
                    refine ⟨j + 1, by go_num, by omega, hfq.drewN _, hid fun m hm => ?_⟩
                    rcases Nat.lt_or_ge m j with h | h
                    · exact hok2.out m h
                    · obtain rfl : m = j := by omega
                      exact Hent.out
                  case measure => simp [intOf]; omega
                · have hr2 := hid (decide_eq_false hg)
                  have HF := hid (F6.out H0.out j hlt2 (fun h => hg ((lOk_run _ _ _).1 h).2))
                  clear hrun hg
                  go_wp2_with fail
                  go_quiet (((first | (go_at_call 47; exact Calls.quiet_of_same ((run_ok _ _ _ hr1.out _).mono (by rintro e w' ⟨rfl, rfl⟩; exact ⟨rfl, rfl⟩))) | (go_at_call 48; exact Calls.quiet_of_same ((gen_ok _ _ hr2.out _).mono (by rintro e w' ⟨rfl, rfl⟩; exact ⟨rfl, rfl⟩))))))
                  go_wp2
                  go_ret
                  rw [HF.out]
                  exact ⟨rfl, hfw0.then (hfq.drewN _)⟩
              · have hr1 := hid (decide_eq_false hrun)
                have hr2 := hid trivial
                have HF := hid (F6.out H0.out j hlt2 (fun h => hrun ((lOk_run _ _ _).1 h).1))
                clear hrun
                go_wp2_with fail
                go_quiet (((first | (go_at_call 47; exact Calls.quiet_of_same ((run_ok _ _ _ hr1.out _).mono (by rintro e w' ⟨rfl, rfl⟩; exact ⟨rfl, rfl⟩))) | (go_at_call 48; exact Calls.quiet_of_same ((gen_ok _ _ hr2.out _).mono (by rintro e w' ⟨rfl, rfl⟩; exact ⟨rfl, rfl⟩))))))
                go_wp2
                go_ret
                rw [HF.out]
                exact ⟨rfl, hfw0.then (hfq.drewN _)⟩
            · have HT := hid (F8.out ⟨by omega, by omega⟩ (by omega) hkeys.out H0.out (by simpa using hpos) (fun m hm => hok2.out m (by omega)))
              go_wp2
              go_ret
              rw [HT.out]
              exact ⟨rfl, hfw0.then hfq⟩
        · have HF := hid (F5.out h0 hlen)
          by_cases e1 : n4 = n
          · subst e1
            by_cases e2 : 0 < n4
            · by_cases e3 : n2 = 0
              · have e4 : 0 < n3 := by omega
                subst e3
                clear hlen
                go_wp2
                go_ret
                rw [HF.out]
                exact ⟨rfl, hfw0⟩
              · have e4 : 0 < n2 := by omega
                clear hlen e3
                go_wp2
                go_ret
                rw [HF.out]
                exact ⟨rfl, hfw0⟩
            · have e4 : n4 = 0 := by omega
              subst e4
              clear hlen e2
              go_wp2
              go_ret
              rw [HF.out]
              exact ⟨rfl, hfw0⟩
          · clear hlen
            go_wp2
            go_ret
            rw [HF.out]
            exact ⟨rfl, hfw0⟩
end Go.Proofs.YtgoghmblfdlnbaaGreat.nd
end

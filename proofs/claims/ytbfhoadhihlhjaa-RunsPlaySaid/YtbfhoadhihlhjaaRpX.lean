/- The law RunsPlay. -/
import Derived.Test.YtbfhoadhihlhjaaRpS
set_option linter.unusedSimpArgs false
set_option linter.unusedVariables false
namespace Go.Proofs.Ytbfhoadhihlhjaa
open Go.RowKit
set_option maxRecDepth 20000 in
set_option maxHeartbeats 2000000 in
theorem runsPlay_ok (b0 : Int) (hb0 : (Lit.int .i64 b0).wf = true) (v : Value) (w : World) (hv : ∃ n ps, Deds w (fun k => k < w.heap.size) v n ps) :
    Calls Try.prog 6 #[.int .i64 b0, v] w fun e w' => e = .returned (.bool true) ∧ Fr Nil w w' := by
  have hb0 := bounds_i64 hb0
  obtain ⟨n, ps, hl, A, c, rfl, hn9, hd⟩ := hv
  have Hl := hid hl
  have Hd := hid hd
  clear hl hd
  go_enter Try.func6, Try.ntmps6
  go_wp2_with fail
  refine (awake_ok w).mono ?_
  rintro e w0 ⟨rfl, f0⟩
  have F0 := hid f0; clear f0
  go_upto_region 3 with (fail)
  go_cut [26] from 16 to 26 (fun v wx => v = .bool (decide (100 < n ∨ (300 < b0 ∧ b0 ≤ 8192))) ∧ wx = w0)
  case first =>
    by_cases hn : 100 < n
    · have E : Hid (decide (100 < n ∨ (300 < b0 ∧ b0 ≤ 8192)) = true) := hid (decide_eq_true (.inl hn))
      go_wp2_with fail
      go_meet
      case rel => exact ⟨by rw [E.out], rfl⟩
    · by_cases h1 : 300 < b0
      · have E : Hid (decide (100 < n ∨ (300 < b0 ∧ b0 ≤ 8192)) = decide (b0 ≤ 8192)) := hid (decide_eq_decide.2 (by omega))
        have hnd : decide ((100 : Int) < (n : Int)) = false := decide_eq_false (by omega)
        have hnd2 : decide (100 < n) = false := decide_eq_false (by omega)
        go_wp2_with fail
        go_meet
        case rel => exact ⟨by rw [E.out], rfl⟩
      · have E : Hid (decide (100 < n ∨ (300 < b0 ∧ b0 ≤ 8192)) = false) := hid (decide_eq_false (by omega))
        have hnd : decide ((100 : Int) < (n : Int)) = false := decide_eq_false (by omega)
        have hnd2 : decide (100 < n) = false := decide_eq_false (by omega)
        go_wp2_with fail
        go_meet
        case rel => exact ⟨by rw [E.out], rfl⟩
  case rest =>
    obtain ⟨rfl, rfl⟩ := hcut
    obtain ⟨w0, rfl⟩ : ∃ w0 : World, w0 = wc := ⟨_, rfl⟩
    by_cases hb : 100 < n ∨ (300 < b0 ∧ b0 ≤ 8192)
    · rw [decide_eq_true hb]
      clear hb
      go_wp2
      go_ret
      exact ⟨rfl, F0.out⟩
    · rw [decide_eq_false hb]
      have hn : n ≤ 100 := by omega
      clear hb
      go_wp2_with fail
      refine (new_t b0 w0).mono ?_
      rintro e w1 ⟨pb, T1, rfl, h, u1, f1⟩
      have H1 := hid h
      have U1 := hid u1
      have F1 := hid (F0.out.then f1)
      clear h u1 f1
      go_wp2_with fail
      refine (ref_new b0 w1).mono ?_
      rintro e w2 ⟨mb, fb, rfl, h, u2, u3, f2⟩
      have HM := hid h
      have H2 := hid (H1.out.nil f2)
      have F2 := hid (F1.out.then f2)
      have Hmb := hid (show w.heap.size ≤ mb from Nat.le_trans F1.out.size u2)
      have Hfb := hid (show w.heap.size ≤ fb from Nat.le_trans F1.out.size u3)
      have HT1 := hid (show ∀ k, T1 k → w.heap.size ≤ k ∧ k ≠ mb ∧ k ≠ fb from fun k hk => by
        have e1 := U1.out k hk
        have e2 := F0.out.size
        have e3 := H1.out.lt k hk
        exact ⟨by omega, by omega, by omega⟩)
      clear h u2 u3 f2 H1 F1 U1
      have HF0 := hid (Fre.new b0)
      generalize newBl b0 = bl at *
      generalize newL b0 = L0 at *
      generalize List.replicate bl true = FF at *
      go_wp2_with fail
      go_loopw [7] (fun v7 wr => ∃ (i : Nat) (L : List Rn) (F : List Bool) (T : Nat → Prop), v7 = .int .i64 i ∧ i ≤ n ∧ Hid (RsT wr T pb bl L ∧ Rf wr mb fb F ∧ Fre bl L F ∧ (∀ k, T k → w.heap.size ≤ k ∧ k ≠ mb ∧ k ≠ fb)) ∧ Fr Nil w wr) (fun v7 _ => n - (intOf v7).toNat)
      case atStart => exact ⟨0, L0, FF, T1, rfl, by omega, hid ⟨H2.out, HM.out, HF0.out, HT1.out⟩, F2.out⟩
      case round =>
        clear H2 HM HF0 HT1 F2
        obtain ⟨i, L, F, T, rfl, hi, hA, hfw⟩ := hrel
        by_cases hlt : i < n
        · obtain ⟨b, o, rfl, hbS, hbl, hat⟩ := Hd.out (by omega)
          obtain ⟨p, hp⟩ : ∃ p, ps[i]? = some p := ⟨_, List.getElem?_eq_getElem (by rw [Hl.out]; exact hlt)⟩
          obtain ⟨q0, q1, q2, hpd, hpa, hpn⟩ := hat i p hp
          have q0 := hfw.cell q0 fun h => h
          have q1 := hfw.cell q1 fun h => h
          have q2 := hfw.cell q2 fun h => h
          clear hat hp
          go_upto_region 12 with (fail)
          have hdb := Blk.new wr #[.int .i64 p.d, .int .i64 p.a, .int .i64 p.n] 41
          have f4 : Fr Nil wr (wr.alloc (.cells #[.int .i64 p.d, .int .i64 p.a, .int .i64 p.n] 41)) := (Fr.refl _ _).alloc _
          obtain ⟨w4, hw4⟩ : ∃ w4, w4 = wr.alloc (.cells #[.int .i64 p.d, .int .i64 p.a, .int .i64 p.n] 41) := ⟨_, rfl⟩
          obtain ⟨db, hdbe⟩ : ∃ db, db = wr.heap.size := ⟨_, rfl⟩
          rw [← hw4] at hdb f4 ⊢
          rw [← hdbe] at hdb ⊢
          have Hdf := hid (show db ≠ fb from by have := hA.out.2.1.2.lt; omega)
          have HT := hid (show ∀ k, T k → w.heap.size ≤ k ∧ k ≠ mb ∧ k ≠ fb ∧ k ≠ db from fun k hk => ⟨(hA.out.2.2.2 k hk).1, (hA.out.2.2.2 k hk).2.1, (hA.out.2.2.2 k hk).2.2, by have := hA.out.1.lt k hk; omega⟩)
          have HR := hid (hA.out.1.nil f4)
          have hM := hid (hA.out.2.1.nil f4)
          have HF := hid hA.out.2.2.1
          have HFd := hid (hfw.then f4)
          have D0 := hid (hdb.cell 0)
          have D1 := hid (show w4.cell? ⟨db, 1, none⟩ = some (.int .i64 p.a) from hdb.cell 1)
          have D2 := hid (show w4.cell? ⟨db, 2, none⟩ = some (.int .i64 p.n) from hdb.cell 2)
          have D0 : Hid (w4.cell? ⟨db, 0, none⟩ = some (.int .i64 p.d)) := D0
          clear hdb f4 hw4 hdbe hfw hA q0 q1 q2 hpd hbS hbl
          by_cases hx0 : p.d = 0
          · have d0 := D0.out
            have d2 := D2.out
            rw [hx0] at d0
            clear hx0
            go_wp2_with fail
            refine (take_t HR.out p.n).mono ?_
            rintro e w5 ⟨rfl, ⟨T5, h5, h5T⟩, f5⟩
            have HT5 := hid (show ∀ k, T5 k → w.heap.size ≤ k ∧ k ≠ mb ∧ k ≠ fb from fun k hk => by
              have e1 := hM.out.1.lt
              have e2 := hM.out.2.lt
              have e3 := HFd.out.size
              rcases h5T k hk with h | h
              · exact ⟨(HT.out k h).1, (HT.out k h).2.1, (HT.out k h).2.2.1⟩
              · have h9 : w4.heap.size ≤ k := h
                exact ⟨by omega, by omega, by omega⟩)
            have H5 := hid h5
            have HM5 := hid (hM.out.fr f5 (fun h => (HT.out _ h).2.1 rfl) fun h => (HT.out _ h).2.2.1 rfl)
            have HF5 := hid (HFd.out.trans f5 fun k hk => .inr (HT.out k hk).1)
            have d2 : w5.cell? ⟨db, 2, none⟩ = some (.int .i64 p.n) := f5.cell D2.out fun h => (HT.out _ h).2.2.2 rfl
            clear f5 h5 h5T
            go_wp2_with fail
            refine (ref_take mb fb bl L F p.n w5 HM5.out HF.out hpn).mono ?_
            rintro e w6 ⟨rfl, ⟨F6, h6, h6F⟩, f6⟩
            have H6 := hid (H5.out.fr f6 fun k hk h => (HT5.out k hk).2.2 h)
            have HM6 := hid h6
            have HFr6 := hid h6F
            have HF6 := hid (HF5.out.trans f6 fun k hk => .inr (hk ▸ Hfb.out))
            clear f6 h6 h6F H5 HM5 HF5 HR hM HF
            go_wp2_with fail
            refine (same_ok T5 pb mb fb bl _ _ w6 H6.out HM6.out HFr6.out).mono ?_
            rintro e w7 ⟨rfl, f7⟩
            go_wp2_with fail
            go_roundw
            case rel => exact ⟨i + 1, _, _, T5, by go_num, by omega, hid ⟨H6.out.nil f7, HM6.out.nil f7, HFr6.out, HT5.out⟩, HF6.out.then f7⟩
            case measure => simp [intOf]; omega
          by_cases hx1 : p.d = 1
          · have d0 := D0.out
            have d2 := D2.out
            rw [hx1] at d0
            clear hx1
            go_wp2_with fail
            refine (take_t HR.out p.n).mono ?_
            rintro e w5 ⟨rfl, ⟨T5, h5, h5T⟩, f5⟩
            have HT5 := hid (show ∀ k, T5 k → w.heap.size ≤ k ∧ k ≠ mb ∧ k ≠ fb from fun k hk => by
              have e1 := hM.out.1.lt
              have e2 := hM.out.2.lt
              have e3 := HFd.out.size
              rcases h5T k hk with h | h
              · exact ⟨(HT.out k h).1, (HT.out k h).2.1, (HT.out k h).2.2.1⟩
              · have h9 : w4.heap.size ≤ k := h
                exact ⟨by omega, by omega, by omega⟩)
            have H5 := hid h5
            have HM5 := hid (hM.out.fr f5 (fun h => (HT.out _ h).2.1 rfl) fun h => (HT.out _ h).2.2.1 rfl)
            have HF5 := hid (HFd.out.trans f5 fun k hk => .inr (HT.out k hk).1)
            have d2 : w5.cell? ⟨db, 2, none⟩ = some (.int .i64 p.n) := f5.cell D2.out fun h => (HT.out _ h).2.2.2 rfl
            clear f5 h5 h5T
            go_wp2_with fail
            refine (ref_take mb fb bl L F p.n w5 HM5.out HF.out hpn).mono ?_
            rintro e w6 ⟨rfl, ⟨F6, h6, h6F⟩, f6⟩
            have H6 := hid (H5.out.fr f6 fun k hk h => (HT5.out k hk).2.2 h)
            have HM6 := hid h6
            have HFr6 := hid h6F
            have HF6 := hid (HF5.out.trans f6 fun k hk => .inr (hk ▸ Hfb.out))
            clear f6 h6 h6F H5 HM5 HF5 HR hM HF
            go_wp2_with fail
            refine (same_ok T5 pb mb fb bl _ _ w6 H6.out HM6.out HFr6.out).mono ?_
            rintro e w7 ⟨rfl, f7⟩
            go_wp2_with fail
            go_roundw
            case rel => exact ⟨i + 1, _, _, T5, by go_num, by omega, hid ⟨H6.out.nil f7, HM6.out.nil f7, HFr6.out, HT5.out⟩, HF6.out.then f7⟩
            case measure => simp [intOf]; omega
          by_cases hx2 : p.d = 2
          · have d0 := D0.out
            have d2 := D2.out
            rw [hx2] at d0
            clear hx2
            go_wp2_with fail
            refine (take_t HR.out p.n).mono ?_
            rintro e w5 ⟨rfl, ⟨T5, h5, h5T⟩, f5⟩
            have HT5 := hid (show ∀ k, T5 k → w.heap.size ≤ k ∧ k ≠ mb ∧ k ≠ fb from fun k hk => by
              have e1 := hM.out.1.lt
              have e2 := hM.out.2.lt
              have e3 := HFd.out.size
              rcases h5T k hk with h | h
              · exact ⟨(HT.out k h).1, (HT.out k h).2.1, (HT.out k h).2.2.1⟩
              · have h9 : w4.heap.size ≤ k := h
                exact ⟨by omega, by omega, by omega⟩)
            have H5 := hid h5
            have HM5 := hid (hM.out.fr f5 (fun h => (HT.out _ h).2.1 rfl) fun h => (HT.out _ h).2.2.1 rfl)
            have HF5 := hid (HFd.out.trans f5 fun k hk => .inr (HT.out k hk).1)
            have d2 : w5.cell? ⟨db, 2, none⟩ = some (.int .i64 p.n) := f5.cell D2.out fun h => (HT.out _ h).2.2.2 rfl
            clear f5 h5 h5T
            go_wp2_with fail
            refine (ref_take mb fb bl L F p.n w5 HM5.out HF.out hpn).mono ?_
            rintro e w6 ⟨rfl, ⟨F6, h6, h6F⟩, f6⟩
            have H6 := hid (H5.out.fr f6 fun k hk h => (HT5.out k hk).2.2 h)
            have HM6 := hid h6
            have HFr6 := hid h6F
            have HF6 := hid (HF5.out.trans f6 fun k hk => .inr (hk ▸ Hfb.out))
            clear f6 h6 h6F H5 HM5 HF5 HR hM HF
            go_wp2_with fail
            refine (same_ok T5 pb mb fb bl _ _ w6 H6.out HM6.out HFr6.out).mono ?_
            rintro e w7 ⟨rfl, f7⟩
            go_wp2_with fail
            go_roundw
            case rel => exact ⟨i + 1, _, _, T5, by go_num, by omega, hid ⟨H6.out.nil f7, HM6.out.nil f7, HFr6.out, HT5.out⟩, HF6.out.then f7⟩
            case measure => simp [intOf]; omega
          by_cases hx3 : p.d = 3
          · have d0 := D0.out
            rw [hx3] at d0
            clear hx3
            go_upto_region 20 with (fail)
            have ed : Fr Nil w4 w4.drew := (Fr.refl _ _).drew
            have hS : (fun w' : World => w'.cell? ⟨db, 1, none⟩ = some (.int .i64 p.a) ∧ w'.cell? ⟨db, 2, none⟩ = some (.int .i64 p.n)) w4.drew := ⟨D1.out, D2.out⟩
            have HRd := hid (HR.out.nil ed)
            refine wpU_region (k := 13) (S := fun w' : World => w'.cell? ⟨db, 1, none⟩ = some (.int .i64 p.a) ∧ w'.cell? ⟨db, 2, none⟩ = some (.int .i64 p.n)) (by kernel_rfl) ?_
            refine wpU_take (i := 0) (v := ?_) rfl (by kernel_rfl) (by kernel_rfl) (fun _ _ _ h => h) _ _ _ _ (by kernel_rfl) (by kernel_rfl) (by kernel_rfl) (Or.inl ⟨by kernel_rfl, ?_⟩) hS ?_
            rotate_left
            · (intro w9 hS9; obtain ⟨s0, s1⟩ := hS9; go_simp); (try with_reducible rfl)
            try simp only [Act.put, List.getElem_toArray, List.getElem_cons_succ, List.getElem_cons_zero, List.setIfInBounds_toArray, List.set_cons_zero, List.set_cons_succ]
            refine wpU_take (i := 1) (v := ?_) rfl (by kernel_rfl) (by kernel_rfl) (fun _ _ _ h => h) _ _ _ _ (by kernel_rfl) (by kernel_rfl) (by kernel_rfl) (Or.inl ⟨by kernel_rfl, ?_⟩) hS ?_
            rotate_left
            · (intro w9 hS9; obtain ⟨s0, s1⟩ := hS9; go_simp); (try with_reducible rfl)
            try simp only [Act.put, List.getElem_toArray, List.getElem_cons_succ, List.getElem_cons_zero, List.setIfInBounds_toArray, List.set_cons_zero, List.set_cons_succ]
            refine wpU_take (i := 2) (v := ?_) rfl (by kernel_rfl) (by kernel_rfl) (fun _ _ _ h => h) _ _ _ _ (by kernel_rfl) (by kernel_rfl) (by kernel_rfl) (Or.inl ⟨by kernel_rfl, ?_⟩) hS ?_
            rotate_left
            · (intro w9 hS9; obtain ⟨s0, s1⟩ := hS9; go_simp); (try with_reducible rfl)
            try simp only [Act.put, List.getElem_toArray, List.getElem_cons_succ, List.getElem_cons_zero, List.setIfInBounds_toArray, List.set_cons_zero, List.set_cons_succ]
            refine wpU_take (i := 3) (v := ?_) rfl (by kernel_rfl) (by kernel_rfl) (fun _ _ _ h => h) _ _ _ _ (by kernel_rfl) (by kernel_rfl) (by kernel_rfl) (Or.inl ⟨by kernel_rfl, ?_⟩) hS ?_
            rotate_left
            · (intro w9 hS9; obtain ⟨s0, s1⟩ := hS9; go_simp); (try with_reducible rfl)
            try simp only [Act.put, List.getElem_toArray, List.getElem_cons_succ, List.getElem_cons_zero, List.setIfInBounds_toArray, List.set_cons_zero, List.set_cons_succ]
            refine wpU_take (i := 4) (v := ?_) rfl (by kernel_rfl) (by kernel_rfl) (fun _ _ _ h => h) _ _ _ _ (by kernel_rfl) (by kernel_rfl) (by kernel_rfl) (Or.inl ⟨by kernel_rfl, ?_⟩) hS ?_
            rotate_left
            · (intro w9 hS9; obtain ⟨s0, s1⟩ := hS9; go_simp); (try with_reducible rfl)
            try simp only [Act.put, List.getElem_toArray, List.getElem_cons_succ, List.getElem_cons_zero, List.setIfInBounds_toArray, List.set_cons_zero, List.set_cons_succ]
            refine wpU_take (i := 6) (v := ?_) rfl (by kernel_rfl) (by kernel_rfl) (fun _ _ _ h => h) _ _ _ _ (by kernel_rfl) (by kernel_rfl) (by kernel_rfl) (Or.inl ⟨by kernel_rfl, ?_⟩) hS ?_
            rotate_left
            · (intro w9 hS9; obtain ⟨s0, s1⟩ := hS9; go_simp); (try with_reducible rfl)
            try simp only [Act.put, List.getElem_toArray, List.getElem_cons_succ, List.getElem_cons_zero, List.setIfInBounds_toArray, List.set_cons_zero, List.set_cons_succ]
            refine wpU_take (i := 7) (v := ?_) rfl (by kernel_rfl) (by kernel_rfl) (fun _ _ _ h => h) _ _ _ _ (by kernel_rfl) (by kernel_rfl) (by kernel_rfl) (Or.inl ⟨by kernel_rfl, ?_⟩) hS ?_
            rotate_left
            · (intro w9 hS9; obtain ⟨s0, s1⟩ := hS9; go_simp); (try with_reducible rfl)
            try simp only [Act.put, List.getElem_toArray, List.getElem_cons_succ, List.getElem_cons_zero, List.setIfInBounds_toArray, List.set_cons_zero, List.set_cons_succ]
            refine wpU_take (i := 8) (v := ?_) rfl (by kernel_rfl) (by kernel_rfl) (fun _ _ _ h => h) _ _ _ _ (by kernel_rfl) (by kernel_rfl) (by kernel_rfl) (Or.inl ⟨by kernel_rfl, ?_⟩) hS ?_
            rotate_left
            · (intro w9 hS9; obtain ⟨s0, s1⟩ := hS9; go_simp); (try with_reducible rfl)
            try simp only [Act.put, List.getElem_toArray, List.getElem_cons_succ, List.getElem_cons_zero, List.setIfInBounds_toArray, List.set_cons_zero, List.set_cons_succ]
            refine wpU_take (i := 9) (v := ?_) rfl (by kernel_rfl) (by kernel_rfl) (fun _ _ _ h => h) _ _ _ _ (by kernel_rfl) (by kernel_rfl) (by kernel_rfl) (Or.inl ⟨by kernel_rfl, ?_⟩) hS ?_
            rotate_left
            · (intro w9 hS9; obtain ⟨s0, s1⟩ := hS9; go_simp); (try with_reducible rfl)
            try simp only [Act.put, List.getElem_toArray, List.getElem_cons_succ, List.getElem_cons_zero, List.setIfInBounds_toArray, List.set_cons_zero, List.set_cons_succ]
            refine wpU_take (i := 10) (v := ?_) rfl (by kernel_rfl) (by kernel_rfl) (fun _ _ _ h => h) _ _ _ _ (by kernel_rfl) (by kernel_rfl) (by kernel_rfl) (Or.inl ⟨by kernel_rfl, ?_⟩) hS ?_
            rotate_left
            · (intro w9 hS9; obtain ⟨s0, s1⟩ := hS9; go_simp); (try with_reducible rfl)
            try simp only [Act.put, List.getElem_toArray, List.getElem_cons_succ, List.getElem_cons_zero, List.setIfInBounds_toArray, List.set_cons_zero, List.set_cons_succ]
            refine wpU_next (i := 5) rfl (by kernel_rfl) (fun K hK => ?_)
            go_simp
            refine (mark_t HRd.out _ _).mono ?_
            rintro e w5 ⟨rfl, ⟨T5, h5, h5T⟩, f5d⟩
            have f5 : Fr T w4 w5 := (ed.nil).then f5d
            have hS5 : (fun w' : World => w'.cell? ⟨db, 1, none⟩ = some (.int .i64 p.a) ∧ w'.cell? ⟨db, 2, none⟩ = some (.int .i64 p.n)) w5 := ⟨f5.cell D1.out fun h => (HT.out _ h).2.2.2 rfl, f5.cell D2.out fun h => (HT.out _ h).2.2.2 rfl⟩
            have HT5 := hid (show ∀ k, T5 k → w.heap.size ≤ k ∧ k ≠ mb ∧ k ≠ fb from fun k hk => by
              have e1 := hM.out.1.lt
              have e2 := hM.out.2.lt
              have e3 := HFd.out.size
              rcases h5T k hk with h | h
              · exact ⟨(HT.out k h).1, (HT.out k h).2.1, (HT.out k h).2.2.1⟩
              · have h9 : w4.heap.size ≤ k := h
                exact ⟨by omega, by omega, by omega⟩)
            have H5 := hid h5
            have HM5 := hid (hM.out.fr f5 (fun h => (HT.out _ h).2.1 rfl) fun h => (HT.out _ h).2.2.1 rfl)
            have HF5 := hid (HFd.out.trans f5 fun k hk => .inr (HT.out k hk).1)
            clear f5 h5 h5T f5d
            refine hK.out _ _ (fun _ => hS5) ?_
            clear hK K
            try simp only [Act.put, List.getElem_toArray, List.getElem_cons_succ, List.getElem_cons_zero, List.setIfInBounds_toArray, List.set_cons_zero, List.set_cons_succ]
            refine wpU_next (i := 11) rfl (by kernel_rfl) (fun K hK => ?_)
            go_simp
            refine (ref_mark mb fb bl L F p.a p.n w5 HM5.out HF.out hpa hpn).mono ?_
            rintro e w6 ⟨rfl, ⟨F6, h6, h6F⟩, f6⟩
            have hS6 : (fun w' : World => w'.cell? ⟨db, 1, none⟩ = some (.int .i64 p.a) ∧ w'.cell? ⟨db, 2, none⟩ = some (.int .i64 p.n)) w6 := ⟨f6.cell hS5.1 fun h => Hdf.out h, f6.cell hS5.2 fun h => Hdf.out h⟩
            have H6 := hid (H5.out.fr f6 fun k hk h => (HT5.out k hk).2.2 h)
            have HM6 := hid h6
            have HFr6 := hid h6F
            have HF6 := hid (HF5.out.trans f6 fun k hk => .inr (hk ▸ Hfb.out))
            clear f6 h6 h6F H5 HM5 HF5 HR hM HF
            refine hK.out _ _ (fun _ => hS6) ?_
            clear hK K
            try simp only [Act.put, List.getElem_toArray, List.getElem_cons_succ, List.getElem_cons_zero, List.setIfInBounds_toArray, List.set_cons_zero, List.set_cons_succ]
            refine wpU_next (i := 12) rfl (by kernel_rfl) (fun K hK => ?_)
            go_simp
            refine hK.out _ _ (fun _ => hS6) ?_
            clear hK K
            try simp only [Act.put, List.getElem_toArray, List.getElem_cons_succ, List.getElem_cons_zero, List.setIfInBounds_toArray, List.set_cons_zero, List.set_cons_succ]
            refine wpU_next (i := 13) rfl (by kernel_rfl) (fun K hK => ?_)
            go_simp
            refine hK.out _ _ (fun h => absurd rfl h.1) ?_
            refine wpU_done (by kernel_rfl) ?_ _
            clear hK K
            clear hS5 hS6 hS
            go_wp2_with fail
            refine (same_ok T5 pb mb fb bl _ _ w6 H6.out HM6.out HFr6.out).mono ?_
            rintro e w7 ⟨rfl, f7⟩
            go_wp2_with fail
            go_roundw
            case rel => exact ⟨i + 1, _, _, T5, by go_num, by omega, hid ⟨H6.out.nil f7, HM6.out.nil f7, HFr6.out, HT5.out⟩, HF6.out.then f7⟩
            case measure => simp [intOf]; omega
          by_cases hx4 : p.d = 4
          · have d0 := D0.out
            rw [hx4] at d0
            clear hx4
            go_upto_region 24 with (fail)
            have ed : Fr Nil w4 w4.drew := (Fr.refl _ _).drew
            have hS : (fun w' : World => w'.cell? ⟨db, 1, none⟩ = some (.int .i64 p.a) ∧ w'.cell? ⟨db, 2, none⟩ = some (.int .i64 p.n)) w4.drew := ⟨D1.out, D2.out⟩
            have HRd := hid (HR.out.nil ed)
            refine wpU_region (k := 13) (S := fun w' : World => w'.cell? ⟨db, 1, none⟩ = some (.int .i64 p.a) ∧ w'.cell? ⟨db, 2, none⟩ = some (.int .i64 p.n)) (by kernel_rfl) ?_
            refine wpU_take (i := 0) (v := ?_) rfl (by kernel_rfl) (by kernel_rfl) (fun _ _ _ h => h) _ _ _ _ (by kernel_rfl) (by kernel_rfl) (by kernel_rfl) (Or.inl ⟨by kernel_rfl, ?_⟩) hS ?_
            rotate_left
            · (intro w9 hS9; obtain ⟨s0, s1⟩ := hS9; go_simp); (try with_reducible rfl)
            try simp only [Act.put, List.getElem_toArray, List.getElem_cons_succ, List.getElem_cons_zero, List.setIfInBounds_toArray, List.set_cons_zero, List.set_cons_succ]
            refine wpU_take (i := 1) (v := ?_) rfl (by kernel_rfl) (by kernel_rfl) (fun _ _ _ h => h) _ _ _ _ (by kernel_rfl) (by kernel_rfl) (by kernel_rfl) (Or.inl ⟨by kernel_rfl, ?_⟩) hS ?_
            rotate_left
            · (intro w9 hS9; obtain ⟨s0, s1⟩ := hS9; go_simp); (try with_reducible rfl)
            try simp only [Act.put, List.getElem_toArray, List.getElem_cons_succ, List.getElem_cons_zero, List.setIfInBounds_toArray, List.set_cons_zero, List.set_cons_succ]
            refine wpU_take (i := 2) (v := ?_) rfl (by kernel_rfl) (by kernel_rfl) (fun _ _ _ h => h) _ _ _ _ (by kernel_rfl) (by kernel_rfl) (by kernel_rfl) (Or.inl ⟨by kernel_rfl, ?_⟩) hS ?_
            rotate_left
            · (intro w9 hS9; obtain ⟨s0, s1⟩ := hS9; go_simp); (try with_reducible rfl)
            try simp only [Act.put, List.getElem_toArray, List.getElem_cons_succ, List.getElem_cons_zero, List.setIfInBounds_toArray, List.set_cons_zero, List.set_cons_succ]
            refine wpU_take (i := 3) (v := ?_) rfl (by kernel_rfl) (by kernel_rfl) (fun _ _ _ h => h) _ _ _ _ (by kernel_rfl) (by kernel_rfl) (by kernel_rfl) (Or.inl ⟨by kernel_rfl, ?_⟩) hS ?_
            rotate_left
            · (intro w9 hS9; obtain ⟨s0, s1⟩ := hS9; go_simp); (try with_reducible rfl)
            try simp only [Act.put, List.getElem_toArray, List.getElem_cons_succ, List.getElem_cons_zero, List.setIfInBounds_toArray, List.set_cons_zero, List.set_cons_succ]
            refine wpU_take (i := 4) (v := ?_) rfl (by kernel_rfl) (by kernel_rfl) (fun _ _ _ h => h) _ _ _ _ (by kernel_rfl) (by kernel_rfl) (by kernel_rfl) (Or.inl ⟨by kernel_rfl, ?_⟩) hS ?_
            rotate_left
            · (intro w9 hS9; obtain ⟨s0, s1⟩ := hS9; go_simp); (try with_reducible rfl)
            try simp only [Act.put, List.getElem_toArray, List.getElem_cons_succ, List.getElem_cons_zero, List.setIfInBounds_toArray, List.set_cons_zero, List.set_cons_succ]
            refine wpU_take (i := 6) (v := ?_) rfl (by kernel_rfl) (by kernel_rfl) (fun _ _ _ h => h) _ _ _ _ (by kernel_rfl) (by kernel_rfl) (by kernel_rfl) (Or.inl ⟨by kernel_rfl, ?_⟩) hS ?_
            rotate_left
            · (intro w9 hS9; obtain ⟨s0, s1⟩ := hS9; go_simp); (try with_reducible rfl)
            try simp only [Act.put, List.getElem_toArray, List.getElem_cons_succ, List.getElem_cons_zero, List.setIfInBounds_toArray, List.set_cons_zero, List.set_cons_succ]
            refine wpU_take (i := 7) (v := ?_) rfl (by kernel_rfl) (by kernel_rfl) (fun _ _ _ h => h) _ _ _ _ (by kernel_rfl) (by kernel_rfl) (by kernel_rfl) (Or.inl ⟨by kernel_rfl, ?_⟩) hS ?_
            rotate_left
            · (intro w9 hS9; obtain ⟨s0, s1⟩ := hS9; go_simp); (try with_reducible rfl)
            try simp only [Act.put, List.getElem_toArray, List.getElem_cons_succ, List.getElem_cons_zero, List.setIfInBounds_toArray, List.set_cons_zero, List.set_cons_succ]
            refine wpU_take (i := 8) (v := ?_) rfl (by kernel_rfl) (by kernel_rfl) (fun _ _ _ h => h) _ _ _ _ (by kernel_rfl) (by kernel_rfl) (by kernel_rfl) (Or.inl ⟨by kernel_rfl, ?_⟩) hS ?_
            rotate_left
            · (intro w9 hS9; obtain ⟨s0, s1⟩ := hS9; go_simp); (try with_reducible rfl)
            try simp only [Act.put, List.getElem_toArray, List.getElem_cons_succ, List.getElem_cons_zero, List.setIfInBounds_toArray, List.set_cons_zero, List.set_cons_succ]
            refine wpU_take (i := 9) (v := ?_) rfl (by kernel_rfl) (by kernel_rfl) (fun _ _ _ h => h) _ _ _ _ (by kernel_rfl) (by kernel_rfl) (by kernel_rfl) (Or.inl ⟨by kernel_rfl, ?_⟩) hS ?_
            rotate_left
            · (intro w9 hS9; obtain ⟨s0, s1⟩ := hS9; go_simp); (try with_reducible rfl)
            try simp only [Act.put, List.getElem_toArray, List.getElem_cons_succ, List.getElem_cons_zero, List.setIfInBounds_toArray, List.set_cons_zero, List.set_cons_succ]
            refine wpU_take (i := 10) (v := ?_) rfl (by kernel_rfl) (by kernel_rfl) (fun _ _ _ h => h) _ _ _ _ (by kernel_rfl) (by kernel_rfl) (by kernel_rfl) (Or.inl ⟨by kernel_rfl, ?_⟩) hS ?_
            rotate_left
            · (intro w9 hS9; obtain ⟨s0, s1⟩ := hS9; go_simp); (try with_reducible rfl)
            try simp only [Act.put, List.getElem_toArray, List.getElem_cons_succ, List.getElem_cons_zero, List.setIfInBounds_toArray, List.set_cons_zero, List.set_cons_succ]
            refine wpU_next (i := 5) rfl (by kernel_rfl) (fun K hK => ?_)
            go_simp
            refine (give_t HRd.out _ _).mono ?_
            rintro e w5 ⟨rfl, ⟨T5, h5, h5T⟩, f5d⟩
            have f5 : Fr T w4 w5 := (ed.nil).then f5d
            have hS5 : (fun w' : World => w'.cell? ⟨db, 1, none⟩ = some (.int .i64 p.a) ∧ w'.cell? ⟨db, 2, none⟩ = some (.int .i64 p.n)) w5 := ⟨f5.cell D1.out fun h => (HT.out _ h).2.2.2 rfl, f5.cell D2.out fun h => (HT.out _ h).2.2.2 rfl⟩
            have HT5 := hid (show ∀ k, T5 k → w.heap.size ≤ k ∧ k ≠ mb ∧ k ≠ fb from fun k hk => by
              have e1 := hM.out.1.lt
              have e2 := hM.out.2.lt
              have e3 := HFd.out.size
              rcases h5T k hk with h | h
              · exact ⟨(HT.out k h).1, (HT.out k h).2.1, (HT.out k h).2.2.1⟩
              · have h9 : w4.heap.size ≤ k := h
                exact ⟨by omega, by omega, by omega⟩)
            have H5 := hid h5
            have HM5 := hid (hM.out.fr f5 (fun h => (HT.out _ h).2.1 rfl) fun h => (HT.out _ h).2.2.1 rfl)
            have HF5 := hid (HFd.out.trans f5 fun k hk => .inr (HT.out k hk).1)
            clear f5 h5 h5T f5d
            refine hK.out _ _ (fun _ => hS5) ?_
            clear hK K
            try simp only [Act.put, List.getElem_toArray, List.getElem_cons_succ, List.getElem_cons_zero, List.setIfInBounds_toArray, List.set_cons_zero, List.set_cons_succ]
            refine wpU_next (i := 11) rfl (by kernel_rfl) (fun K hK => ?_)
            go_simp
            refine (ref_give mb fb bl L F p.a p.n w5 HM5.out HF.out hpa hpn).mono ?_
            rintro e w6 ⟨rfl, ⟨F6, h6, h6F⟩, f6⟩
            have hS6 : (fun w' : World => w'.cell? ⟨db, 1, none⟩ = some (.int .i64 p.a) ∧ w'.cell? ⟨db, 2, none⟩ = some (.int .i64 p.n)) w6 := ⟨f6.cell hS5.1 fun h => Hdf.out h, f6.cell hS5.2 fun h => Hdf.out h⟩
            have H6 := hid (H5.out.fr f6 fun k hk h => (HT5.out k hk).2.2 h)
            have HM6 := hid h6
            have HFr6 := hid h6F
            have HF6 := hid (HF5.out.trans f6 fun k hk => .inr (hk ▸ Hfb.out))
            clear f6 h6 h6F H5 HM5 HF5 HR hM HF
            refine hK.out _ _ (fun _ => hS6) ?_
            clear hK K
            try simp only [Act.put, List.getElem_toArray, List.getElem_cons_succ, List.getElem_cons_zero, List.setIfInBounds_toArray, List.set_cons_zero, List.set_cons_succ]
            refine wpU_next (i := 12) rfl (by kernel_rfl) (fun K hK => ?_)
            go_simp
            refine hK.out _ _ (fun _ => hS6) ?_
            clear hK K
            try simp only [Act.put, List.getElem_toArray, List.getElem_cons_succ, List.getElem_cons_zero, List.setIfInBounds_toArray, List.set_cons_zero, List.set_cons_succ]
            refine wpU_next (i := 13) rfl (by kernel_rfl) (fun K hK => ?_)
            go_simp
            refine hK.out _ _ (fun h => absurd rfl h.1) ?_
            refine wpU_done (by kernel_rfl) ?_ _
            clear hK K
            clear hS5 hS6 hS
            go_wp2_with fail
            refine (same_ok T5 pb mb fb bl _ _ w6 H6.out HM6.out HFr6.out).mono ?_
            rintro e w7 ⟨rfl, f7⟩
            go_wp2_with fail
            go_roundw
            case rel => exact ⟨i + 1, _, _, T5, by go_num, by omega, hid ⟨H6.out.nil f7, HM6.out.nil f7, HFr6.out, HT5.out⟩, HF6.out.then f7⟩
            case measure => simp [intOf]; omega
          by_cases hx5 : p.d = 5
          · have d0 := D0.out
            rw [hx5] at d0
            clear hx5
            go_upto_region 24 with (fail)
            have ed : Fr Nil w4 w4.drew := (Fr.refl _ _).drew
            have hS : (fun w' : World => w'.cell? ⟨db, 1, none⟩ = some (.int .i64 p.a) ∧ w'.cell? ⟨db, 2, none⟩ = some (.int .i64 p.n)) w4.drew := ⟨D1.out, D2.out⟩
            have HRd := hid (HR.out.nil ed)
            refine wpU_region (k := 13) (S := fun w' : World => w'.cell? ⟨db, 1, none⟩ = some (.int .i64 p.a) ∧ w'.cell? ⟨db, 2, none⟩ = some (.int .i64 p.n)) (by kernel_rfl) ?_
            refine wpU_take (i := 0) (v := ?_) rfl (by kernel_rfl) (by kernel_rfl) (fun _ _ _ h => h) _ _ _ _ (by kernel_rfl) (by kernel_rfl) (by kernel_rfl) (Or.inl ⟨by kernel_rfl, ?_⟩) hS ?_
            rotate_left
            · (intro w9 hS9; obtain ⟨s0, s1⟩ := hS9; go_simp); (try with_reducible rfl)
            try simp only [Act.put, List.getElem_toArray, List.getElem_cons_succ, List.getElem_cons_zero, List.setIfInBounds_toArray, List.set_cons_zero, List.set_cons_succ]
            refine wpU_take (i := 1) (v := ?_) rfl (by kernel_rfl) (by kernel_rfl) (fun _ _ _ h => h) _ _ _ _ (by kernel_rfl) (by kernel_rfl) (by kernel_rfl) (Or.inl ⟨by kernel_rfl, ?_⟩) hS ?_
            rotate_left
            · (intro w9 hS9; obtain ⟨s0, s1⟩ := hS9; go_simp); (try with_reducible rfl)
            try simp only [Act.put, List.getElem_toArray, List.getElem_cons_succ, List.getElem_cons_zero, List.setIfInBounds_toArray, List.set_cons_zero, List.set_cons_succ]
            refine wpU_take (i := 2) (v := ?_) rfl (by kernel_rfl) (by kernel_rfl) (fun _ _ _ h => h) _ _ _ _ (by kernel_rfl) (by kernel_rfl) (by kernel_rfl) (Or.inl ⟨by kernel_rfl, ?_⟩) hS ?_
            rotate_left
            · (intro w9 hS9; obtain ⟨s0, s1⟩ := hS9; go_simp); (try with_reducible rfl)
            try simp only [Act.put, List.getElem_toArray, List.getElem_cons_succ, List.getElem_cons_zero, List.setIfInBounds_toArray, List.set_cons_zero, List.set_cons_succ]
            refine wpU_take (i := 3) (v := ?_) rfl (by kernel_rfl) (by kernel_rfl) (fun _ _ _ h => h) _ _ _ _ (by kernel_rfl) (by kernel_rfl) (by kernel_rfl) (Or.inl ⟨by kernel_rfl, ?_⟩) hS ?_
            rotate_left
            · (intro w9 hS9; obtain ⟨s0, s1⟩ := hS9; go_simp); (try with_reducible rfl)
            try simp only [Act.put, List.getElem_toArray, List.getElem_cons_succ, List.getElem_cons_zero, List.setIfInBounds_toArray, List.set_cons_zero, List.set_cons_succ]
            refine wpU_take (i := 4) (v := ?_) rfl (by kernel_rfl) (by kernel_rfl) (fun _ _ _ h => h) _ _ _ _ (by kernel_rfl) (by kernel_rfl) (by kernel_rfl) (Or.inl ⟨by kernel_rfl, ?_⟩) hS ?_
            rotate_left
            · (intro w9 hS9; obtain ⟨s0, s1⟩ := hS9; go_simp); (try with_reducible rfl)
            try simp only [Act.put, List.getElem_toArray, List.getElem_cons_succ, List.getElem_cons_zero, List.setIfInBounds_toArray, List.set_cons_zero, List.set_cons_succ]
            refine wpU_take (i := 6) (v := ?_) rfl (by kernel_rfl) (by kernel_rfl) (fun _ _ _ h => h) _ _ _ _ (by kernel_rfl) (by kernel_rfl) (by kernel_rfl) (Or.inl ⟨by kernel_rfl, ?_⟩) hS ?_
            rotate_left
            · (intro w9 hS9; obtain ⟨s0, s1⟩ := hS9; go_simp); (try with_reducible rfl)
            try simp only [Act.put, List.getElem_toArray, List.getElem_cons_succ, List.getElem_cons_zero, List.setIfInBounds_toArray, List.set_cons_zero, List.set_cons_succ]
            refine wpU_take (i := 7) (v := ?_) rfl (by kernel_rfl) (by kernel_rfl) (fun _ _ _ h => h) _ _ _ _ (by kernel_rfl) (by kernel_rfl) (by kernel_rfl) (Or.inl ⟨by kernel_rfl, ?_⟩) hS ?_
            rotate_left
            · (intro w9 hS9; obtain ⟨s0, s1⟩ := hS9; go_simp); (try with_reducible rfl)
            try simp only [Act.put, List.getElem_toArray, List.getElem_cons_succ, List.getElem_cons_zero, List.setIfInBounds_toArray, List.set_cons_zero, List.set_cons_succ]
            refine wpU_take (i := 8) (v := ?_) rfl (by kernel_rfl) (by kernel_rfl) (fun _ _ _ h => h) _ _ _ _ (by kernel_rfl) (by kernel_rfl) (by kernel_rfl) (Or.inl ⟨by kernel_rfl, ?_⟩) hS ?_
            rotate_left
            · (intro w9 hS9; obtain ⟨s0, s1⟩ := hS9; go_simp); (try with_reducible rfl)
            try simp only [Act.put, List.getElem_toArray, List.getElem_cons_succ, List.getElem_cons_zero, List.setIfInBounds_toArray, List.set_cons_zero, List.set_cons_succ]
            refine wpU_take (i := 9) (v := ?_) rfl (by kernel_rfl) (by kernel_rfl) (fun _ _ _ h => h) _ _ _ _ (by kernel_rfl) (by kernel_rfl) (by kernel_rfl) (Or.inl ⟨by kernel_rfl, ?_⟩) hS ?_
            rotate_left
            · (intro w9 hS9; obtain ⟨s0, s1⟩ := hS9; go_simp); (try with_reducible rfl)
            try simp only [Act.put, List.getElem_toArray, List.getElem_cons_succ, List.getElem_cons_zero, List.setIfInBounds_toArray, List.set_cons_zero, List.set_cons_succ]
            refine wpU_take (i := 10) (v := ?_) rfl (by kernel_rfl) (by kernel_rfl) (fun _ _ _ h => h) _ _ _ _ (by kernel_rfl) (by kernel_rfl) (by kernel_rfl) (Or.inl ⟨by kernel_rfl, ?_⟩) hS ?_
            rotate_left
            · (intro w9 hS9; obtain ⟨s0, s1⟩ := hS9; go_simp); (try with_reducible rfl)
            try simp only [Act.put, List.getElem_toArray, List.getElem_cons_succ, List.getElem_cons_zero, List.setIfInBounds_toArray, List.set_cons_zero, List.set_cons_succ]
            refine wpU_next (i := 5) rfl (by kernel_rfl) (fun K hK => ?_)
            go_simp
            refine (give_t HRd.out _ _).mono ?_
            rintro e w5 ⟨rfl, ⟨T5, h5, h5T⟩, f5d⟩
            have f5 : Fr T w4 w5 := (ed.nil).then f5d
            have hS5 : (fun w' : World => w'.cell? ⟨db, 1, none⟩ = some (.int .i64 p.a) ∧ w'.cell? ⟨db, 2, none⟩ = some (.int .i64 p.n)) w5 := ⟨f5.cell D1.out fun h => (HT.out _ h).2.2.2 rfl, f5.cell D2.out fun h => (HT.out _ h).2.2.2 rfl⟩
            have HT5 := hid (show ∀ k, T5 k → w.heap.size ≤ k ∧ k ≠ mb ∧ k ≠ fb from fun k hk => by
              have e1 := hM.out.1.lt
              have e2 := hM.out.2.lt
              have e3 := HFd.out.size
              rcases h5T k hk with h | h
              · exact ⟨(HT.out k h).1, (HT.out k h).2.1, (HT.out k h).2.2.1⟩
              · have h9 : w4.heap.size ≤ k := h
                exact ⟨by omega, by omega, by omega⟩)
            have H5 := hid h5
            have HM5 := hid (hM.out.fr f5 (fun h => (HT.out _ h).2.1 rfl) fun h => (HT.out _ h).2.2.1 rfl)
            have HF5 := hid (HFd.out.trans f5 fun k hk => .inr (HT.out k hk).1)
            clear f5 h5 h5T f5d
            refine hK.out _ _ (fun _ => hS5) ?_
            clear hK K
            try simp only [Act.put, List.getElem_toArray, List.getElem_cons_succ, List.getElem_cons_zero, List.setIfInBounds_toArray, List.set_cons_zero, List.set_cons_succ]
            refine wpU_next (i := 11) rfl (by kernel_rfl) (fun K hK => ?_)
            go_simp
            refine (ref_give mb fb bl L F p.a p.n w5 HM5.out HF.out hpa hpn).mono ?_
            rintro e w6 ⟨rfl, ⟨F6, h6, h6F⟩, f6⟩
            have hS6 : (fun w' : World => w'.cell? ⟨db, 1, none⟩ = some (.int .i64 p.a) ∧ w'.cell? ⟨db, 2, none⟩ = some (.int .i64 p.n)) w6 := ⟨f6.cell hS5.1 fun h => Hdf.out h, f6.cell hS5.2 fun h => Hdf.out h⟩
            have H6 := hid (H5.out.fr f6 fun k hk h => (HT5.out k hk).2.2 h)
            have HM6 := hid h6
            have HFr6 := hid h6F
            have HF6 := hid (HF5.out.trans f6 fun k hk => .inr (hk ▸ Hfb.out))
            clear f6 h6 h6F H5 HM5 HF5 HR hM HF
            refine hK.out _ _ (fun _ => hS6) ?_
            clear hK K
            try simp only [Act.put, List.getElem_toArray, List.getElem_cons_succ, List.getElem_cons_zero, List.setIfInBounds_toArray, List.set_cons_zero, List.set_cons_succ]
            refine wpU_next (i := 12) rfl (by kernel_rfl) (fun K hK => ?_)
            go_simp
            refine hK.out _ _ (fun _ => hS6) ?_
            clear hK K
            try simp only [Act.put, List.getElem_toArray, List.getElem_cons_succ, List.getElem_cons_zero, List.setIfInBounds_toArray, List.set_cons_zero, List.set_cons_succ]
            refine wpU_next (i := 13) rfl (by kernel_rfl) (fun K hK => ?_)
            go_simp
            refine hK.out _ _ (fun h => absurd rfl h.1) ?_
            refine wpU_done (by kernel_rfl) ?_ _
            clear hK K
            clear hS5 hS6 hS
            go_wp2_with fail
            refine (same_ok T5 pb mb fb bl _ _ w6 H6.out HM6.out HFr6.out).mono ?_
            rintro e w7 ⟨rfl, f7⟩
            go_wp2_with fail
            go_roundw
            case rel => exact ⟨i + 1, _, _, T5, by go_num, by omega, hid ⟨H6.out.nil f7, HM6.out.nil f7, HFr6.out, HT5.out⟩, HF6.out.then f7⟩
            case measure => simp [intOf]; omega
          by_cases hx6 : p.d = 6
          · have d0 := D0.out
            rw [hx6] at d0
            clear hx6
            go_upto_region 24 with (fail)
            have ed : Fr Nil w4 w4.drew := (Fr.refl _ _).drew
            have hS : (fun w' : World => w'.cell? ⟨db, 1, none⟩ = some (.int .i64 p.a) ∧ w'.cell? ⟨db, 2, none⟩ = some (.int .i64 p.n)) w4.drew := ⟨D1.out, D2.out⟩
            have HRd := hid (HR.out.nil ed)
            refine wpU_region (k := 13) (S := fun w' : World => w'.cell? ⟨db, 1, none⟩ = some (.int .i64 p.a) ∧ w'.cell? ⟨db, 2, none⟩ = some (.int .i64 p.n)) (by kernel_rfl) ?_
            refine wpU_take (i := 0) (v := ?_) rfl (by kernel_rfl) (by kernel_rfl) (fun _ _ _ h => h) _ _ _ _ (by kernel_rfl) (by kernel_rfl) (by kernel_rfl) (Or.inl ⟨by kernel_rfl, ?_⟩) hS ?_
            rotate_left
            · (intro w9 hS9; obtain ⟨s0, s1⟩ := hS9; go_simp); (try with_reducible rfl)
            try simp only [Act.put, List.getElem_toArray, List.getElem_cons_succ, List.getElem_cons_zero, List.setIfInBounds_toArray, List.set_cons_zero, List.set_cons_succ]
            refine wpU_take (i := 1) (v := ?_) rfl (by kernel_rfl) (by kernel_rfl) (fun _ _ _ h => h) _ _ _ _ (by kernel_rfl) (by kernel_rfl) (by kernel_rfl) (Or.inl ⟨by kernel_rfl, ?_⟩) hS ?_
            rotate_left
            · (intro w9 hS9; obtain ⟨s0, s1⟩ := hS9; go_simp); (try with_reducible rfl)
            try simp only [Act.put, List.getElem_toArray, List.getElem_cons_succ, List.getElem_cons_zero, List.setIfInBounds_toArray, List.set_cons_zero, List.set_cons_succ]
            refine wpU_take (i := 2) (v := ?_) rfl (by kernel_rfl) (by kernel_rfl) (fun _ _ _ h => h) _ _ _ _ (by kernel_rfl) (by kernel_rfl) (by kernel_rfl) (Or.inl ⟨by kernel_rfl, ?_⟩) hS ?_
            rotate_left
            · (intro w9 hS9; obtain ⟨s0, s1⟩ := hS9; go_simp); (try with_reducible rfl)
            try simp only [Act.put, List.getElem_toArray, List.getElem_cons_succ, List.getElem_cons_zero, List.setIfInBounds_toArray, List.set_cons_zero, List.set_cons_succ]
            refine wpU_take (i := 3) (v := ?_) rfl (by kernel_rfl) (by kernel_rfl) (fun _ _ _ h => h) _ _ _ _ (by kernel_rfl) (by kernel_rfl) (by kernel_rfl) (Or.inl ⟨by kernel_rfl, ?_⟩) hS ?_
            rotate_left
            · (intro w9 hS9; obtain ⟨s0, s1⟩ := hS9; go_simp); (try with_reducible rfl)
            try simp only [Act.put, List.getElem_toArray, List.getElem_cons_succ, List.getElem_cons_zero, List.setIfInBounds_toArray, List.set_cons_zero, List.set_cons_succ]
            refine wpU_take (i := 4) (v := ?_) rfl (by kernel_rfl) (by kernel_rfl) (fun _ _ _ h => h) _ _ _ _ (by kernel_rfl) (by kernel_rfl) (by kernel_rfl) (Or.inl ⟨by kernel_rfl, ?_⟩) hS ?_
            rotate_left
            · (intro w9 hS9; obtain ⟨s0, s1⟩ := hS9; go_simp); (try with_reducible rfl)
            try simp only [Act.put, List.getElem_toArray, List.getElem_cons_succ, List.getElem_cons_zero, List.setIfInBounds_toArray, List.set_cons_zero, List.set_cons_succ]
            refine wpU_take (i := 6) (v := ?_) rfl (by kernel_rfl) (by kernel_rfl) (fun _ _ _ h => h) _ _ _ _ (by kernel_rfl) (by kernel_rfl) (by kernel_rfl) (Or.inl ⟨by kernel_rfl, ?_⟩) hS ?_
            rotate_left
            · (intro w9 hS9; obtain ⟨s0, s1⟩ := hS9; go_simp); (try with_reducible rfl)
            try simp only [Act.put, List.getElem_toArray, List.getElem_cons_succ, List.getElem_cons_zero, List.setIfInBounds_toArray, List.set_cons_zero, List.set_cons_succ]
            refine wpU_take (i := 7) (v := ?_) rfl (by kernel_rfl) (by kernel_rfl) (fun _ _ _ h => h) _ _ _ _ (by kernel_rfl) (by kernel_rfl) (by kernel_rfl) (Or.inl ⟨by kernel_rfl, ?_⟩) hS ?_
            rotate_left
            · (intro w9 hS9; obtain ⟨s0, s1⟩ := hS9; go_simp); (try with_reducible rfl)
            try simp only [Act.put, List.getElem_toArray, List.getElem_cons_succ, List.getElem_cons_zero, List.setIfInBounds_toArray, List.set_cons_zero, List.set_cons_succ]
            refine wpU_take (i := 8) (v := ?_) rfl (by kernel_rfl) (by kernel_rfl) (fun _ _ _ h => h) _ _ _ _ (by kernel_rfl) (by kernel_rfl) (by kernel_rfl) (Or.inl ⟨by kernel_rfl, ?_⟩) hS ?_
            rotate_left
            · (intro w9 hS9; obtain ⟨s0, s1⟩ := hS9; go_simp); (try with_reducible rfl)
            try simp only [Act.put, List.getElem_toArray, List.getElem_cons_succ, List.getElem_cons_zero, List.setIfInBounds_toArray, List.set_cons_zero, List.set_cons_succ]
            refine wpU_take (i := 9) (v := ?_) rfl (by kernel_rfl) (by kernel_rfl) (fun _ _ _ h => h) _ _ _ _ (by kernel_rfl) (by kernel_rfl) (by kernel_rfl) (Or.inl ⟨by kernel_rfl, ?_⟩) hS ?_
            rotate_left
            · (intro w9 hS9; obtain ⟨s0, s1⟩ := hS9; go_simp); (try with_reducible rfl)
            try simp only [Act.put, List.getElem_toArray, List.getElem_cons_succ, List.getElem_cons_zero, List.setIfInBounds_toArray, List.set_cons_zero, List.set_cons_succ]
            refine wpU_take (i := 10) (v := ?_) rfl (by kernel_rfl) (by kernel_rfl) (fun _ _ _ h => h) _ _ _ _ (by kernel_rfl) (by kernel_rfl) (by kernel_rfl) (Or.inl ⟨by kernel_rfl, ?_⟩) hS ?_
            rotate_left
            · (intro w9 hS9; obtain ⟨s0, s1⟩ := hS9; go_simp); (try with_reducible rfl)
            try simp only [Act.put, List.getElem_toArray, List.getElem_cons_succ, List.getElem_cons_zero, List.setIfInBounds_toArray, List.set_cons_zero, List.set_cons_succ]
            refine wpU_next (i := 5) rfl (by kernel_rfl) (fun K hK => ?_)
            go_simp
            refine (give_t HRd.out _ _).mono ?_
            rintro e w5 ⟨rfl, ⟨T5, h5, h5T⟩, f5d⟩
            have f5 : Fr T w4 w5 := (ed.nil).then f5d
            have hS5 : (fun w' : World => w'.cell? ⟨db, 1, none⟩ = some (.int .i64 p.a) ∧ w'.cell? ⟨db, 2, none⟩ = some (.int .i64 p.n)) w5 := ⟨f5.cell D1.out fun h => (HT.out _ h).2.2.2 rfl, f5.cell D2.out fun h => (HT.out _ h).2.2.2 rfl⟩
            have HT5 := hid (show ∀ k, T5 k → w.heap.size ≤ k ∧ k ≠ mb ∧ k ≠ fb from fun k hk => by
              have e1 := hM.out.1.lt
              have e2 := hM.out.2.lt
              have e3 := HFd.out.size
              rcases h5T k hk with h | h
              · exact ⟨(HT.out k h).1, (HT.out k h).2.1, (HT.out k h).2.2.1⟩
              · have h9 : w4.heap.size ≤ k := h
                exact ⟨by omega, by omega, by omega⟩)
            have H5 := hid h5
            have HM5 := hid (hM.out.fr f5 (fun h => (HT.out _ h).2.1 rfl) fun h => (HT.out _ h).2.2.1 rfl)
            have HF5 := hid (HFd.out.trans f5 fun k hk => .inr (HT.out k hk).1)
            clear f5 h5 h5T f5d
            refine hK.out _ _ (fun _ => hS5) ?_
            clear hK K
            try simp only [Act.put, List.getElem_toArray, List.getElem_cons_succ, List.getElem_cons_zero, List.setIfInBounds_toArray, List.set_cons_zero, List.set_cons_succ]
            refine wpU_next (i := 11) rfl (by kernel_rfl) (fun K hK => ?_)
            go_simp
            refine (ref_give mb fb bl L F p.a p.n w5 HM5.out HF.out hpa hpn).mono ?_
            rintro e w6 ⟨rfl, ⟨F6, h6, h6F⟩, f6⟩
            have hS6 : (fun w' : World => w'.cell? ⟨db, 1, none⟩ = some (.int .i64 p.a) ∧ w'.cell? ⟨db, 2, none⟩ = some (.int .i64 p.n)) w6 := ⟨f6.cell hS5.1 fun h => Hdf.out h, f6.cell hS5.2 fun h => Hdf.out h⟩
            have H6 := hid (H5.out.fr f6 fun k hk h => (HT5.out k hk).2.2 h)
            have HM6 := hid h6
            have HFr6 := hid h6F
            have HF6 := hid (HF5.out.trans f6 fun k hk => .inr (hk ▸ Hfb.out))
            clear f6 h6 h6F H5 HM5 HF5 HR hM HF
            refine hK.out _ _ (fun _ => hS6) ?_
            clear hK K
            try simp only [Act.put, List.getElem_toArray, List.getElem_cons_succ, List.getElem_cons_zero, List.setIfInBounds_toArray, List.set_cons_zero, List.set_cons_succ]
            refine wpU_next (i := 12) rfl (by kernel_rfl) (fun K hK => ?_)
            go_simp
            refine hK.out _ _ (fun _ => hS6) ?_
            clear hK K
            try simp only [Act.put, List.getElem_toArray, List.getElem_cons_succ, List.getElem_cons_zero, List.setIfInBounds_toArray, List.set_cons_zero, List.set_cons_succ]
            refine wpU_next (i := 13) rfl (by kernel_rfl) (fun K hK => ?_)
            go_simp
            refine hK.out _ _ (fun h => absurd rfl h.1) ?_
            refine wpU_done (by kernel_rfl) ?_ _
            clear hK K
            clear hS5 hS6 hS
            go_wp2_with fail
            refine (same_ok T5 pb mb fb bl _ _ w6 H6.out HM6.out HFr6.out).mono ?_
            rintro e w7 ⟨rfl, f7⟩
            go_wp2_with fail
            go_roundw
            case rel => exact ⟨i + 1, _, _, T5, by go_num, by omega, hid ⟨H6.out.nil f7, HM6.out.nil f7, HFr6.out, HT5.out⟩, HF6.out.then f7⟩
            case measure => simp [intOf]; omega
          have d0 := D0.out
          have e0 : (p.d == 0) = false := by simpa using hx0
          have e1 : (p.d == 1) = false := by simpa using hx1
          have e2 : (p.d == 2) = false := by simpa using hx2
          have e3 : (p.d == 3) = false := by simpa using hx3
          have e4 : (p.d == 4) = false := by simpa using hx4
          have e5 : (p.d == 5) = false := by simpa using hx5
          have e6 : (p.d == 6) = false := by simpa using hx6
          clear hx0 hx1 hx2 hx3 hx4 hx5 hx6
          go_wp2_with fail
          refine (same_ok T pb mb fb bl L F w4 HR.out hM.out HF.out).mono ?_
          rintro e w7 ⟨rfl, f7⟩
          go_wp2_with fail
          go_roundw
          case rel => exact ⟨i + 1, L, F, T, by go_num, by omega, hid ⟨HR.out.nil f7, hM.out.nil f7, HF.out, fun k hk => ⟨(HT.out k hk).1, (HT.out k hk).2.1, (HT.out k hk).2.2.1⟩⟩, HFd.out.then f7⟩
          case measure => simp [intOf]; omega
        · have HF := hid hfw
          clear hfw
          go_wp2_with fail
          refine (copy_t hA.out.1).mono ?_
          rintro e w5 ⟨qb, Tc, rfl, hc, uc, f5⟩
          have HC := hid hc
          have HM5 := hid (hA.out.2.1.nil f5)
          have HF5 := hid (HF.out.then f5)
          clear hc f5
          go_wp2_with fail
          refine (same_ok Tc qb mb fb bl L F w5 HC.out HM5.out hA.out.2.2.1).mono ?_
          rintro e w6 ⟨rfl, f6⟩
          go_wp2
          go_ret
          exact ⟨rfl, HF5.out.then f6⟩
end Go.Proofs.Ytbfhoadhihlhjaa

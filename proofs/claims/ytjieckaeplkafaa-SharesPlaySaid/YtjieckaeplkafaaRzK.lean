/- The reference's Shares: Back. Conditions: the bounds of its lists. -/
import Derived.Test.YtjieckaeplkafaaRzS
set_option linter.unusedSimpArgs false
set_option linter.unusedVariables false
namespace Go.Proofs.Ytjieckaeplkafaa
open Go.RowKit
def oldB (W : List Us) (a : Nat) : Bool := W.any fun u => u.a == a
def gvN (N W : List Us) : List Rn := (N.filter fun u => !oldB W u.a).map Us.r
theorem gvN_take {N : List Us} {i : Nat} (h : i < N.length) (W : List Us) : gvN (N.take (i + 1)) W = gvN (N.take i) W ++ if oldB W (us N i).a = true then [] else [(us N i).r] := by
  unfold gvN
  rw [List.take_succ_eq_append_getElem h, List.filter_append, List.map_append, us_eq h, List.filter_cons, List.filter_nil]
  congr 1
  cases oldB W N[i].a <;> rfl
theorem oldB_take {W : List Us} {q : Nat} (h : q < W.length) (a : Nat) : oldB (W.take (q + 1)) a = (oldB (W.take q) a || (us W q).a == a) := by
  unfold oldB
  rw [List.take_succ_eq_append_getElem h, List.any_append, us_eq h]
  simp
set_option maxRecDepth 20000 in
set_option maxHeartbeats 1000000 in
theorem rz_back (T : Nat → Prop) (sb mb fb bl : Nat) (N W : List Us) (l : List Rn) (F : List Bool) (w : World) (h : Rz w T sb mb N W) (hR : Rf w mb fb F) (hF : Fre bl l F) (hT : ∀ k, T k → k ≠ mb ∧ k ≠ fb) (hN : N.length ≤ 8192) (hW : W.length ≤ 8192) (hb : ∀ u ∈ N, u.a ≤ 8192 ∧ u.n ≤ 8192) :
    Calls Try.prog 29 #[.pointer (some ⟨sb, 0, none⟩)] w fun e w' => e = .returned (.tuple #[]) ∧
      (∃ T', Rz w' T' sb mb W W ∧ ∀ k, T' k → T k ∨ w.heap.size ≤ k) ∧ (∃ F', Rf w' mb fb F' ∧ Fre bl (givs bl l (gvN N W)) F') ∧ Fr (fun k => k = sb ∨ k = fb) w w' := by
  obtain ⟨⟨v1, v2, h1, h2, h3⟩, h4, h5⟩ := h
  obtain ⟨A, c, rfl⟩ := h2.slice
  obtain ⟨A2, c2, rfl⟩ := h3.slice
  have HB := hid h1
  have HV := hid h2.view
  have HV2 := hid h3.view
  have H3 := hid h3
  have HT := hid hT
  have Hts := hid h4
  have Hlt := hid h5
  have HR := hid hR
  have HFr := hid hF
  have Hbd := hid hb
  obtain ⟨M, hM⟩ : ∃ M, M = N.length := ⟨_, rfl⟩
  obtain ⟨P, hP⟩ : ∃ P, P = W.length := ⟨_, rfl⟩
  rw [← hM] at HV HB hN
  rw [← hP] at HV2 H3 HB hW
  have HM := hid hM
  have HP := hid hP
  clear h1 h2 h3 h4 h5 hR hF hT hb hM hP
  go_enter Try.func29, Try.ntmps29
  go_wp2_with fail
  go_loopw [2] (fun v2 wx => ∃ (i : Nat), v2 = .int .i64 i ∧ i ≤ M ∧ Fr (fun k => k = fb) w wx ∧ Hid (∃ F', Rf wx mb fb F' ∧ Fre bl (givs bl l (gvN (N.take i) W)) F')) (fun v2 _ => M - (intOf v2).toNat)
  case atStart => exact ⟨0, rfl, by omega, Fr.refl _ _, hid ⟨F, HR.out, HFr.out⟩⟩
  case round =>
    obtain ⟨i, rfl, hi, hfw, hRF⟩ := hrel
    have hsf : ¬ sb = fb := (HT.out sb Hts.out).2
    have hBr := HB.out.fr hfw hsf
    have c1 : wr.cell? ⟨sb, 1, none⟩ = some (.slice A M c) := hBr.cell 1
    by_cases hlt : i < M
    · obtain ⟨b, o, hA, -, hbl, q0, q1, -⟩ := uz_at (HV.out.fr hfw fun k hk _ => (HT.out k hk).2) hlt
      subst hA
      have hiN : i < N.length := by rw [← HM.out]; exact hlt
      have hst := hid (gvN_take hiN W)
      have hbx := Hbd.out (us N i) (by rw [us_eq hiN]; exact List.getElem_mem hiN)
      obtain ⟨⟨xa, xn, xk⟩, hx⟩ : ∃ x, x = us N i := ⟨_, rfl⟩
      rw [← hx] at q0 q1 hst hbx
      dsimp only at q0 q1 hbx
      have hxa : xa ≤ 8192 := hbx.1
      have hxn : xn ≤ 8192 := hbx.2
      have Hf := hid hfw
      have Hsf := hid hsf
      have HBr := hid hBr
      have Q0 := hid q0
      have Q1 := hid q1
      clear hx hiN hbx hsf hBr hfw q0 q1
      go_wp2_with fail
      go_loopw [3, 4] (fun v3 v4 wx => ∃ (q : Nat) (ob : Bool), v4 = .int .i64 q ∧ v3 = .bool ob ∧ q ≤ P ∧ Hid (ob = oldB (W.take q) xa) ∧ Fr Nil wr wx) (fun _ v4 _ => P - (intOf v4).toNat)
      case atStart => exact ⟨0, false, rfl, rfl, by omega, hid rfl, Fr.refl _ _⟩
      case round =>
        obtain ⟨q, ob, rfl, rfl, hq, hob, hfq⟩ := hrel
        have e1 : wr.cell? ⟨sb, 1, none⟩ = some (.slice (some ⟨b, o, none⟩) M c) := (HBr.out.fr hfq fun h => h).cell 1
        have e2 : wr.cell? ⟨sb, 2, none⟩ = some (.slice A2 P c2) := (HBr.out.fr hfq fun h => h).cell 2
        have e0 : wr.cell? ⟨sb, 0, none⟩ = some (.pointer (some ⟨mb, 0, none⟩)) := (HBr.out.fr hfq fun h => h).cell 0
        have g0 := hfq.cell Q0.out fun h => h
        have g1 := hfq.cell Q1.out fun h => h
        have hbl2 := Nat.lt_of_lt_of_le hbl hfq.size
        by_cases hqP : q < P
        · obtain ⟨b2, o2, rfl, -, hb2, p0, -⟩ := uz_at ((HV2.out.fr Hf.out fun k hk _ => (HT.out k hk).2).fr hfq fun _ _ _ h => h) hqP
          have hqW : q < W.length := by rw [← HP.out]; exact hqP
          have hot := hid (oldB_take hqW xa)
          obtain ⟨y, hy⟩ : ∃ y, y = (us W q).a := ⟨_, rfl⟩
          rw [← hy] at p0 hot
          clear hy hqW e0 g1
          cases ob with
          | true =>
            go_upto_region 7 with (fail)
            go_quiet (fail)
            go_wp2_with fail
            go_roundw
            case rel => exact ⟨q + 1, true, by go_num, rfl, by omega, hid (by rw [hot.out, ← hob.out]; rfl), hfq.drewN _⟩
            case measure => simp [intOf]; omega
          | false =>
            by_cases hya : y = xa
            · have hyb : (((y : Nat) : Int) == (xa : Int)) = true := by simp [hya]
              have hyb2 : (y == xa) = true := by simp [hya]
              have Hya := hid hya
              clear hya
              go_upto_region 7 with (fail)
              go_quiet (fail)
              go_wp2_with fail
              go_roundw
              case rel => exact ⟨q + 1, true, by go_num, rfl, by omega, hid (by rw [hot.out, ← hob.out, Hya.out]; simp), hfq.drewN _⟩
              case measure => simp [intOf]; omega
            · have hyb : (((y : Nat) : Int) == (xa : Int)) = false := by simp; omega
              have hyb2 : (y == xa) = false := by simp; omega
              have Hya := hid hya
              clear hya
              go_upto_region 7 with (fail)
              go_quiet (fail)
              go_wp2_with fail
              go_roundw
              case rel => exact ⟨q + 1, false, by go_num, rfl, by omega, hid (by rw [hot.out, ← hob.out]; simp [Hya.out]), hfq.drewN _⟩
              case measure => simp [intOf]; omega
        · have hqE : W.take q = W := List.take_of_length_le (by rw [← HP.out]; omega)
          have hob2 := hid (show ob = oldB W xa from by rw [hob.out, hqE])
          clear hqE hob
          have hRF2 : ∃ F', Rf wr mb fb F' ∧ Fre bl (givs bl l (gvN (N.take i) W)) F' := by
            obtain ⟨F', a1, a2⟩ := hRF.out
            exact ⟨F', a1.nil hfq, a2⟩
          obtain ⟨F', hRF3, hRF4⟩ := hRF2
          have HRF := hid hRF3
          have HRF4 := hid hRF4
          have Hfq := hid (Hf.out.then hfq.nil)
          clear hRF3 hRF4 hfq
          cases ob with
          | true =>
            go_wp2_with fail
            go_roundw
            case rel =>
              have e1 := hst.out
              rw [if_pos (by rw [← hob2.out]), List.append_nil] at e1
              exact ⟨i + 1, by go_num, by omega, Hfq.out, hid ⟨F', HRF.out, by rw [e1]; exact HRF4.out⟩⟩
            case measure => simp [intOf]; omega
          | false =>
            go_upto_region 9 with (fail)
            have hSK : (fun w' : World => w'.cell? ⟨sb, 0, none⟩ = some (.pointer (some ⟨mb, 0, none⟩)) ∧ w'.cell? ⟨sb, 1, none⟩ = some (.slice (some ⟨b, o, none⟩) M c) ∧ w'.cell? ⟨b, o + i * 4, none⟩ = some (.int .i64 (xa : Nat)) ∧ w'.cell? ⟨b, o + i * 4 + 1, none⟩ = some (.int .i64 (xn : Nat))) wr.drew := ⟨e0, e1, g0, g1⟩
            clear e0 e1 e2 g0 g1
            refine wpU_region (k := 22) (S := (fun w' : World => w'.cell? ⟨sb, 0, none⟩ = some (.pointer (some ⟨mb, 0, none⟩)) ∧ w'.cell? ⟨sb, 1, none⟩ = some (.slice (some ⟨b, o, none⟩) M c) ∧ w'.cell? ⟨b, o + i * 4, none⟩ = some (.int .i64 (xa : Nat)) ∧ w'.cell? ⟨b, o + i * 4 + 1, none⟩ = some (.int .i64 (xn : Nat)))) (by kernel_rfl) ?_
            refine wpU_take (i := 0) (v := ?_) rfl (by kernel_rfl) (by kernel_rfl) (fun _ _ _ h => h) _ _ _ _ (by kernel_rfl) (by kernel_rfl) (by kernel_rfl) (Or.inl ⟨by kernel_rfl, ?_⟩) hSK ?_
            rotate_left
            · (intro w9 hS9; obtain ⟨s0, s1, s2, s3⟩ := hS9; go_simp); (try with_reducible rfl)
            try simp only [Act.put, List.getElem_toArray, List.getElem_cons_succ, List.getElem_cons_zero, List.setIfInBounds_toArray, List.set_cons_zero, List.set_cons_succ]
            refine wpU_take (i := 1) (v := ?_) rfl (by kernel_rfl) (by kernel_rfl) (fun _ _ _ h => h) _ _ _ _ (by kernel_rfl) (by kernel_rfl) (by kernel_rfl) (Or.inl ⟨by kernel_rfl, ?_⟩) hSK ?_
            rotate_left
            · (intro w9 hS9; obtain ⟨s0, s1, s2, s3⟩ := hS9; go_simp); (try with_reducible rfl)
            try simp only [Act.put, List.getElem_toArray, List.getElem_cons_succ, List.getElem_cons_zero, List.setIfInBounds_toArray, List.set_cons_zero, List.set_cons_succ]
            refine wpU_take (i := 2) (v := ?_) rfl (by kernel_rfl) (by kernel_rfl) (fun _ _ _ h => h) _ _ _ _ (by kernel_rfl) (by kernel_rfl) (by kernel_rfl) (Or.inl ⟨by kernel_rfl, ?_⟩) hSK ?_
            rotate_left
            · (intro w9 hS9; obtain ⟨s0, s1, s2, s3⟩ := hS9; go_simp); (try with_reducible rfl)
            try simp only [Act.put, List.getElem_toArray, List.getElem_cons_succ, List.getElem_cons_zero, List.setIfInBounds_toArray, List.set_cons_zero, List.set_cons_succ]
            refine wpU_take (i := 3) (v := ?_) rfl (by kernel_rfl) (by kernel_rfl) (fun _ _ _ h => h) _ _ _ _ (by kernel_rfl) (by kernel_rfl) (by kernel_rfl) (Or.inl ⟨by kernel_rfl, ?_⟩) hSK ?_
            rotate_left
            · (intro w9 hS9; obtain ⟨s0, s1, s2, s3⟩ := hS9; go_simp); (try with_reducible rfl)
            try simp only [Act.put, List.getElem_toArray, List.getElem_cons_succ, List.getElem_cons_zero, List.setIfInBounds_toArray, List.set_cons_zero, List.set_cons_succ]
            refine wpU_take (i := 4) (v := ?_) rfl (by kernel_rfl) (by kernel_rfl) (fun _ _ _ h => h) _ _ _ _ (by kernel_rfl) (by kernel_rfl) (by kernel_rfl) (Or.inl ⟨by kernel_rfl, ?_⟩) hSK ?_
            rotate_left
            · (intro w9 hS9; obtain ⟨s0, s1, s2, s3⟩ := hS9; go_simp); (try with_reducible rfl)
            try simp only [Act.put, List.getElem_toArray, List.getElem_cons_succ, List.getElem_cons_zero, List.setIfInBounds_toArray, List.set_cons_zero, List.set_cons_succ]
            refine wpU_take (i := 5) (v := ?_) rfl (by kernel_rfl) (by kernel_rfl) (fun _ _ _ h => h) _ _ _ _ (by kernel_rfl) (by kernel_rfl) (by kernel_rfl) (Or.inl ⟨by kernel_rfl, ?_⟩) hSK ?_
            rotate_left
            · (intro w9 hS9; obtain ⟨s0, s1, s2, s3⟩ := hS9; go_simp); (try with_reducible rfl)
            try simp only [Act.put, List.getElem_toArray, List.getElem_cons_succ, List.getElem_cons_zero, List.setIfInBounds_toArray, List.set_cons_zero, List.set_cons_succ]
            refine wpU_take (i := 6) (v := ?_) rfl (by kernel_rfl) (by kernel_rfl) (fun _ _ _ h => h) _ _ _ _ (by kernel_rfl) (by kernel_rfl) (by kernel_rfl) (Or.inl ⟨by kernel_rfl, ?_⟩) hSK ?_
            rotate_left
            · (intro w9 hS9; obtain ⟨s0, s1, s2, s3⟩ := hS9; go_simp); (try with_reducible rfl)
            try simp only [Act.put, List.getElem_toArray, List.getElem_cons_succ, List.getElem_cons_zero, List.setIfInBounds_toArray, List.set_cons_zero, List.set_cons_succ]
            refine wpU_take (i := 7) (v := ?_) rfl (by kernel_rfl) (by kernel_rfl) (fun _ _ _ h => h) _ _ _ _ (by kernel_rfl) (by kernel_rfl) (by kernel_rfl) (Or.inl ⟨by kernel_rfl, ?_⟩) hSK ?_
            rotate_left
            · (intro w9 hS9; obtain ⟨s0, s1, s2, s3⟩ := hS9; go_simp); (try with_reducible rfl)
            try simp only [Act.put, List.getElem_toArray, List.getElem_cons_succ, List.getElem_cons_zero, List.setIfInBounds_toArray, List.set_cons_zero, List.set_cons_succ]
            refine wpU_take (i := 8) (v := ?_) rfl (by kernel_rfl) (by kernel_rfl) (fun _ _ _ h => h) _ _ _ _ (by kernel_rfl) (by kernel_rfl) (by kernel_rfl) (Or.inl ⟨by kernel_rfl, ?_⟩) hSK ?_
            rotate_left
            · (intro w9 hS9; obtain ⟨s0, s1, s2, s3⟩ := hS9; go_simp); (try with_reducible rfl)
            try simp only [Act.put, List.getElem_toArray, List.getElem_cons_succ, List.getElem_cons_zero, List.setIfInBounds_toArray, List.set_cons_zero, List.set_cons_succ]
            refine wpU_take (i := 9) (v := ?_) rfl (by kernel_rfl) (by kernel_rfl) (fun _ _ _ h => h) _ _ _ _ (by kernel_rfl) (by kernel_rfl) (by kernel_rfl) (Or.inl ⟨by kernel_rfl, ?_⟩) hSK ?_
            rotate_left
            · (intro w9 hS9; obtain ⟨s0, s1, s2, s3⟩ := hS9; go_simp); (try with_reducible rfl)
            try simp only [Act.put, List.getElem_toArray, List.getElem_cons_succ, List.getElem_cons_zero, List.setIfInBounds_toArray, List.set_cons_zero, List.set_cons_succ]
            refine wpU_take (i := 10) (v := ?_) rfl (by kernel_rfl) (by kernel_rfl) (fun _ _ _ h => h) _ _ _ _ (by kernel_rfl) (by kernel_rfl) (by kernel_rfl) (Or.inl ⟨by kernel_rfl, ?_⟩) hSK ?_
            rotate_left
            · (intro w9 hS9; obtain ⟨s0, s1, s2, s3⟩ := hS9; go_simp); (try with_reducible rfl)
            try simp only [Act.put, List.getElem_toArray, List.getElem_cons_succ, List.getElem_cons_zero, List.setIfInBounds_toArray, List.set_cons_zero, List.set_cons_succ]
            refine wpU_take (i := 11) (v := ?_) rfl (by kernel_rfl) (by kernel_rfl) (fun _ _ _ h => h) _ _ _ _ (by kernel_rfl) (by kernel_rfl) (by kernel_rfl) (Or.inl ⟨by kernel_rfl, ?_⟩) hSK ?_
            rotate_left
            · (intro w9 hS9; obtain ⟨s0, s1, s2, s3⟩ := hS9; go_simp); (try with_reducible rfl)
            try simp only [Act.put, List.getElem_toArray, List.getElem_cons_succ, List.getElem_cons_zero, List.setIfInBounds_toArray, List.set_cons_zero, List.set_cons_succ]
            refine wpU_take (i := 12) (v := ?_) rfl (by kernel_rfl) (by kernel_rfl) (fun _ _ _ h => h) _ _ _ _ (by kernel_rfl) (by kernel_rfl) (by kernel_rfl) (Or.inl ⟨by kernel_rfl, ?_⟩) hSK ?_
            rotate_left
            · (intro w9 hS9; obtain ⟨s0, s1, s2, s3⟩ := hS9; go_simp); (try with_reducible rfl)
            try simp only [Act.put, List.getElem_toArray, List.getElem_cons_succ, List.getElem_cons_zero, List.setIfInBounds_toArray, List.set_cons_zero, List.set_cons_succ]
            refine wpU_take (i := 13) (v := ?_) rfl (by kernel_rfl) (by kernel_rfl) (fun _ _ _ h => h) _ _ _ _ (by kernel_rfl) (by kernel_rfl) (by kernel_rfl) (Or.inl ⟨by kernel_rfl, ?_⟩) hSK ?_
            rotate_left
            · (intro w9 hS9; obtain ⟨s0, s1, s2, s3⟩ := hS9; go_simp); (try with_reducible rfl)
            try simp only [Act.put, List.getElem_toArray, List.getElem_cons_succ, List.getElem_cons_zero, List.setIfInBounds_toArray, List.set_cons_zero, List.set_cons_succ]
            refine wpU_take (i := 14) (v := ?_) rfl (by kernel_rfl) (by kernel_rfl) (fun _ _ _ h => h) _ _ _ _ (by kernel_rfl) (by kernel_rfl) (by kernel_rfl) (Or.inl ⟨by kernel_rfl, ?_⟩) hSK ?_
            rotate_left
            · (intro w9 hS9; obtain ⟨s0, s1, s2, s3⟩ := hS9; go_simp); (try with_reducible rfl)
            try simp only [Act.put, List.getElem_toArray, List.getElem_cons_succ, List.getElem_cons_zero, List.setIfInBounds_toArray, List.set_cons_zero, List.set_cons_succ]
            refine wpU_take (i := 15) (v := ?_) rfl (by kernel_rfl) (by kernel_rfl) (fun _ _ _ h => h) _ _ _ _ (by kernel_rfl) (by kernel_rfl) (by kernel_rfl) (Or.inl ⟨by kernel_rfl, ?_⟩) hSK ?_
            rotate_left
            · (intro w9 hS9; obtain ⟨s0, s1, s2, s3⟩ := hS9; go_simp); (try with_reducible rfl)
            try simp only [Act.put, List.getElem_toArray, List.getElem_cons_succ, List.getElem_cons_zero, List.setIfInBounds_toArray, List.set_cons_zero, List.set_cons_succ]
            refine wpU_take (i := 16) (v := ?_) rfl (by kernel_rfl) (by kernel_rfl) (fun _ _ _ h => h) _ _ _ _ (by kernel_rfl) (by kernel_rfl) (by kernel_rfl) (Or.inl ⟨by kernel_rfl, ?_⟩) hSK ?_
            rotate_left
            · (intro w9 hS9; obtain ⟨s0, s1, s2, s3⟩ := hS9; go_simp); (try with_reducible rfl)
            try simp only [Act.put, List.getElem_toArray, List.getElem_cons_succ, List.getElem_cons_zero, List.setIfInBounds_toArray, List.set_cons_zero, List.set_cons_succ]
            refine wpU_take (i := 17) (v := ?_) rfl (by kernel_rfl) (by kernel_rfl) (fun _ _ _ h => h) _ _ _ _ (by kernel_rfl) (by kernel_rfl) (by kernel_rfl) (Or.inl ⟨by kernel_rfl, ?_⟩) hSK ?_
            rotate_left
            · (intro w9 hS9; obtain ⟨s0, s1, s2, s3⟩ := hS9; go_simp); (try with_reducible rfl)
            try simp only [Act.put, List.getElem_toArray, List.getElem_cons_succ, List.getElem_cons_zero, List.setIfInBounds_toArray, List.set_cons_zero, List.set_cons_succ]
            refine wpU_take (i := 18) (v := ?_) rfl (by kernel_rfl) (by kernel_rfl) (fun _ _ _ h => h) _ _ _ _ (by kernel_rfl) (by kernel_rfl) (by kernel_rfl) (Or.inl ⟨by kernel_rfl, ?_⟩) hSK ?_
            rotate_left
            · (intro w9 hS9; obtain ⟨s0, s1, s2, s3⟩ := hS9; go_simp); (try with_reducible rfl)
            try simp only [Act.put, List.getElem_toArray, List.getElem_cons_succ, List.getElem_cons_zero, List.setIfInBounds_toArray, List.set_cons_zero, List.set_cons_succ]
            refine wpU_take (i := 19) (v := ?_) rfl (by kernel_rfl) (by kernel_rfl) (fun _ _ _ h => h) _ _ _ _ (by kernel_rfl) (by kernel_rfl) (by kernel_rfl) (Or.inl ⟨by kernel_rfl, ?_⟩) hSK ?_
            rotate_left
            · (intro w9 hS9; obtain ⟨s0, s1, s2, s3⟩ := hS9; go_simp); (try with_reducible rfl)
            try simp only [Act.put, List.getElem_toArray, List.getElem_cons_succ, List.getElem_cons_zero, List.setIfInBounds_toArray, List.set_cons_zero, List.set_cons_succ]
            refine wpU_take (i := 20) (v := ?_) rfl (by kernel_rfl) (by kernel_rfl) (fun _ _ _ h => h) _ _ _ _ (by kernel_rfl) (by kernel_rfl) (by kernel_rfl) (Or.inl ⟨by kernel_rfl, ?_⟩) hSK ?_
            rotate_left
            · (intro w9 hS9; obtain ⟨s0, s1, s2, s3⟩ := hS9; go_simp); (try with_reducible rfl)
            try simp only [Act.put, List.getElem_toArray, List.getElem_cons_succ, List.getElem_cons_zero, List.setIfInBounds_toArray, List.set_cons_zero, List.set_cons_succ]
            refine wpU_take (i := 21) (v := ?_) rfl (by kernel_rfl) (by kernel_rfl) (fun _ _ _ h => h) _ _ _ _ (by kernel_rfl) (by kernel_rfl) (by kernel_rfl) (Or.inl ⟨by kernel_rfl, ?_⟩) hSK ?_
            rotate_left
            · (intro w9 hS9; obtain ⟨s0, s1, s2, s3⟩ := hS9; go_simp); (try with_reducible rfl)
            try simp only [Act.put, List.getElem_toArray, List.getElem_cons_succ, List.getElem_cons_zero, List.setIfInBounds_toArray, List.set_cons_zero, List.set_cons_succ]
            clear hSK
            refine wpU_next (i := 22) rfl (by kernel_rfl) (fun K hK => ?_)
            go_simp
            refine (ref_give mb fb bl (givs bl l (gvN (N.take i) W)) F' (xa : Nat) (xn : Nat) wr.drew (HRF.out.nil (Fr.refl _ _).drew) HRF4.out (by omega) (by omega)).mono ?_
            rintro e w3 ⟨rfl, hF3, hf3⟩
            have HF3 := hid hF3
            have F3 := hid (Hfq.out.drew.then hf3)
            refine hK.out _ _ (fun h => absurd rfl h.1) ?_
            refine wpU_done (by kernel_rfl) ?_ _
            clear hK K hF3 hf3
            go_wp2
            go_roundw
            case rel =>
              have e1 := hst.out
              rw [if_neg (by rw [← hob2.out]; decide)] at e1
              exact ⟨i + 1, by go_num, by omega, F3.out, hid (by rw [e1, givs_snoc]; exact HF3.out)⟩
            case measure => simp [intOf]; omega
    · have hE : i = M := by omega
      have e : N.take i = N := List.take_of_length_le (by rw [← HM.out]; omega)
      rw [e] at hRF
      have Hf := hid hfw
      have HBr := hid hBr
      have Hsf := hid hsf
      have e2 : wr.cell? ⟨sb, 2, none⟩ = some (.slice A2 P c2) := HBr.out.cell 2
      have HV3 := hid (HV2.out.fr hfw fun k hk _ => (HT.out k hk).2)
      clear hfw hBr hsf e
      go_wp2_with (at_builtin; refine wp_app_view rfl _ _ 68 rfl (.agg #[.int .i64 0, .int .i64 0, .int .i64 0, .bool false]) 32 Try.underlying68 info_use rfl (by decide) (Row.nil wr Nil 72 4) rfl HV3.out rfl (quad_cell _) (by omega) (by decide) ?_)
      rintro A6 c6 w6 r1 r2 -
      rw [Nat.zero_add] at r1
      rw [Nat.zero_add]
      have hf6 : Fr Nil wr w6 := r2.mono fun k hk => by simp [Value.ownBlock] at hk
      have HR6 := hid (show Row w6 (New w) 72 4 (.slice A6 P c6) P (quad W) from r1.mono fun k hk => hk.elim (fun h => by simp [Value.ownBlock] at h) (fun h => Nat.le_trans Hf.out.size h))
      have HB6 := hid (HBr.out.fr hf6 fun h => h)
      have F6 := hid (Hf.out.then hf6.nil)
      have F6n := hid hf6
      have d1 := HB6.out.cell 1
      have z1 := HB6.out.frozen 1
      have hl6 := HB6.out.lt
      clear r1 r2 hf6 c1 e2
      go_wp2
      go_end0
      have hfs : Fr (fun k => k = sb) w6 (w6.setCell ⟨sb, 1, none⟩ (.slice A6 P c6)) := (Fr.refl (fun k => k = sb) w6).setCell (a := ⟨sb, 1, none⟩) (.inl rfl) _
      have hfa : Fr (fun k => k = sb ∨ k = fb) w (w6.setCell ⟨sb, 1, none⟩ (.slice A6 P c6)) := (F6.out.mono fun k hk => .inr hk).then (hfs.mono fun k hk => .inl hk)
      refine ⟨rfl, Rz.of (v1 := .slice A6 P c6) (v2 := .slice A2 P c2) hfa.size Hts.out (Hlt.out sb Hts.out) (HB6.out.set 1 _) ?_ ?_, ?_, hfa⟩
      · rw [← HP.out]
        exact (HR6.out.fr hfs fun k hk e => by have h1 := HR6.out.2 k hk; have h9 : w.heap.size ≤ k := h1; have := Hlt.out sb Hts.out; omega).mono fun k hk => .inr hk
      · rw [← HP.out]
        refine ((H3.out.frS F6.out fun k hk => (HT.out k hk).2).fr hfs fun k hk e => ?_).mono fun k hk => .inl hk
        exact (H3.out.apart_blk HB.out (by decide)) (by rw [hk, e])
      · obtain ⟨F', g1, g2⟩ := hRF.out
        exact ⟨F', (g1.nil F6n.out).fr hfs (fun h => (HT.out sb Hts.out).1 h.symm) (fun h => (HT.out sb Hts.out).2 h.symm), g2⟩
end Go.Proofs.Ytjieckaeplkafaa

/- NodeEncodes: its walk (chapter 13). -/
import Derived.Test.YtidpabcfcdiecaaNdA
import Derived.Test.YtidpabcfcdiecaaNdO
import Derived.Test.YtidpabcfcdiecaaNdRE
import Derived.Test.YtidpabcfcdiecaaNdDecs
set_option linter.unusedSimpArgs false
set_option linter.unusedVariables false
namespace Go.Proofs.Ytidpabcfcdiecaa
open Go.RowKit
theorem conv_nil (w : World) : (convert 29 9 (.slice none 0 0)).run Try.prog w = .ok (.string (str [])) w :=
  View.str (P := Try.prog) (View.nil w Nil 1) Try.underlying29 Try.underlying5 Try.underlying9
theorem conv_row {w w' : World} {S S1 : Nat → Prop} {n : Nat} {v : Value} {xs : List Nat} (h : View w S 1 v n (bys xs)) (hf : Fr S1 w w') (hn : ∀ k, S k → k < w.heap.size → ¬ S1 k) : (convert 29 9 v).run Try.prog w' = .ok (.string (str xs)) w' :=
  View.str (P := Try.prog) (h.fr hf hn) Try.underlying29 Try.underlying5 Try.underlying9
set_option maxRecDepth 100000 in
set_option maxHeartbeats 1600000 in
theorem encodes_ok (v : Value) (W : World) (hv : NodeArg W v) :
    Calls Try.prog 3 #[v] W fun e w' => e = .returned (.bool true) ∧ Fr Nil W w' := by
  obtain ⟨q, x, rfl, hV⟩ := hv
  have hfr : Fr Nil W (W.alloc (.cells #[.int .i64 x.h, .slice q.A1 x.ks.length q.c1, .slice q.A2 x.ps.length q.c2, .slice q.A3 x.gs.length q.c3, .slice q.A4 x.ds.length q.c4] 26)) := (Fr.refl _ _).alloc _
  have hb : Blk (W.alloc (.cells #[.int .i64 x.h, .slice q.A1 x.ks.length q.c1, .slice q.A2 x.ps.length q.c2, .slice q.A3 x.gs.length q.c3, .slice q.A4 x.ds.length q.c4] 26)) W.heap.size (ncells x q) 26 := Blk.new _ _ _
  go_enter Try.func3, Try.ntmps3
  go_wp2_with fail
  refine (ndawake_ok _).mono ?_
  rintro e w2 ⟨rfl, hf2⟩
  replace hb := hb.fr hf2 fun h => h
  replace hV := (hV.nil hfr).nil hf2
  replace hfr := hfr.then hf2
  clear hf2
  obtain ⟨nb, hnb⟩ : ∃ nb, nb = W.heap.size := ⟨_, rfl⟩
  rw [← hnb] at hb ⊢
  clear hnb
  obtain ⟨c0, c1, c2, c3, c4⟩ := nd_cells hb
  by_cases hF : FewNd x
  rotate_left
  · have hd := hid (decide_eq_false hF)
    clear hF
    go_wp2_with fail
    refine (few_ok q x _ hd.out _).mono ?_
    rintro e w3 ⟨rfl, hf3⟩
    go_wp2
    go_ret
    exact ⟨rfl, hfr.then hf3⟩
  have hd := hid (decide_eq_true hF)
  have HF := hid hF
  clear hF
  go_wp2_with fail
  refine (few_ok q x _ hd.out _).mono ?_
  rintro e w3 ⟨rfl, hf3⟩
  replace hb := hb.fr hf3 fun h => h
  replace hV := hV.nil hf3
  replace hfr := hfr.then hf3
  clear hf3 c0 c1 c2 c3 c4
  obtain ⟨c0, c1, c2, c3, c4⟩ := nd_cells hb
  by_cases hm : MayNd x
  rotate_left
  · have hdm := hid (decide_eq_false hm)
    have HM := hid hm
    clear hm
    go_wp2_with fail
    refine (lawnode_ok _ q x HF.out _ hV).mono ?_
    rintro e w5 ⟨q5, rfl, hV5, hf5⟩
    replace hb := hb.fr hf5 fun h => h
    replace hV := hV.nil hf5
    replace hfr := hfr.then hf5
    clear hf5 c0 c1 c2 c3 c4
    obtain ⟨c0, c1, c2, c3, c4⟩ := nd_cells hb
    go_wp2_with fail
    refine (nodeenc_bad _ q5 x HM.out _ hV5).mono ?_
    rintro e w6 ⟨rfl, hf6⟩
    replace hb := hb.fr hf6 fun h => h
    replace hV := hV.nil hf6
    replace hfr := hfr.then hf6
    clear hf6 c0 c1 c2 c3 c4
    obtain ⟨c0, c1, c2, c3, c4⟩ := nd_cells hb
    clear hV5
    go_wp2_with fail
    refine (refenc_bad _ q x HM.out _ hV).mono ?_
    rintro e w7 ⟨rfl, hf7⟩
    replace hb := hb.fr hf7 fun h => h
    replace hV := hV.nil hf7
    replace hfr := hfr.then hf7
    clear hf7 c0 c1 c2 c3 c4
    obtain ⟨c0, c1, c2, c3, c4⟩ := nd_cells hb
    have K1 : Hid (∀ w', Fr Nil w7 w' → (convert 29 9 (Value.slice none 0 0)).run Try.prog w' = .ok (.string (str [])) w') := hid fun w' _ => conv_nil w'
    have K2 := K1
    go_wp2_with fail
    have hS : (fun w' : World => (w'.cell? ⟨nb, 0, none⟩ = some (.int .i64 x.h) ∧ w'.cell? ⟨nb, 1, none⟩ = some (.slice q.A1 x.ks.length q.c1) ∧ w'.cell? ⟨nb, 2, none⟩ = some (.slice q.A2 x.ps.length q.c2) ∧ w'.cell? ⟨nb, 3, none⟩ = some (.slice q.A3 x.gs.length q.c3) ∧ w'.cell? ⟨nb, 4, none⟩ = some (.slice q.A4 x.ds.length q.c4)) ∧ (convert 29 9 (.slice none 0 0)).run Try.prog w' = .ok (.string (str [])) w' ∧ (convert 29 9 (.slice none 0 0)).run Try.prog w' = .ok (.string (str [])) w') w7.drew := ⟨nd_cells hb.drew, K1.out _ (Fr.refl _ _).drew, K2.out _ (Fr.refl _ _).drew⟩
    refine wpU_region (k := 17) (S := (fun w' : World => (w'.cell? ⟨nb, 0, none⟩ = some (.int .i64 x.h) ∧ w'.cell? ⟨nb, 1, none⟩ = some (.slice q.A1 x.ks.length q.c1) ∧ w'.cell? ⟨nb, 2, none⟩ = some (.slice q.A2 x.ps.length q.c2) ∧ w'.cell? ⟨nb, 3, none⟩ = some (.slice q.A3 x.gs.length q.c3) ∧ w'.cell? ⟨nb, 4, none⟩ = some (.slice q.A4 x.ds.length q.c4)) ∧ (convert 29 9 (.slice none 0 0)).run Try.prog w' = .ok (.string (str [])) w' ∧ (convert 29 9 (.slice none 0 0)).run Try.prog w' = .ok (.string (str [])) w')) (by kernel_rfl) ?_
    refine wpU_take (i := 0) (v := ?_) rfl (by kernel_rfl) (by kernel_rfl) (fun _ _ _ h => h) _ _ _ _ (by kernel_rfl) (by kernel_rfl) (by kernel_rfl) (Or.inl ⟨by kernel_rfl, ?_⟩) hS ?_
    rotate_left
    · (intro w9 hS9; obtain ⟨s0, s1, s2⟩ := hS9; go_simp); (try with_reducible rfl)
    try simp only [Act.put, List.getElem_toArray, List.getElem_cons_succ, List.getElem_cons_zero, List.setIfInBounds_toArray, List.set_cons_zero, List.set_cons_succ]
    refine wpU_take (i := 1) (v := ?_) rfl (by kernel_rfl) (by kernel_rfl) (fun _ _ _ h => h) _ _ _ _ (by kernel_rfl) (by kernel_rfl) (by kernel_rfl) (Or.inl ⟨by kernel_rfl, ?_⟩) hS ?_
    rotate_left
    · (intro w9 hS9; obtain ⟨s0, s1, s2⟩ := hS9; go_simp); (try with_reducible rfl)
    try simp only [Act.put, List.getElem_toArray, List.getElem_cons_succ, List.getElem_cons_zero, List.setIfInBounds_toArray, List.set_cons_zero, List.set_cons_succ]
    refine wpU_take (i := 2) (v := ?_) rfl (by kernel_rfl) (by kernel_rfl) (fun _ _ _ h => h) _ _ _ _ (by kernel_rfl) (by kernel_rfl) (by kernel_rfl) (Or.inl ⟨by kernel_rfl, ?_⟩) hS ?_
    rotate_left
    · (intro w9 hS9; obtain ⟨s0, s1, s2⟩ := hS9; go_simp); (try with_reducible rfl)
    try simp only [Act.put, List.getElem_toArray, List.getElem_cons_succ, List.getElem_cons_zero, List.setIfInBounds_toArray, List.set_cons_zero, List.set_cons_succ]
    refine wpU_take (i := 3) (v := ?_) rfl (by kernel_rfl) (by kernel_rfl) (fun _ _ _ h => h) _ _ _ _ (by kernel_rfl) (by kernel_rfl) (by kernel_rfl) (Or.inl ⟨by kernel_rfl, ?_⟩) hS ?_
    rotate_left
    · (intro w9 hS9; obtain ⟨s0, s1, s2⟩ := hS9; go_simp); (try with_reducible rfl)
    try simp only [Act.put, List.getElem_toArray, List.getElem_cons_succ, List.getElem_cons_zero, List.setIfInBounds_toArray, List.set_cons_zero, List.set_cons_succ]
    refine wpU_take (i := 4) (v := ?_) rfl (by kernel_rfl) (by kernel_rfl) (fun _ _ _ h => h) _ _ _ _ (by kernel_rfl) (by kernel_rfl) (by kernel_rfl) (Or.inl ⟨by kernel_rfl, ?_⟩) hS ?_
    rotate_left
    · (intro w9 hS9; obtain ⟨s0, s1, s2⟩ := hS9; go_simp); (try with_reducible rfl)
    try simp only [Act.put, List.getElem_toArray, List.getElem_cons_succ, List.getElem_cons_zero, List.setIfInBounds_toArray, List.set_cons_zero, List.set_cons_succ]
    refine wpU_take (i := 5) (v := ?_) rfl (by kernel_rfl) (by kernel_rfl) (fun _ _ _ h => h) _ _ _ _ (by kernel_rfl) (by kernel_rfl) (by kernel_rfl) (Or.inl ⟨by kernel_rfl, ?_⟩) hS ?_
    rotate_left
    · (intro w9 hS9; obtain ⟨s0, s1, s2⟩ := hS9; go_simp); (try with_reducible rfl)
    try simp only [Act.put, List.getElem_toArray, List.getElem_cons_succ, List.getElem_cons_zero, List.setIfInBounds_toArray, List.set_cons_zero, List.set_cons_succ]
    refine wpU_take (i := 6) (v := ?_) rfl (by kernel_rfl) (by kernel_rfl) (fun _ _ _ h => h) _ _ _ _ (by kernel_rfl) (by kernel_rfl) (by kernel_rfl) (Or.inl ⟨by kernel_rfl, ?_⟩) hS ?_
    rotate_left
    · (intro w9 hS9; obtain ⟨s0, s1, s2⟩ := hS9; go_simp); (try with_reducible rfl)
    try simp only [Act.put, List.getElem_toArray, List.getElem_cons_succ, List.getElem_cons_zero, List.setIfInBounds_toArray, List.set_cons_zero, List.set_cons_succ]
    refine wpU_take (i := 7) (v := ?_) rfl (by kernel_rfl) (by kernel_rfl) (fun _ _ _ h => h) _ _ _ _ (by kernel_rfl) (by kernel_rfl) (by kernel_rfl) (Or.inl ⟨by kernel_rfl, ?_⟩) hS ?_
    rotate_left
    · (intro w9 hS9; obtain ⟨s0, s1, s2⟩ := hS9; go_simp); (try with_reducible rfl)
    try simp only [Act.put, List.getElem_toArray, List.getElem_cons_succ, List.getElem_cons_zero, List.setIfInBounds_toArray, List.set_cons_zero, List.set_cons_succ]
    refine wpU_take (i := 8) (v := ?_) rfl (by kernel_rfl) (by kernel_rfl) (fun _ _ _ h => h) _ _ _ _ (by kernel_rfl) (by kernel_rfl) (by kernel_rfl) (Or.inl ⟨by kernel_rfl, ?_⟩) hS ?_
    rotate_left
    · (intro w9 hS9; obtain ⟨s0, s1, s2⟩ := hS9; go_simp); (try with_reducible rfl)
    try simp only [Act.put, List.getElem_toArray, List.getElem_cons_succ, List.getElem_cons_zero, List.setIfInBounds_toArray, List.set_cons_zero, List.set_cons_succ]
    refine wpU_take (i := 9) (v := ?_) rfl (by kernel_rfl) (by kernel_rfl) (fun _ _ _ h => h) _ _ _ _ (by kernel_rfl) (by kernel_rfl) (by kernel_rfl) (Or.inl ⟨by kernel_rfl, ?_⟩) hS ?_
    rotate_left
    · (intro w9 hS9; obtain ⟨s0, s1, s2⟩ := hS9; go_simp); (try with_reducible rfl)
    try simp only [Act.put, List.getElem_toArray, List.getElem_cons_succ, List.getElem_cons_zero, List.setIfInBounds_toArray, List.set_cons_zero, List.set_cons_succ]
    refine wpU_take (i := 10) (v := ?_) rfl (by kernel_rfl) (by kernel_rfl) (fun _ _ _ h => h) _ _ _ _ (by kernel_rfl) (by kernel_rfl) (by kernel_rfl) (Or.inl ⟨by kernel_rfl, ?_⟩) hS ?_
    rotate_left
    · (intro w9 hS9; obtain ⟨s0, s1, s2⟩ := hS9; go_simp); (try with_reducible rfl)
    try simp only [Act.put, List.getElem_toArray, List.getElem_cons_succ, List.getElem_cons_zero, List.setIfInBounds_toArray, List.set_cons_zero, List.set_cons_succ]
    refine wpU_take (i := 11) (v := ?_) rfl (by kernel_rfl) (by kernel_rfl) (fun _ _ _ h => h) _ _ _ _ (by kernel_rfl) (by kernel_rfl) (by kernel_rfl) (Or.inl ⟨by kernel_rfl, ?_⟩) hS ?_
    rotate_left
    · (intro w9 hS9; obtain ⟨s0, s1, s2⟩ := hS9; go_simp); (try with_reducible rfl)
    try simp only [Act.put, List.getElem_toArray, List.getElem_cons_succ, List.getElem_cons_zero, List.setIfInBounds_toArray, List.set_cons_zero, List.set_cons_succ]
    refine wpU_take (i := 14) (v := ?_) rfl (by kernel_rfl) (by kernel_rfl) (fun _ _ _ h => h) _ _ _ _ (by kernel_rfl) (by kernel_rfl) (by kernel_rfl) (Or.inl ⟨by kernel_rfl, ?_⟩) hS ?_
    rotate_left
    · (intro w9 hS9; obtain ⟨s0, s1, s2⟩ := hS9; go_simp); (try with_reducible rfl)
    try simp only [Act.put, List.getElem_toArray, List.getElem_cons_succ, List.getElem_cons_zero, List.setIfInBounds_toArray, List.set_cons_zero, List.set_cons_succ]
    refine wpU_next (i := 12) rfl (by kernel_rfl) (fun K hK => ?_)
    go_simp
    refine (lawnode_ok _ q x HF.out w7.drew (hV.nil (Fr.refl _ _).drew)).mono ?_
    rintro e w9 ⟨q9, rfl, hV9, hf9⟩
    replace hf9 : Fr Nil w7 w9 := (Fr.refl Nil w7).drew.then hf9
    have hb9 := hb.fr hf9 fun h => h
    have hS9 : (fun w' : World => (w'.cell? ⟨nb, 0, none⟩ = some (.int .i64 x.h) ∧ w'.cell? ⟨nb, 1, none⟩ = some (.slice q.A1 x.ks.length q.c1) ∧ w'.cell? ⟨nb, 2, none⟩ = some (.slice q.A2 x.ps.length q.c2) ∧ w'.cell? ⟨nb, 3, none⟩ = some (.slice q.A3 x.gs.length q.c3) ∧ w'.cell? ⟨nb, 4, none⟩ = some (.slice q.A4 x.ds.length q.c4)) ∧ (convert 29 9 (.slice none 0 0)).run Try.prog w' = .ok (.string (str [])) w' ∧ (convert 29 9 (.slice none 0 0)).run Try.prog w' = .ok (.string (str [])) w') w9 := ⟨nd_cells hb9, K1.out _ hf9, K2.out _ hf9⟩
    refine hK.out _ _ (fun _ => hS9) ?_
    clear hK K
    try simp only [Act.put, List.getElem_toArray, List.getElem_cons_succ, List.getElem_cons_zero, List.setIfInBounds_toArray, List.set_cons_zero, List.set_cons_succ]
    refine wpU_next (i := 13) rfl (by kernel_rfl) (fun K hK => ?_)
    go_simp
    refine (nodeMay_ok _ q9 x _ hdm.out w9 hV9).mono ?_
    rintro e w10 ⟨rfl, hf10⟩
    replace hf10 := hf9.then hf10
    have hb10 := hb.fr hf10 fun h => h
    have hV10 := hV.nil hf10
    have hS10 : (fun w' : World => (w'.cell? ⟨nb, 0, none⟩ = some (.int .i64 x.h) ∧ w'.cell? ⟨nb, 1, none⟩ = some (.slice q.A1 x.ks.length q.c1) ∧ w'.cell? ⟨nb, 2, none⟩ = some (.slice q.A2 x.ps.length q.c2) ∧ w'.cell? ⟨nb, 3, none⟩ = some (.slice q.A3 x.gs.length q.c3) ∧ w'.cell? ⟨nb, 4, none⟩ = some (.slice q.A4 x.ds.length q.c4)) ∧ (convert 29 9 (.slice none 0 0)).run Try.prog w' = .ok (.string (str [])) w' ∧ (convert 29 9 (.slice none 0 0)).run Try.prog w' = .ok (.string (str [])) w') w10 := ⟨nd_cells hb10, K1.out _ hf10, K2.out _ hf10⟩
    refine hK.out _ _ (fun _ => hS10) ?_
    clear hK K
    try simp only [Act.put, List.getElem_toArray, List.getElem_cons_succ, List.getElem_cons_zero, List.setIfInBounds_toArray, List.set_cons_zero, List.set_cons_succ]
    refine wpU_next (i := 15) rfl (by kernel_rfl) (fun K hK => ?_)
    go_simp
    refine (refmay_ok _ q x _ hdm.out w10 hV10).mono ?_
    rintro e w11 ⟨rfl, hf11⟩
    replace hf11 := hf10.then hf11
    have hb11 := hb.fr hf11 fun h => h
    have hV11 := hV.nil hf11
    have hS11 : (fun w' : World => (w'.cell? ⟨nb, 0, none⟩ = some (.int .i64 x.h) ∧ w'.cell? ⟨nb, 1, none⟩ = some (.slice q.A1 x.ks.length q.c1) ∧ w'.cell? ⟨nb, 2, none⟩ = some (.slice q.A2 x.ps.length q.c2) ∧ w'.cell? ⟨nb, 3, none⟩ = some (.slice q.A3 x.gs.length q.c3) ∧ w'.cell? ⟨nb, 4, none⟩ = some (.slice q.A4 x.ds.length q.c4)) ∧ (convert 29 9 (.slice none 0 0)).run Try.prog w' = .ok (.string (str [])) w' ∧ (convert 29 9 (.slice none 0 0)).run Try.prog w' = .ok (.string (str [])) w') w11 := ⟨nd_cells hb11, K1.out _ hf11, K2.out _ hf11⟩
    refine hK.out _ _ (fun _ => hS11) ?_
    clear hK K
    try simp only [Act.put, List.getElem_toArray, List.getElem_cons_succ, List.getElem_cons_zero, List.setIfInBounds_toArray, List.set_cons_zero, List.set_cons_succ]
    refine wpU_take (i := 16) (v := ?_) rfl (by kernel_rfl) (by kernel_rfl) (fun _ _ _ h => h) _ _ _ _ (by kernel_rfl) (by kernel_rfl) (by kernel_rfl) (Or.inl ⟨by kernel_rfl, ?_⟩) hS11 ?_
    rotate_left
    · (intro w9 hS9; obtain ⟨s0, s1, s2⟩ := hS9; go_simp); (try with_reducible rfl)
    try simp only [Act.put, List.getElem_toArray, List.getElem_cons_succ, List.getElem_cons_zero, List.setIfInBounds_toArray, List.set_cons_zero, List.set_cons_succ]
    refine wpU_next (i := 17) rfl (by kernel_rfl) (fun K hK => ?_)
    go_simp
    refine hK.out _ _ (fun h => absurd rfl h.1) ?_
    refine wpU_done (by kernel_rfl) ?_ _
    clear hK K
    clear hS hS9 hS10 hS11 hb hb9 hb10 hV hV9 hV10 hf9 hf10
    go_wp2
    go_ret
    exact ⟨rfl, hfr.then hf11⟩
  · have hdm := hid (decide_eq_true hm)
    have HM := hid hm
    clear hm
    have hb5 := pre_bytes x x.ks.length
    have hl5 := hid (pre_lenle HM.out)
    have hd5 := hid (decd_pre HM.out)
    obtain ⟨bs, hbs⟩ : ∃ bs, bs = encs (pre x x.ks.length) := ⟨_, rfl⟩
    have Hbs := hid hbs
    rw [← hbs] at hb5
    clear hbs
    go_wp2_with fail
    refine (lawnode_ok _ q x HF.out _ hV).mono ?_
    rintro e w5 ⟨q5, rfl, hV5, hf5⟩
    replace hb := hb.fr hf5 fun h => h
    replace hV := hV.nil hf5
    replace hfr := hfr.then hf5
    clear hf5 c0 c1 c2 c3 c4
    obtain ⟨c0, c1, c2, c3, c4⟩ := nd_cells hb
    go_wp2_with fail
    refine (nodeenc_ok _ q5 x HM.out _ hV5).mono ?_
    rintro e w6 ⟨A6, c6, rfl, r6, hf6⟩
    rw [← Hbs.out] at r6 ⊢
    replace hb := hb.fr hf6 fun h => h
    replace hV := hV.nil hf6
    replace hfr := hfr.then hf6
    clear hf6 c0 c1 c2 c3 c4
    obtain ⟨c0, c1, c2, c3, c4⟩ := nd_cells hb
    clear hV5
    go_wp2_with fail
    refine (refenc_ok _ q x HM.out _ hV).mono ?_
    rintro e w7 ⟨A7, c7, rfl, r7, hf7⟩
    rw [← Hbs.out] at r7 ⊢
    replace r6 := r6.fr hf7 (fun _ _ h => h)
    replace hb := hb.fr hf7 fun h => h
    replace hV := hV.nil hf7
    replace hfr := hfr.then hf7
    clear hf7 c0 c1 c2 c3 c4
    obtain ⟨c0, c1, c2, c3, c4⟩ := nd_cells hb
    have K1 : Hid (∀ w', Fr Nil w7 w' → (convert 29 9 (Value.slice A6 bs.length c6)).run Try.prog w' = .ok (.string (str bs)) w') := hid fun w' hf => conv_row r6.view hf (fun _ _ _ h => h)
    have K2 : Hid (∀ w', Fr Nil w7 w' → (convert 29 9 (Value.slice A7 bs.length c7)).run Try.prog w' = .ok (.string (str bs)) w') := hid fun w' hf => conv_row r7.view hf (fun _ _ _ h => h)
    go_wp2_with fail
    have hb7 := hb
    have hV7 := hV
    have hS : (fun w' : World => (w'.cell? ⟨nb, 0, none⟩ = some (.int .i64 x.h) ∧ w'.cell? ⟨nb, 1, none⟩ = some (.slice q.A1 x.ks.length q.c1) ∧ w'.cell? ⟨nb, 2, none⟩ = some (.slice q.A2 x.ps.length q.c2) ∧ w'.cell? ⟨nb, 3, none⟩ = some (.slice q.A3 x.gs.length q.c3) ∧ w'.cell? ⟨nb, 4, none⟩ = some (.slice q.A4 x.ds.length q.c4)) ∧ (convert 29 9 (.slice A6 bs.length c6)).run Try.prog w' = .ok (.string (str bs)) w' ∧ (convert 29 9 (.slice A7 bs.length c7)).run Try.prog w' = .ok (.string (str bs)) w') w7.drew := ⟨nd_cells hb.drew, K1.out _ (Fr.refl _ _).drew, K2.out _ (Fr.refl _ _).drew⟩
    refine wpU_region (k := 17) (S := (fun w' : World => (w'.cell? ⟨nb, 0, none⟩ = some (.int .i64 x.h) ∧ w'.cell? ⟨nb, 1, none⟩ = some (.slice q.A1 x.ks.length q.c1) ∧ w'.cell? ⟨nb, 2, none⟩ = some (.slice q.A2 x.ps.length q.c2) ∧ w'.cell? ⟨nb, 3, none⟩ = some (.slice q.A3 x.gs.length q.c3) ∧ w'.cell? ⟨nb, 4, none⟩ = some (.slice q.A4 x.ds.length q.c4)) ∧ (convert 29 9 (.slice A6 bs.length c6)).run Try.prog w' = .ok (.string (str bs)) w' ∧ (convert 29 9 (.slice A7 bs.length c7)).run Try.prog w' = .ok (.string (str bs)) w')) (by kernel_rfl) ?_
    refine wpU_take (i := 0) (v := ?_) rfl (by kernel_rfl) (by kernel_rfl) (fun _ _ _ h => h) _ _ _ _ (by kernel_rfl) (by kernel_rfl) (by kernel_rfl) (Or.inl ⟨by kernel_rfl, ?_⟩) hS ?_
    rotate_left
    · (intro w9 hS9; obtain ⟨s0, s1, s2⟩ := hS9; go_simp); (try with_reducible rfl)
    try simp only [Act.put, List.getElem_toArray, List.getElem_cons_succ, List.getElem_cons_zero, List.setIfInBounds_toArray, List.set_cons_zero, List.set_cons_succ]
    refine wpU_take (i := 1) (v := ?_) rfl (by kernel_rfl) (by kernel_rfl) (fun _ _ _ h => h) _ _ _ _ (by kernel_rfl) (by kernel_rfl) (by kernel_rfl) (Or.inl ⟨by kernel_rfl, ?_⟩) hS ?_
    rotate_left
    · (intro w9 hS9; obtain ⟨s0, s1, s2⟩ := hS9; go_simp); (try with_reducible rfl)
    try simp only [Act.put, List.getElem_toArray, List.getElem_cons_succ, List.getElem_cons_zero, List.setIfInBounds_toArray, List.set_cons_zero, List.set_cons_succ]
    refine wpU_take (i := 2) (v := ?_) rfl (by kernel_rfl) (by kernel_rfl) (fun _ _ _ h => h) _ _ _ _ (by kernel_rfl) (by kernel_rfl) (by kernel_rfl) (Or.inl ⟨by kernel_rfl, ?_⟩) hS ?_
    rotate_left
    · (intro w9 hS9; obtain ⟨s0, s1, s2⟩ := hS9; go_simp); (try with_reducible rfl)
    try simp only [Act.put, List.getElem_toArray, List.getElem_cons_succ, List.getElem_cons_zero, List.setIfInBounds_toArray, List.set_cons_zero, List.set_cons_succ]
    refine wpU_take (i := 3) (v := ?_) rfl (by kernel_rfl) (by kernel_rfl) (fun _ _ _ h => h) _ _ _ _ (by kernel_rfl) (by kernel_rfl) (by kernel_rfl) (Or.inl ⟨by kernel_rfl, ?_⟩) hS ?_
    rotate_left
    · (intro w9 hS9; obtain ⟨s0, s1, s2⟩ := hS9; go_simp); (try with_reducible rfl)
    try simp only [Act.put, List.getElem_toArray, List.getElem_cons_succ, List.getElem_cons_zero, List.setIfInBounds_toArray, List.set_cons_zero, List.set_cons_succ]
    refine wpU_take (i := 4) (v := ?_) rfl (by kernel_rfl) (by kernel_rfl) (fun _ _ _ h => h) _ _ _ _ (by kernel_rfl) (by kernel_rfl) (by kernel_rfl) (Or.inl ⟨by kernel_rfl, ?_⟩) hS ?_
    rotate_left
    · (intro w9 hS9; obtain ⟨s0, s1, s2⟩ := hS9; go_simp); (try with_reducible rfl)
    try simp only [Act.put, List.getElem_toArray, List.getElem_cons_succ, List.getElem_cons_zero, List.setIfInBounds_toArray, List.set_cons_zero, List.set_cons_succ]
    refine wpU_take (i := 5) (v := ?_) rfl (by kernel_rfl) (by kernel_rfl) (fun _ _ _ h => h) _ _ _ _ (by kernel_rfl) (by kernel_rfl) (by kernel_rfl) (Or.inl ⟨by kernel_rfl, ?_⟩) hS ?_
    rotate_left
    · (intro w9 hS9; obtain ⟨s0, s1, s2⟩ := hS9; go_simp); (try with_reducible rfl)
    try simp only [Act.put, List.getElem_toArray, List.getElem_cons_succ, List.getElem_cons_zero, List.setIfInBounds_toArray, List.set_cons_zero, List.set_cons_succ]
    refine wpU_take (i := 6) (v := ?_) rfl (by kernel_rfl) (by kernel_rfl) (fun _ _ _ h => h) _ _ _ _ (by kernel_rfl) (by kernel_rfl) (by kernel_rfl) (Or.inl ⟨by kernel_rfl, ?_⟩) hS ?_
    rotate_left
    · (intro w9 hS9; obtain ⟨s0, s1, s2⟩ := hS9; go_simp); (try with_reducible rfl)
    try simp only [Act.put, List.getElem_toArray, List.getElem_cons_succ, List.getElem_cons_zero, List.setIfInBounds_toArray, List.set_cons_zero, List.set_cons_succ]
    refine wpU_take (i := 7) (v := ?_) rfl (by kernel_rfl) (by kernel_rfl) (fun _ _ _ h => h) _ _ _ _ (by kernel_rfl) (by kernel_rfl) (by kernel_rfl) (Or.inl ⟨by kernel_rfl, ?_⟩) hS ?_
    rotate_left
    · (intro w9 hS9; obtain ⟨s0, s1, s2⟩ := hS9; go_simp); (try with_reducible rfl)
    try simp only [Act.put, List.getElem_toArray, List.getElem_cons_succ, List.getElem_cons_zero, List.setIfInBounds_toArray, List.set_cons_zero, List.set_cons_succ]
    refine wpU_take (i := 8) (v := ?_) rfl (by kernel_rfl) (by kernel_rfl) (fun _ _ _ h => h) _ _ _ _ (by kernel_rfl) (by kernel_rfl) (by kernel_rfl) (Or.inl ⟨by kernel_rfl, ?_⟩) hS ?_
    rotate_left
    · (intro w9 hS9; obtain ⟨s0, s1, s2⟩ := hS9; go_simp); (try with_reducible rfl)
    try simp only [Act.put, List.getElem_toArray, List.getElem_cons_succ, List.getElem_cons_zero, List.setIfInBounds_toArray, List.set_cons_zero, List.set_cons_succ]
    refine wpU_take (i := 9) (v := ?_) rfl (by kernel_rfl) (by kernel_rfl) (fun _ _ _ h => h) _ _ _ _ (by kernel_rfl) (by kernel_rfl) (by kernel_rfl) (Or.inl ⟨by kernel_rfl, ?_⟩) hS ?_
    rotate_left
    · (intro w9 hS9; obtain ⟨s0, s1, s2⟩ := hS9; go_simp); (try with_reducible rfl)
    try simp only [Act.put, List.getElem_toArray, List.getElem_cons_succ, List.getElem_cons_zero, List.setIfInBounds_toArray, List.set_cons_zero, List.set_cons_succ]
    refine wpU_take (i := 10) (v := ?_) rfl (by kernel_rfl) (by kernel_rfl) (fun _ _ _ h => h) _ _ _ _ (by kernel_rfl) (by kernel_rfl) (by kernel_rfl) (Or.inl ⟨by kernel_rfl, ?_⟩) hS ?_
    rotate_left
    · (intro w9 hS9; obtain ⟨s0, s1, s2⟩ := hS9; go_simp); (try with_reducible rfl)
    try simp only [Act.put, List.getElem_toArray, List.getElem_cons_succ, List.getElem_cons_zero, List.setIfInBounds_toArray, List.set_cons_zero, List.set_cons_succ]
    refine wpU_take (i := 11) (v := ?_) rfl (by kernel_rfl) (by kernel_rfl) (fun _ _ _ h => h) _ _ _ _ (by kernel_rfl) (by kernel_rfl) (by kernel_rfl) (Or.inl ⟨by kernel_rfl, ?_⟩) hS ?_
    rotate_left
    · (intro w9 hS9; obtain ⟨s0, s1, s2⟩ := hS9; go_simp); (try with_reducible rfl)
    try simp only [Act.put, List.getElem_toArray, List.getElem_cons_succ, List.getElem_cons_zero, List.setIfInBounds_toArray, List.set_cons_zero, List.set_cons_succ]
    refine wpU_take (i := 14) (v := ?_) rfl (by kernel_rfl) (by kernel_rfl) (fun _ _ _ h => h) _ _ _ _ (by kernel_rfl) (by kernel_rfl) (by kernel_rfl) (Or.inl ⟨by kernel_rfl, ?_⟩) hS ?_
    rotate_left
    · (intro w9 hS9; obtain ⟨s0, s1, s2⟩ := hS9; go_simp); (try with_reducible rfl)
    try simp only [Act.put, List.getElem_toArray, List.getElem_cons_succ, List.getElem_cons_zero, List.setIfInBounds_toArray, List.set_cons_zero, List.set_cons_succ]
    refine wpU_next (i := 12) rfl (by kernel_rfl) (fun K hK => ?_)
    go_simp
    refine (lawnode_ok _ q x HF.out w7.drew (hV.nil (Fr.refl _ _).drew)).mono ?_
    rintro e w9 ⟨q9, rfl, hV9, hf9⟩
    replace hf9 : Fr Nil w7 w9 := (Fr.refl Nil w7).drew.then hf9
    have hb9 := hb.fr hf9 fun h => h
    have hS9 : (fun w' : World => (w'.cell? ⟨nb, 0, none⟩ = some (.int .i64 x.h) ∧ w'.cell? ⟨nb, 1, none⟩ = some (.slice q.A1 x.ks.length q.c1) ∧ w'.cell? ⟨nb, 2, none⟩ = some (.slice q.A2 x.ps.length q.c2) ∧ w'.cell? ⟨nb, 3, none⟩ = some (.slice q.A3 x.gs.length q.c3) ∧ w'.cell? ⟨nb, 4, none⟩ = some (.slice q.A4 x.ds.length q.c4)) ∧ (convert 29 9 (.slice A6 bs.length c6)).run Try.prog w' = .ok (.string (str bs)) w' ∧ (convert 29 9 (.slice A7 bs.length c7)).run Try.prog w' = .ok (.string (str bs)) w') w9 := ⟨nd_cells hb9, K1.out _ hf9, K2.out _ hf9⟩
    refine hK.out _ _ (fun _ => hS9) ?_
    clear hK K
    try simp only [Act.put, List.getElem_toArray, List.getElem_cons_succ, List.getElem_cons_zero, List.setIfInBounds_toArray, List.set_cons_zero, List.set_cons_succ]
    refine wpU_next (i := 13) rfl (by kernel_rfl) (fun K hK => ?_)
    go_simp
    refine (nodeMay_ok _ q9 x _ hdm.out w9 hV9).mono ?_
    rintro e w10 ⟨rfl, hf10⟩
    replace hf10 := hf9.then hf10
    have hb10 := hb.fr hf10 fun h => h
    have hV10 := hV.nil hf10
    have hS10 : (fun w' : World => (w'.cell? ⟨nb, 0, none⟩ = some (.int .i64 x.h) ∧ w'.cell? ⟨nb, 1, none⟩ = some (.slice q.A1 x.ks.length q.c1) ∧ w'.cell? ⟨nb, 2, none⟩ = some (.slice q.A2 x.ps.length q.c2) ∧ w'.cell? ⟨nb, 3, none⟩ = some (.slice q.A3 x.gs.length q.c3) ∧ w'.cell? ⟨nb, 4, none⟩ = some (.slice q.A4 x.ds.length q.c4)) ∧ (convert 29 9 (.slice A6 bs.length c6)).run Try.prog w' = .ok (.string (str bs)) w' ∧ (convert 29 9 (.slice A7 bs.length c7)).run Try.prog w' = .ok (.string (str bs)) w') w10 := ⟨nd_cells hb10, K1.out _ hf10, K2.out _ hf10⟩
    refine hK.out _ _ (fun _ => hS10) ?_
    clear hK K
    try simp only [Act.put, List.getElem_toArray, List.getElem_cons_succ, List.getElem_cons_zero, List.setIfInBounds_toArray, List.set_cons_zero, List.set_cons_succ]
    refine wpU_next (i := 15) rfl (by kernel_rfl) (fun K hK => ?_)
    go_simp
    refine (refmay_ok _ q x _ hdm.out w10 hV10).mono ?_
    rintro e w11 ⟨rfl, hf11⟩
    replace hf11 := hf10.then hf11
    have hb11 := hb.fr hf11 fun h => h
    have hV11 := hV.nil hf11
    have hS11 : (fun w' : World => (w'.cell? ⟨nb, 0, none⟩ = some (.int .i64 x.h) ∧ w'.cell? ⟨nb, 1, none⟩ = some (.slice q.A1 x.ks.length q.c1) ∧ w'.cell? ⟨nb, 2, none⟩ = some (.slice q.A2 x.ps.length q.c2) ∧ w'.cell? ⟨nb, 3, none⟩ = some (.slice q.A3 x.gs.length q.c3) ∧ w'.cell? ⟨nb, 4, none⟩ = some (.slice q.A4 x.ds.length q.c4)) ∧ (convert 29 9 (.slice A6 bs.length c6)).run Try.prog w' = .ok (.string (str bs)) w' ∧ (convert 29 9 (.slice A7 bs.length c7)).run Try.prog w' = .ok (.string (str bs)) w') w11 := ⟨nd_cells hb11, K1.out _ hf11, K2.out _ hf11⟩
    refine hK.out _ _ (fun _ => hS11) ?_
    clear hK K
    try simp only [Act.put, List.getElem_toArray, List.getElem_cons_succ, List.getElem_cons_zero, List.setIfInBounds_toArray, List.set_cons_zero, List.set_cons_succ]
    refine wpU_take (i := 16) (v := ?_) rfl (by kernel_rfl) (by kernel_rfl) (fun _ _ _ h => h) _ _ _ _ (by kernel_rfl) (by kernel_rfl) (by kernel_rfl) (Or.inl ⟨by kernel_rfl, ?_⟩) hS11 ?_
    rotate_left
    · (intro w9 hS9; obtain ⟨s0, s1, s2⟩ := hS9; go_simp); (try with_reducible rfl)
    try simp only [Act.put, List.getElem_toArray, List.getElem_cons_succ, List.getElem_cons_zero, List.setIfInBounds_toArray, List.set_cons_zero, List.set_cons_succ]
    refine wpU_next (i := 17) rfl (by kernel_rfl) (fun K hK => ?_)
    go_simp
    refine hK.out _ _ (fun h => absurd rfl h.1) ?_
    refine wpU_done (by kernel_rfl) ?_ _
    clear hK K
    clear hS hS9 hS10 hS11 hb hb9 hb10 hV hV9 hV10 hf9 hf10
    have hr11 := r6.fr hf11 (fun _ _ h => h)
    clear K1 K2 r6 r7
    clear c0 c1 c2 c3 c4
    have hbw := hb7.fr hf11 fun h => h
    have hVw := hV7.nil hf11
    have hfw := hfr.then hf11
    clear hb7 hV7 hf11 hfr
    go_wp2_with fail
    refine (dec_ok _ _ bs.length bs (by rw [Hbs.out]; have := hl5.out; omega) hb5 w11 hr11.view).mono ?_
    intro e w12 hp
    rw [show decd bs = .inl x from by rw [Hbs.out]; exact hd5.out] at hp
    obtain ⟨q12, rfl, hV12, hf12⟩ := hp
    have hb := hbw.fr hf12 fun h => h
    have hV := hVw.nil hf12
    have hfr := hfw.then hf12
    clear hbw hVw hfw hf12 hr11
    unfold ncells
    go_wp2_with fail
    obtain ⟨W13, hW13⟩ : ∃ W3, W3 = w12.alloc (.cells (ncells x q12) 35) := ⟨_, rfl⟩
    have hx13 : Blk W13 w12.heap.size (ncells x q12) 35 := by rw [hW13]; exact Blk.new _ _ _
    have hf13 : Fr Nil w12 W13.drew := by rw [hW13]; exact ((Fr.refl _ _).alloc _).drew
    unfold ncells at hW13
    rw [← hW13]
    clear hW13
    obtain ⟨xb, hxb⟩ : ∃ xb, xb = w12.heap.size := ⟨_, rfl⟩
    rw [← hxb] at hx13 ⊢
    clear hxb
    replace hb := hb.fr hf13 fun h => h
    replace hV := hV.nil hf13
    replace hV12 := hV12.nil hf13
    replace hx13 := hx13.drew
    replace hfr := hfr.then hf13
    clear hf13
    have hS : (fun w' : World => (w'.cell? ⟨xb, 0, none⟩ = some (.int .i64 x.h) ∧ w'.cell? ⟨xb, 1, none⟩ = some (.slice q12.A1 x.ks.length q12.c1) ∧ w'.cell? ⟨xb, 2, none⟩ = some (.slice q12.A2 x.ps.length q12.c2) ∧ w'.cell? ⟨xb, 3, none⟩ = some (.slice q12.A3 x.gs.length q12.c3) ∧ w'.cell? ⟨xb, 4, none⟩ = some (.slice q12.A4 x.ds.length q12.c4)) ∧ (w'.cell? ⟨nb, 0, none⟩ = some (.int .i64 x.h) ∧ w'.cell? ⟨nb, 1, none⟩ = some (.slice q.A1 x.ks.length q.c1) ∧ w'.cell? ⟨nb, 2, none⟩ = some (.slice q.A2 x.ps.length q.c2) ∧ w'.cell? ⟨nb, 3, none⟩ = some (.slice q.A3 x.gs.length q.c3) ∧ w'.cell? ⟨nb, 4, none⟩ = some (.slice q.A4 x.ds.length q.c4))) W13.drew := ⟨nd_cells hx13, nd_cells hb⟩
    refine wpU_region (k := 8) (S := (fun w' : World => (w'.cell? ⟨xb, 0, none⟩ = some (.int .i64 x.h) ∧ w'.cell? ⟨xb, 1, none⟩ = some (.slice q12.A1 x.ks.length q12.c1) ∧ w'.cell? ⟨xb, 2, none⟩ = some (.slice q12.A2 x.ps.length q12.c2) ∧ w'.cell? ⟨xb, 3, none⟩ = some (.slice q12.A3 x.gs.length q12.c3) ∧ w'.cell? ⟨xb, 4, none⟩ = some (.slice q12.A4 x.ds.length q12.c4)) ∧ (w'.cell? ⟨nb, 0, none⟩ = some (.int .i64 x.h) ∧ w'.cell? ⟨nb, 1, none⟩ = some (.slice q.A1 x.ks.length q.c1) ∧ w'.cell? ⟨nb, 2, none⟩ = some (.slice q.A2 x.ps.length q.c2) ∧ w'.cell? ⟨nb, 3, none⟩ = some (.slice q.A3 x.gs.length q.c3) ∧ w'.cell? ⟨nb, 4, none⟩ = some (.slice q.A4 x.ds.length q.c4)))) (by kernel_rfl) ?_
    refine wpU_take (i := 0) (v := ?_) rfl (by kernel_rfl) (by kernel_rfl) (fun _ _ _ h => h) _ _ _ _ (by kernel_rfl) (by kernel_rfl) (by kernel_rfl) (Or.inl ⟨by kernel_rfl, ?_⟩) hS ?_
    rotate_left
    · (intro w9 hS9; obtain ⟨s0, s1⟩ := hS9; go_simp); (try with_reducible rfl)
    try simp only [Act.put, List.getElem_toArray, List.getElem_cons_succ, List.getElem_cons_zero, List.setIfInBounds_toArray, List.set_cons_zero, List.set_cons_succ]
    refine wpU_take (i := 1) (v := ?_) rfl (by kernel_rfl) (by kernel_rfl) (fun _ _ _ h => h) _ _ _ _ (by kernel_rfl) (by kernel_rfl) (by kernel_rfl) (Or.inl ⟨by kernel_rfl, ?_⟩) hS ?_
    rotate_left
    · (intro w9 hS9; obtain ⟨s0, s1⟩ := hS9; go_simp); (try with_reducible rfl)
    try simp only [Act.put, List.getElem_toArray, List.getElem_cons_succ, List.getElem_cons_zero, List.setIfInBounds_toArray, List.set_cons_zero, List.set_cons_succ]
    refine wpU_take (i := 2) (v := ?_) rfl (by kernel_rfl) (by kernel_rfl) (fun _ _ _ h => h) _ _ _ _ (by kernel_rfl) (by kernel_rfl) (by kernel_rfl) (Or.inl ⟨by kernel_rfl, ?_⟩) hS ?_
    rotate_left
    · (intro w9 hS9; obtain ⟨s0, s1⟩ := hS9; go_simp); (try with_reducible rfl)
    try simp only [Act.put, List.getElem_toArray, List.getElem_cons_succ, List.getElem_cons_zero, List.setIfInBounds_toArray, List.set_cons_zero, List.set_cons_succ]
    refine wpU_take (i := 3) (v := ?_) rfl (by kernel_rfl) (by kernel_rfl) (fun _ _ _ h => h) _ _ _ _ (by kernel_rfl) (by kernel_rfl) (by kernel_rfl) (Or.inl ⟨by kernel_rfl, ?_⟩) hS ?_
    rotate_left
    · (intro w9 hS9; obtain ⟨s0, s1⟩ := hS9; go_simp); (try with_reducible rfl)
    try simp only [Act.put, List.getElem_toArray, List.getElem_cons_succ, List.getElem_cons_zero, List.setIfInBounds_toArray, List.set_cons_zero, List.set_cons_succ]
    refine wpU_take (i := 5) (v := ?_) rfl (by kernel_rfl) (by kernel_rfl) (fun _ _ _ h => h) _ _ _ _ (by kernel_rfl) (by kernel_rfl) (by kernel_rfl) (Or.inl ⟨by kernel_rfl, ?_⟩) hS ?_
    rotate_left
    · (intro w9 hS9; obtain ⟨s0, s1⟩ := hS9; go_simp); (try with_reducible rfl)
    try simp only [Act.put, List.getElem_toArray, List.getElem_cons_succ, List.getElem_cons_zero, List.setIfInBounds_toArray, List.set_cons_zero, List.set_cons_succ]
    refine wpU_next (i := 4) rfl (by kernel_rfl) (fun K hK => ?_)
    go_simp
    refine (lawback_ok _ q12 x (by have := (may_lens HM.out).2.2; omega) W13.drew hV12).mono ?_
    rintro e w14 ⟨q14, rfl, hV14, hf14⟩
    replace hb := hb.fr hf14 fun h => h
    replace hV := hV.nil hf14
    replace hx13 := hx13.fr hf14 fun h => h
    replace hfr := hfr.then hf14
    have hS14 : (fun w' : World => (w'.cell? ⟨xb, 0, none⟩ = some (.int .i64 x.h) ∧ w'.cell? ⟨xb, 1, none⟩ = some (.slice q12.A1 x.ks.length q12.c1) ∧ w'.cell? ⟨xb, 2, none⟩ = some (.slice q12.A2 x.ps.length q12.c2) ∧ w'.cell? ⟨xb, 3, none⟩ = some (.slice q12.A3 x.gs.length q12.c3) ∧ w'.cell? ⟨xb, 4, none⟩ = some (.slice q12.A4 x.ds.length q12.c4)) ∧ (w'.cell? ⟨nb, 0, none⟩ = some (.int .i64 x.h) ∧ w'.cell? ⟨nb, 1, none⟩ = some (.slice q.A1 x.ks.length q.c1) ∧ w'.cell? ⟨nb, 2, none⟩ = some (.slice q.A2 x.ps.length q.c2) ∧ w'.cell? ⟨nb, 3, none⟩ = some (.slice q.A3 x.gs.length q.c3) ∧ w'.cell? ⟨nb, 4, none⟩ = some (.slice q.A4 x.ds.length q.c4))) w14 := ⟨nd_cells hx13, nd_cells hb⟩
    refine hK.out _ _ (fun _ => hS14) ?_
    clear hK K
    try simp only [Act.put, List.getElem_toArray, List.getElem_cons_succ, List.getElem_cons_zero, List.setIfInBounds_toArray, List.set_cons_zero, List.set_cons_succ]
    refine wpU_next (i := 6) rfl (by kernel_rfl) (fun K hK => ?_)
    go_simp
    refine (refsame_ok _ _ q14 q x (may_lens HM.out).2.1 w14 hV14 hV).mono ?_
    rintro e w15 ⟨rfl, hf15⟩
    replace hb := hb.fr hf15 fun h => h
    replace hx13 := hx13.fr hf15 fun h => h
    replace hfr := hfr.then hf15
    have hS15 : (fun w' : World => (w'.cell? ⟨xb, 0, none⟩ = some (.int .i64 x.h) ∧ w'.cell? ⟨xb, 1, none⟩ = some (.slice q12.A1 x.ks.length q12.c1) ∧ w'.cell? ⟨xb, 2, none⟩ = some (.slice q12.A2 x.ps.length q12.c2) ∧ w'.cell? ⟨xb, 3, none⟩ = some (.slice q12.A3 x.gs.length q12.c3) ∧ w'.cell? ⟨xb, 4, none⟩ = some (.slice q12.A4 x.ds.length q12.c4)) ∧ (w'.cell? ⟨nb, 0, none⟩ = some (.int .i64 x.h) ∧ w'.cell? ⟨nb, 1, none⟩ = some (.slice q.A1 x.ks.length q.c1) ∧ w'.cell? ⟨nb, 2, none⟩ = some (.slice q.A2 x.ps.length q.c2) ∧ w'.cell? ⟨nb, 3, none⟩ = some (.slice q.A3 x.gs.length q.c3) ∧ w'.cell? ⟨nb, 4, none⟩ = some (.slice q.A4 x.ds.length q.c4))) w15 := ⟨nd_cells hx13, nd_cells hb⟩
    refine hK.out _ _ (fun _ => hS15) ?_
    clear hK K
    try simp only [Act.put, List.getElem_toArray, List.getElem_cons_succ, List.getElem_cons_zero, List.setIfInBounds_toArray, List.set_cons_zero, List.set_cons_succ]
    refine wpU_take (i := 7) (v := ?_) rfl (by kernel_rfl) (by kernel_rfl) (fun _ _ _ h => h) _ _ _ _ (by kernel_rfl) (by kernel_rfl) (by kernel_rfl) (Or.inl ⟨by kernel_rfl, ?_⟩) hS15 ?_
    rotate_left
    · (intro w9 hS9; obtain ⟨s0, s1⟩ := hS9; go_simp); (try with_reducible rfl)
    try simp only [Act.put, List.getElem_toArray, List.getElem_cons_succ, List.getElem_cons_zero, List.setIfInBounds_toArray, List.set_cons_zero, List.set_cons_succ]
    refine wpU_next (i := 8) rfl (by kernel_rfl) (fun K hK => ?_)
    go_simp
    refine hK.out _ _ (fun h => absurd rfl h.1) ?_
    refine wpU_done (by kernel_rfl) ?_ _
    clear hK K
    go_wp2
    go_ret
    exact ⟨rfl, hfr⟩
end Go.Proofs.Ytidpabcfcdiecaa

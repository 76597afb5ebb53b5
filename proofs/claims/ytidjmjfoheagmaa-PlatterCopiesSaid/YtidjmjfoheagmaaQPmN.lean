/- The reference's Platter: New. -/
import Derived.Test.YtidjmjfoheagmaaQPmS
set_option linter.unusedSimpArgs false
set_option linter.unusedVariables false
namespace Go.Proofs.Ytidjmjfoheagmaa
open Go.RowKit
theorem m_new_bad (n : Int) (hn : n < 64 ∨ 8192 < n) (w : World) :
    Calls Try.prog 21 #[.int .i64 n] w fun e w' => e = .returned (.tuple #[.pointer none, .int .i64 1]) ∧ w = w' := by
  by_cases h1 : n < 64
  · clear hn
    go_enter Try.func21, Try.ntmps21
    go_wp2
    go_ret2
    exact ⟨rfl, rfl⟩
  · have h2 : 8192 < n := by omega
    clear hn
    go_enter Try.func21, Try.ntmps21
    go_wp2
    go_ret2
    exact ⟨rfl, rfl⟩
theorem m_new (n : Nat) (h1 : 64 ≤ n) (h2 : n ≤ 8192) (w : World) :
    Calls Try.prog 21 #[.int .i64 (n : Int)] w fun e w' => ∃ mb, e = .returned (.tuple #[.pointer (some ⟨mb, 0, none⟩), .int .i64 0]) ∧ IsM w' (New w) mb (fresh n) ∧ Fr Nil w w' := by
  have d1 : ¬ (n : Int) < 64 := by omega
  have d2 : ¬ (8192 : Int) < n := by omega
  go_enter Try.func21, Try.ntmps21
  go_wp2_with fail
  obtain ⟨W1, hW1⟩ : ∃ W1, W1 = w.alloc (.cells #[.slice none 0 0, .slice none 0 0, .slice none 0 0, .int .i64 0, .int .i64 0, .int .i64 0, .int .i64 0, .int .i64 0, .int .i64 0, .int .i64 0, .int .i64 0] 64) := ⟨_, rfl⟩
  have hb1 : Blk W1 w.heap.size (pcs (.slice none 0 0) (.slice none 0 0) (.slice none 0 0) (fun _ => 0) (fun _ => 0)) 64 := by rw [hW1]; exact Blk.new _ _ _
  have hf1 : Fr Nil w W1 := by rw [hW1]; exact (Fr.refl _ _).alloc _
  rw [← hW1]
  clear hW1
  have hP1 : IsM W1 (New w) w.heap.size (fresh 0) := ⟨Nat.le_refl _, _, _, _, hb1, ⟨[], Row.nil _ _ _ _, fun i x h => by simp [fresh] at h⟩, CacM.nil _ _, VT.nil _ _ _ _⟩
  clear hb1
  go_loopw [5] (fun v5 wr => ∃ i : Nat, v5 = .int .i64 i ∧ i ≤ n ∧ Fr Nil w wr ∧ IsM wr (New w) w.heap.size (fresh i)) (fun v5 _ => n - (intOf v5).toNat)
  case atStart => exact ⟨0, rfl, by omega, hf1, hP1⟩
  case round =>
    obtain ⟨i, rfl, hi, hfr, g0, vb, vc, vf, g1, ⟨bs, g2, g2'⟩, g3, g4⟩ := hrel
    have hbi : (fresh i).bl.length = i := by simp [fresh]
    rw [hbi] at g2
    by_cases hlt : i < n
    · have hc0 : wr.cell? ⟨w.heap.size, 0, none⟩ = some vb := g1.cell 0
      obtain ⟨Ab, kb, rfl⟩ := g2.slice
      have hne : (Value.slice Ab i kb).ownBlock ≠ some w.heap.size := g2.apart_blk g1 (by decide)
      have hS : (fun w' => w'.cell? ⟨w.heap.size, 0, none⟩ = some (.slice Ab i kb)) wr.drew := hc0
      go_wp2_with fail
      refine wpU_region (k := 10) (S := fun w' => w'.cell? ⟨w.heap.size, 0, none⟩ = some (.slice Ab i kb)) (by kernel_rfl) ?_
      refine wpU_take (i := 0) (v := ?_) rfl (by kernel_rfl) (by kernel_rfl) (fun _ _ _ h => h) _ _ _ _ (by kernel_rfl) (by kernel_rfl) (by kernel_rfl) (Or.inl ⟨by kernel_rfl, ?_⟩) hS ?_
      rotate_left
      · (intro w9 hS9; obtain s0 := hS9; go_simp); (try with_reducible rfl)
      try simp only [Act.put, List.getElem_toArray, List.getElem_cons_succ, List.getElem_cons_zero, List.setIfInBounds_toArray, List.set_cons_zero, List.set_cons_succ]
      refine wpU_take (i := 1) (v := ?_) rfl (by kernel_rfl) (by kernel_rfl) (fun _ _ _ h => h) _ _ _ _ (by kernel_rfl) (by kernel_rfl) (by kernel_rfl) (Or.inl ⟨by kernel_rfl, ?_⟩) hS ?_
      rotate_left
      · (intro w9 hS9; obtain s0 := hS9; go_simp); (try with_reducible rfl)
      try simp only [Act.put, List.getElem_toArray, List.getElem_cons_succ, List.getElem_cons_zero, List.setIfInBounds_toArray, List.set_cons_zero, List.set_cons_succ]
      refine wpU_take (i := 2) (v := ?_) rfl (by kernel_rfl) (by kernel_rfl) (fun _ _ _ h => h) _ _ _ _ (by kernel_rfl) (by kernel_rfl) (by kernel_rfl) (Or.inl ⟨by kernel_rfl, ?_⟩) hS ?_
      rotate_left
      · (intro w9 hS9; obtain s0 := hS9; go_simp); (try with_reducible rfl)
      try simp only [Act.put, List.getElem_toArray, List.getElem_cons_succ, List.getElem_cons_zero, List.setIfInBounds_toArray, List.set_cons_zero, List.set_cons_succ]
      refine wpU_take (i := 3) (v := ?_) rfl (by kernel_rfl) (by kernel_rfl) (fun _ _ _ h => h) _ _ _ _ (by kernel_rfl) (by kernel_rfl) (by kernel_rfl) (Or.inl ⟨by kernel_rfl, ?_⟩) hS ?_
      rotate_left
      · (intro w9 hS9; obtain s0 := hS9; go_simp); (try with_reducible rfl)
      try simp only [Act.put, List.getElem_toArray, List.getElem_cons_succ, List.getElem_cons_zero, List.setIfInBounds_toArray, List.set_cons_zero, List.set_cons_succ]
      refine wpU_take (i := 4) (v := ?_) rfl (by kernel_rfl) (by kernel_rfl) (fun _ _ _ h => h) _ _ _ _ (by kernel_rfl) (by kernel_rfl) (by kernel_rfl) (Or.inl ⟨by kernel_rfl, ?_⟩) hS ?_
      rotate_left
      · (intro w9 hS9; obtain s0 := hS9; go_simp); (try with_reducible rfl)
      try simp only [Act.put, List.getElem_toArray, List.getElem_cons_succ, List.getElem_cons_zero, List.setIfInBounds_toArray, List.set_cons_zero, List.set_cons_succ]
      refine wpU_next (i := 5) rfl (by kernel_rfl) (fun K hK => ?_)
      go_simp
      obtain ⟨W5, hW5⟩ : ∃ W5, W5 = wr.drew.alloc (.cells (madeCells #[.int .u8 0] 64) 5) := ⟨_, rfl⟩
      have hr5 : Row W5 (New w) 5 1 (.slice (some ⟨wr.heap.size, 0, none⟩) 64 64) 64 (bys (List.replicate 64 0)) := by rw [hW5]; exact (zeros_row 64 (by omega) wr.drew).mono fun k hk => by have := hfr.size; have : wr.heap.size ≤ k := hk; unfold New; omega
      have hf5 : Fr Nil wr W5 := by rw [hW5]; exact ((Fr.refl _ _).drew).alloc _
      have hs5 : W5.heap.size = wr.heap.size + 1 := by rw [hW5]; simp
      refine hK.out _ _ (fun _ => by show World.cell? (wr.drew.alloc _) _ = _; rw [← hW5]; exact hf5.cell hc0 id) ?_
      show wpU _ _ _ _ _ _ _ _ _ (wr.drew.alloc _)
      rw [← hW5]
      clear hW5
      clear hK K
      try simp only [Act.put, List.getElem_toArray, List.getElem_cons_succ, List.getElem_cons_zero, List.setIfInBounds_toArray, List.set_cons_zero, List.set_cons_succ]
      refine wpU_next (i := 6) rfl (by kernel_rfl) (fun K hK => ?_)
      go_simp
      obtain ⟨W6, hW6⟩ : ∃ W6, W6 = W5.alloc (.cells #[.slice (some ⟨wr.heap.size, 0, none⟩) 64 64] 22) := ⟨_, rfl⟩
      have hv6 : View W6 (New W5) 1 (.slice (some ⟨W5.heap.size, 0, none⟩) 1 1) 1 [.slice (some ⟨wr.heap.size, 0, none⟩) 64 64] := by rw [hW6]; exact View.lit W5 #[.slice (some ⟨wr.heap.size, 0, none⟩) 64 64] 22 (0, 0) 1 rfl (by omega)
      rw [hs5] at hv6
      have hf6 : Fr Nil wr W6 := by rw [hW6]; exact hf5.alloc _
      have hf56 : Fr Nil W5 W6 := by rw [hW6]; exact (Fr.refl _ _).alloc _
      refine hK.out _ _ (fun _ => by rw [← hW6]; exact hf6.cell hc0 id) ?_
      rw [← hW6]
      clear hW6
      clear hK K
      try simp only [Act.put, List.getElem_toArray, List.getElem_cons_succ, List.getElem_cons_zero, List.setIfInBounds_toArray, List.set_cons_zero, List.set_cons_succ]
      refine wpU_next (i := 7) rfl (by kernel_rfl) (fun K hK => ?_)
      refine step_app_view (by rfl) _ _ 60 (by rfl) (.slice none 0 0) 24 Try.underlying60 info_bytes (by rfl) (by decide) (g2.frS hf6 fun _ _ h => h) (by rfl) hv6 (by rfl) (by simp [Value.oneCell']) (by omega) (by decide) ?_
      intro A7 cap7 w7 hrow7 hf7
      have hS7 : (fun w' => w'.cell? ⟨w.heap.size, 0, none⟩ = some (.slice Ab i kb)) w7 := hf7.cell (hf6.cell hc0 id) hne
      refine hK.out _ _ (fun _ => hS7) ?_
      clear hK K
      try simp only [Act.put, List.getElem_toArray, List.getElem_cons_succ, List.getElem_cons_zero, List.setIfInBounds_toArray, List.set_cons_zero, List.set_cons_succ]
      refine wpU_take (i := 8) (v := ?_) rfl (by kernel_rfl) (by kernel_rfl) (fun _ _ _ h => h) _ _ _ _ (by kernel_rfl) (by kernel_rfl) (by kernel_rfl) (Or.inl ⟨by kernel_rfl, ?_⟩) hS7 ?_
      rotate_left
      · (intro w9 hS9; obtain s0 := hS9; go_simp); (try with_reducible rfl)
      try simp only [Act.put, List.getElem_toArray, List.getElem_cons_succ, List.getElem_cons_zero, List.setIfInBounds_toArray, List.set_cons_zero, List.set_cons_succ]
      refine wpU_take (i := 9) (v := ?_) rfl (by kernel_rfl) (by kernel_rfl) (fun _ _ _ h => h) _ _ _ _ (by kernel_rfl) (by kernel_rfl) (by kernel_rfl) (Or.inl ⟨by kernel_rfl, ?_⟩) hS7 ?_
      rotate_left
      · (intro w9 hS9; obtain s0 := hS9; go_simp); (try with_reducible rfl)
      try simp only [Act.put, List.getElem_toArray, List.getElem_cons_succ, List.getElem_cons_zero, List.setIfInBounds_toArray, List.set_cons_zero, List.set_cons_succ]
      have g7 := (g1.fr hf6 (fun h => h)).fr hf7 hne
      have hz7 : w7.frozen? ⟨w.heap.size, 0, none⟩ = false := g7.frozen 0
      refine wpU_next (i := 10) rfl (by kernel_rfl) (fun K hK => ?_)
      go_simp
      refine hK.out _ _ (fun h => absurd rfl h.1) ?_
      refine wpU_done (by kernel_rfl) ?_ _
      clear hK K
      have hszr := hfr.size
      have hsz6 := hf6.size
      go_wp2
      go_roundw
      case rel =>
        have hf07 : Fr (fun k => (Value.slice Ab i kb).ownBlock = some k) wr w7 := hf6.nil.then hf7
        have hY : ∀ k, True → k < wr.heap.size → (Value.slice Ab i kb).ownBlock = some k → Typ wr k 22 := fun k _ _ hk => g2.own_typ hk
        have hfp : Fr (fun k => k = w.heap.size) w7 (w7.setCell ⟨w.heap.size, 0, none⟩ (.slice A7 (i + 1) cap7)) := (Fr.refl (fun k => k = w.heap.size) w7).setCell (a := ⟨w.heap.size, 0, none⟩) (.inl rfl) _
        refine ⟨i + 1, by go_num, by omega, (hfr.trans hf07 (fun k hk => .inr (g2.2 k hk))).setCell (a := ⟨w.heap.size, 0, none⟩) (.inr (Nat.le_refl _)) _, IsM.own (p := fresh (i + 1)) (Nat.le_refl _) g7 hfp (g7.set 0 _) ?_ (CacM.fr g3 hf07 hY (by decide) (by decide)) (VT.fr g4 hf07 hY (by decide))⟩
        have hbl : (fresh (i + 1)).bl = (fresh i).bl ++ [List.replicate 64 0] := by simp [fresh, List.replicate_succ']
        rw [hbl]
        have hlen : bs.length = i := by have := g2.length; omega
        refine ⟨bs ++ [.slice (some ⟨wr.heap.size, 0, none⟩) 64 64], ?_, ?_⟩
        · rw [List.length_append, hbi, List.length_singleton]
          exact hrow7.mono fun k hk => hk.elim (fun h => g2.2 k h) (fun h => by unfold New; omega)
        · intro j x hj
          by_cases hji : j < i
          · rw [List.getElem?_append_left (by omega)] at hj
            obtain ⟨u, hu, hd⟩ := g2' j x hj
            exact ⟨u, by rw [List.getElem?_append_left (by omega)]; exact hu, Dat.fr hd hf07 hY (by decide)⟩
          · rw [List.getElem?_append_right (by omega), hbi] at hj
            have h0 : j - i = 0 := by
              have := (List.getElem?_eq_some_iff.1 hj).1
              simpa using this
            rw [h0] at hj
            simp only [List.getElem?_cons_zero, Option.some.injEq] at hj
            subst hj
            refine ⟨_, by rw [List.getElem?_append_right (by omega), hlen, h0]; rfl, by simp, by intro c hc; simp at hc; omega, ?_⟩
            have h5 : VT W6 (New w) 5 1 (.slice (some ⟨wr.heap.size, 0, none⟩) 64 64) 64 (bys (List.replicate 64 0)) := VT.fr (Y := 4) hr5.vt hf56 (fun _ _ _ h => h.elim) (by decide)
            exact VT.fr (Y := 22) h5 hf7 (fun k _ _ hk => (g2.own_typ hk).fr hf6 id) (by decide)
      case measure => simp [intOf]; omega
    · have hin : i = n := by omega
      subst hin
      go_wp2
      go_ret2
      exact ⟨w.heap.size, rfl, ⟨g0, vb, vc, vf, g1, ⟨bs, by rw [hbi]; exact g2, g2'⟩, g3, g4⟩, hfr⟩
end Go.Proofs.Ytidjmjfoheagmaa

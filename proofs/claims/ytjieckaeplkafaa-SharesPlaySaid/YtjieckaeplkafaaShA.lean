/- Shares: More, Less. Conditions: the bounds of its lists. -/
import Derived.Test.YtjieckaeplkafaaShW
set_option linter.unusedSimpArgs false
set_option linter.unusedVariables false
namespace Go.Proofs.Ytjieckaeplkafaa
open Go.RowKit
def moreU (U : List Us) (i : Int) : List Us := if usesI U i = 0 then U else uput U ⟨(ux U i).a, (ux U i).n, (ux U i).k + 1⟩
def lessU (U : List Us) (i : Int) : List Us := if usesI U i = 0 then U else if usesI U i = 1 then udel U i else uput U ⟨(ux U i).a, (ux U i).n, (ux U i).k - 1⟩
def lessL (U L : List Us) (i : Int) : List Us := if usesI U i = 1 then uput L (ux U i) else L
theorem uput_length (U : List Us) (u : Us) : (uput U u).length ≤ U.length + 1 := by unfold uput; split <;> simp
theorem udel_length (U : List Us) (i : Int) : (udel U i).length ≤ U.length := List.length_filter_le _ _
theorem ux_pos {U : List Us} {i : Int} (h : usesI U i ≠ 0) : uget U i = some (ux U i) ∧ ((ux U i).a : Int) = i ∧ ux U i ∈ U := by
  cases hg : uget U i with
  | none => exact absurd (by unfold usesI; rw [hg]) h
  | some u =>
    have : ux U i = u := by unfold ux; rw [hg]; rfl
    rw [this]
    exact ⟨rfl, (uget_mem hg).2, (uget_mem hg).1⟩
set_option maxRecDepth 20000 in
theorem more_ok (T : Nat → Prop) (sb pb : Nat) (U L H : List Us) (A : List Rn) (w : World) (h : IsS w T sb pb U L H A) (i : Int) (hi : (Lit.int .i64 i).wf = true) (hU : U.length ≤ 100000) (hk : ∀ u ∈ U, u.k ≤ 1000000) :
    Calls Try.prog 12 #[.pointer (some ⟨sb, 0, none⟩), .int .i64 i] w fun e w' =>
      e = .returned (.bool (decide (usesI U i ≠ 0))) ∧ (∃ T', IsS w' T' sb pb (moreU U i) L H A ∧ ∀ k, T' k → T k ∨ w.heap.size ≤ k) ∧ Fr T w w' := by
  obtain ⟨⟨ub, lb, hb, v, hs⟩, hlt⟩ := id h
  by_cases h0 : usesI U i = 0
  · have hm : moreU U i = U := if_pos h0
    rw [hm]
    go_enter Try.func12, Try.ntmps12
    go_wp2_with fail
    refine (uses_ok T sb pb U L H A w h i hi).mono ?_
    rintro e w1 ⟨rfl, rfl⟩
    rw [h0]
    go_wp2
    go_ret
    exact ⟨by simp [h0], h.keep (Fr.refl _ _), Fr.refl _ _⟩
  · have hux := ux_pos h0
    obtain ⟨⟨a, n, k⟩, hu⟩ : ∃ u, u = ux U i := ⟨_, rfl⟩
    rw [usesI_ux] at h0 ⊢
    unfold moreU
    rw [usesI_ux]
    rw [← hu] at h0 hux ⊢
    dsimp only at h0 hux ⊢
    obtain ⟨hg, rfl, hmem⟩ := hux
    rw [if_neg h0]
    have hk9 : k ≤ 1000000 := hk _ hmem
    have hlk := look_use hs.u hi
    rw [← hu] at hlk
    dsimp only at hlk
    have huk : usesI U (a : Int) = k := by rw [usesI_ux, ← hu]
    have hc1 : w.cell? ⟨sb, 1, none⟩ = some (.map (some ub)) := hs.blk.cell 1
    have hk0 : (((k : Nat) : Int) == 0) = false := by simp; omega
    have Hwi := hid hi
    have Hs := hid hs
    have Hu := hid hu
    have Hn0 := hid h0
    clear hs hi hu hmem h0
    go_enter Try.func12, Try.ntmps12
    go_wp2_with fail
    refine (uses_ok T sb pb U L H A w h _ Hwi.out).mono ?_
    rintro e w1 ⟨rfl, rfl⟩
    rw [huk]
    go_wp2_with fail
    obtain ⟨W1, hW1⟩ : ∃ W1, W1 = w.alloc (.cells #[.int .i64 (a : Nat), .int .i64 (n : Nat), .int .i64 ((k : Int) + 1)] 60) := ⟨_, rfl⟩
    have f1 : Fr Nil w W1 := by rw [hW1]; exact (Fr.refl _ _).alloc _
    have hX : Blk W1 w.heap.size #[.int .i64 (a : Nat), .int .i64 (n : Nat), .int .i64 ((k : Int) + 1)] 60 := by rw [hW1]; exact Blk.new _ _ _
    rw [← hW1]
    clear hW1
    have Hs1 := hid (Hs.out.fr f1 fun _ _ h => h)
    have hB := hid Hs1.out.blk
    obtain ⟨xb, hxb⟩ : ∃ xb, xb = w.heap.size := ⟨_, rfl⟩
    rw [← hxb] at hX ⊢
    replace hX := hid hX
    have F1 := hid f1
    clear hlk hc1 hxb f1
    have hS : (fun w' : World => w'.cell? ⟨sb, 1, none⟩ = some (.map (some ub)) ∧ w'.cell? ⟨xb, 0, none⟩ = some (.int .i64 (a : Nat)) ∧ w'.cell? ⟨xb, 1, none⟩ = some (.int .i64 (n : Nat)) ∧ w'.cell? ⟨xb, 2, none⟩ = some (.int .i64 ((k : Int) + 1))) W1.drew := ⟨hB.out.drew.cell 1, hX.out.drew.cell 0, hX.out.drew.cell 1, hX.out.drew.cell 2⟩
    obtain ⟨w9, hrun9, k9, f9⟩ := KV.store (P := Try.prog) (v := .agg #[.int .i64 (a : Nat), .int .i64 (n : Nat), .int .i64 ((k : Int) + 1)]) (Hs1.out.u).drew Try.underlying3 Try.underlying55 Hwi.out (by rw [show (Value.agg #[.int .i64 (a : Nat), .int .i64 (n : Nat), .int .i64 ((k : Int) + 1)]) = uv ⟨a, n, k + 1⟩ from by simp [uv], mput_ent U ⟨a, n, k + 1⟩, List.length_map]; have := uput_length U ⟨a, n, k + 1⟩; omega)
    have K9 := hid k9
    have F9 := hid (show Fr (fun k => k = ub) W1 w9 from ((Fr.refl _ _).drew).then f9)
    clear k9 f9
    refine wpU_region (k := 6) (S := (fun w' : World => w'.cell? ⟨sb, 1, none⟩ = some (.map (some ub)) ∧ w'.cell? ⟨xb, 0, none⟩ = some (.int .i64 (a : Nat)) ∧ w'.cell? ⟨xb, 1, none⟩ = some (.int .i64 (n : Nat)) ∧ w'.cell? ⟨xb, 2, none⟩ = some (.int .i64 ((k : Int) + 1)))) (by kernel_rfl) ?_
    refine wpU_take (i := 0) (v := ?_) rfl (by kernel_rfl) (by kernel_rfl) (fun _ _ _ h => h) _ _ _ _ (by kernel_rfl) (by kernel_rfl) (by kernel_rfl) (Or.inl ⟨by kernel_rfl, ?_⟩) hS ?_
    rotate_left
    · (intro w9 hS9; obtain ⟨s0, s1, s2, s3⟩ := hS9; go_simp); (try with_reducible rfl)
    try simp only [Act.put, List.getElem_toArray, List.getElem_cons_succ, List.getElem_cons_zero, List.setIfInBounds_toArray, List.set_cons_zero, List.set_cons_succ]
    refine wpU_take (i := 1) (v := ?_) rfl (by kernel_rfl) (by kernel_rfl) (fun _ _ _ h => h) _ _ _ _ (by kernel_rfl) (by kernel_rfl) (by kernel_rfl) (Or.inl ⟨by kernel_rfl, ?_⟩) hS ?_
    rotate_left
    · (intro w9 hS9; obtain ⟨s0, s1, s2, s3⟩ := hS9; go_simp); (try with_reducible rfl)
    try simp only [Act.put, List.getElem_toArray, List.getElem_cons_succ, List.getElem_cons_zero, List.setIfInBounds_toArray, List.set_cons_zero, List.set_cons_succ]
    refine wpU_take (i := 2) (v := ?_) rfl (by kernel_rfl) (by kernel_rfl) (fun _ _ _ h => h) _ _ _ _ (by kernel_rfl) (by kernel_rfl) (by kernel_rfl) (Or.inl ⟨by kernel_rfl, ?_⟩) hS ?_
    rotate_left
    · (intro w9 hS9; obtain ⟨s0, s1, s2, s3⟩ := hS9; go_simp); (try with_reducible rfl)
    try simp only [Act.put, List.getElem_toArray, List.getElem_cons_succ, List.getElem_cons_zero, List.setIfInBounds_toArray, List.set_cons_zero, List.set_cons_succ]
    refine wpU_take (i := 3) (v := ?_) rfl (by kernel_rfl) (by kernel_rfl) (fun _ _ _ h => h) _ _ _ _ (by kernel_rfl) (by kernel_rfl) (by kernel_rfl) (Or.inl ⟨by kernel_rfl, ?_⟩) hS ?_
    rotate_left
    · (intro w9 hS9; obtain ⟨s0, s1, s2, s3⟩ := hS9; go_simp); (try with_reducible rfl)
    try simp only [Act.put, List.getElem_toArray, List.getElem_cons_succ, List.getElem_cons_zero, List.setIfInBounds_toArray, List.set_cons_zero, List.set_cons_succ]
    refine wpU_take (i := 4) (v := ?_) rfl (by kernel_rfl) (by kernel_rfl) (fun _ _ _ h => h) _ _ _ _ (by kernel_rfl) (by kernel_rfl) (by kernel_rfl) (Or.inl ⟨by kernel_rfl, ?_⟩) hS ?_
    rotate_left
    · (intro w9 hS9; obtain ⟨s0, s1, s2, s3⟩ := hS9; go_simp); (try with_reducible rfl)
    try simp only [Act.put, List.getElem_toArray, List.getElem_cons_succ, List.getElem_cons_zero, List.setIfInBounds_toArray, List.set_cons_zero, List.set_cons_succ]
    refine wpU_take (i := 5) (v := ?_) rfl (by kernel_rfl) (by kernel_rfl) (fun _ _ _ h => h) _ _ _ _ (by kernel_rfl) (by kernel_rfl) (by kernel_rfl) (Or.inl ⟨by kernel_rfl, ?_⟩) hS ?_
    rotate_left
    · (intro w9 hS9; obtain ⟨s0, s1, s2, s3⟩ := hS9; go_simp); (try with_reducible rfl)
    try simp only [Act.put, List.getElem_toArray, List.getElem_cons_succ, List.getElem_cons_zero, List.setIfInBounds_toArray, List.set_cons_zero, List.set_cons_succ]
    refine wpU_next (i := 6) rfl (by kernel_rfl) (fun K hK => ?_)
    go_simp
    refine hK.out _ _ (fun h => absurd rfl h.1) ?_
    refine wpU_done (by kernel_rfl) ?_ _
    clear hK K
    clear hS
    go_wp2
    go_ret
    refine ⟨by simp [Hn0.out], ?_, (F1.out.nil (S := T)).then (F9.out.mono fun k hk => by rw [hk]; exact Hs.out.tu)⟩
    have hk9 := K9.out
    rw [show (Value.agg #[.int .i64 (a : Nat), .int .i64 (n : Nat), .int .i64 ((k : Int) + 1)]) = uv ⟨a, n, k + 1⟩ from by simp [uv], mput_ent U ⟨a, n, k + 1⟩] at hk9
    have hs1 := Hs1.out
    have hf9 := F9.out
    refine Shp.of (ub := ub) (lb := lb) (hb := hb) (v := v) (Shp.mono (T := T) ⟨?_, hk9, ?_, ?_, ?_, hs1.ul, hs1.uh, hs1.lh, hs1.ts, hs1.tu, hs1.tl, hs1.th⟩ fun k hk => .inl hk)
    · exact hs1.blk.fr hf9 (blk_kv hs1.blk hs1.u)
    · exact hs1.l.fr hf9 fun h => hs1.ul h.symm
    · exact hs1.h.fr hf9 fun h => hs1.uh h.symm
    · exact hs1.r.fr hf9 fun k hk h => row_kv hs1.r hs1.u (by rw [hk, h])
set_option maxRecDepth 20000 in
theorem less_ok (T : Nat → Prop) (sb pb : Nat) (U L H : List Us) (A : List Rn) (w : World) (h : IsS w T sb pb U L H A) (i : Int) (hi : (Lit.int .i64 i).wf = true) (hU : U.length ≤ 100000) (hL : L.length ≤ 100000) (hk : ∀ u ∈ U, u.k ≤ 1000000) :
    Calls Try.prog 13 #[.pointer (some ⟨sb, 0, none⟩), .int .i64 i] w fun e w' =>
      e = .returned (.bool (decide (usesI U i ≠ 0))) ∧ (∃ T', IsS w' T' sb pb (lessU U i) (lessL U L i) H A ∧ ∀ k, T' k → T k ∨ w.heap.size ≤ k) ∧ Fr T w w' := by
  obtain ⟨⟨ub, lb, hb, v, hs⟩, hlt⟩ := id h
  by_cases h0 : usesI U i = 0
  · have hm : lessU U i = U := if_pos h0
    have hm2 : lessL U L i = L := if_neg (by omega)
    rw [hm, hm2]
    go_enter Try.func13, Try.ntmps13
    go_wp2_with fail
    refine (uses_ok T sb pb U L H A w h i hi).mono ?_
    rintro e w1 ⟨rfl, rfl⟩
    rw [h0]
    go_wp2
    go_ret
    exact ⟨by simp [h0], h.keep (Fr.refl _ _), Fr.refl _ _⟩
  · have hux := ux_pos h0
    unfold lessL
    obtain ⟨⟨a, n, k⟩, hu⟩ : ∃ u, u = ux U i := ⟨_, rfl⟩
    rw [usesI_ux] at h0 ⊢
    unfold lessU
    rw [usesI_ux]
    rw [← hu] at h0 hux ⊢
    dsimp only at h0 hux ⊢
    obtain ⟨hg, rfl, hmem⟩ := hux
    rw [if_neg h0]
    have hk9 : k ≤ 1000000 := hk _ hmem
    have hlk := look_use hs.u hi
    rw [← hu] at hlk
    dsimp only at hlk
    have huk : usesI U (a : Int) = k := by rw [usesI_ux, ← hu]
    have hc1 : w.cell? ⟨sb, 1, none⟩ = some (.map (some ub)) := hs.blk.cell 1
    have hk0 : (((k : Nat) : Int) == 0) = false := by simp; omega
    have Hwi := hid hi
    have Hs := hid hs
    have Hu := hid hu
    have Hn0 := hid h0
    clear hs hi hu hmem h0
    by_cases h1 : k = 1
    · rw [if_pos h1, if_pos h1]
      have hk1 : (((k : Nat) : Int) == 1) = true := by simp; omega
      have H1 := hid h1
      clear h1
      go_enter Try.func13, Try.ntmps13
      go_wp2_with fail
      refine (uses_ok T sb pb U L H A w h _ Hwi.out).mono ?_
      rintro e w1 ⟨rfl, rfl⟩
      rw [huk]
      go_upto_region 5 with (fail)
      obtain ⟨W1, hW1⟩ : ∃ W1, W1 = w.alloc (.cells #[.int .i64 (a : Nat), .int .i64 (n : Nat), .int .i64 (k : Nat)] 60) := ⟨_, rfl⟩
      have f1 : Fr Nil w W1 := by rw [hW1]; exact (Fr.refl _ _).alloc _
      have hX0 : Blk W1 w.heap.size #[.int .i64 (a : Nat), .int .i64 (n : Nat), .int .i64 (k : Nat)] 60 := by rw [hW1]; exact Blk.new _ _ _
      rw [← hW1]
      clear hW1
      have Hs1 := hid (Hs.out.fr f1 fun _ _ h => h)
      obtain ⟨xb, hxb⟩ : ∃ xb, xb = w.heap.size := ⟨_, rfl⟩
      rw [← hxb] at hX0 ⊢
      have hX1 := hid hX0
      have F1 := hid f1
      have hc1 : W1.cell? ⟨sb, 1, none⟩ = some (.map (some ub)) := Hs1.out.blk.cell 1
      clear hlk hxb f1 hX0
      go_wp2_with (at_delete; refine wp_mapdrop rfl _ _ rfl Try.underlying3 Try.underlying55 Hs1.out.u rfl rfl Hwi.out ?_)
      intro w2 hK2 hf2
      rw [mdel_ent] at hK2
      have K2 := hid hK2
      have F2 := hid hf2
      have hX := hid (hX1.out.fr hf2 (blk_kv hX1.out Hs1.out.u))
      have hB := hid (Hs1.out.blk.fr hf2 (blk_kv Hs1.out.blk Hs1.out.u))
      have L2 := hid (Hs1.out.l.fr hf2 fun h => Hs1.out.ul h.symm)
      clear hK2 hf2 hX1 hc1
      go_wp2_with fail
      have hS : (fun w' : World => w'.cell? ⟨sb, 2, none⟩ = some (.map (some lb)) ∧ w'.cell? ⟨xb, 0, none⟩ = some (.int .i64 (a : Nat)) ∧ w'.cell? ⟨xb, 1, none⟩ = some (.int .i64 (n : Nat)) ∧ w'.cell? ⟨xb, 2, none⟩ = some (.int .i64 (k : Nat))) w2.drew := ⟨hB.out.drew.cell 2, hX.out.drew.cell 0, hX.out.drew.cell 1, hX.out.drew.cell 2⟩
      obtain ⟨w9, hrun9, k9, f9⟩ := KV.store (P := Try.prog) (v := .agg #[.int .i64 (a : Nat), .int .i64 (n : Nat), .int .i64 (k : Nat)]) (L2.out).drew Try.underlying3 Try.underlying55 Hwi.out (by rw [show (Value.agg #[.int .i64 (a : Nat), .int .i64 (n : Nat), .int .i64 (k : Nat)]) = uv ⟨a, n, k⟩ from rfl, mput_ent L ⟨a, n, k⟩, List.length_map]; have := uput_length L ⟨a, n, k⟩; omega)
      have K9 := hid k9
      have F9 := hid (show Fr (fun k => k = lb) w2 w9 from ((Fr.refl _ _).drew).then f9)
      clear k9 f9
      refine wpU_region (k := 6) (S := (fun w' : World => w'.cell? ⟨sb, 2, none⟩ = some (.map (some lb)) ∧ w'.cell? ⟨xb, 0, none⟩ = some (.int .i64 (a : Nat)) ∧ w'.cell? ⟨xb, 1, none⟩ = some (.int .i64 (n : Nat)) ∧ w'.cell? ⟨xb, 2, none⟩ = some (.int .i64 (k : Nat)))) (by kernel_rfl) ?_
      refine wpU_take (i := 0) (v := ?_) rfl (by kernel_rfl) (by kernel_rfl) (fun _ _ _ h => h) _ _ _ _ (by kernel_rfl) (by kernel_rfl) (by kernel_rfl) (Or.inl ⟨by kernel_rfl, ?_⟩) hS ?_
      rotate_left
      · (intro w9 hS9; obtain ⟨s0, s1, s2, s3⟩ := hS9; go_simp); (try with_reducible rfl)
      try simp only [Act.put, List.getElem_toArray, List.getElem_cons_succ, List.getElem_cons_zero, List.setIfInBounds_toArray, List.set_cons_zero, List.set_cons_succ]
      refine wpU_take (i := 1) (v := ?_) rfl (by kernel_rfl) (by kernel_rfl) (fun _ _ _ h => h) _ _ _ _ (by kernel_rfl) (by kernel_rfl) (by kernel_rfl) (Or.inl ⟨by kernel_rfl, ?_⟩) hS ?_
      rotate_left
      · (intro w9 hS9; obtain ⟨s0, s1, s2, s3⟩ := hS9; go_simp); (try with_reducible rfl)
      try simp only [Act.put, List.getElem_toArray, List.getElem_cons_succ, List.getElem_cons_zero, List.setIfInBounds_toArray, List.set_cons_zero, List.set_cons_succ]
      refine wpU_take (i := 2) (v := ?_) rfl (by kernel_rfl) (by kernel_rfl) (fun _ _ _ h => h) _ _ _ _ (by kernel_rfl) (by kernel_rfl) (by kernel_rfl) (Or.inl ⟨by kernel_rfl, ?_⟩) hS ?_
      rotate_left
      · (intro w9 hS9; obtain ⟨s0, s1, s2, s3⟩ := hS9; go_simp); (try with_reducible rfl)
      try simp only [Act.put, List.getElem_toArray, List.getElem_cons_succ, List.getElem_cons_zero, List.setIfInBounds_toArray, List.set_cons_zero, List.set_cons_succ]
      refine wpU_take (i := 3) (v := ?_) rfl (by kernel_rfl) (by kernel_rfl) (fun _ _ _ h => h) _ _ _ _ (by kernel_rfl) (by kernel_rfl) (by kernel_rfl) (Or.inl ⟨by kernel_rfl, ?_⟩) hS ?_
      rotate_left
      · (intro w9 hS9; obtain ⟨s0, s1, s2, s3⟩ := hS9; go_simp); (try with_reducible rfl)
      try simp only [Act.put, List.getElem_toArray, List.getElem_cons_succ, List.getElem_cons_zero, List.setIfInBounds_toArray, List.set_cons_zero, List.set_cons_succ]
      refine wpU_take (i := 4) (v := ?_) rfl (by kernel_rfl) (by kernel_rfl) (fun _ _ _ h => h) _ _ _ _ (by kernel_rfl) (by kernel_rfl) (by kernel_rfl) (Or.inl ⟨by kernel_rfl, ?_⟩) hS ?_
      rotate_left
      · (intro w9 hS9; obtain ⟨s0, s1, s2, s3⟩ := hS9; go_simp); (try with_reducible rfl)
      try simp only [Act.put, List.getElem_toArray, List.getElem_cons_succ, List.getElem_cons_zero, List.setIfInBounds_toArray, List.set_cons_zero, List.set_cons_succ]
      refine wpU_take (i := 5) (v := ?_) rfl (by kernel_rfl) (by kernel_rfl) (fun _ _ _ h => h) _ _ _ _ (by kernel_rfl) (by kernel_rfl) (by kernel_rfl) (Or.inl ⟨by kernel_rfl, ?_⟩) hS ?_
      rotate_left
      · (intro w9 hS9; obtain ⟨s0, s1, s2, s3⟩ := hS9; go_simp); (try with_reducible rfl)
      try simp only [Act.put, List.getElem_toArray, List.getElem_cons_succ, List.getElem_cons_zero, List.setIfInBounds_toArray, List.set_cons_zero, List.set_cons_succ]
      refine wpU_next (i := 6) rfl (by kernel_rfl) (fun K hK => ?_)
      go_simp
      refine hK.out _ _ (fun h => absurd rfl h.1) ?_
      refine wpU_done (by kernel_rfl) ?_ _
      clear hK K
      clear hS
      go_wp2
      go_ret
      refine ⟨by simp [Hn0.out], ?_, ((F1.out.nil (S := T)).then (F2.out.mono fun k hk => by rw [hk]; exact Hs.out.tu)).then (F9.out.mono fun k hk => by rw [hk]; exact Hs.out.tl)⟩
      have hk9 := K9.out
      rw [show (Value.agg #[.int .i64 (a : Nat), .int .i64 (n : Nat), .int .i64 (k : Nat)]) = uv ⟨a, n, k⟩ from rfl, mput_ent L ⟨a, n, k⟩] at hk9
      have hs1 := Hs1.out
      have hf9 := F9.out
      have hf2 := F2.out
      have h2r := hs1.r.fr hf2 fun k hk h => row_kv hs1.r hs1.u (by rw [hk, h])
      refine Shp.of (ub := ub) (lb := lb) (hb := hb) (v := v) (Shp.mono (T := T) ⟨?_, ?_, hk9, ?_, ?_, hs1.ul, hs1.uh, hs1.lh, hs1.ts, hs1.tu, hs1.tl, hs1.th⟩ fun k hk => .inl hk)
      · exact hB.out.fr hf9 (blk_kv hB.out L2.out)
      · exact K2.out.fr hf9 hs1.ul
      · exact (hs1.h.fr hf2 fun h => hs1.uh h.symm).fr hf9 fun h => hs1.lh h.symm
      · exact h2r.fr hf9 fun k hk h => row_kv h2r L2.out (by rw [hk, h])
    · rw [if_neg h1, if_neg h1]
      have hk1 : (((k : Nat) : Int) == 1) = false := by simp; omega
      have Hk2 := hid (show 2 ≤ k by have := Hn0.out; omega)
      clear h1
      have hk00 : (0 : Int) ≤ (k : Int) := by omega
      go_enter Try.func13, Try.ntmps13
      go_wp2_with fail
      refine (uses_ok T sb pb U L H A w h _ Hwi.out).mono ?_
      rintro e w1 ⟨rfl, rfl⟩
      rw [huk]
      go_wp2_with fail
      obtain ⟨W1, hW1⟩ : ∃ W1, W1 = w.alloc (.cells #[.int .i64 (a : Nat), .int .i64 (n : Nat), .int .i64 ((k : Int) - 1)] 60) := ⟨_, rfl⟩
      have f1 : Fr Nil w W1 := by rw [hW1]; exact (Fr.refl _ _).alloc _
      have hX : Blk W1 w.heap.size #[.int .i64 (a : Nat), .int .i64 (n : Nat), .int .i64 ((k : Int) - 1)] 60 := by rw [hW1]; exact Blk.new _ _ _
      rw [← hW1]
      clear hW1
      have Hs1 := hid (Hs.out.fr f1 fun _ _ h => h)
      have hB := hid Hs1.out.blk
      obtain ⟨xb, hxb⟩ : ∃ xb, xb = w.heap.size := ⟨_, rfl⟩
      rw [← hxb] at hX ⊢
      replace hX := hid hX
      have F1 := hid f1
      clear hlk hc1 hxb f1
      have hv1 : (Value.agg #[.int .i64 (a : Nat), .int .i64 (n : Nat), .int .i64 ((k : Int) - 1)]) = uv ⟨a, n, k - 1⟩ := by
        rw [show ((k : Int) - 1) = ((k - 1 : Nat) : Int) from by have := Hk2.out; omega]; rfl
      have Hv1 := hid hv1
      clear hv1
      have hS : (fun w' : World => w'.cell? ⟨sb, 1, none⟩ = some (.map (some ub)) ∧ w'.cell? ⟨xb, 0, none⟩ = some (.int .i64 (a : Nat)) ∧ w'.cell? ⟨xb, 1, none⟩ = some (.int .i64 (n : Nat)) ∧ w'.cell? ⟨xb, 2, none⟩ = some (.int .i64 ((k : Int) - 1))) W1.drew := ⟨hB.out.drew.cell 1, hX.out.drew.cell 0, hX.out.drew.cell 1, hX.out.drew.cell 2⟩
      obtain ⟨w9, hrun9, k9, f9⟩ := KV.store (P := Try.prog) (v := .agg #[.int .i64 (a : Nat), .int .i64 (n : Nat), .int .i64 ((k : Int) - 1)]) (Hs1.out.u).drew Try.underlying3 Try.underlying55 Hwi.out (by rw [Hv1.out, mput_ent U ⟨a, n, k - 1⟩, List.length_map]; have := uput_length U ⟨a, n, k - 1⟩; omega)
      have K9 := hid k9
      have F9 := hid (show Fr (fun k => k = ub) W1 w9 from ((Fr.refl _ _).drew).then f9)
      clear k9 f9
      refine wpU_region (k := 6) (S := (fun w' : World => w'.cell? ⟨sb, 1, none⟩ = some (.map (some ub)) ∧ w'.cell? ⟨xb, 0, none⟩ = some (.int .i64 (a : Nat)) ∧ w'.cell? ⟨xb, 1, none⟩ = some (.int .i64 (n : Nat)) ∧ w'.cell? ⟨xb, 2, none⟩ = some (.int .i64 ((k : Int) - 1)))) (by kernel_rfl) ?_
      refine wpU_take (i := 0) (v := ?_) rfl (by kernel_rfl) (by kernel_rfl) (fun _ _ _ h => h) _ _ _ _ (by kernel_rfl) (by kernel_rfl) (by kernel_rfl) (Or.inl ⟨by kernel_rfl, ?_⟩) hS ?_
      rotate_left
      · (intro w9 hS9; obtain ⟨s0, s1, s2, s3⟩ := hS9; go_simp); (try with_reducible rfl)
      try simp only [Act.put, List.getElem_toArray, List.getElem_cons_succ, List.getElem_cons_zero, List.setIfInBounds_toArray, List.set_cons_zero, List.set_cons_succ]
      refine wpU_take (i := 1) (v := ?_) rfl (by kernel_rfl) (by kernel_rfl) (fun _ _ _ h => h) _ _ _ _ (by kernel_rfl) (by kernel_rfl) (by kernel_rfl) (Or.inl ⟨by kernel_rfl, ?_⟩) hS ?_
      rotate_left
      · (intro w9 hS9; obtain ⟨s0, s1, s2, s3⟩ := hS9; go_simp); (try with_reducible rfl)
      try simp only [Act.put, List.getElem_toArray, List.getElem_cons_succ, List.getElem_cons_zero, List.setIfInBounds_toArray, List.set_cons_zero, List.set_cons_succ]
      refine wpU_take (i := 2) (v := ?_) rfl (by kernel_rfl) (by kernel_rfl) (fun _ _ _ h => h) _ _ _ _ (by kernel_rfl) (by kernel_rfl) (by kernel_rfl) (Or.inl ⟨by kernel_rfl, ?_⟩) hS ?_
      rotate_left
      · (intro w9 hS9; obtain ⟨s0, s1, s2, s3⟩ := hS9; go_simp); (try with_reducible rfl)
      try simp only [Act.put, List.getElem_toArray, List.getElem_cons_succ, List.getElem_cons_zero, List.setIfInBounds_toArray, List.set_cons_zero, List.set_cons_succ]
      refine wpU_take (i := 3) (v := ?_) rfl (by kernel_rfl) (by kernel_rfl) (fun _ _ _ h => h) _ _ _ _ (by kernel_rfl) (by kernel_rfl) (by kernel_rfl) (Or.inl ⟨by kernel_rfl, ?_⟩) hS ?_
      rotate_left
      · (intro w9 hS9; obtain ⟨s0, s1, s2, s3⟩ := hS9; go_simp); (try with_reducible rfl)
      try simp only [Act.put, List.getElem_toArray, List.getElem_cons_succ, List.getElem_cons_zero, List.setIfInBounds_toArray, List.set_cons_zero, List.set_cons_succ]
      refine wpU_take (i := 4) (v := ?_) rfl (by kernel_rfl) (by kernel_rfl) (fun _ _ _ h => h) _ _ _ _ (by kernel_rfl) (by kernel_rfl) (by kernel_rfl) (Or.inl ⟨by kernel_rfl, ?_⟩) hS ?_
      rotate_left
      · (intro w9 hS9; obtain ⟨s0, s1, s2, s3⟩ := hS9; go_simp); (try with_reducible rfl)
      try simp only [Act.put, List.getElem_toArray, List.getElem_cons_succ, List.getElem_cons_zero, List.setIfInBounds_toArray, List.set_cons_zero, List.set_cons_succ]
      refine wpU_take (i := 5) (v := ?_) rfl (by kernel_rfl) (by kernel_rfl) (fun _ _ _ h => h) _ _ _ _ (by kernel_rfl) (by kernel_rfl) (by kernel_rfl) (Or.inl ⟨by kernel_rfl, ?_⟩) hS ?_
      rotate_left
      · (intro w9 hS9; obtain ⟨s0, s1, s2, s3⟩ := hS9; go_simp); (try with_reducible rfl)
      try simp only [Act.put, List.getElem_toArray, List.getElem_cons_succ, List.getElem_cons_zero, List.setIfInBounds_toArray, List.set_cons_zero, List.set_cons_succ]
      refine wpU_next (i := 6) rfl (by kernel_rfl) (fun K hK => ?_)
      go_simp
      refine hK.out _ _ (fun h => absurd rfl h.1) ?_
      refine wpU_done (by kernel_rfl) ?_ _
      clear hK K
      clear hS
      go_wp2
      go_ret
      refine ⟨by simp [Hn0.out], ?_, (F1.out.nil (S := T)).then (F9.out.mono fun k hk => by rw [hk]; exact Hs.out.tu)⟩
      have hk9 := K9.out
      rw [Hv1.out, mput_ent U ⟨a, n, k - 1⟩] at hk9
      have hs1 := Hs1.out
      have hf9 := F9.out
      refine Shp.of (ub := ub) (lb := lb) (hb := hb) (v := v) (Shp.mono (T := T) ⟨?_, hk9, ?_, ?_, ?_, hs1.ul, hs1.uh, hs1.lh, hs1.ts, hs1.tu, hs1.tl, hs1.th⟩ fun k hk => .inl hk)
      · exact hs1.blk.fr hf9 (blk_kv hs1.blk hs1.u)
      · exact hs1.l.fr hf9 fun h => hs1.ul h.symm
      · exact hs1.h.fr hf9 fun h => hs1.uh h.symm
      · exact hs1.r.fr hf9 fun k hk h => row_kv hs1.r hs1.u (by rw [hk, h])
end Go.Proofs.Ytjieckaeplkafaa

/- The texts VShA, VShB of this proof, one behind the other. Conditions: those of each. -/
import Derived.Test.YtgoghmblfdlnbaaGreatGR12
section
/- Shares: More, Less. Conditions: the bounds of its lists. -/
set_option linter.unusedSimpArgs false
set_option linter.unusedVariables false
namespace Go.Proofs.YtgoghmblfdlnbaaGreat
open Go.RowKit
def moreU (U : List Us) (i : Int) : List Us := if usesI U i = 0 then U else uput U ⟨(ux U i).a, (ux U i).n, (ux U i).k + 1⟩
def lessU (U : List Us) (i : Int) : List Us := if usesI U i = 0 then U else if usesI U i = 1 then udel U i else uput U ⟨(ux U i).a, (ux U i).n, (ux U i).k - 1⟩
def lessL (U L : List Us) (i : Int) : List Us := if usesI U i = 1 then uput L (ux U i) else L
theorem uput_length (U : List Us) (u : Us) : (uput U u).length ≤ U.length + 1 := by unfold uput; split <;> simp
theorem udel_length (U : List Us) (i : Int) : (udel U i).length ≤ U.length := List.length_filter_le _ _
theorem ux_pos {U : List Us} {i : Int} (h : usesI U i ≠ 0) : uget U i = some (ux U i) ∧ ((ux U i).a : Int) = i ∧ ux U i ∈ U := by
  cases hg : uget U i with
  | none => exact absurd (by unfold usesI; rw [hg]) h
  | some u =>
    have : ux U i = u := by unfold ux; rw [hg]; rfl
    rw [this]
    exact ⟨rfl, (uget_mem hg).2, (uget_mem hg).1⟩
set_option maxRecDepth 20000 in
theorem less_ok (T : Nat → Prop) (sb pb : Nat) (U L H : List Us) (A : List Rn) (w : World) (h : IsS w T sb pb U L H A) (i : Int) (hi : (Lit.int .i64 i).wf = true) (hU : U.length ≤ 100000) (hL : L.length ≤ 100000) (hk : ∀ u ∈ U, u.k ≤ 1000000) :
    Calls Tryz.prog 9 #[.pointer (some ⟨sb, 0, none⟩), .int .i64 i] w fun e w' =>
      e = .returned (.bool (decide (usesI U i ≠ 0))) ∧ (∃ T', IsS w' T' sb pb (lessU U i) (lessL U L i) H A ∧ ∀ k, T' k → T k ∨ w.heap.size ≤ k) ∧ Fr T w w' := by
  obtain ⟨⟨ub, lb, hb, v, hs⟩, hlt⟩ := id h
  by_cases h0 : usesI U i = 0
  · have hm : lessU U i = U := if_pos h0
    have hm2 : lessL U L i = L := if_neg (by omega)
    rw [hm, hm2]
    go_enter Tryz.func9, Tryz.ntmps9
    go_wp2_with fail
    refine (uses_ok T sb pb U L H A w h i hi).mono ?_
    rintro e w1 ⟨rfl, rfl⟩
    rw [h0]
    go_wp2
    go_ret
    exact ⟨by simp [h0], h.keep (Fr.refl _ _), Fr.refl _ _⟩
  · have hux := ux_pos h0
    unfold lessL
    obtain ⟨⟨a, n, k⟩, hu⟩ : ∃ u, u = ux U i := ⟨_, rfl⟩
    rw [usesI_ux] at h0 ⊢
    unfold lessU
    rw [usesI_ux]
    rw [← hu] at h0 hux ⊢
    dsimp only at h0 hux ⊢
    obtain ⟨hg, rfl, hmem⟩ := hux
    rw [if_neg h0]
    have hk9 : k ≤ 1000000 := hk _ hmem
    have hlk := look_use hs.u hi
    rw [← hu] at hlk
    dsimp only at hlk
    have huk : usesI U (a : Int) = k := by rw [usesI_ux, ← hu]
    have hc1 : w.cell? ⟨sb, 1, none⟩ = some (.map (some ub)) := hs.blk.cell 1
    have hk0 : (((k : Nat) : Int) == 0) = false := by simp; omega
    have Hwi := hid hi
    have Hs := hid hs
    have Hu := hid hu
    have Hn0 := hid h0
    clear hs hi hu hmem h0
    by_cases h1 : k = 1
    · rw [if_pos h1, if_pos h1]
      have hk1 : (((k : Nat) : Int) == 1) = true := by simp; omega
      have H1 := hid h1
      clear h1
      go_enter Tryz.func9, Tryz.ntmps9
      go_wp2_with fail
      refine (uses_ok T sb pb U L H A w h _ Hwi.out).mono ?_
      rintro e w1 ⟨rfl, rfl⟩
      rw [huk]
      go_upto_region 5 with (fail)
      obtain ⟨W1, hW1⟩ : ∃ W1, W1 = w.alloc (.cells #[.int .i64 (a : Nat), .int .i64 (n : Nat), .int .i64 (k : Nat)] 91) := ⟨_, rfl⟩
      have f1 : Fr Nil w W1 := by rw [hW1]; exact (Fr.refl _ _).alloc _
      have hX0 : Blk W1 w.heap.size #[.int .i64 (a : Nat), .int .i64 (n : Nat), .int .i64 (k : Nat)] 91 := by rw [hW1]; exact Blk.new _ _ _
      rw [← hW1]
      clear hW1
      have Hs1 := hid (Hs.out.fr f1 fun _ _ h => h)
      obtain ⟨xb, hxb⟩ : ∃ xb, xb = w.heap.size := ⟨_, rfl⟩
      rw [← hxb] at hX0 ⊢
      have hX1 := hid hX0
      have F1 := hid f1
      have hc1 : W1.cell? ⟨sb, 1, none⟩ = some (.map (some ub)) := Hs1.out.blk.cell 1
      clear hlk hxb f1 hX0
      go_wp2_with (at_delete; refine wp_mapdrop rfl _ _ rfl Tryz.underlying3 Tryz.underlying92 Hs1.out.u rfl rfl Hwi.out ?_)
      intro w2 hK2 hf2
      rw [mdel_ent] at hK2
      have K2 := hid hK2
      have F2 := hid hf2
      have hX := hid (hX1.out.fr hf2 (blk_kv hX1.out Hs1.out.u))
      have hB := hid (Hs1.out.blk.fr hf2 (blk_kv Hs1.out.blk Hs1.out.u))
      have L2 := hid (Hs1.out.l.fr hf2 fun h => Hs1.out.ul h.symm)
      clear hK2 hf2 hX1 hc1
      go_wp2_with fail
      have hS : (fun w' : World => w'.cell? ⟨sb, 2, none⟩ = some (.map (some lb)) ∧ w'.cell? ⟨xb, 0, none⟩ = some (.int .i64 (a : Nat)) ∧ w'.cell? ⟨xb, 1, none⟩ = some (.int .i64 (n : Nat)) ∧ w'.cell? ⟨xb, 2, none⟩ = some (.int .i64 (k : Nat))) w2.drew := ⟨hB.out.drew.cell 2, hX.out.drew.cell 0, hX.out.drew.cell 1, hX.out.drew.cell 2⟩
      obtain ⟨w9, hrun9, k9, f9⟩ := KV.store (P := Tryz.prog) (v := .agg #[.int .i64 (a : Nat), .int .i64 (n : Nat), .int .i64 (k : Nat)]) (L2.out).drew Tryz.underlying3 Tryz.underlying92 Hwi.out (by rw [show (Value.agg #[.int .i64 (a : Nat), .int .i64 (n : Nat), .int .i64 (k : Nat)]) = uv ⟨a, n, k⟩ from rfl, mput_ent L ⟨a, n, k⟩, List.length_map]; have := uput_length L ⟨a, n, k⟩; omega)
      have K9 := hid k9
      have F9 := hid (show Fr (fun k => k = lb) w2 w9 from ((Fr.refl _ _).drew).then f9)
      clear k9 f9
      refine wpU_region (k := 6) (S := (fun w' : World => w'.cell? ⟨sb, 2, none⟩ = some (.map (some lb)) ∧ w'.cell? ⟨xb, 0, none⟩ = some (.int .i64 (a : Nat)) ∧ w'.cell? ⟨xb, 1, none⟩ = some (.int .i64 (n : Nat)) ∧ w'.cell? ⟨xb, 2, none⟩ = some (.int .i64 (k : Nat)))) (by kernel_rfl) ?_
      refine wpU_take (i := 0) (v := ?_) rfl (by kernel_rfl) (by kernel_rfl) (fun _ _ _ h => h) _ _ _ _ (by kernel_rfl) (by kernel_rfl) (by kernel_rfl) (Or.inl ⟨by kernel_rfl, ?_⟩) hS ?_
      rotate_left
      · (intro w9 hS9; obtain ⟨s0, s1, s2, s3⟩ := hS9; go_simp); (try with_reducible rfl)
      try simp only [Act.put, List.getElem_toArray, List.getElem_cons_succ, List.getElem_cons_zero, List.setIfInBounds_toArray, List.set_cons_zero, List.set_cons_succ]
      refine wpU_take (i := 1) (v := ?_) rfl (by kernel_rfl) (by kernel_rfl) (fun _ _ _ h => h) _ _ _ _ (by kernel_rfl) (by kernel_rfl) (by kernel_rfl) (Or.inl ⟨by kernel_rfl, ?_⟩) hS ?_
      rotate_left
      · (intro w9 hS9; obtain ⟨s0, s1, s2, s3⟩ := hS9; go_simp); (try with_reducible rfl)
      try simp only [Act.put, List.getElem_toArray, List.getElem_cons_succ, List.getElem_cons_zero, List.setIfInBounds_toArray, List.set_cons_zero, List.set_cons_succ]
      refine wpU_take (i := 2) (v := ?_) rfl (by kernel_rfl) (by kernel_rfl) (fun _ _ _ h => h) _ _ _ _ (by kernel_rfl) (by kernel_rfl) (by kernel_rfl) (Or.inl ⟨by kernel_rfl, ?_⟩) hS ?_
      rotate_left
      · (intro w9 hS9; obtain ⟨s0, s1, s2, s3⟩ := hS9; go_simp); (try with_reducible rfl)
      try simp only [Act.put, List.getElem_toArray, List.getElem_cons_succ, List.getElem_cons_zero, List.setIfInBounds_toArray, List.set_cons_zero, List.set_cons_succ]
      refine wpU_take (i := 3) (v := ?_) rfl (by kernel_rfl) (by kernel_rfl) (fun _ _ _ h => h) _ _ _ _ (by kernel_rfl) (by kernel_rfl) (by kernel_rfl) (Or.inl ⟨by kernel_rfl, ?_⟩) hS ?_
      rotate_left
      · (intro w9 hS9; obtain ⟨s0, s1, s2, s3⟩ := hS9; go_simp); (try with_reducible rfl)
      try simp only [Act.put, List.getElem_toArray, List.getElem_cons_succ, List.getElem_cons_zero, List.setIfInBounds_toArray, List.set_cons_zero, List.set_cons_succ]
      refine wpU_take (i := 4) (v := ?_) rfl (by kernel_rfl) (by kernel_rfl) (fun _ _ _ h => h) _ _ _ _ (by kernel_rfl) (by kernel_rfl) (by kernel_rfl) (Or.inl ⟨by kernel_rfl, ?_⟩) hS ?_
      rotate_left
      · (intro w9 hS9; obtain ⟨s0, s1, s2, s3⟩ := hS9; go_simp); (try with_reducible rfl)
      try simp only [Act.put, List.getElem_toArray, List.getElem_cons_succ, List.getElem_cons_zero, List.setIfInBounds_toArray, List.set_cons_zero, List.set_cons_succ]
      refine wpU_take (i := 5) (v := ?_) rfl (by kernel_rfl) (by kernel_rfl) (fun _ _ _ h => h) _ _ _ _ (by kernel_rfl) (by kernel_rfl) (by kernel_rfl) (Or.inl ⟨by kernel_rfl, ?_⟩) hS ?_
      rotate_left
      · (intro w9 hS9; obtain ⟨s0, s1, s2, s3⟩ := hS9; go_simp); (try with_reducible rfl)
      try simp only [Act.put, List.getElem_toArray, List.getElem_cons_succ, List.getElem_cons_zero, List.setIfInBounds_toArray, List.set_cons_zero, List.set_cons_succ]
      refine wpU_next (i := 6) rfl (by kernel_rfl) (fun K hK => ?_)
      go_simp
      refine hK.out _ _ (fun h => absurd rfl h.1) ?_
      refine wpU_done (by kernel_rfl) ?_ _
      clear hK K
      clear hS
      go_wp2
      go_ret
      refine ⟨by simp [Hn0.out], ?_, ((F1.out.nil (S := T)).then (F2.out.mono fun k hk => by rw [hk]; exact Hs.out.tu)).then (F9.out.mono fun k hk => by rw [hk]; exact Hs.out.tl)⟩
      have hk9 := K9.out
      rw [show (Value.agg #[.int .i64 (a : Nat), .int .i64 (n : Nat), .int .i64 (k : Nat)]) = uv ⟨a, n, k⟩ from rfl, mput_ent L ⟨a, n, k⟩] at hk9
      have hs1 := Hs1.out
      have hf9 := F9.out
      have hf2 := F2.out
      have h2r := hs1.r.fr hf2 fun k hk h => row_kv hs1.r hs1.u (by rw [hk, h])
      refine Shp.of (ub := ub) (lb := lb) (hb := hb) (v := v) (Shp.mono (T := T) ⟨?_, ?_, hk9, ?_, ?_, hs1.ul, hs1.uh, hs1.lh, hs1.ts, hs1.tu, hs1.tl, hs1.th⟩ fun k hk => .inl hk)
      · exact hB.out.fr hf9 (blk_kv hB.out L2.out)
      · exact K2.out.fr hf9 hs1.ul
      · exact (hs1.h.fr hf2 fun h => hs1.uh h.symm).fr hf9 fun h => hs1.lh h.symm
      · exact h2r.fr hf9 fun k hk h => row_kv h2r L2.out (by rw [hk, h])
    · rw [if_neg h1, if_neg h1]
      have hk1 : (((k : Nat) : Int) == 1) = false := by simp; omega
      have Hk2 := hid (show 2 ≤ k by have := Hn0.out; omega)
      clear h1
      have hk00 : (0 : Int) ≤ (k : Int) := by omega
      go_enter Tryz.func9, Tryz.ntmps9
      go_wp2_with fail
      refine (uses_ok T sb pb U L H A w h _ Hwi.out).mono ?_
      rintro e w1 ⟨rfl, rfl⟩
      rw [huk]
      go_wp2_with fail
      obtain ⟨W1, hW1⟩ : ∃ W1, W1 = w.alloc (.cells #[.int .i64 (a : Nat), .int .i64 (n : Nat), .int .i64 ((k : Int) - 1)] 91) := ⟨_, rfl⟩
      have f1 : Fr Nil w W1 := by rw [hW1]; exact (Fr.refl _ _).alloc _
      have hX : Blk W1 w.heap.size #[.int .i64 (a : Nat), .int .i64 (n : Nat), .int .i64 ((k : Int) - 1)] 91 := by rw [hW1]; exact Blk.new _ _ _
      rw [← hW1]
      clear hW1
      have Hs1 := hid (Hs.out.fr f1 fun _ _ h => h)
      have hB := hid Hs1.out.blk
      obtain ⟨xb, hxb⟩ : ∃ xb, xb = w.heap.size := ⟨_, rfl⟩
      rw [← hxb] at hX ⊢
      replace hX := hid hX
      have F1 := hid f1
      clear hlk hc1 hxb f1
      have hv1 : (Value.agg #[.int .i64 (a : Nat), .int .i64 (n : Nat), .int .i64 ((k : Int) - 1)]) = uv ⟨a, n, k - 1⟩ := by
        rw [show ((k : Int) - 1) = ((k - 1 : Nat) : Int) from by have := Hk2.out; omega]; rfl
      have Hv1 := hid hv1
      clear hv1
      have hS : (fun w' : World => w'.cell? ⟨sb, 1, none⟩ = some (.map (some ub)) ∧ w'.cell? ⟨xb, 0, none⟩ = some (.int .i64 (a : Nat)) ∧ w'.cell? ⟨xb, 1, none⟩ = some (.int .i64 (n : Nat)) ∧ w'.cell? ⟨xb, 2, none⟩ = some (.int .i64 ((k : Int) - 1))) W1.drew := ⟨hB.out.drew.cell 1, hX.out.drew.cell 0, hX.out.drew.cell 1, hX.out.drew.cell 2⟩
      obtain ⟨w9, hrun9, k9, f9⟩ := KV.store (P := Tryz.prog) (v := .agg #[.int .i64 (a : Nat), .int .i64 (n : Nat), .int .i64 ((k : Int) - 1)]) (Hs1.out.u).drew Tryz.underlying3 Tryz.underlying92 Hwi.out (by rw [Hv1.out, mput_ent U ⟨a, n, k - 1⟩, List.length_map]; have := uput_length U ⟨a, n, k - 1⟩; omega)
      have K9 := hid k9
      have F9 := hid (show Fr (fun k => k = ub) W1 w9 from ((Fr.refl _ _).drew).then f9)
      clear k9 f9
      refine wpU_region (k := 6) (S := (fun w' : World => w'.cell? ⟨sb, 1, none⟩ = some (.map (some ub)) ∧ w'.cell? ⟨xb, 0, none⟩ = some (.int .i64 (a : Nat)) ∧ w'.cell? ⟨xb, 1, none⟩ = some (.int .i64 (n : Nat)) ∧ w'.cell? ⟨xb, 2, none⟩ = some (.int .i64 ((k : Int) - 1)))) (by kernel_rfl) ?_
      refine wpU_take (i := 0) (v := ?_) rfl (by kernel_rfl) (by kernel_rfl) (fun _ _ _ h => h) _ _ _ _ (by kernel_rfl) (by kernel_rfl) (by kernel_rfl) (Or.inl ⟨by kernel_rfl, ?_⟩) hS ?_
      rotate_left
      · (intro w9 hS9; obtain ⟨s0, s1, s2, s3⟩ := hS9; go_simp); (try with_reducible rfl)
      try simp only [Act.put, List.getElem_toArray, List.getElem_cons_succ, List.getElem_cons_zero, List.setIfInBounds_toArray, List.set_cons_zero, List.set_cons_succ]
      refine wpU_take (i := 1) (v := ?_) rfl (by kernel_rfl) (by kernel_rfl) (fun _ _ _ h => h) _ _ _ _ (by kernel_rfl) (by kernel_rfl) (by kernel_rfl) (Or.inl ⟨by kernel_rfl, ?_⟩) hS ?_
      rotate_left
      · (intro w9 hS9; obtain ⟨s0, s1, s2, s3⟩ := hS9; go_simp); (try with_reducible rfl)
      try simp only [Act.put, List.getElem_toArray, List.getElem_cons_succ, List.getElem_cons_zero, List.setIfInBounds_toArray, List.set_cons_zero, List.set_cons_succ]
      refine wpU_take (i := 2) (v := ?_) rfl (by kernel_rfl) (by kernel_rfl) (fun _ _ _ h => h) _ _ _ _ (by kernel_rfl) (by kernel_rfl) (by kernel_rfl) (Or.inl ⟨by kernel_rfl, ?_⟩) hS ?_
      rotate_left
      · (intro w9 hS9; obtain ⟨s0, s1, s2, s3⟩ := hS9; go_simp); (try with_reducible rfl)
      try simp only [Act.put, List.getElem_toArray, List.getElem_cons_succ, List.getElem_cons_zero, List.setIfInBounds_toArray, List.set_cons_zero, List.set_cons_succ]
      refine wpU_take (i := 3) (v := ?_) rfl (by kernel_rfl) (by kernel_rfl) (fun _ _ _ h => h) _ _ _ _ (by kernel_rfl) (by kernel_rfl) (by kernel_rfl) (Or.inl ⟨by kernel_rfl, ?_⟩) hS ?_
      rotate_left
      · (intro w9 hS9; obtain ⟨s0, s1, s2, s3⟩ := hS9; go_simp); (try with_reducible rfl)
      try simp only [Act.put, List.getElem_toArray, List.getElem_cons_succ, List.getElem_cons_zero, List.setIfInBounds_toArray, List.set_cons_zero, List.set_cons_succ]
      refine wpU_take (i := 4) (v := ?_) rfl (by kernel_rfl) (by kernel_rfl) (fun _ _ _ h => h) _ _ _ _ (by kernel_rfl) (by kernel_rfl) (by kernel_rfl) (Or.inl ⟨by kernel_rfl, ?_⟩) hS ?_
      rotate_left
      · (intro w9 hS9; obtain ⟨s0, s1, s2, s3⟩ := hS9; go_simp); (try with_reducible rfl)
      try simp only [Act.put, List.getElem_toArray, List.getElem_cons_succ, List.getElem_cons_zero, List.setIfInBounds_toArray, List.set_cons_zero, List.set_cons_succ]
      refine wpU_take (i := 5) (v := ?_) rfl (by kernel_rfl) (by kernel_rfl) (fun _ _ _ h => h) _ _ _ _ (by kernel_rfl) (by kernel_rfl) (by kernel_rfl) (Or.inl ⟨by kernel_rfl, ?_⟩) hS ?_
      rotate_left
      · (intro w9 hS9; obtain ⟨s0, s1, s2, s3⟩ := hS9; go_simp); (try with_reducible rfl)
      try simp only [Act.put, List.getElem_toArray, List.getElem_cons_succ, List.getElem_cons_zero, List.setIfInBounds_toArray, List.set_cons_zero, List.set_cons_succ]
      refine wpU_next (i := 6) rfl (by kernel_rfl) (fun K hK => ?_)
      go_simp
      refine hK.out _ _ (fun h => absurd rfl h.1) ?_
      refine wpU_done (by kernel_rfl) ?_ _
      clear hK K
      clear hS
      go_wp2
      go_ret
      refine ⟨by simp [Hn0.out], ?_, (F1.out.nil (S := T)).then (F9.out.mono fun k hk => by rw [hk]; exact Hs.out.tu)⟩
      have hk9 := K9.out
      rw [Hv1.out, mput_ent U ⟨a, n, k - 1⟩] at hk9
      have hs1 := Hs1.out
      have hf9 := F9.out
      refine Shp.of (ub := ub) (lb := lb) (hb := hb) (v := v) (Shp.mono (T := T) ⟨?_, hk9, ?_, ?_, ?_, hs1.ul, hs1.uh, hs1.lh, hs1.ts, hs1.tu, hs1.tl, hs1.th⟩ fun k hk => .inl hk)
      · exact hs1.blk.fr hf9 (blk_kv hs1.blk hs1.u)
      · exact hs1.l.fr hf9 fun h => hs1.ul h.symm
      · exact hs1.h.fr hf9 fun h => hs1.uh h.symm
      · exact hs1.r.fr hf9 fun k hk h => row_kv hs1.r hs1.u (by rw [hk, h])
end Go.Proofs.YtgoghmblfdlnbaaGreat
end

section
/- Shares: Add. Conditions: the bounds of its lists. -/
set_option linter.unusedSimpArgs false
set_option linter.unusedVariables false
namespace Go.Proofs.YtgoghmblfdlnbaaGreat
open Go.RowKit
def fineI (U L : List Us) (a n : Int) : Bool := decide (1 ≤ n) && decide (0 ≤ a) && (usesI L a == 0) && (usesI U a == 0)
theorem Shp.drewN {w : World} {T : Nat → Prop} {sb pb ub lb hb : Nat} {v : Value} {U L H : List Us} {A : List Rn} (h : Shp w T sb pb ub lb hb v U L H A) (n : Nat) : Shp (w.drewN n) T sb pb ub lb hb v U L H A := h.fr ((Fr.refl Nil w).drewN n) (fun _ _ h => h)
theorem info_run2 : (Tryz.prog.info? 39).map (fun i => (i.zero, i.size, i.bytes)) = some (some (.agg #[.int .i64 0, .int .i64 0]), 2, 16) := by kernel_rfl
set_option maxRecDepth 20000 in
theorem add_no (T : Nat → Prop) (sb pb : Nat) (U L H : List Us) (A : List Rn) (w : World) (h : IsS w T sb pb U L H A) (a n : Int) (ha : (Lit.int .i64 a).wf = true) (hf : fineI U L a n = false) :
    Calls Tryz.prog 33 #[.pointer (some ⟨sb, 0, none⟩), .agg #[.int .i64 a, .int .i64 n]] w fun e w' =>
      e = .returned (.bool false) ∧ (∃ T', IsS w' T' sb pb U L H A ∧ ∀ k, T' k → T k ∨ w.heap.size ≤ k) ∧ Fr Nil w w' := by
  unfold fineI at hf
  rw [usesI_ux, usesI_ux] at hf
  obtain ⟨⟨ub, lb, hb, v, hs⟩, hlt⟩ := id h
  have Hs := hid hs
  have Hwa := hid ha
  have Hlt := hid hlt
  go_enter Tryz.func33, Tryz.ntmps33
  go_upto_region 1 with (fail)
  obtain ⟨W1, hW1⟩ : ∃ W1, W1 = w.alloc (.cells #[.int .i64 a, .int .i64 n] 39) := ⟨_, rfl⟩
  have f1 : Fr Nil w W1 := by rw [hW1]; exact (Fr.refl _ _).alloc _
  have hX0 : Blk W1 w.heap.size #[.int .i64 a, .int .i64 n] 39 := by rw [hW1]; exact Blk.new _ _ _
  rw [← hW1]
  clear hW1
  have Hs1 := hid (hs.fr f1 fun _ _ h => h)
  obtain ⟨xb, hxb⟩ : ∃ xb, xb = w.heap.size := ⟨_, rfl⟩
  rw [← hxb] at hX0 ⊢
  have hc0 : W1.cell? ⟨sb, 0, none⟩ = some (.pointer (some ⟨pb, 0, none⟩)) := Hs1.out.blk.cell 0
  have hc1 : W1.cell? ⟨sb, 1, none⟩ = some (.map (some ub)) := Hs1.out.blk.cell 1
  have hc2 : W1.cell? ⟨sb, 2, none⟩ = some (.map (some lb)) := Hs1.out.blk.cell 2
  have hx0 : W1.cell? ⟨xb, 0, none⟩ = some (.int .i64 a) := hX0.cell 0
  have hx1 : W1.cell? ⟨xb, 1, none⟩ = some (.int .i64 n) := hX0.cell 1
  have HX := hid hX0
  have Hxb := hid hxb
  have F1 := hid f1
  have hlkL : ∀ nq, (Instr.lookup 92 (.map (some lb)) (.int .i64 a) false).run Tryz.prog (W1.drewN nq) = .ok (.agg #[.int .i64 ((ux L a).a : Nat), .int .i64 ((ux L a).n : Nat), .int .i64 ((ux L a).k : Nat)]) (W1.drewN nq) := fun nq => look_use (Hs1.out.l.drewN nq) Hwa.out
  have hlkU : ∀ nq, (Instr.lookup 92 (.map (some ub)) (.int .i64 a) false).run Tryz.prog (W1.drewN nq) = .ok (.agg #[.int .i64 ((ux U a).a : Nat), .int .i64 ((ux U a).n : Nat), .int .i64 ((ux U a).k : Nat)]) (W1.drewN nq) := fun nq => look_use (Hs1.out.u.drewN nq) Hwa.out
  clear hs ha hlt h hX0 hxb f1
  by_cases q1 : n < 1
  · have q1b : decide (n < 1) = true := by simpa using q1
    clear q1 hf
    go_quiet ((refine (made_ok T sb pb ub lb hb v U L H A _ (Hs1.out.drewN _)).mono ?_; rintro e w1 ⟨rfl, rfl⟩; exact ⟨rfl, _, rfl⟩))
    go_wp2
    go_ret
    have h1 := Hs1.out
    exact ⟨rfl, ⟨T, ⟨⟨ub, lb, hb, v, h1.drewN _⟩, fun k hk => Nat.lt_of_lt_of_le (Hlt.out k hk) F1.out.size⟩, fun k hk => .inl hk⟩, F1.out.drewN _⟩
  have q1b : decide (n < 1) = false := by simpa using q1
  have h1 : decide (1 ≤ n) = true := by simp; omega
  rw [h1] at hf
  clear q1 h1
  by_cases q2 : a < 0
  · have q2b : decide (a < 0) = true := by simpa using q2
    clear q2 hf
    go_quiet ((refine (made_ok T sb pb ub lb hb v U L H A _ (Hs1.out.drewN _)).mono ?_; rintro e w1 ⟨rfl, rfl⟩; exact ⟨rfl, _, rfl⟩))
    go_wp2
    go_ret
    have h1 := Hs1.out
    exact ⟨rfl, ⟨T, ⟨⟨ub, lb, hb, v, h1.drewN _⟩, fun k hk => Nat.lt_of_lt_of_le (Hlt.out k hk) F1.out.size⟩, fun k hk => .inl hk⟩, F1.out.drewN _⟩
  have q2b : decide (a < 0) = false := by simpa using q2
  have h2 : decide (0 ≤ a) = true := by simp; omega
  rw [h2] at hf
  clear q2 h2
  by_cases q3 : 0 < (ux L a).k
  · have q3b : decide (0 < (ux L a).k) = true := by simp; omega
    clear q3 hf
    generalize ux L a = u at *
    go_quiet ((refine (made_ok T sb pb ub lb hb v U L H A _ (Hs1.out.drewN _)).mono ?_; rintro e w1 ⟨rfl, rfl⟩; exact ⟨rfl, _, rfl⟩))
    go_wp2
    go_ret
    have h1 := Hs1.out
    exact ⟨rfl, ⟨T, ⟨⟨ub, lb, hb, v, h1.drewN _⟩, fun k hk => Nat.lt_of_lt_of_le (Hlt.out k hk) F1.out.size⟩, fun k hk => .inl hk⟩, F1.out.drewN _⟩
  have q3b : decide (0 < (ux L a).k) = false := by simp; omega
  have h3 : ((ux L a).k == 0) = true := by simp; omega
  rw [h3] at hf
  clear q3 h3
  have q4b : decide (0 < (ux U a).k) = true := by
    simp at hf; simp; omega
  clear hf
  generalize ux L a = u at *
  generalize ux U a = u2 at *
  go_quiet ((refine (made_ok T sb pb ub lb hb v U L H A _ (Hs1.out.drewN _)).mono ?_; rintro e w1 ⟨rfl, rfl⟩; exact ⟨rfl, _, rfl⟩))
  go_wp2
  go_ret
  have h1 := Hs1.out
  exact ⟨rfl, ⟨T, ⟨⟨ub, lb, hb, v, h1.drewN _⟩, fun k hk => Nat.lt_of_lt_of_le (Hlt.out k hk) F1.out.size⟩, fun k hk => .inl hk⟩, F1.out.drewN _⟩
set_option maxRecDepth 20000 in
theorem add_ok (T : Nat → Prop) (sb pb : Nat) (U L H : List Us) (A : List Rn) (w : World) (h : IsS w T sb pb U L H A) (a n : Nat) (ha : (Lit.int .i64 (a : Nat)).wf = true) (hn : 1 ≤ n) (hL0 : usesI L (a : Nat) = 0) (hU0 : usesI U (a : Nat) = 0) (hUl : U.length ≤ 100000) (hAl : A.length ≤ 100000) :
    Calls Tryz.prog 33 #[.pointer (some ⟨sb, 0, none⟩), .agg #[.int .i64 (a : Nat), .int .i64 (n : Nat)]] w fun e w' =>
      e = .returned (.bool true) ∧ (∃ T', IsS w' T' sb pb (uput U ⟨a, n, 1⟩) L H (A ++ [⟨a, n⟩]) ∧ ∀ k, T' k → T k ∨ w.heap.size ≤ k) ∧ Fr T w w' := by
  rw [usesI_ux] at hL0 hU0
  obtain ⟨a', ha'⟩ : ∃ a' : Int, a' = (a : Nat) := ⟨_, rfl⟩
  obtain ⟨n', hn'⟩ : ∃ n' : Int, n' = (n : Nat) := ⟨_, rfl⟩
  rw [← ha'] at ha hL0 hU0
  rw [← ha', ← hn']
  have Ha := hid ha'
  have HN := hid hn'
  clear ha' hn'
  obtain ⟨⟨ub, lb, hb, v, hs⟩, hlt⟩ := id h
  have Hs := hid hs
  have Hwa := hid ha
  have Hlt := hid hlt
  go_enter Tryz.func33, Tryz.ntmps33
  go_upto_region 1 with (fail)
  obtain ⟨W1, hW1⟩ : ∃ W1, W1 = w.alloc (.cells #[.int .i64 a', .int .i64 n'] 39) := ⟨_, rfl⟩
  have f1 : Fr Nil w W1 := by rw [hW1]; exact (Fr.refl _ _).alloc _
  have hX0 : Blk W1 w.heap.size #[.int .i64 a', .int .i64 n'] 39 := by rw [hW1]; exact Blk.new _ _ _
  rw [← hW1]
  clear hW1
  have Hs1 := hid (hs.fr f1 fun _ _ h => h)
  obtain ⟨xb, hxb⟩ : ∃ xb, xb = w.heap.size := ⟨_, rfl⟩
  rw [← hxb] at hX0 ⊢
  have hc0 : W1.cell? ⟨sb, 0, none⟩ = some (.pointer (some ⟨pb, 0, none⟩)) := Hs1.out.blk.cell 0
  have hc1 : W1.cell? ⟨sb, 1, none⟩ = some (.map (some ub)) := Hs1.out.blk.cell 1
  have hc2 : W1.cell? ⟨sb, 2, none⟩ = some (.map (some lb)) := Hs1.out.blk.cell 2
  have hx0 : W1.cell? ⟨xb, 0, none⟩ = some (.int .i64 a') := hX0.cell 0
  have hx1 : W1.cell? ⟨xb, 1, none⟩ = some (.int .i64 n') := hX0.cell 1
  have HX := hid hX0
  have Hxb := hid hxb
  have F1 := hid f1
  have hlkL : ∀ nq, (Instr.lookup 92 (.map (some lb)) (.int .i64 a') false).run Tryz.prog (W1.drewN nq) = .ok (.agg #[.int .i64 ((ux L a').a : Nat), .int .i64 ((ux L a').n : Nat), .int .i64 ((ux L a').k : Nat)]) (W1.drewN nq) := fun nq => look_use (Hs1.out.l.drewN nq) Hwa.out
  have hlkU : ∀ nq, (Instr.lookup 92 (.map (some ub)) (.int .i64 a') false).run Tryz.prog (W1.drewN nq) = .ok (.agg #[.int .i64 ((ux U a').a : Nat), .int .i64 ((ux U a').n : Nat), .int .i64 ((ux U a').k : Nat)]) (W1.drewN nq) := fun nq => look_use (Hs1.out.u.drewN nq) Hwa.out
  clear hs ha hlt h hX0 hxb f1
  have q1b : decide (n' < 1) = false := by simp; have := HN.out; omega
  have q2b : decide (a' < 0) = false := by simp; have := Ha.out; omega
  have q3b : decide (0 < (ux L a').k) = false := by simp; omega
  have q4b : decide (0 < (ux U a').k) = false := by simp; omega
  have Hn := hid hn
  have HUl := hid hUl
  have HAl := hid hAl
  clear hL0 hU0 hn hUl hAl
  generalize ux L a' = u at *
  generalize ux U a' = u2 at *
  go_quiet ((refine (made_ok T sb pb ub lb hb v U L H A _ (Hs1.out.drewN _)).mono ?_; rintro e w1 ⟨rfl, rfl⟩; exact ⟨rfl, _, rfl⟩))
  obtain ⟨W2, hW2⟩ : ∃ W2, W2 = W1.drewN nq := ⟨_, rfl⟩
  rw [← hW2]
  have F2 := hid (show Fr Nil W1 W2 from by rw [hW2]; exact (Fr.refl _ _).drewN _)
  clear hlkL hlkU hc0 hc1 hc2 hx0 hx1 hW2 q1b q2b q3b q4b
  obtain rfl := Ha.out
  obtain rfl := HN.out
  clear Ha HN
  have Hs2 := hid (Hs1.out.fr F2.out fun _ _ h => h)
  have hX := hid (HX.out.fr F2.out fun h => h)
  have hB := hid Hs2.out.blk
  have hT0 : T sb := Hs2.out.ts
  have hxT : ∀ k, T k → k ≠ xb := fun k hk => by have := Hlt.out k hk; have := Hxb.out; omega
  have HxT := hid hxT
  clear hxT hT0
  go_wp2_with fail
  have hS : (fun w' : World => w'.cell? ⟨sb, 1, none⟩ = some (.map (some ub)) ∧ w'.cell? ⟨xb, 0, none⟩ = some (.int .i64 (a : Nat)) ∧ w'.cell? ⟨xb, 1, none⟩ = some (.int .i64 (n : Nat))) W2.drew := ⟨hB.out.drew.cell 1, hX.out.drew.cell 0, hX.out.drew.cell 1⟩
  obtain ⟨w9, hrun9, k9, f9⟩ := KV.store (P := Tryz.prog) (v := .agg #[.int .i64 (a : Nat), .int .i64 (n : Nat), .int .i64 1]) Hs2.out.u.drew Tryz.underlying3 Tryz.underlying92 Hwa.out (by rw [show (Value.agg #[.int .i64 (a : Nat), .int .i64 (n : Nat), .int .i64 1]) = uv ⟨a, n, 1⟩ from rfl, mput_ent U ⟨a, n, 1⟩, List.length_map]; have := uput_length U ⟨a, n, 1⟩; have := HUl.out; omega)
  rw [show (Value.agg #[.int .i64 (a : Nat), .int .i64 (n : Nat), .int .i64 1]) = uv ⟨a, n, 1⟩ from rfl, mput_ent U ⟨a, n, 1⟩] at k9
  have K9 := hid k9
  have f9' : Fr (fun k => k = ub) W2 w9 := ((Fr.refl _ _).drew).then f9
  have F9 := hid f9'
  have hxu : xb ≠ ub := fun e => HxT.out ub Hs2.out.tu e.symm
  have hX9 := hid (hX.out.fr f9' hxu)
  have hB9 := hid (hB.out.fr f9' (blk_kv hB.out Hs2.out.u))
  have L9 := hid (Hs2.out.l.fr f9' fun h => Hs2.out.ul h.symm)
  have H9 := hid (Hs2.out.h.fr f9' fun h => Hs2.out.uh h.symm)
  have R9 := hid (Hs2.out.r.fr f9' fun k hk h => row_kv Hs2.out.r Hs2.out.u (by rw [hk, h]))
  clear k9 f9 f9' hxu
  refine wpU_region (k := 8) (S := (fun w' : World => w'.cell? ⟨sb, 1, none⟩ = some (.map (some ub)) ∧ w'.cell? ⟨xb, 0, none⟩ = some (.int .i64 (a : Nat)) ∧ w'.cell? ⟨xb, 1, none⟩ = some (.int .i64 (n : Nat)))) (by kernel_rfl) ?_
  refine wpU_take (i := 0) (v := ?_) rfl (by kernel_rfl) (by kernel_rfl) (fun _ _ _ h => h) _ _ _ _ (by kernel_rfl) (by kernel_rfl) (by kernel_rfl) (Or.inl ⟨by kernel_rfl, ?_⟩) hS ?_
  rotate_left
  · (intro w9 hS9; obtain ⟨s0, s1, s2⟩ := hS9; go_simp); (try with_reducible rfl)
  try simp only [Act.put, List.getElem_toArray, List.getElem_cons_succ, List.getElem_cons_zero, List.setIfInBounds_toArray, List.set_cons_zero, List.set_cons_succ]
  refine wpU_take (i := 1) (v := ?_) rfl (by kernel_rfl) (by kernel_rfl) (fun _ _ _ h => h) _ _ _ _ (by kernel_rfl) (by kernel_rfl) (by kernel_rfl) (Or.inl ⟨by kernel_rfl, ?_⟩) hS ?_
  rotate_left
  · (intro w9 hS9; obtain ⟨s0, s1, s2⟩ := hS9; go_simp); (try with_reducible rfl)
  try simp only [Act.put, List.getElem_toArray, List.getElem_cons_succ, List.getElem_cons_zero, List.setIfInBounds_toArray, List.set_cons_zero, List.set_cons_succ]
  refine wpU_take (i := 2) (v := ?_) rfl (by kernel_rfl) (by kernel_rfl) (fun _ _ _ h => h) _ _ _ _ (by kernel_rfl) (by kernel_rfl) (by kernel_rfl) (Or.inl ⟨by kernel_rfl, ?_⟩) hS ?_
  rotate_left
  · (intro w9 hS9; obtain ⟨s0, s1, s2⟩ := hS9; go_simp); (try with_reducible rfl)
  try simp only [Act.put, List.getElem_toArray, List.getElem_cons_succ, List.getElem_cons_zero, List.setIfInBounds_toArray, List.set_cons_zero, List.set_cons_succ]
  refine wpU_take (i := 3) (v := ?_) rfl (by kernel_rfl) (by kernel_rfl) (fun _ _ _ h => h) _ _ _ _ (by kernel_rfl) (by kernel_rfl) (by kernel_rfl) (Or.inl ⟨by kernel_rfl, ?_⟩) hS ?_
  rotate_left
  · (intro w9 hS9; obtain ⟨s0, s1, s2⟩ := hS9; go_simp); (try with_reducible rfl)
  try simp only [Act.put, List.getElem_toArray, List.getElem_cons_succ, List.getElem_cons_zero, List.setIfInBounds_toArray, List.set_cons_zero, List.set_cons_succ]
  refine wpU_take (i := 4) (v := ?_) rfl (by kernel_rfl) (by kernel_rfl) (fun _ _ _ h => h) _ _ _ _ (by kernel_rfl) (by kernel_rfl) (by kernel_rfl) (Or.inl ⟨by kernel_rfl, ?_⟩) hS ?_
  rotate_left
  · (intro w9 hS9; obtain ⟨s0, s1, s2⟩ := hS9; go_simp); (try with_reducible rfl)
  try simp only [Act.put, List.getElem_toArray, List.getElem_cons_succ, List.getElem_cons_zero, List.setIfInBounds_toArray, List.set_cons_zero, List.set_cons_succ]
  refine wpU_take (i := 5) (v := ?_) rfl (by kernel_rfl) (by kernel_rfl) (fun _ _ _ h => h) _ _ _ _ (by kernel_rfl) (by kernel_rfl) (by kernel_rfl) (Or.inl ⟨by kernel_rfl, ?_⟩) hS ?_
  rotate_left
  · (intro w9 hS9; obtain ⟨s0, s1, s2⟩ := hS9; go_simp); (try with_reducible rfl)
  try simp only [Act.put, List.getElem_toArray, List.getElem_cons_succ, List.getElem_cons_zero, List.setIfInBounds_toArray, List.set_cons_zero, List.set_cons_succ]
  refine wpU_take (i := 6) (v := ?_) rfl (by kernel_rfl) (by kernel_rfl) (fun _ _ _ h => h) _ _ _ _ (by kernel_rfl) (by kernel_rfl) (by kernel_rfl) (Or.inl ⟨by kernel_rfl, ?_⟩) hS ?_
  rotate_left
  · (intro w9 hS9; obtain ⟨s0, s1, s2⟩ := hS9; go_simp); (try with_reducible rfl)
  try simp only [Act.put, List.getElem_toArray, List.getElem_cons_succ, List.getElem_cons_zero, List.setIfInBounds_toArray, List.set_cons_zero, List.set_cons_succ]
  refine wpU_take (i := 7) (v := ?_) rfl (by kernel_rfl) (by kernel_rfl) (fun _ _ _ h => h) _ _ _ _ (by kernel_rfl) (by kernel_rfl) (by kernel_rfl) (Or.inl ⟨by kernel_rfl, ?_⟩) hS ?_
  rotate_left
  · (intro w9 hS9; obtain ⟨s0, s1, s2⟩ := hS9; go_simp); (try with_reducible rfl)
  try simp only [Act.put, List.getElem_toArray, List.getElem_cons_succ, List.getElem_cons_zero, List.setIfInBounds_toArray, List.set_cons_zero, List.set_cons_succ]
  refine wpU_next (i := 8) rfl (by kernel_rfl) (fun K hK => ?_)
  go_simp
  refine hK.out _ _ (fun h => absurd rfl h.1) ?_
  refine wpU_done (by kernel_rfl) ?_ _
  clear hK K
  clear hS hrun9
  have hB4 : w9.cell? ⟨sb, 4, none⟩ = some v := hB9.out.cell 4
  go_wp2_with fail
  clear hB4
  have hSK : (fun w' : World => w'.cell? ⟨sb, 4, none⟩ = some v ∧ w'.cell? ⟨xb, 0, none⟩ = some (.int .i64 (a : Nat)) ∧ w'.cell? ⟨xb, 1, none⟩ = some (.int .i64 (n : Nat))) w9.drew := ⟨hB9.out.drew.cell 4, hX9.out.drew.cell 0, hX9.out.drew.cell 1⟩
  refine wpU_region (k := 10) (S := (fun w' : World => w'.cell? ⟨sb, 4, none⟩ = some v ∧ w'.cell? ⟨xb, 0, none⟩ = some (.int .i64 (a : Nat)) ∧ w'.cell? ⟨xb, 1, none⟩ = some (.int .i64 (n : Nat)))) (by kernel_rfl) ?_
  refine wpU_take (i := 0) (v := ?_) rfl (by kernel_rfl) (by kernel_rfl) (fun _ _ _ h => h) _ _ _ _ (by kernel_rfl) (by kernel_rfl) (by kernel_rfl) (Or.inl ⟨by kernel_rfl, ?_⟩) hSK ?_
  rotate_left
  · (intro w9 hS9; obtain ⟨s0, s1, s2⟩ := hS9; go_simp); (try with_reducible rfl)
  try simp only [Act.put, List.getElem_toArray, List.getElem_cons_succ, List.getElem_cons_zero, List.setIfInBounds_toArray, List.set_cons_zero, List.set_cons_succ]
  refine wpU_take (i := 1) (v := ?_) rfl (by kernel_rfl) (by kernel_rfl) (fun _ _ _ h => h) _ _ _ _ (by kernel_rfl) (by kernel_rfl) (by kernel_rfl) (Or.inl ⟨by kernel_rfl, ?_⟩) hSK ?_
  rotate_left
  · (intro w9 hS9; obtain ⟨s0, s1, s2⟩ := hS9; go_simp); (try with_reducible rfl)
  try simp only [Act.put, List.getElem_toArray, List.getElem_cons_succ, List.getElem_cons_zero, List.setIfInBounds_toArray, List.set_cons_zero, List.set_cons_succ]
  refine wpU_take (i := 2) (v := ?_) rfl (by kernel_rfl) (by kernel_rfl) (fun _ _ _ h => h) _ _ _ _ (by kernel_rfl) (by kernel_rfl) (by kernel_rfl) (Or.inl ⟨by kernel_rfl, ?_⟩) hSK ?_
  rotate_left
  · (intro w9 hS9; obtain ⟨s0, s1, s2⟩ := hS9; go_simp); (try with_reducible rfl)
  try simp only [Act.put, List.getElem_toArray, List.getElem_cons_succ, List.getElem_cons_zero, List.setIfInBounds_toArray, List.set_cons_zero, List.set_cons_succ]
  refine wpU_take (i := 3) (v := ?_) rfl (by kernel_rfl) (by kernel_rfl) (fun _ _ _ h => h) _ _ _ _ (by kernel_rfl) (by kernel_rfl) (by kernel_rfl) (Or.inl ⟨by kernel_rfl, ?_⟩) hSK ?_
  rotate_left
  · (intro w9 hS9; obtain ⟨s0, s1, s2⟩ := hS9; go_simp); (try with_reducible rfl)
  try simp only [Act.put, List.getElem_toArray, List.getElem_cons_succ, List.getElem_cons_zero, List.setIfInBounds_toArray, List.set_cons_zero, List.set_cons_succ]
  refine wpU_take (i := 4) (v := ?_) rfl (by kernel_rfl) (by kernel_rfl) (fun _ _ _ h => h) _ _ _ _ (by kernel_rfl) (by kernel_rfl) (by kernel_rfl) (Or.inl ⟨by kernel_rfl, ?_⟩) hSK ?_
  rotate_left
  · (intro w9 hS9; obtain ⟨s0, s1, s2⟩ := hS9; go_simp); (try with_reducible rfl)
  try simp only [Act.put, List.getElem_toArray, List.getElem_cons_succ, List.getElem_cons_zero, List.setIfInBounds_toArray, List.set_cons_zero, List.set_cons_succ]
  refine wpU_take (i := 5) (v := ?_) rfl (by kernel_rfl) (by kernel_rfl) (fun _ _ _ h => h) _ _ _ _ (by kernel_rfl) (by kernel_rfl) (by kernel_rfl) (Or.inl ⟨by kernel_rfl, ?_⟩) hSK ?_
  rotate_left
  · (intro w9 hS9; obtain ⟨s0, s1, s2⟩ := hS9; go_simp); (try with_reducible rfl)
  try simp only [Act.put, List.getElem_toArray, List.getElem_cons_succ, List.getElem_cons_zero, List.setIfInBounds_toArray, List.set_cons_zero, List.set_cons_succ]
  refine wpU_next (i := 6) rfl (by kernel_rfl) (fun K hK => ?_)
  go_simp
  obtain ⟨W7, hW7⟩ : ∃ W7, W7 = (w9.alloc (.cells #[.int .i64 (a : Nat), .int .i64 (n : Nat)] 39)).drew := ⟨_, rfl⟩
  have hf7 : Fr Nil w9.drew W7 := by rw [hW7]; exact (Fr.refl Nil w9.drew).alloc _
  have hv7 : View W7 (New w9) 2 (.slice (some ⟨w9.heap.size, 0, none⟩) 1 1) 1 (rcells ⟨a, n⟩) := by
    rw [hW7]; exact View.lit (s := 2) w9.drew #[.int .i64 (a : Nat), .int .i64 (n : Nat)] 39 (0, 0) 1 rfl (by decide)
  rw [← hW7]
  clear hW7
  have hX7 := hid (hX9.out.drew.fr hf7 fun h => h)
  have hB7 := hid (hB9.out.drew.fr hf7 fun h => h)
  have R7 := hid (R9.out.drew.fr hf7 fun _ _ h => h)
  have hSK7 : (fun w' : World => w'.cell? ⟨sb, 4, none⟩ = some v ∧ w'.cell? ⟨xb, 0, none⟩ = some (.int .i64 (a : Nat)) ∧ w'.cell? ⟨xb, 1, none⟩ = some (.int .i64 (n : Nat))) W7 := ⟨hB7.out.cell 4, hX7.out.cell 0, hX7.out.cell 1⟩
  have F7 := hid hf7
  clear hf7 hSK
  refine hK.out _ _ (fun _ => hSK7) ?_
  clear hK K
  try simp only [Act.put, List.getElem_toArray, List.getElem_cons_succ, List.getElem_cons_zero, List.setIfInBounds_toArray, List.set_cons_zero, List.set_cons_succ]
  refine wpU_next (i := 7) rfl (by kernel_rfl) (fun K hK => ?_)
  refine step_app_view rfl _ _ 37 (by rfl) (.agg #[.int .i64 0, .int .i64 0]) 16 Tryz.underlying37 info_run2 rfl (by decide) R7.out (by rfl) hv7 (by rfl) (rcells_cell ⟨a, n⟩) (by have := HAl.out; omega) (by decide) ?_
  intro A6 c6 w6 q1 q2
  have hne : ∀ k, v.ownBlock = some k → k ≠ sb := fun k hk e => by have := R7.out.apart_blk hB7.out (by decide); exact this (by rw [hk, e])
  have hnx : ∀ k, v.ownBlock = some k → k ≠ xb := fun k hk e => HxT.out k (Hs2.out.r.2 k hk) e
  have hB6 := hid (hB7.out.fr q2 fun h => hne sb h rfl)
  have hX6 := hid (hX7.out.fr q2 fun h => hnx xb h rfl)
  have hSK9 : (fun w' : World => w'.cell? ⟨sb, 4, none⟩ = some v ∧ w'.cell? ⟨xb, 0, none⟩ = some (.int .i64 (a : Nat)) ∧ w'.cell? ⟨xb, 1, none⟩ = some (.int .i64 (n : Nat))) w6 := ⟨hB6.out.cell 4, hX6.out.cell 0, hX6.out.cell 1⟩
  clear hSK7
  refine hK.out _ _ (fun _ => hSK9) ?_
  clear hK K
  try simp only [Act.put, List.getElem_toArray, List.getElem_cons_succ, List.getElem_cons_zero, List.setIfInBounds_toArray, List.set_cons_zero, List.set_cons_succ]
  refine wpU_next (i := 8) rfl (by kernel_rfl) (fun K hK => ?_)
  go_simp
  refine hK.out _ _ (fun _ => hSK9) ?_
  clear hK K
  try simp only [Act.put, List.getElem_toArray, List.getElem_cons_succ, List.getElem_cons_zero, List.setIfInBounds_toArray, List.set_cons_zero, List.set_cons_succ]
  refine wpU_next (i := 9) rfl (by kernel_rfl) (fun K hK => ?_)
  go_simp
  refine hK.out _ _ (fun _ => hSK9) ?_
  clear hK K
  try simp only [Act.put, List.getElem_toArray, List.getElem_cons_succ, List.getElem_cons_zero, List.setIfInBounds_toArray, List.set_cons_zero, List.set_cons_succ]
  have kc := hB6.out.cell 4
  have kz := hB6.out.frozen 4
  have hlt6 := hB6.out.lt
  refine wpU_next (i := 10) rfl (by kernel_rfl) (fun K hK => ?_)
  go_simp
  refine hK.out _ _ (fun h => absurd rfl h.1) ?_
  refine wpU_done (by kernel_rfl) ?_ _
  clear hK K
  clear kc kz hlt6 hSK9
  go_wp2
  go_ret
  have r7 := R7.out
  have hf67 : Fr (fun k => v.ownBlock = some k) w9 w6 := (((Fr.refl Nil w9).drew.then F7.out).nil).then q2
  have hfs : Fr (fun k => k = sb) w6 (w6.setCell ⟨sb, 4, none⟩ (.slice A6 (A.length + 1) c6)) := (Fr.refl (fun k => k = sb) w6).setCell (a := ⟨sb, 4, none⟩) (.inl rfl) _
  have s9 := Hs2.out
  have hnu : ∀ {b : Nat} {l : List (Int × Value)}, KV w9 b l → v.ownBlock ≠ some b := fun hk => row_kv R9.out hk
  have hkk : ∀ {b : Nat} {l : List (Int × Value)}, KV w9 b l → KV (w6.setCell ⟨sb, 4, none⟩ (.slice A6 (A.length + 1) c6)) b l := fun hk => (hk.fr hf67 (hnu hk)).fr hfs (fun h => blk_kv hB6.out (hk.fr hf67 (hnu hk)) h.symm)
  have hq1 := q1.setCell (a := ⟨sb, 4, none⟩) (q1.apart_blk hB6.out (by decide)) (.slice A6 (A.length + 1) c6)
  have hsz1 : w.heap.size ≤ W7.heap.size := Nat.le_trans F1.out.size (Nat.le_trans F2.out.size (Nat.le_trans F9.out.size F7.out.size))
  refine ⟨rfl, ?_, ?_⟩
  · refine Shp.of (ub := ub) (lb := lb) (hb := hb) (v := .slice A6 (A.length + 1) c6) ⟨hB6.out.set 4 _, hkk K9.out, hkk L9.out, hkk H9.out, ?_, s9.ul, s9.uh, s9.lh, .inl s9.ts, .inl s9.tu, .inl s9.tl, .inl s9.th⟩
    rw [List.length_append, dbl_append, dbl_one]
    refine hq1.mono fun k hk => ?_
    rcases hk with hk | hk
    · exact .inl (r7.2 k hk)
    · exact .inr (by omega)
  · exact (((F1.out.then F2.out).nil.then (F9.out.mono fun k hk => by rw [hk]; exact s9.tu)).then (hf67.mono fun k hk => r7.2 k hk)).then (hfs.mono fun k hk => by rw [hk]; exact s9.ts)
end Go.Proofs.YtgoghmblfdlnbaaGreat
end

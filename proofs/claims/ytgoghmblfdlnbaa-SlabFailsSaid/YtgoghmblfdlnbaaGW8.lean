/- The texts VRnRf, VRnP of this proof, one behind the other. Conditions: those of each. -/
import Derived.Test.YtgoghmblfdlnbaaGW7
section
/- slices.Replace on runs: within. -/
set_option linter.unusedSimpArgs false
set_option linter.unusedVariables false
namespace Go.Proofs.Ytgoghmblfdlnbaa
open Go.RowKit
set_option maxRecDepth 20000 in
/-- There is no room. -/
theorem repl_new (S Sv : Nat → Prop) (g cap n m : Nat) (l ys : List Rn) (i j : Nat) (vb vc : Nat) (w : World)
    (hr : Row w S 33 2 (.slice (some ⟨g, 0, none⟩) n cap) n (dbl l)) (hv : Row w Sv 33 2 (.slice (some ⟨vb, 0, none⟩) m vc) m (dbl ys)) (hvg : g ≠ vb) (hn : n ≤ 100000) (hm : m ≤ 4) (hij : i < j) (hj : j < n) (hcap : cap < i + m + (n - j)) :
    Calls Try.prog 47 #[.slice (some ⟨g, 0, none⟩) n cap, .int .i64 i, .int .i64 j, .slice (some ⟨vb, 0, none⟩) m vc] w fun e w' => Out w (.slice (some ⟨g, 0, none⟩) n cap) (i + m + (n - j)) (l.take i ++ ys ++ l.drop j) e w' := by
  have hln := hr.view.len2
  have Hln := hid hln; clear hln
  obtain ⟨g', cap', cur, heq, hSg, hgb, hcn, hcm, hcs, hct⟩ := hr.blk (by simp)
  injection heq with ha _ hc
  injection ha with ha
  injection ha with hg _ _
  subst hg; subst hc
  obtain ⟨vb', vc', cv, heq, hSv, hvb, hvn, -, hvs, -⟩ := hv.blk (by simp)
  injection heq with ha _ hc
  injection ha with ha
  injection ha with hg _ _
  subst hg; subst hc
  have hcm2 : cap ≤ 9223372036854775807 := by simp only [maxLen] at hcm; omega
  have hij2 : ((i : Int) == (j : Int)) = false := by simp; omega
  have hlj : (dbl (l.drop j)).length = (n - j) * 2 := by rw [dbl_length, List.length_drop, Hln.out]
  have hty : (dbl ys).take (m * 2) = dbl ys := List.take_of_length_le (by rw [hv.length]; omega)
  have hvl := hv.length
  have hb4 : ¬ (cap = i) := by omega
  have hb5 : ¬ (cap = j) := by omega
  have hij3 : (i : Int) ≤ (j : Int) := by omega
  have hjn : (j : Int) ≤ (n : Int) := by omega
  have hjn3 : (i : Int) ≤ (n : Int) := by omega
  have hjn2 : ((j : Int) == (n : Int)) = false := by simp; omega
  have hvp : View w S 2 (.slice (some ⟨g, 0, none⟩) i cap) i (dbl (l.take i)) := by rw [← dbl_take]; exact hr.view.pre (by omega)
  have h9 : i + (m + (n - j)) = i + m + (n - j) := by omega
  have hz : Hid ((i : Int) + (m : Int) + ((n - j : Nat) : Int) - (i : Int) = ((m + (n - j) : Nat) : Int)) := hid (by omega)
  have hgt : (cap : Int) < (i : Int) + (m : Int) + ((n - j : Nat) : Int) := by omega
  have Hcs := hid hcs
  have Hcm := hid hcm
  have Hct := hid hct
  have Hvl := hid hvl
  have Hty := hid hty
  have Hlj := hid hlj
  have Hvv := hid hv.own.view
  clear hct hcs hcm hv hr hvb hvs hty hvl hlj
  go_enter Try.func47, Try.ntmps47
  go_wp2_with fail
  go_region
  go_wp2_with (at_builtin; refine wp_appz rfl _ _ 31 3 rfl 33 2 16 .i64 (.agg #[.int .i64 0, .int .i64 0]) Try.underlying31 Try.underlying3 info_run rfl (by decide) _ i cap (m + (n - j)) _ _ rfl rfl hvp.drew (congrArg (Value.int .i64) hz.out) (by omega) (by omega) (by omega) (by decide) ?_)
  intro w1 g1 cur1 cap1 hg1 hb1 hs1 hc1 hcm1 ht1 hf1
  replace hg1 : w.heap.size ≤ g1 := hg1
  replace hf1 : Fr Nil w w1 := (Fr.refl Nil w).drew.then hf1
  rw [h9]
  have hcm1' : cap1 ≤ 9223372036854775807 := by simp only [maxLen] at hcm1; omega
  have hc1' : i + m + (n - j) ≤ cap1 := by omega
  have hb6 : ¬ (cap1 = i) := by omega
  have hb7 : ¬ (cap1 = i + m) := by omega
  have hv1 := Hvv.out.fr hf1 fun _ _ _ h => h
  have hg1b : Blk w1 g cur 33 := hgb.fr hf1 fun h => h
  have hg1ne : g ≠ g1 := by have := hgb.lt; omega
  have hfy : i * 2 + m * 2 ≤ cur1.size := by omega
  have hsl1 : (laid cur1 (i * 2) (dbl ys)).size = cur1.size := laid_size (by rw [Hvl.out]; exact hfy)
  obtain ⟨w2, hr2, hb2, hf2⟩ := run_copy_row (P := Try.prog) w1 31 3 33 2 Try.underlying31 size_run (some ⟨g1, i * 2, none⟩) (i + m + (n - j) - i) (cap1 - i) _ m (dbl ys) hv1 m g1 (i * 2) cur1 33 (by omega) hb1 (fun _ => rfl) hfy (fun u hu => dbl_cell ys u (List.mem_of_mem_take hu))
  rw [Hty.out] at hb2
  have hv2 : View w2 (fun k => k = g) 2 (.slice (some ⟨g, j * 2, none⟩) (n - j) (cap - j)) (n - j) (dbl (l.drop j)) := by
    refine (seg_view (hg1b.fr hf2 (fun h => hg1ne h)) j (n - j) (cap - j) _ ?_ (by have := Hcs.out; omega) (by omega) (by unfold maxLen; omega))
    rw [← dbl_drop, ← Hct.out, List.drop_take, Nat.sub_mul]
  have htd : (dbl (l.drop j)).take ((n - j) * 2) = dbl (l.drop j) := List.take_of_length_le (by rw [Hlj.out]; omega)
  obtain ⟨w3, hr3, hb3, hf3⟩ := run_copy_row (P := Try.prog) w2.drew 31 3 33 2 Try.underlying31 size_run (some ⟨g1, (i + m) * 2, none⟩) (n - j) (cap1 - (i + m)) _ (n - j) (dbl (l.drop j)) hv2.drew (n - j) g1 ((i + m) * 2) _ 33 (by omega) hb2.drew (fun _ => rfl) (by omega) (fun u hu => dbl_cell _ u (List.mem_of_mem_take hu))
  rw [htd] at hb3
  have hR : Row w3 (fun k => k = g ∨ w.heap.size ≤ k) 33 2 (.slice (some ⟨g1, 0, none⟩) (i + m + (n - j)) cap1) (i + m + (n - j)) (dbl (l.take i ++ ys ++ l.drop j)) := by
    refine Row.of_blk (.inr hg1) hb3 hc1' hcm1 (by rw [laid_size (by rw [Hlj.out]; omega), hsl1, hs1]) ?_
    have h := laid_two1 (cur := cur1) (p := i * 2) (q := m * 2) (Y := dbl ys) (D := dbl (l.drop j)) Hvl.out (by rw [Hlj.out]; omega)
    rw [dbl3, ← ht1, ← h, Hlj.out, show (i + m) * 2 = i * 2 + m * 2 by omega, show i * 2 + m * 2 + (n - j) * 2 = (i + m + (n - j)) * 2 by omega]
  have hF : Fr (fun k => k = g) w w3 := ((hf1.nil (S := fun k => k = g)).trans hf2 (fun k hk => .inr (by omega))).trans (((Fr.refl (fun k => k = g1) w2).drew).then hf3) (fun k hk => .inr (by omega))
  have Hfin := hid (show Out w (.slice (some ⟨g, 0, none⟩) n cap) (i + m + (n - j)) (l.take i ++ ys ++ l.drop j) (.returned (.slice (some ⟨g1, 0, none⟩) (i + m + (n - j)) cap1)) w3 from
    ⟨_, _, rfl, hR.mono (fun k hk => hk.imp (fun h => by simp [Value.ownBlock, h]) id), hF.mono (fun k hk => by simp [Value.ownBlock, hk]), fun h => (by cases h)⟩)
  have hw1 : IntKind.i64.wrap ((i : Int) + (m : Int)) = (i : Int) + (m : Int) := by rw [IntKind.wrap_i64]; omega
  have hw0 : (0 : Int) ≤ (i : Int) + (m : Int) := by omega
  have htn : ((i : Int) + (m : Int)).toNat = i + m := by omega
  have hb8 : (i : Int) + (m : Int) ≤ (i : Int) + (m : Int) + ((n - j : Nat) : Int) := by omega
  have hb9 : (i : Int) ≤ (i : Int) + (m : Int) + ((n - j : Nat) : Int) := by omega
  clear hR hF hf1 hf2 hf3 hb1 hb2 hb3 hfy hv1 hv2 htd hvp hgb hz hs1 hcm1 hg1b ht1 h9 hsl1
  go_wp2_with fail
  go_region
  go_wp2
  go_ret
  exact Hfin.out
set_option maxRecDepth 20000 in
/-- No more than is taken out. -/
theorem repl_less (S Sv : Nat → Prop) (g cap n m : Nat) (l ys : List Rn) (i j : Nat) (vb vc : Nat) (w : World)
    (hr : Row w S 33 2 (.slice (some ⟨g, 0, none⟩) n cap) n (dbl l)) (hv : Row w Sv 33 2 (.slice (some ⟨vb, 0, none⟩) m vc) m (dbl ys)) (hvg : g ≠ vb) (hn : n ≤ 100000) (hm : m ≤ 4) (hij : i < j) (hj : j < n) (hle : i + m ≤ j) :
    Calls Try.prog 47 #[.slice (some ⟨g, 0, none⟩) n cap, .int .i64 i, .int .i64 j, .slice (some ⟨vb, 0, none⟩) m vc] w fun e w' => Out w (.slice (some ⟨g, 0, none⟩) n cap) (i + m + (n - j)) (l.take i ++ ys ++ l.drop j) e w' := by
  have hln := hr.view.len2
  have Hln := hid hln; clear hln
  obtain ⟨g', cap', cur, heq, hSg, hgb, hcn, hcm, hcs, hct⟩ := hr.blk (by simp)
  injection heq with ha _ hc
  injection ha with ha
  injection ha with hg _ _
  subst hg; subst hc
  obtain ⟨vb', vc', cv, heq, hSv, hvb, hvn, -, hvs, -⟩ := hv.blk (by simp)
  injection heq with ha _ hc
  injection ha with ha
  injection ha with hg _ _
  subst hg; subst hc
  have hcm2 : cap ≤ 9223372036854775807 := by simp only [maxLen] at hcm; omega
  have hij2 : ((i : Int) == (j : Int)) = false := by simp; omega
  have hlj : (dbl (l.drop j)).length = (n - j) * 2 := by rw [dbl_length, List.length_drop, Hln.out]
  have hty : (dbl ys).take (m * 2) = dbl ys := List.take_of_length_le (by rw [hv.length]; omega)
  have hvl := hv.length
  have hb4 : ¬ (cap = i) := by omega
  have hb5 : ¬ (cap = j) := by omega
  have hb7 : ¬ (cap = i + m) := by omega
  have hij3 : (i : Int) ≤ (j : Int) := by omega
  have hjn : (j : Int) ≤ (n : Int) := by omega
  have hjn3 : (i : Int) ≤ (n : Int) := by omega
  have hjn2 : ((j : Int) == (n : Int)) = false := by simp; omega
  have hgt : ¬ ((cap : Int) < (i : Int) + (m : Int) + ((n - j : Nat) : Int)) := by omega
  have hgt2 : (i : Int) + (m : Int) + ((n - j : Nat) : Int) ≤ (cap : Int) := by omega
  have hgt4 : (i : Int) + (m : Int) + ((n - j : Nat) : Int) ≤ (n : Int) := by omega
  have hgt3 : (0 : Int) ≤ (i : Int) + (m : Int) + ((n - j : Nat) : Int) := by omega
  have htot : ((i : Int) + (m : Int) + ((n - j : Nat) : Int)).toNat = i + m + (n - j) := by omega
  have hles : (i : Int) + (m : Int) ≤ (j : Int) := by omega
  have hfy : i * 2 + m * 2 ≤ cur.size := by omega
  have hsl1 : (laid cur (i * 2) (dbl ys)).size = cur.size := laid_size (by omega)
  obtain ⟨w2, hr2, hb2, hf2⟩ := run_copy_row (P := Try.prog) w.drew 31 3 33 2 Try.underlying31 size_run (some ⟨g, i * 2, none⟩) (i + m + (n - j) - i) (cap - i) _ m (dbl ys) hv.view.drew m g (i * 2) cur 33 (by omega) hgb.drew (fun _ => rfl) hfy (fun u hu => dbl_cell ys u (List.mem_of_mem_take hu))
  rw [hty] at hb2
  have hv2 : View w2 (fun k => k = g) 2 (.slice (some ⟨g, j * 2, none⟩) (n - j) (cap - j)) (n - j) (dbl (l.drop j)) := by
    refine (seg_view hb2 j (n - j) (cap - j) _ ?_ (by omega) (by omega) (by unfold maxLen; omega))
    rw [laid_drop (by omega) (by omega), ← dbl_drop, ← hct, List.drop_take, Nat.sub_mul]
  have htd : (dbl (l.drop j)).take ((n - j) * 2) = dbl (l.drop j) := List.take_of_length_le (by omega)
  obtain ⟨w3, hr3, hb3, hf3⟩ := run_copy_row (P := Try.prog) w2.drew 31 3 33 2 Try.underlying31 size_run (some ⟨g, (i + m) * 2, none⟩) (n - j) (cap - (i + m)) _ (n - j) (dbl (l.drop j)) hv2.drew (n - j) g ((i + m) * 2) _ 33 (by omega) hb2.drew (fun _ => rfl) (by omega) (fun u hu => dbl_cell _ u (List.mem_of_mem_take hu))
  rw [htd] at hb3
  have hsl3 : (laid (laid cur (i * 2) (dbl ys)) ((i + m) * 2) (dbl (l.drop j))).size = cur.size := by rw [laid_size (by omega), hsl1]
  have hw1 : IntKind.i64.wrap ((i : Int) + (m : Int)) = (i : Int) + (m : Int) := by rw [IntKind.wrap_i64]; omega
  have hw0 : (0 : Int) ≤ (i : Int) + (m : Int) := by omega
  have htn : ((i : Int) + (m : Int)).toNat = i + m := by omega
  have hb8 : (i : Int) + (m : Int) ≤ (i : Int) + (m : Int) + ((n - j : Nat) : Int) := by omega
  have hb9 : (i : Int) ≤ (i : Int) + (m : Int) + ((n - j : Nat) : Int) := by omega
  have hfin : ∀ w4 cr4, Blk w4 g cr4 33 → cr4.size = cur.size → cr4.toList.take ((i + m + (n - j)) * 2) = (laid (laid cur (i * 2) (dbl ys)) ((i + m) * 2) (dbl (l.drop j))).toList.take ((i + m + (n - j)) * 2) → Fr (fun k => k = g) w3 w4 →
      Out w (.slice (some ⟨g, 0, none⟩) n cap) (i + m + (n - j)) (l.take i ++ ys ++ l.drop j) (.returned (.slice (some ⟨g, 0, none⟩) (i + m + (n - j)) cap)) w4 := by
    intro w4 cr4 hb4 hs4 ht4 hf4
    have hR : Row w4 (fun k => k = g) 33 2 (.slice (some ⟨g, 0, none⟩) (i + m + (n - j)) cap) (i + m + (n - j)) (dbl (l.take i ++ ys ++ l.drop j)) := by
      refine Row.of_blk rfl hb4 (by omega) hcm (by rw [hs4, hcs]) ?_
      have h := laid_two1 (cur := cur) (p := i * 2) (q := m * 2) (Y := dbl ys) (D := dbl (l.drop j)) hvl (by omega)
      have h2 : (dbl (l.take i)) = cur.toList.take (i * 2) := by rw [← dbl_take, ← hct, List.take_take, Nat.min_eq_left (by omega)]
      rw [ht4, dbl3, h2, ← h, hlj, show (i + m) * 2 = i * 2 + m * 2 by omega, show i * 2 + m * 2 + (n - j) * 2 = (i + m + (n - j)) * 2 by omega]
    have hF : Fr (fun k => k = g) w w4 := (((Fr.refl (fun k => k = g) w).drew.then hf2).then ((Fr.refl (fun k => k = g) w2).drew.then hf3)).then hf4
    exact ⟨_, _, rfl, hR.mono (fun k hk => .inl (by simp [Value.ownBlock, hk])), hF.mono (fun k hk => by simp [Value.ownBlock, hk]), fun h => (by cases h)⟩
  have Hcs := hid hcs
  have Hcm := hid hcm
  have Hct := hid hct
  have Hfin := hid hfin
  have Hb3 := hid hb3
  have Hsl3 := hid hsl3
  clear hct hcs hcm hv hr hvb hvs hty hvl hlj hf2 hf3 hfy hsl1 hv2 htd hb2 hb3 hfin hgb hsl3
  by_cases hc9 : cap = i + m + (n - j)
  · have hn9 : n = i + m + (n - j) := by omega
    have hr4 : (Builtin.clear_ #[31] 0 #[.slice (some ⟨g, 0, none⟩) 0 0]).run Try.prog w3 = .ok (.tuple #[]) w3 := by
      simp [Builtin.clear_, run_underlying Try.underlying31]
    have Hend := hid (Hfin.out w3 _ Hb3.out Hsl3.out rfl (Fr.refl _ _))
    have hnc : n = cap := by omega
    clear hn9 Hfin Hb3 Hsl3 Hcs Hcm Hct
    subst hnc
    rw [← hc9] at htot hr2 Hend ⊢
    have hr3b : (Builtin.copy_ #[31, 31] 3 #[.slice (some ⟨g, (i + m) * 2, none⟩) (n - (i + m)) (n - (i + m)), .slice (some ⟨g, j * 2, none⟩) (n - j) (n - j)]).run Try.prog w2.drew = .ok (.int .i64 ((n - j : Nat) : Int)) w3 := by
      have e : n - (i + m) = n - j := by omega
      rw [e] at hr3 ⊢; exact hr3
    have hin9 : (i : Int) + (m : Int) ≤ (n : Int) := by omega
    clear hc9 hr3
    go_enter Try.func47, Try.ntmps47
    go_wp2_with fail
    go_region
    go_wp2_with fail
    go_region
    go_wp2
    go_ret
    exact Hend.out
  · obtain ⟨w4, cr4, hr4, hb4, hs4, ht4, hf4⟩ := run_clear_wide (P := Try.prog) w3 31 0 33 2 (.agg #[.int .i64 0, .int .i64 0]) Try.underlying31 zero_run rfl (by decide) (by simp [Value.cells, Value.oneCell']) (some ⟨g, (i + m + (n - j)) * 2, none⟩) (n - (i + m + (n - j))) (cap - (i + m + (n - j))) g ((i + m + (n - j)) * 2) _ 33 Hb3.out (fun _ => rfl) (by have := Hsl3.out; have := Hcs.out; omega)
    have Hend := hid (Hfin.out w4 cr4 hb4 (by rw [hs4, Hsl3.out]) ht4 hf4)
    clear hb4 hs4 ht4 hf4
    go_enter Try.func47, Try.ntmps47
    go_wp2_with fail
    go_region
    go_wp2_with fail
    go_region
    go_wp2
    go_ret
    exact Hend.out
set_option maxRecDepth 20000 in
/-- More than is taken out, and there is room. -/
theorem repl_more (S Sv : Nat → Prop) (g cap n m : Nat) (l ys : List Rn) (i j : Nat) (vb vc : Nat) (w : World)
    (hr : Row w S 33 2 (.slice (some ⟨g, 0, none⟩) n cap) n (dbl l)) (hv : Row w Sv 33 2 (.slice (some ⟨vb, 0, none⟩) m vc) m (dbl ys)) (hvg : g ≠ vb) (hn : n ≤ 100000) (hm : m ≤ 4) (hij : i < j) (hj : j < n) (hlt : j < i + m) (hcap : i + m + (n - j) ≤ cap) :
    Calls Try.prog 47 #[.slice (some ⟨g, 0, none⟩) n cap, .int .i64 i, .int .i64 j, .slice (some ⟨vb, 0, none⟩) m vc] w fun e w' => Out w (.slice (some ⟨g, 0, none⟩) n cap) (i + m + (n - j)) (l.take i ++ ys ++ l.drop j) e w' := by
  have hln := hr.view.len2
  have Hln := hid hln; clear hln
  obtain ⟨g', cap', cur, heq, hSg, hgb, hcn, hcm, hcs, hct⟩ := hr.blk (by simp)
  injection heq with ha _ hc
  injection ha with ha
  injection ha with hg _ _
  subst hg; subst hc
  obtain ⟨vb', vc', cv, heq, hSv, hvb, hvn, -, hvs, -⟩ := hv.blk (by simp)
  injection heq with ha _ hc
  injection ha with ha
  injection ha with hg _ _
  subst hg; subst hc
  have hcm2 : cap ≤ 9223372036854775807 := by simp only [maxLen] at hcm; omega
  have hij2 : ((i : Int) == (j : Int)) = false := by simp; omega
  have hlj : (dbl (l.drop j)).length = (n - j) * 2 := by rw [dbl_length, List.length_drop, Hln.out]
  have hty : (dbl ys).take (m * 2) = dbl ys := List.take_of_length_le (by rw [hv.length]; omega)
  have hvl := hv.length
  have hov := apart w.drew g vb ((i + m) * 2) 0 cur cv hgb.drew hvb.drew hvg (by omega) (n - j) (cap - (i + m)) m vc
  have hb4 : ¬ (cap = i) := by omega
  have hb5 : ¬ (cap = j) := by omega
  have hb7 : ¬ (cap = i + m) := by omega
  have hij3 : (i : Int) ≤ (j : Int) := by omega
  have hjn : (j : Int) ≤ (n : Int) := by omega
  have hjn3 : (i : Int) ≤ (n : Int) := by omega
  have hjn2 : ((j : Int) == (n : Int)) = false := by simp; omega
  have hgt : ¬ ((cap : Int) < (i : Int) + (m : Int) + ((n - j : Nat) : Int)) := by omega
  have hgt2 : (i : Int) + (m : Int) + ((n - j : Nat) : Int) ≤ (cap : Int) := by omega
  have hgt3 : (0 : Int) ≤ (i : Int) + (m : Int) + ((n - j : Nat) : Int) := by omega
  have htot : ((i : Int) + (m : Int) + ((n - j : Nat) : Int)).toNat = i + m + (n - j) := by omega
  have hles : ¬ ((i : Int) + (m : Int) ≤ (j : Int)) := by omega
  have hl3 : (laid cur ((i + m) * 2) (dbl (l.drop j))).size = cur.size := laid_size (by omega)
  have hv1 : View w.drew.drew (fun k => k = g) 2 (.slice (some ⟨g, j * 2, none⟩) (n - j) (cap - j)) (n - j) (dbl (l.drop j)) := by
    refine (seg_view hgb.drew.drew j (n - j) (cap - j) _ ?_ (by omega) (by omega) (by unfold maxLen; omega))
    rw [← dbl_drop, ← hct, List.drop_take, Nat.sub_mul]
  have htd : (dbl (l.drop j)).take ((n - j) * 2) = dbl (l.drop j) := List.take_of_length_le (by omega)
  obtain ⟨w2, hr2, hb2, hf2⟩ := run_copy_row (P := Try.prog) w.drew.drew 31 3 33 2 Try.underlying31 size_run (some ⟨g, (i + m) * 2, none⟩) (n - j) (cap - (i + m)) _ (n - j) (dbl (l.drop j)) hv1 (n - j) g ((i + m) * 2) cur 33 (by omega) hgb.drew.drew (fun _ => rfl) (by omega) (fun u hu => dbl_cell _ u (List.mem_of_mem_take hu))
  rw [htd] at hb2
  have hv2 : View w2 _ 2 (.slice (some ⟨vb, 0, none⟩) m vc) m (dbl ys) := hv.own.view.drew.drew.fr hf2 (fun k hk _ h => hvg (by simp [Value.ownBlock] at hk; omega))
  obtain ⟨w3, hr3, hb3, hf3⟩ := run_copy_row (P := Try.prog) w2 31 3 33 2 Try.underlying31 size_run (some ⟨g, i * 2, none⟩) (i + m + (n - j) - i) (cap - i) _ m (dbl ys) hv2 m g (i * 2) _ 33 (by omega) hb2 (fun _ => rfl) (by omega) (fun u hu => dbl_cell ys u (List.mem_of_mem_take hu))
  rw [hty] at hb3
  have hw1 : IntKind.i64.wrap ((i : Int) + (m : Int)) = (i : Int) + (m : Int) := by rw [IntKind.wrap_i64]; omega
  have hw0 : (0 : Int) ≤ (i : Int) + (m : Int) := by omega
  have htn : ((i : Int) + (m : Int)).toNat = i + m := by omega
  have hb8 : (i : Int) + (m : Int) ≤ (i : Int) + (m : Int) + ((n - j : Nat) : Int) := by omega
  have hb9 : (i : Int) ≤ (i : Int) + (m : Int) + ((n - j : Nat) : Int) := by omega
  have hR : Row w3 (fun k => k = g) 33 2 (.slice (some ⟨g, 0, none⟩) (i + m + (n - j)) cap) (i + m + (n - j)) (dbl (l.take i ++ ys ++ l.drop j)) := by
    refine Row.of_blk rfl hb3 (by omega) hcm (by rw [laid_size (by omega), hl3, hcs]) ?_
    have h := laid_two2 (cur := cur) (p := i * 2) (q := m * 2) (Y := dbl ys) (D := dbl (l.drop j)) hvl (by omega)
    have h2 : (dbl (l.take i)) = cur.toList.take (i * 2) := by rw [← dbl_take, ← hct, List.take_take, Nat.min_eq_left (by omega)]
    rw [dbl3, h2, ← h, hlj, show (i + m) * 2 = i * 2 + m * 2 by omega, show i * 2 + m * 2 + (n - j) * 2 = (i + m + (n - j)) * 2 by omega]
  have hF : Fr (fun k => k = g) w w3 := ((Fr.refl (fun k => k = g) w).drew.drew.then hf2).then hf3
  have Hfin := hid (show Out w (.slice (some ⟨g, 0, none⟩) n cap) (i + m + (n - j)) (l.take i ++ ys ++ l.drop j) (.returned (.slice (some ⟨g, 0, none⟩) (i + m + (n - j)) cap)) w3 from
    ⟨_, _, rfl, hR.mono (fun k hk => .inl (by simp [Value.ownBlock, hk])), hF.mono (fun k hk => by simp [Value.ownBlock, hk]), fun h => (by cases h)⟩)
  clear hR hF hct hcs hcm hv hr hvb hvs hty hvl hlj hf2 hf3 hl3 hv1 hv2 htd hb2 hb3 hgb
  go_enter Try.func47, Try.ntmps47
  go_wp2_with fail
  go_region
  go_wp2_with (simp only [hov])
  go_region
  go_wp2
  go_ret
  exact Hfin.out
/-- slices.Replace. -/
theorem replace_ok (S Sv : Nat → Prop) (sv : Value) (n m : Nat) (l ys : List Rn) (i j : Nat) (vb vc : Nat) (w : World)
    (hr : Row w S 33 2 sv n (dbl l)) (hv : Row w Sv 33 2 (.slice (some ⟨vb, 0, none⟩) m vc) m (dbl ys)) (hvg : sv.ownBlock ≠ some vb) (hn : n ≤ 100000) (hm : m ≤ 4) (hij : i ≤ j) (hj : j ≤ n) :
    Calls Try.prog 47 #[sv, .int .i64 i, .int .i64 j, .slice (some ⟨vb, 0, none⟩) m vc] w fun e w' => Out w sv (i + m + (n - j)) (l.take i ++ ys ++ l.drop j) e w' := by
  rcases Nat.lt_or_ge i j with h | h
  · obtain ⟨g, cap, rfl, hS, _⟩ := hr.form (by omega)
    have hg : g ≠ vb := fun h => hvg (by simp [Value.ownBlock, h])
    rcases Nat.lt_or_ge j n with h2 | h2
    · by_cases h3 : i + m ≤ j
      · exact repl_less S Sv g cap n m l ys i j vb vc w hr hv hg hn hm h h2 h3
      · by_cases h4 : i + m + (n - j) ≤ cap
        · exact repl_more S Sv g cap n m l ys i j vb vc w hr hv hg hn hm h h2 (by omega) h4
        · exact repl_new S Sv g cap n m l ys i j vb vc w hr hv hg hn hm h h2 (by omega)
    · obtain rfl : j = n := by omega
      exact repl_end S Sv g cap j m l ys i vb vc w hr hv hg hn hm h
  · obtain rfl : i = j := by omega
    have := repl_ins S Sv sv n m l ys i vb vc w hr hv hvg hn hm hj
    rwa [show n + m = i + m + (n - i) by omega] at this
end Go.Proofs.Ytgoghmblfdlnbaa
end

section
/- Runs: put, known, New. -/
set_option linter.unusedSimpArgs false
set_option linter.unusedVariables false
namespace Go.Proofs.Ytgoghmblfdlnbaa
open Go.RowKit
/-- Runs: how many blocks there are, the runs; T: the blocks of memory that it may have. -/
def Rs (w : World) (T : Nat → Prop) (pb bl : Nat) (l : List Rn) : Prop :=
  T pb ∧ ∃ sv, Blk w pb #[.int .i64 (bl : Nat), sv] 101 ∧ Row w T 33 2 sv l.length (dbl l)
theorem Rs.mono {w : World} {T T' : Nat → Prop} {pb bl : Nat} {l : List Rn} (h : Rs w T pb bl l) (ht : ∀ k, T k → T' k) : Rs w T' pb bl l := by
  obtain ⟨h1, sv, h2, h3⟩ := h
  exact ⟨ht _ h1, sv, h2, h3.mono ht⟩
theorem Rs.fr {w w1 : World} {T S1 : Nat → Prop} {pb bl : Nat} {l : List Rn} (h : Rs w T pb bl l) (hf : Fr S1 w w1) (hn : ∀ k, T k → k < w.heap.size → ¬ S1 k) : Rs w1 T pb bl l := by
  obtain ⟨h1, sv, h2, h3⟩ := h
  exact ⟨h1, sv, h2.fr hf (hn _ h1 h2.lt), h3.fr hf (fun k hk => hn k (h3.2 k hk) (h3.lt k hk))⟩
theorem Rs.lt {w : World} {T : Nat → Prop} {pb bl : Nat} {l : List Rn} (h : Rs w T pb bl l) : pb < w.heap.size := by
  obtain ⟨h1, sv, h2, h3⟩ := h
  exact h2.lt
/-- Only what there is. -/
theorem Rs.bd {w : World} {T : Nat → Prop} {pb bl : Nat} {l : List Rn} (h : Rs w T pb bl l) : Rs w (fun k => T k ∧ k < w.heap.size) pb bl l := by
  obtain ⟨h1, sv, h2, h3⟩ := h
  exact ⟨⟨h1, h2.lt⟩, sv, h2, ⟨h3.1, fun k hk => ⟨h3.2 k hk, h3.lt k hk⟩⟩⟩
/-- What put makes of a list. -/
def putl (l : List Rn) (k : Nat) (ys : List Rn) : List Rn := l.take k ++ ys.filter nz ++ l.drop (k + 1)
theorem putl_length {l : List Rn} {k : Nat} (ys : List Rn) (h : k < l.length) : (putl l k ys).length = k + (ys.filter nz).length + (l.length - (k + 1)) := by
  unfold putl; simp; omega
theorem put_ok (T Sv : Nat → Prop) (pb bl : Nat) (l ys : List Rn) (k m : Nat) (vb vc : Nat) (w : World) (h : Rs w T pb bl l) (hk : k < l.length) (hl : l.length ≤ 100000)
    (hv : Row w Sv 33 2 (.slice (some ⟨vb, 0, none⟩) m vc) m (dbl ys)) (hm : m ≤ 4) (hT : ¬ T vb) :
    Calls Try.prog 40 #[.pointer (some ⟨pb, 0, none⟩), .int .i64 k, .slice (some ⟨vb, 0, none⟩) m vc] w fun e w' =>
      e = .returned (.tuple #[]) ∧ Rs w' (fun j => T j ∨ w.heap.size ≤ j) pb bl (putl l k ys) ∧ Fr (fun j => T j ∨ j = vb) w w' := by
  obtain ⟨hT1, sv, hb, hr⟩ := h
  have hym := hv.view.len2
  have hfm : (ys.filter nz).length ≤ m := by have := List.length_filter_le nz ys; omega
  have hpl := hid (putl_length ys hk)
  have hvp : pb ≠ vb := fun e => hT (e ▸ hT1)
  have hsv := hid (show sv.ownBlock ≠ some vb from fun e => hT (hr.2 vb e))
  have hap := hid (hr.apart_blk hb (by decide))
  have HT := hid hT; clear hT
  have Hm := hid hym; clear hym
  go_enter Try.func40, Try.ntmps40
  go_wp2_with fail
  refine (delete_ok Sv vb vc m ys (by omega) w hv).mono ?_
  rintro e w1 ⟨rfl, hv1, hf1⟩
  have hb1 := hb.fr hf1 hvp
  have hr1 := hr.fr hf1 (fun j hj hjv => hsv.out (hjv ▸ hj))
  have c0 := hb1.cell 0
  have c1 := hb1.cell 1
  have hkb : k + 1 ≤ 100000 := by omega
  clear hv hb hr
  go_wp2_with fail
  have hk2 : ((k : Int) + 1) = ((k + 1 : Nat) : Int) := by omega
  rw [hk2]
  clear hk2
  refine (replace_ok T Sv sv l.length (ys.filter nz).length l (ys.filter nz) k (k + 1) vb vc w1 hr1 hv1 hsv.out hl (by omega) (by omega) (by omega)).mono ?_
  rintro e w2 ⟨A, c, rfl, hr2, hf2, hn2⟩
  have hb2 := hb1.fr hf2 (fun e => hap.out e)
  have hap2 := hid (hr2.apart_blk hb2 (by decide))
  have d1 := hb2.cell 1
  have z1 := hb2.frozen 1
  have hlt := hb2.lt
  have hfin : Rs (w2.setCell ⟨pb, 1, none⟩ (.slice A (k + (ys.filter nz).length + (l.length - (k + 1))) c)) (fun j => T j ∨ w.heap.size ≤ j) pb bl (putl l k ys) := by
    refine ⟨.inl hT1, _, hb2.set 1 _, ?_⟩
    rw [hpl.out]
    refine Row.setCell (Row.mono hr2 fun j hj => ?_) ?_ _
    · rcases hj with hj | hj
      · exact .inl (hr1.2 j hj)
      · exact .inr (Nat.le_trans hf1.size hj)
    · exact hap2.out
  have hF : Fr (fun j => T j ∨ j = vb) w (w2.setCell ⟨pb, 1, none⟩ (.slice A (k + (ys.filter nz).length + (l.length - (k + 1))) c)) :=
    ((hf1.mono (S' := fun j => T j ∨ j = vb) fun j hj => .inr hj).trans hf2 (fun j hj => .inl (.inl (hr1.2 j hj)))).setCell (.inl (.inl hT1)) _
  have Hfin := hid (And.intro hfin hF)
  clear hfin hF hr2 hf2 hn2 hb2 hr1 hv1 hb1 hf1 c0 c1
  go_wp2
  go_end0
  exact ⟨rfl, Hfin.out.1, Hfin.out.2⟩
/-- Are there such blocks? -/
def knownB (bl : Nat) (a n : Int) : Bool := decide (0 ≤ a ∧ 1 ≤ n ∧ n ≤ bl ∧ a ≤ bl - n)
theorem known_ok (T : Nat → Prop) (pb bl : Nat) (l : List Rn) (a n : Int) (w : World) (h : Rs w T pb bl l) (hbl : bl ≤ 100000) :
    Calls Try.prog 39 #[.pointer (some ⟨pb, 0, none⟩), .int .i64 a, .int .i64 n] w fun e w' => e = .returned (.bool (knownB bl a n)) ∧ w = w' := by
  obtain ⟨hT1, sv, hb, hr⟩ := h
  have c0 := hb.cell 0
  clear hr
  by_cases h1 : 0 ≤ a
  · by_cases h2 : 1 ≤ n
    · by_cases h3 : n ≤ bl
      · by_cases h4 : a ≤ bl - n
        · have H := hid (show knownB bl a n = true from by unfold knownB; simp; omega)
          go_enter Try.func39, Try.ntmps39
          go_wp2
          go_ret
          rw [H.out]; exact ⟨rfl, rfl⟩
        · have H := hid (show knownB bl a n = false from by unfold knownB; simp; omega)
          go_enter Try.func39, Try.ntmps39
          go_wp2
          go_ret
          rw [H.out]; exact ⟨rfl, rfl⟩
      · have H := hid (show knownB bl a n = false from by unfold knownB; simp; omega)
        go_enter Try.func39, Try.ntmps39
        go_wp2
        go_ret
        rw [H.out]; exact ⟨rfl, rfl⟩
    · have H := hid (show knownB bl a n = false from by unfold knownB; simp; omega)
      go_enter Try.func39, Try.ntmps39
      go_wp2
      go_ret
      rw [H.out]; exact ⟨rfl, rfl⟩
  · have H := hid (show knownB bl a n = false from by unfold knownB; simp; omega)
    go_enter Try.func39, Try.ntmps39
    go_wp2
    go_ret
    rw [H.out]; exact ⟨rfl, rfl⟩
/-- New. -/
def newBl (b : Int) : Nat := if 1 ≤ b ∧ b ≤ 8192 then b.toNat else 0
def newL (b : Int) : List Rn := if 1 ≤ b ∧ b ≤ 8192 then [⟨0, b.toNat⟩] else []
theorem new_ok (b : Int) (w : World) :
    Calls Try.prog 21 #[.int .i64 b] w fun e w' => ∃ pb, e = .returned (.pointer (some ⟨pb, 0, none⟩)) ∧ Rs w' (New w) pb (newBl b) (newL b) ∧ Fr Nil w w' := by
  by_cases h : 1 ≤ b ∧ b ≤ 8192
  · obtain ⟨n, rfl⟩ : ∃ n : Nat, b = n := ⟨b.toNat, by omega⟩
    have H1 := hid (show newBl n = n from by unfold newBl; rw [if_pos h]; omega)
    have H2 := hid (show newL n = [⟨0, n⟩] from by unfold newL; rw [if_pos h]; rfl)
    obtain ⟨h1, h2⟩ := h
    go_enter Try.func21, Try.ntmps21
    go_wp2
    go_ret
    rw [H1.out, H2.out]
    have hR := (Row.made w #[.int .i64 0, .int .i64 n] 33 2 1 1 rfl (by decide) (by decide)).alloc (.cells #[.int .i64 n, .slice (some ⟨w.heap.size, 0, none⟩) 1 1] 101)
    have hB := Blk.new (w.alloc (.cells #[.int .i64 0, .int .i64 n] 33)) #[.int .i64 n, .slice (some ⟨w.heap.size, 0, none⟩) 1 1] 101
    rw [show (w.alloc (.cells #[.int .i64 0, .int .i64 n] 33)).heap.size = w.heap.size + 1 by simp] at hB
    exact ⟨w.heap.size + 1, rfl, ⟨Nat.le_succ _, _, hB, hR⟩, ((Fr.refl _ _).alloc _).alloc _⟩
  · have H1 := hid (show newBl b = 0 from by unfold newBl; rw [if_neg h])
    have H2 := hid (show newL b = [] from by unfold newL; rw [if_neg h])
    by_cases h1 : b < 1
    · clear h
      go_enter Try.func21, Try.ntmps21
      go_wp2
      go_ret
      rw [H1.out, H2.out]
      exact ⟨w.heap.size, rfl, ⟨Nat.le_refl _, _, Blk.new w _ _, Row.nil _ _ _ _⟩, (Fr.refl _ _).alloc _⟩
    · have h2 : (8192 : Int) < b := by omega
      clear h
      go_enter Try.func21, Try.ntmps21
      go_wp2
      go_ret
      rw [H1.out, H2.out]
      exact ⟨w.heap.size, rfl, ⟨Nat.le_refl _, _, Blk.new w _ _, Row.nil _ _ _ _⟩, (Fr.refl _ _).alloc _⟩
end Go.Proofs.Ytgoghmblfdlnbaa
end

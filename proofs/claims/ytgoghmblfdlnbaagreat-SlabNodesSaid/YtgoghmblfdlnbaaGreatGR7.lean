/- The texts VRnRe, VRnRf of this proof, one behind the other. Conditions: those of each. -/
import Derived.Test.YtgoghmblfdlnbaaGreatGR6
section
/- slices.Replace on runs. -/
set_option linter.unusedSimpArgs false
set_option linter.unusedVariables false
namespace Go.Proofs.YtgoghmblfdlnbaaGreat
open Go.RowKit
set_option maxRecDepth 20000 in
/-- None is taken out. -/
theorem repl_ins (S Sv : Nat → Prop) (sv : Value) (n m : Nat) (l ys : List Rn) (i : Nat) (vb vc : Nat) (w : World)
    (hr : Row w S 39 2 sv n (dbl l)) (hv : Row w Sv 39 2 (.slice (some ⟨vb, 0, none⟩) m vc) m (dbl ys)) (hvg : sv.ownBlock ≠ some vb) (hn : n ≤ 100000) (hm : m ≤ 4) (hi : i ≤ n) :
    Calls Tryz.prog 64 #[sv, .int .i64 i, .int .i64 i, .slice (some ⟨vb, 0, none⟩) m vc] w fun e w' => Out w sv (n + m) (l.take i ++ ys ++ l.drop i) e w' := by
  obtain ⟨A, c, rfl⟩ := hr.slice
  have hle := hr.le
  obtain ⟨hl, A', c', e, e1, e2, e3, e4, e5⟩ := hr.view
  injection e with ea _ ec
  subst ea; subst ec
  have hcm : c ≤ 9223372036854775807 := by simp only [maxLen] at e2; omega
  clear e2 e3 e4 e5 hl
  have hins := insert_ok S Sv (.slice A n c) n m l ys i vb vc w hr hv hvg hn hm hi
  have Hins := hid hins
  clear hins hr hv hvg
  by_cases hci : c = i
  · have hnn : n = c := by omega
    subst hci; subst hnn
    go_enter Tryz.func64, Tryz.ntmps64
    go_wp2_with fail
    refine Hins.out.mono ?_
    rintro e w1 ⟨A, c, rfl, h1, h2, h3⟩
    go_wp2
    go_ret
    exact ⟨A, c, rfl, h1, h2, h3⟩
  · go_enter Tryz.func64, Tryz.ntmps64
    go_wp2_with fail
    refine Hins.out.mono ?_
    rintro e w1 ⟨A, c, rfl, h1, h2, h3⟩
    go_wp2
    go_ret
    exact ⟨A, c, rfl, h1, h2, h3⟩
set_option maxRecDepth 20000 in
/-- The last ones are taken out. -/
theorem repl_end (S Sv : Nat → Prop) (g cap n m : Nat) (l ys : List Rn) (i : Nat) (vb vc : Nat) (w : World)
    (hr : Row w S 39 2 (.slice (some ⟨g, 0, none⟩) n cap) n (dbl l)) (hv : Row w Sv 39 2 (.slice (some ⟨vb, 0, none⟩) m vc) m (dbl ys)) (hvg : g ≠ vb) (hn : n ≤ 100000) (hm : m ≤ 4) (hi : i < n) :
    Calls Tryz.prog 64 #[.slice (some ⟨g, 0, none⟩) n cap, .int .i64 i, .int .i64 n, .slice (some ⟨vb, 0, none⟩) m vc] w fun e w' => Out w (.slice (some ⟨g, 0, none⟩) n cap) (i + m + (n - n)) (l.take i ++ ys ++ l.drop n) e w' := by
  obtain ⟨j, hj⟩ : ∃ j, j = n := ⟨_, rfl⟩
  have hij : i < j := by omega
  have hln := hr.view.len2
  have Hln := hid hln; clear hln
  obtain ⟨g', cap', cur, heq, hSg, hgb, hcn, hcm, hcs, hct⟩ := hr.blk (by simp)
  injection heq with ha _ hc
  injection ha with ha
  injection ha with hg _ _
  subst hg; subst hc
  obtain ⟨vb', vc', cv, heq, hSv, hvb, hvn, -, hvs, -⟩ := hv.blk (by simp)
  injection heq with ha _ hc
  injection ha with ha
  injection ha with hg _ _
  subst hg; subst hc
  have hcm2 : cap ≤ 9223372036854775807 := by simp only [maxLen] at hcm; omega
  have hij2 : ((i : Int) == (j : Int)) = false := by simp; omega
  have hlj : (dbl (l.drop j)).length = (n - j) * 2 := by rw [dbl_length, List.length_drop, Hln.out]
  have hty : (dbl ys).take (m * 2) = dbl ys := List.take_of_length_le (by rw [hv.length]; omega)
  have hvl := hv.length
  have hdn : l.drop n = [] := List.drop_of_length_le (by rw [Hln.out]; omega)
  rw [hdn, List.append_nil, Nat.sub_self, Nat.add_zero]
  have hb4 : ¬ (cap = i) := by omega
  have hpre : Row w S 39 2 (.slice (some ⟨g, 0, none⟩) i cap) i (dbl (l.take i)) := by rw [← dbl_take]; exact hr.pre (by omega)
  have hin : (i : Int) ≤ (n : Int) := by omega
  clear hij2 hlj hj
  have hij2 : ((i : Int) == (n : Int)) = false := by simp; omega
  by_cases hlt : i + m < n
  · have hlt2 : (i : Int) + (m : Int) < (n : Int) := by omega
    have hpb : Blk w g cur 39 := hgb
    have hfit : (i + m) * 2 ≤ cur.size := by omega
    have hl1 : (laid cur (i * 2) (dbl ys)).size = cur.size := laid_size (by rw [hvl]; omega)
    have hb5 : ¬ (cap = i + m) := by omega
    have hw1 : IntKind.i64.wrap ((i : Int) + (m : Int)) = (i : Int) + (m : Int) := by rw [IntKind.wrap_i64]; omega
    have htn : ((i : Int) + (m : Int)).toNat = i + m := by omega
    have hle : (i : Int) + (m : Int) ≤ (n : Int) := by omega
    have h0 : (0 : Int) ≤ (i : Int) + (m : Int) := by omega
    have Hvb := hid hvb
    have Hcm := hid hcm
    have Hct := hid hct
    have Hcs := hid hcs
    clear hr hpre hvb hvs hcm hct hcs
    go_enter Tryz.func64, Tryz.ntmps64
    go_wp2_with (at_builtin; refine wp_app_room rfl _ _ 37 rfl 39 2 Tryz.underlying37 size_run g i cap cur hpb rfl ⟨vb, 0, none⟩ m vc (dbl ys) rfl hv.view (dbl_cell ys) (by omega) hfit ?_)
    intro w2 hb2 hf2
    obtain ⟨w3, cr3, hrun, hg3, hs3, ht3, hf3⟩ := run_clear_wide (P := Tryz.prog) w2 37 0 39 2 (.agg #[.int .i64 0, .int .i64 0]) Tryz.underlying37 zero_run rfl (by decide) (by simp [Value.cells, Value.oneCell']) (some ⟨g, (i + m) * 2, none⟩) (n - (i + m)) (cap - (i + m)) g ((i + m) * 2) _ 39 hb2 (fun _ => rfl) (by rw [hl1]; have := Hcs.out; omega)
    have hR : Row w3 (fun k => k = g) 39 2 (.slice (some ⟨g, 0, none⟩) (i + m) cap) (i + m) (dbl (l.take i ++ ys)) := by
      refine Row.of_blk rfl hg3 (by omega) Hcm.out (by rw [hs3, hl1, Hcs.out]) ?_
      have h2 : (dbl (l.take i)) = cur.toList.take (i * 2) := by rw [← dbl_take, ← Hct.out, List.take_take, Nat.min_eq_left (by omega)]
      rw [ht3, dbl_append, h2, laid_toList, List.take_append_of_le_length (by rw [List.length_append, List.length_take, Array.length_toList, hvl]; omega), List.take_of_length_le (by rw [List.length_append, List.length_take, Array.length_toList, hvl]; omega)]
    have Hfin := hid (show Out w (.slice (some ⟨g, 0, none⟩) n cap) (i + m) (l.take i ++ ys) (.returned (.slice (some ⟨g, 0, none⟩) (i + m) cap)) w3 from
      ⟨_, _, rfl, hR.mono (fun k hk => .inl (by simp [Value.ownBlock, hk])), (hf2.then hf3).mono (fun k hk => by simp [Value.ownBlock, hk]), fun h => (by cases h)⟩)
    clear hR hf2 hf3 hg3 ht3 hs3 hb2 hl1 hfit hpb hgb
    go_wp2
    go_ret
    exact Hfin.out
  · have hlt2 : ¬ ((i : Int) + (m : Int) < (n : Int)) := by omega
    have hvg2 := hid hvg
    clear hr hvb hvs hcm hct hcs hgb hty hvl
    go_enter Tryz.func64, Tryz.ntmps64
    go_wp2_with (at_builtin; refine wp_app_view rfl _ _ 37 rfl (.agg #[.int .i64 0, .int .i64 0]) 16 Tryz.underlying37 info_run rfl (by decide) hpre rfl hv.view rfl (dbl_cell ys) (by omega) (by decide) ?_)
    intro A2 cap2 w' r1 r2 r3
    rw [← dbl_append] at r1
    have hnn : A2 ≠ none := fun h => by have := (r3.1 h).1; simp at this
    have Hfin := hid (show Out w (.slice (some ⟨g, 0, none⟩) n cap) (i + m) (l.take i ++ ys) (.returned (.slice A2 (i + m) cap2)) w' from
      ⟨_, _, rfl, r1, r2, fun h => absurd h hnn⟩)
    clear r1 r2 r3 hnn
    go_wp2
    go_ret
    exact Hfin.out
end Go.Proofs.YtgoghmblfdlnbaaGreat
end

section
/- slices.Replace on runs: within. -/
set_option linter.unusedSimpArgs false
set_option linter.unusedVariables false
namespace Go.Proofs.YtgoghmblfdlnbaaGreat
open Go.RowKit
set_option maxRecDepth 20000 in
/-- There is no room. -/
theorem repl_new (S Sv : Nat → Prop) (g cap n m : Nat) (l ys : List Rn) (i j : Nat) (vb vc : Nat) (w : World)
    (hr : Row w S 39 2 (.slice (some ⟨g, 0, none⟩) n cap) n (dbl l)) (hv : Row w Sv 39 2 (.slice (some ⟨vb, 0, none⟩) m vc) m (dbl ys)) (hvg : g ≠ vb) (hn : n ≤ 100000) (hm : m ≤ 4) (hij : i < j) (hj : j < n) (hcap : cap < i + m + (n - j)) :
    Calls Tryz.prog 64 #[.slice (some ⟨g, 0, none⟩) n cap, .int .i64 i, .int .i64 j, .slice (some ⟨vb, 0, none⟩) m vc] w fun e w' => Out w (.slice (some ⟨g, 0, none⟩) n cap) (i + m + (n - j)) (l.take i ++ ys ++ l.drop j) e w' := by
  have hln := hr.view.len2
  have Hln := hid hln; clear hln
  obtain ⟨g', cap', cur, heq, hSg, hgb, hcn, hcm, hcs, hct⟩ := hr.blk (by simp)
  injection heq with ha _ hc
  injection ha with ha
  injection ha with hg _ _
  subst hg; subst hc
  obtain ⟨vb', vc', cv, heq, hSv, hvb, hvn, -, hvs, -⟩ := hv.blk (by simp)
  injection heq with ha _ hc
  injection ha with ha
  injection ha with hg _ _
  subst hg; subst hc
  have hcm2 : cap ≤ 9223372036854775807 := by simp only [maxLen] at hcm; omega
  have hij2 : ((i : Int) == (j : Int)) = false := by simp; omega
  have hlj : (dbl (l.drop j)).length = (n - j) * 2 := by rw [dbl_length, List.length_drop, Hln.out]
  have hty : (dbl ys).take (m * 2) = dbl ys := List.take_of_length_le (by rw [hv.length]; omega)
  have hvl := hv.length
  have hb4 : ¬ (cap = i) := by omega
  have hb5 : ¬ (cap = j) := by omega
  have hij3 : (i : Int) ≤ (j : Int) := by omega
  have hjn : (j : Int) ≤ (n : Int) := by omega
  have hjn3 : (i : Int) ≤ (n : Int) := by omega
  have hjn2 : ((j : Int) == (n : Int)) = false := by simp; omega
  have hvp : View w S 2 (.slice (some ⟨g, 0, none⟩) i cap) i (dbl (l.take i)) := by rw [← dbl_take]; exact hr.view.pre (by omega)
  have h9 : i + (m + (n - j)) = i + m + (n - j) := by omega
  have hz : Hid ((i : Int) + (m : Int) + ((n - j : Nat) : Int) - (i : Int) = ((m + (n - j) : Nat) : Int)) := hid (by omega)
  have hgt : (cap : Int) < (i : Int) + (m : Int) + ((n - j : Nat) : Int) := by omega
  have Hcs := hid hcs
  have Hcm := hid hcm
  have Hct := hid hct
  have Hvl := hid hvl
  have Hty := hid hty
  have Hlj := hid hlj
  have Hvv := hid hv.own.view
  clear hct hcs hcm hv hr hvb hvs hty hvl hlj
  go_enter Tryz.func64, Tryz.ntmps64
  go_wp2_with fail
  go_region
  go_wp2_with (at_builtin; refine wp_appz rfl _ _ 37 3 rfl 39 2 16 .i64 (.agg #[.int .i64 0, .int .i64 0]) Tryz.underlying37 Tryz.underlying3 info_run rfl (by decide) _ i cap (m + (n - j)) _ _ rfl rfl hvp.drew (congrArg (Value.int .i64) hz.out) (by omega) (by omega) (by omega) (by decide) ?_)
  intro w1 g1 cur1 cap1 hg1 hb1 hs1 hc1 hcm1 ht1 hf1
  replace hg1 : w.heap.size ≤ g1 := hg1
  replace hf1 : Fr Nil w w1 := (Fr.refl Nil w).drew.then hf1
  rw [h9]
  have hcm1' : cap1 ≤ 9223372036854775807 := by simp only [maxLen] at hcm1; omega
  have hc1' : i + m + (n - j) ≤ cap1 := by omega
  have hb6 : ¬ (cap1 = i) := by omega
  have hb7 : ¬ (cap1 = i + m) := by omega
  have hv1 := Hvv.out.fr hf1 fun _ _ _ h => h
  have hg1b : Blk w1 g cur 39 := hgb.fr hf1 fun h => h
  have hg1ne : g ≠ g1 := by have := hgb.lt; omega
  have hfy : i * 2 + m * 2 ≤ cur1.size := by omega
  have hsl1 : (laid cur1 (i * 2) (dbl ys)).size = cur1.size := laid_size (by rw [Hvl.out]; exact hfy)
  obtain ⟨w2, hr2, hb2, hf2⟩ := run_copy_row (P := Tryz.prog) w1 37 3 39 2 Tryz.underlying37 size_run (some ⟨g1, i * 2, none⟩) (i + m + (n - j) - i) (cap1 - i) _ m (dbl ys) hv1 m g1 (i * 2) cur1 39 (by omega) hb1 (fun _ => rfl) hfy (fun u hu => dbl_cell ys u (List.mem_of_mem_take hu))
  rw [Hty.out] at hb2
  have hv2 : View w2 (fun k => k = g) 2 (.slice (some ⟨g, j * 2, none⟩) (n - j) (cap - j)) (n - j) (dbl (l.drop j)) := by
    refine (seg_view (hg1b.fr hf2 (fun h => hg1ne h)) j (n - j) (cap - j) _ ?_ (by have := Hcs.out; omega) (by omega) (by unfold maxLen; omega))
    rw [← dbl_drop, ← Hct.out, List.drop_take, Nat.sub_mul]
  have htd : (dbl (l.drop j)).take ((n - j) * 2) = dbl (l.drop j) := List.take_of_length_le (by rw [Hlj.out]; omega)
  obtain ⟨w3, hr3, hb3, hf3⟩ := run_copy_row (P := Tryz.prog) w2.drew 37 3 39 2 Tryz.underlying37 size_run (some ⟨g1, (i + m) * 2, none⟩) (n - j) (cap1 - (i + m)) _ (n - j) (dbl (l.drop j)) hv2.drew (n - j) g1 ((i + m) * 2) _ 39 (by omega) hb2.drew (fun _ => rfl) (by omega) (fun u hu => dbl_cell _ u (List.mem_of_mem_take hu))
  rw [htd] at hb3
  have hR : Row w3 (fun k => k = g ∨ w.heap.size ≤ k) 39 2 (.slice (some ⟨g1, 0, none⟩) (i + m + (n - j)) cap1) (i + m + (n - j)) (dbl (l.take i ++ ys ++ l.drop j)) := by
    refine Row.of_blk (.inr hg1) hb3 hc1' hcm1 (by rw [laid_size (by rw [Hlj.out]; omega), hsl1, hs1]) ?_
    have h := laid_two1 (cur := cur1) (p := i * 2) (q := m * 2) (Y := dbl ys) (D := dbl (l.drop j)) Hvl.out (by rw [Hlj.out]; omega)
    rw [dbl3, ← ht1, ← h, Hlj.out, show (i + m) * 2 = i * 2 + m * 2 by omega, show i * 2 + m * 2 + (n - j) * 2 = (i + m + (n - j)) * 2 by omega]
  have hF : Fr (fun k => k = g) w w3 := ((hf1.nil (S := fun k => k = g)).trans hf2 (fun k hk => .inr (by omega))).trans (((Fr.refl (fun k => k = g1) w2).drew).then hf3) (fun k hk => .inr (by omega))
  have Hfin := hid (show Out w (.slice (some ⟨g, 0, none⟩) n cap) (i + m + (n - j)) (l.take i ++ ys ++ l.drop j) (.returned (.slice (some ⟨g1, 0, none⟩) (i + m + (n - j)) cap1)) w3 from
    ⟨_, _, rfl, hR.mono (fun k hk => hk.imp (fun h => by simp [Value.ownBlock, h]) id), hF.mono (fun k hk => by simp [Value.ownBlock, hk]), fun h => (by cases h)⟩)
  have hw1 : IntKind.i64.wrap ((i : Int) + (m : Int)) = (i : Int) + (m : Int) := by rw [IntKind.wrap_i64]; omega
  have hw0 : (0 : Int) ≤ (i : Int) + (m : Int) := by omega
  have htn : ((i : Int) + (m : Int)).toNat = i + m := by omega
  have hb8 : (i : Int) + (m : Int) ≤ (i : Int) + (m : Int) + ((n - j : Nat) : Int) := by omega
  have hb9 : (i : Int) ≤ (i : Int) + (m : Int) + ((n - j : Nat) : Int) := by omega
  clear hR hF hf1 hf2 hf3 hb1 hb2 hb3 hfy hv1 hv2 htd hvp hgb hz hs1 hcm1 hg1b ht1 h9 hsl1
  go_wp2_with fail
  go_region
  go_wp2
  go_ret
  exact Hfin.out
set_option maxRecDepth 20000 in
/-- No more than is taken out. -/
theorem repl_less (S Sv : Nat → Prop) (g cap n m : Nat) (l ys : List Rn) (i j : Nat) (vb vc : Nat) (w : World)
    (hr : Row w S 39 2 (.slice (some ⟨g, 0, none⟩) n cap) n (dbl l)) (hv : Row w Sv 39 2 (.slice (some ⟨vb, 0, none⟩) m vc) m (dbl ys)) (hvg : g ≠ vb) (hn : n ≤ 100000) (hm : m ≤ 4) (hij : i < j) (hj : j < n) (hle : i + m ≤ j) :
    Calls Tryz.prog 64 #[.slice (some ⟨g, 0, none⟩) n cap, .int .i64 i, .int .i64 j, .slice (some ⟨vb, 0, none⟩) m vc] w fun e w' => Out w (.slice (some ⟨g, 0, none⟩) n cap) (i + m + (n - j)) (l.take i ++ ys ++ l.drop j) e w' := by
  have hln := hr.view.len2
  have Hln := hid hln; clear hln
  obtain ⟨g', cap', cur, heq, hSg, hgb, hcn, hcm, hcs, hct⟩ := hr.blk (by simp)
  injection heq with ha _ hc
  injection ha with ha
  injection ha with hg _ _
  subst hg; subst hc
  obtain ⟨vb', vc', cv, heq, hSv, hvb, hvn, -, hvs, -⟩ := hv.blk (by simp)
  injection heq with ha _ hc
  injection ha with ha
  injection ha with hg _ _
  subst hg; subst hc
  have hcm2 : cap ≤ 9223372036854775807 := by simp only [maxLen] at hcm; omega
  have hij2 : ((i : Int) == (j : Int)) = false := by simp; omega
  have hlj : (dbl (l.drop j)).length = (n - j) * 2 := by rw [dbl_length, List.length_drop, Hln.out]
  have hty : (dbl ys).take (m * 2) = dbl ys := List.take_of_length_le (by rw [hv.length]; omega)
  have hvl := hv.length
  have hb4 : ¬ (cap = i) := by omega
  have hb5 : ¬ (cap = j) := by omega
  have hb7 : ¬ (cap = i + m) := by omega
  have hij3 : (i : Int) ≤ (j : Int) := by omega
  have hjn : (j : Int) ≤ (n : Int) := by omega
  have hjn3 : (i : Int) ≤ (n : Int) := by omega
  have hjn2 : ((j : Int) == (n : Int)) = false := by simp; omega
  have hgt : ¬ ((cap : Int) < (i : Int) + (m : Int) + ((n - j : Nat) : Int)) := by omega
  have hgt2 : (i : Int) + (m : Int) + ((n - j : Nat) : Int) ≤ (cap : Int) := by omega
  have hgt4 : (i : Int) + (m : Int) + ((n - j : Nat) : Int) ≤ (n : Int) := by omega
  have hgt3 : (0 : Int) ≤ (i : Int) + (m : Int) + ((n - j : Nat) : Int) := by omega
  have htot : ((i : Int) + (m : Int) + ((n - j : Nat) : Int)).toNat = i + m + (n - j) := by omega
  have hles : (i : Int) + (m : Int) ≤ (j : Int) := by omega
  have hfy : i * 2 + m * 2 ≤ cur.size := by omega
  have hsl1 : (laid cur (i * 2) (dbl ys)).size = cur.size := laid_size (by omega)
  obtain ⟨w2, hr2, hb2, hf2⟩ := run_copy_row (P := Tryz.prog) w.drew 37 3 39 2 Tryz.underlying37 size_run (some ⟨g, i * 2, none⟩) (i + m + (n - j) - i) (cap - i) _ m (dbl ys) hv.view.drew m g (i * 2) cur 39 (by omega) hgb.drew (fun _ => rfl) hfy (fun u hu => dbl_cell ys u (List.mem_of_mem_take hu))
  rw [hty] at hb2
  have hv2 : View w2 (fun k => k = g) 2 (.slice (some ⟨g, j * 2, none⟩) (n - j) (cap - j)) (n - j) (dbl (l.drop j)) := by
    refine (seg_view hb2 j (n - j) (cap - j) _ ?_ (by omega) (by omega) (by unfold maxLen; omega))
    rw [laid_drop (by omega) (by omega), ← dbl_drop, ← hct, List.drop_take, Nat.sub_mul]
  have htd : (dbl (l.drop j)).take ((n - j) * 2) = dbl (l.drop j) := List.take_of_length_le (by omega)
  obtain ⟨w3, hr3, hb3, hf3⟩ := run_copy_row (P := Tryz.prog) w2.drew 37 3 39 2 Tryz.underlying37 size_run (some ⟨g, (i + m) * 2, none⟩) (n - j) (cap - (i + m)) _ (n - j) (dbl (l.drop j)) hv2.drew (n - j) g ((i + m) * 2) _ 39 (by omega) hb2.drew (fun _ => rfl) (by omega) (fun u hu => dbl_cell _ u (List.mem_of_mem_take hu))
  rw [htd] at hb3
  have hsl3 : (laid (laid cur (i * 2) (dbl ys)) ((i + m) * 2) (dbl (l.drop j))).size = cur.size := by rw [laid_size (by omega), hsl1]
  have hw1 : IntKind.i64.wrap ((i : Int) + (m : Int)) = (i : Int) + (m : Int) := by rw [IntKind.wrap_i64]; omega
  have hw0 : (0 : Int) ≤ (i : Int) + (m : Int) := by omega
  have htn : ((i : Int) + (m : Int)).toNat = i + m := by omega
  have hb8 : (i : Int) + (m : Int) ≤ (i : Int) + (m : Int) + ((n - j : Nat) : Int) := by omega
  have hb9 : (i : Int) ≤ (i : Int) + (m : Int) + ((n - j : Nat) : Int) := by omega
  have hfin : ∀ w4 cr4, Blk w4 g cr4 39 → cr4.size = cur.size → cr4.toList.take ((i + m + (n - j)) * 2) = (laid (laid cur (i * 2) (dbl ys)) ((i + m) * 2) (dbl (l.drop j))).toList.take ((i + m + (n - j)) * 2) → Fr (fun k => k = g) w3 w4 →
      Out w (.slice (some ⟨g, 0, none⟩) n cap) (i + m + (n - j)) (l.take i ++ ys ++ l.drop j) (.returned (.slice (some ⟨g, 0, none⟩) (i + m + (n - j)) cap)) w4 := by
    intro w4 cr4 hb4 hs4 ht4 hf4
    have hR : Row w4 (fun k => k = g) 39 2 (.slice (some ⟨g, 0, none⟩) (i + m + (n - j)) cap) (i + m + (n - j)) (dbl (l.take i ++ ys ++ l.drop j)) := by
      refine Row.of_blk rfl hb4 (by omega) hcm (by rw [hs4, hcs]) ?_
      have h := laid_two1 (cur := cur) (p := i * 2) (q := m * 2) (Y := dbl ys) (D := dbl (l.drop j)) hvl (by omega)
      have h2 : (dbl (l.take i)) = cur.toList.take (i * 2) := by rw [← dbl_take, ← hct, List.take_take, Nat.min_eq_left (by omega)]
      rw [ht4, dbl3, h2, ← h, hlj, show (i + m) * 2 = i * 2 + m * 2 by omega, show i * 2 + m * 2 + (n - j) * 2 = (i + m + (n - j)) * 2 by omega]
    have hF : Fr (fun k => k = g) w w4 := (((Fr.refl (fun k => k = g) w).drew.then hf2).then ((Fr.refl (fun k => k = g) w2).drew.then hf3)).then hf4
    exact ⟨_, _, rfl, hR.mono (fun k hk => .inl (by simp [Value.ownBlock, hk])), hF.mono (fun k hk => by simp [Value.ownBlock, hk]), fun h => (by cases h)⟩
  have Hcs := hid hcs
  have Hcm := hid hcm
  have Hct := hid hct
  have Hfin := hid hfin
  have Hb3 := hid hb3
  have Hsl3 := hid hsl3
  clear hct hcs hcm hv hr hvb hvs hty hvl hlj hf2 hf3 hfy hsl1 hv2 htd hb2 hb3 hfin hgb hsl3
  by_cases hc9 : cap = i + m + (n - j)
  · have hn9 : n = i + m + (n - j) := by omega
    have hr4 : (Builtin.clear_ #[37] 0 #[.slice (some ⟨g, 0, none⟩) 0 0]).run Tryz.prog w3 = .ok (.tuple #[]) w3 := by
      simp [Builtin.clear_, run_underlying Tryz.underlying37]
    have Hend := hid (Hfin.out w3 _ Hb3.out Hsl3.out rfl (Fr.refl _ _))
    have hnc : n = cap := by omega
    clear hn9 Hfin Hb3 Hsl3 Hcs Hcm Hct
    subst hnc
    rw [← hc9] at htot hr2 Hend ⊢
    have hr3b : (Builtin.copy_ #[37, 37] 3 #[.slice (some ⟨g, (i + m) * 2, none⟩) (n - (i + m)) (n - (i + m)), .slice (some ⟨g, j * 2, none⟩) (n - j) (n - j)]).run Tryz.prog w2.drew = .ok (.int .i64 ((n - j : Nat) : Int)) w3 := by
      have e : n - (i + m) = n - j := by omega
      rw [e] at hr3 ⊢; exact hr3
    have hin9 : (i : Int) + (m : Int) ≤ (n : Int) := by omega
    clear hc9 hr3
    go_enter Tryz.func64, Tryz.ntmps64
    go_wp2_with fail
    go_region
    go_wp2_with fail
    go_region
    go_wp2
    go_ret
    exact Hend.out
  · obtain ⟨w4, cr4, hr4, hb4, hs4, ht4, hf4⟩ := run_clear_wide (P := Tryz.prog) w3 37 0 39 2 (.agg #[.int .i64 0, .int .i64 0]) Tryz.underlying37 zero_run rfl (by decide) (by simp [Value.cells, Value.oneCell']) (some ⟨g, (i + m + (n - j)) * 2, none⟩) (n - (i + m + (n - j))) (cap - (i + m + (n - j))) g ((i + m + (n - j)) * 2) _ 39 Hb3.out (fun _ => rfl) (by have := Hsl3.out; have := Hcs.out; omega)
    have Hend := hid (Hfin.out w4 cr4 hb4 (by rw [hs4, Hsl3.out]) ht4 hf4)
    clear hb4 hs4 ht4 hf4
    go_enter Tryz.func64, Tryz.ntmps64
    go_wp2_with fail
    go_region
    go_wp2_with fail
    go_region
    go_wp2
    go_ret
    exact Hend.out
set_option maxRecDepth 20000 in
/-- More than is taken out, and there is room. -/
theorem repl_more (S Sv : Nat → Prop) (g cap n m : Nat) (l ys : List Rn) (i j : Nat) (vb vc : Nat) (w : World)
    (hr : Row w S 39 2 (.slice (some ⟨g, 0, none⟩) n cap) n (dbl l)) (hv : Row w Sv 39 2 (.slice (some ⟨vb, 0, none⟩) m vc) m (dbl ys)) (hvg : g ≠ vb) (hn : n ≤ 100000) (hm : m ≤ 4) (hij : i < j) (hj : j < n) (hlt : j < i + m) (hcap : i + m + (n - j) ≤ cap) :
    Calls Tryz.prog 64 #[.slice (some ⟨g, 0, none⟩) n cap, .int .i64 i, .int .i64 j, .slice (some ⟨vb, 0, none⟩) m vc] w fun e w' => Out w (.slice (some ⟨g, 0, none⟩) n cap) (i + m + (n - j)) (l.take i ++ ys ++ l.drop j) e w' := by
  have hln := hr.view.len2
  have Hln := hid hln; clear hln
  obtain ⟨g', cap', cur, heq, hSg, hgb, hcn, hcm, hcs, hct⟩ := hr.blk (by simp)
  injection heq with ha _ hc
  injection ha with ha
  injection ha with hg _ _
  subst hg; subst hc
  obtain ⟨vb', vc', cv, heq, hSv, hvb, hvn, -, hvs, -⟩ := hv.blk (by simp)
  injection heq with ha _ hc
  injection ha with ha
  injection ha with hg _ _
  subst hg; subst hc
  have hcm2 : cap ≤ 9223372036854775807 := by simp only [maxLen] at hcm; omega
  have hij2 : ((i : Int) == (j : Int)) = false := by simp; omega
  have hlj : (dbl (l.drop j)).length = (n - j) * 2 := by rw [dbl_length, List.length_drop, Hln.out]
  have hty : (dbl ys).take (m * 2) = dbl ys := List.take_of_length_le (by rw [hv.length]; omega)
  have hvl := hv.length
  have hov := apart w.drew g vb ((i + m) * 2) 0 cur cv hgb.drew hvb.drew hvg (by omega) (n - j) (cap - (i + m)) m vc
  have hb4 : ¬ (cap = i) := by omega
  have hb5 : ¬ (cap = j) := by omega
  have hb7 : ¬ (cap = i + m) := by omega
  have hij3 : (i : Int) ≤ (j : Int) := by omega
  have hjn : (j : Int) ≤ (n : Int) := by omega
  have hjn3 : (i : Int) ≤ (n : Int) := by omega
  have hjn2 : ((j : Int) == (n : Int)) = false := by simp; omega
  have hgt : ¬ ((cap : Int) < (i : Int) + (m : Int) + ((n - j : Nat) : Int)) := by omega
  have hgt2 : (i : Int) + (m : Int) + ((n - j : Nat) : Int) ≤ (cap : Int) := by omega
  have hgt3 : (0 : Int) ≤ (i : Int) + (m : Int) + ((n - j : Nat) : Int) := by omega
  have htot : ((i : Int) + (m : Int) + ((n - j : Nat) : Int)).toNat = i + m + (n - j) := by omega
  have hles : ¬ ((i : Int) + (m : Int) ≤ (j : Int)) := by omega
  have hl3 : (laid cur ((i + m) * 2) (dbl (l.drop j))).size = cur.size := laid_size (by omega)
  have hv1 : View w.drew.drew (fun k => k = g) 2 (.slice (some ⟨g, j * 2, none⟩) (n - j) (cap - j)) (n - j) (dbl (l.drop j)) := by
    refine (seg_view hgb.drew.drew j (n - j) (cap - j) _ ?_ (by omega) (by omega) (by unfold maxLen; omega))
    rw [← dbl_drop, ← hct, List.drop_take, Nat.sub_mul]
  have htd : (dbl (l.drop j)).take ((n - j) * 2) = dbl (l.drop j) := List.take_of_length_le (by omega)
  obtain ⟨w2, hr2, hb2, hf2⟩ := run_copy_row (P := Tryz.prog) w.drew.drew 37 3 39 2 Tryz.underlying37 size_run (some ⟨g, (i + m) * 2, none⟩) (n - j) (cap - (i + m)) _ (n - j) (dbl (l.drop j)) hv1 (n - j) g ((i + m) * 2) cur 39 (by omega) hgb.drew.drew (fun _ => rfl) (by omega) (fun u hu => dbl_cell _ u (List.mem_of_mem_take hu))
  rw [htd] at hb2
  have hv2 : View w2 _ 2 (.slice (some ⟨vb, 0, none⟩) m vc) m (dbl ys) := hv.own.view.drew.drew.fr hf2 (fun k hk _ h => hvg (by simp [Value.ownBlock] at hk; omega))
  obtain ⟨w3, hr3, hb3, hf3⟩ := run_copy_row (P := Tryz.prog) w2 37 3 39 2 Tryz.underlying37 size_run (some ⟨g, i * 2, none⟩) (i + m + (n - j) - i) (cap - i) _ m (dbl ys) hv2 m g (i * 2) _ 39 (by omega) hb2 (fun _ => rfl) (by omega) (fun u hu => dbl_cell ys u (List.mem_of_mem_take hu))
  rw [hty] at hb3
  have hw1 : IntKind.i64.wrap ((i : Int) + (m : Int)) = (i : Int) + (m : Int) := by rw [IntKind.wrap_i64]; omega
  have hw0 : (0 : Int) ≤ (i : Int) + (m : Int) := by omega
  have htn : ((i : Int) + (m : Int)).toNat = i + m := by omega
  have hb8 : (i : Int) + (m : Int) ≤ (i : Int) + (m : Int) + ((n - j : Nat) : Int) := by omega
  have hb9 : (i : Int) ≤ (i : Int) + (m : Int) + ((n - j : Nat) : Int) := by omega
  have hR : Row w3 (fun k => k = g) 39 2 (.slice (some ⟨g, 0, none⟩) (i + m + (n - j)) cap) (i + m + (n - j)) (dbl (l.take i ++ ys ++ l.drop j)) := by
    refine Row.of_blk rfl hb3 (by omega) hcm (by rw [laid_size (by omega), hl3, hcs]) ?_
    have h := laid_two2 (cur := cur) (p := i * 2) (q := m * 2) (Y := dbl ys) (D := dbl (l.drop j)) hvl (by omega)
    have h2 : (dbl (l.take i)) = cur.toList.take (i * 2) := by rw [← dbl_take, ← hct, List.take_take, Nat.min_eq_left (by omega)]
    rw [dbl3, h2, ← h, hlj, show (i + m) * 2 = i * 2 + m * 2 by omega, show i * 2 + m * 2 + (n - j) * 2 = (i + m + (n - j)) * 2 by omega]
  have hF : Fr (fun k => k = g) w w3 := ((Fr.refl (fun k => k = g) w).drew.drew.then hf2).then hf3
  have Hfin := hid (show Out w (.slice (some ⟨g, 0, none⟩) n cap) (i + m + (n - j)) (l.take i ++ ys ++ l.drop j) (.returned (.slice (some ⟨g, 0, none⟩) (i + m + (n - j)) cap)) w3 from
    ⟨_, _, rfl, hR.mono (fun k hk => .inl (by simp [Value.ownBlock, hk])), hF.mono (fun k hk => by simp [Value.ownBlock, hk]), fun h => (by cases h)⟩)
  clear hR hF hct hcs hcm hv hr hvb hvs hty hvl hlj hf2 hf3 hl3 hv1 hv2 htd hb2 hb3 hgb
  go_enter Tryz.func64, Tryz.ntmps64
  go_wp2_with fail
  go_region
  go_wp2_with (simp only [hov])
  go_region
  go_wp2
  go_ret
  exact Hfin.out
/-- slices.Replace. -/
theorem replace_ok (S Sv : Nat → Prop) (sv : Value) (n m : Nat) (l ys : List Rn) (i j : Nat) (vb vc : Nat) (w : World)
    (hr : Row w S 39 2 sv n (dbl l)) (hv : Row w Sv 39 2 (.slice (some ⟨vb, 0, none⟩) m vc) m (dbl ys)) (hvg : sv.ownBlock ≠ some vb) (hn : n ≤ 100000) (hm : m ≤ 4) (hij : i ≤ j) (hj : j ≤ n) :
    Calls Tryz.prog 64 #[sv, .int .i64 i, .int .i64 j, .slice (some ⟨vb, 0, none⟩) m vc] w fun e w' => Out w sv (i + m + (n - j)) (l.take i ++ ys ++ l.drop j) e w' := by
  rcases Nat.lt_or_ge i j with h | h
  · obtain ⟨g, cap, rfl, hS, _⟩ := hr.form (by omega)
    have hg : g ≠ vb := fun h => hvg (by simp [Value.ownBlock, h])
    rcases Nat.lt_or_ge j n with h2 | h2
    · by_cases h3 : i + m ≤ j
      · exact repl_less S Sv g cap n m l ys i j vb vc w hr hv hg hn hm h h2 h3
      · by_cases h4 : i + m + (n - j) ≤ cap
        · exact repl_more S Sv g cap n m l ys i j vb vc w hr hv hg hn hm h h2 (by omega) h4
        · exact repl_new S Sv g cap n m l ys i j vb vc w hr hv hg hn hm h h2 (by omega)
    · obtain rfl : j = n := by omega
      exact repl_end S Sv g cap j m l ys i vb vc w hr hv hg hn hm h
  · obtain rfl : i = j := by omega
    have := repl_ins S Sv sv n m l ys i vb vc w hr hv hvg hn hm hj
    rwa [show n + m = i + m + (n - i) by omega] at this
end Go.Proofs.YtgoghmblfdlnbaaGreat
end

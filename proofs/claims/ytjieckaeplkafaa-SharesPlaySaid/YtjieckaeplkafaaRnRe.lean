/- slices.Replace on runs. -/
import Derived.Test.YtjieckaeplkafaaRnIn
set_option linter.unusedSimpArgs false
set_option linter.unusedVariables false
namespace Go.Proofs.Ytjieckaeplkafaa
open Go.RowKit
set_option maxRecDepth 20000 in
/-- None is taken out. -/
theorem repl_ins (S Sv : Nat → Prop) (sv : Value) (n m : Nat) (l ys : List Rn) (i : Nat) (vb vc : Nat) (w : World)
    (hr : Row w S 33 2 sv n (dbl l)) (hv : Row w Sv 33 2 (.slice (some ⟨vb, 0, none⟩) m vc) m (dbl ys)) (hvg : sv.ownBlock ≠ some vb) (hn : n ≤ 100000) (hm : m ≤ 4) (hi : i ≤ n) :
    Calls Try.prog 49 #[sv, .int .i64 i, .int .i64 i, .slice (some ⟨vb, 0, none⟩) m vc] w fun e w' => Out w sv (n + m) (l.take i ++ ys ++ l.drop i) e w' := by
  obtain ⟨A, c, rfl⟩ := hr.slice
  have hle := hr.le
  obtain ⟨hl, A', c', e, e1, e2, e3, e4, e5⟩ := hr.view
  injection e with ea _ ec
  subst ea; subst ec
  have hcm : c ≤ 9223372036854775807 := by simp only [maxLen] at e2; omega
  clear e2 e3 e4 e5 hl
  have hins := insert_ok S Sv (.slice A n c) n m l ys i vb vc w hr hv hvg hn hm hi
  have Hins := hid hins
  clear hins hr hv hvg
  by_cases hci : c = i
  · have hnn : n = c := by omega
    subst hci; subst hnn
    go_enter Try.func49, Try.ntmps49
    go_wp2_with fail
    refine Hins.out.mono ?_
    rintro e w1 ⟨A, c, rfl, h1, h2, h3⟩
    go_wp2
    go_ret
    exact ⟨A, c, rfl, h1, h2, h3⟩
  · go_enter Try.func49, Try.ntmps49
    go_wp2_with fail
    refine Hins.out.mono ?_
    rintro e w1 ⟨A, c, rfl, h1, h2, h3⟩
    go_wp2
    go_ret
    exact ⟨A, c, rfl, h1, h2, h3⟩
set_option maxRecDepth 20000 in
/-- The last ones are taken out. -/
theorem repl_end (S Sv : Nat → Prop) (g cap n m : Nat) (l ys : List Rn) (i : Nat) (vb vc : Nat) (w : World)
    (hr : Row w S 33 2 (.slice (some ⟨g, 0, none⟩) n cap) n (dbl l)) (hv : Row w Sv 33 2 (.slice (some ⟨vb, 0, none⟩) m vc) m (dbl ys)) (hvg : g ≠ vb) (hn : n ≤ 100000) (hm : m ≤ 4) (hi : i < n) :
    Calls Try.prog 49 #[.slice (some ⟨g, 0, none⟩) n cap, .int .i64 i, .int .i64 n, .slice (some ⟨vb, 0, none⟩) m vc] w fun e w' => Out w (.slice (some ⟨g, 0, none⟩) n cap) (i + m + (n - n)) (l.take i ++ ys ++ l.drop n) e w' := by
  obtain ⟨j, hj⟩ : ∃ j, j = n := ⟨_, rfl⟩
  have hij : i < j := by omega
  have hln := hr.view.len2
  have Hln := hid hln; clear hln
  obtain ⟨g', cap', cur, heq, hSg, hgb, hcn, hcm, hcs, hct⟩ := hr.blk (by simp)
  injection heq with ha _ hc
  injection ha with ha
  injection ha with hg _ _
  subst hg; subst hc
  obtain ⟨vb', vc', cv, heq, hSv, hvb, hvn, -, hvs, -⟩ := hv.blk (by simp)
  injection heq with ha _ hc
  injection ha with ha
  injection ha with hg _ _
  subst hg; subst hc
  have hcm2 : cap ≤ 9223372036854775807 := by simp only [maxLen] at hcm; omega
  have hij2 : ((i : Int) == (j : Int)) = false := by simp; omega
  have hlj : (dbl (l.drop j)).length = (n - j) * 2 := by rw [dbl_length, List.length_drop, Hln.out]
  have hty : (dbl ys).take (m * 2) = dbl ys := List.take_of_length_le (by rw [hv.length]; omega)
  have hvl := hv.length
  have hdn : l.drop n = [] := List.drop_of_length_le (by rw [Hln.out]; omega)
  rw [hdn, List.append_nil, Nat.sub_self, Nat.add_zero]
  have hb4 : ¬ (cap = i) := by omega
  have hpre : Row w S 33 2 (.slice (some ⟨g, 0, none⟩) i cap) i (dbl (l.take i)) := by rw [← dbl_take]; exact hr.pre (by omega)
  have hin : (i : Int) ≤ (n : Int) := by omega
  clear hij2 hlj hj
  have hij2 : ((i : Int) == (n : Int)) = false := by simp; omega
  by_cases hlt : i + m < n
  · have hlt2 : (i : Int) + (m : Int) < (n : Int) := by omega
    have hpb : Blk w g cur 33 := hgb
    have hfit : (i + m) * 2 ≤ cur.size := by omega
    have hl1 : (laid cur (i * 2) (dbl ys)).size = cur.size := laid_size (by rw [hvl]; omega)
    have hb5 : ¬ (cap = i + m) := by omega
    have hw1 : IntKind.i64.wrap ((i : Int) + (m : Int)) = (i : Int) + (m : Int) := by rw [IntKind.wrap_i64]; omega
    have htn : ((i : Int) + (m : Int)).toNat = i + m := by omega
    have hle : (i : Int) + (m : Int) ≤ (n : Int) := by omega
    have h0 : (0 : Int) ≤ (i : Int) + (m : Int) := by omega
    have Hvb := hid hvb
    have Hcm := hid hcm
    have Hct := hid hct
    have Hcs := hid hcs
    clear hr hpre hvb hvs hcm hct hcs
    go_enter Try.func49, Try.ntmps49
    go_wp2_with (at_builtin; refine wp_app_room rfl _ _ 37 rfl 33 2 Try.underlying37 size_run g i cap cur hpb rfl ⟨vb, 0, none⟩ m vc (dbl ys) rfl hv.view (dbl_cell ys) (by omega) hfit ?_)
    intro w2 hb2 hf2
    obtain ⟨w3, cr3, hrun, hg3, hs3, ht3, hf3⟩ := run_clear_wide (P := Try.prog) w2 37 0 33 2 (.agg #[.int .i64 0, .int .i64 0]) Try.underlying37 zero_run rfl (by decide) (by simp [Value.cells, Value.oneCell']) (some ⟨g, (i + m) * 2, none⟩) (n - (i + m)) (cap - (i + m)) g ((i + m) * 2) _ 33 hb2 (fun _ => rfl) (by rw [hl1]; have := Hcs.out; omega)
    have hR : Row w3 (fun k => k = g) 33 2 (.slice (some ⟨g, 0, none⟩) (i + m) cap) (i + m) (dbl (l.take i ++ ys)) := by
      refine Row.of_blk rfl hg3 (by omega) Hcm.out (by rw [hs3, hl1, Hcs.out]) ?_
      have h2 : (dbl (l.take i)) = cur.toList.take (i * 2) := by rw [← dbl_take, ← Hct.out, List.take_take, Nat.min_eq_left (by omega)]
      rw [ht3, dbl_append, h2, laid_toList, List.take_append_of_le_length (by rw [List.length_append, List.length_take, Array.length_toList, hvl]; omega), List.take_of_length_le (by rw [List.length_append, List.length_take, Array.length_toList, hvl]; omega)]
    have Hfin := hid (show Out w (.slice (some ⟨g, 0, none⟩) n cap) (i + m) (l.take i ++ ys) (.returned (.slice (some ⟨g, 0, none⟩) (i + m) cap)) w3 from
      ⟨_, _, rfl, hR.mono (fun k hk => .inl (by simp [Value.ownBlock, hk])), (hf2.then hf3).mono (fun k hk => by simp [Value.ownBlock, hk]), fun h => (by cases h)⟩)
    clear hR hf2 hf3 hg3 ht3 hs3 hb2 hl1 hfit hpb hgb
    go_wp2
    go_ret
    exact Hfin.out
  · have hlt2 : ¬ ((i : Int) + (m : Int) < (n : Int)) := by omega
    have hvg2 := hid hvg
    clear hr hvb hvs hcm hct hcs hgb hty hvl
    go_enter Try.func49, Try.ntmps49
    go_wp2_with (at_builtin; refine wp_app_view rfl _ _ 37 rfl (.agg #[.int .i64 0, .int .i64 0]) 16 Try.underlying37 info_run rfl (by decide) hpre rfl hv.view rfl (dbl_cell ys) (by omega) (by decide) ?_)
    intro A2 cap2 w' r1 r2 r3
    rw [← dbl_append] at r1
    have hnn : A2 ≠ none := fun h => by have := (r3.1 h).1; simp at this
    have Hfin := hid (show Out w (.slice (some ⟨g, 0, none⟩) n cap) (i + m) (l.take i ++ ys) (.returned (.slice A2 (i + m) cap2)) w' from
      ⟨_, _, rfl, r1, r2, fun h => absurd h hnn⟩)
    clear r1 r2 r3 hnn
    go_wp2
    go_ret
    exact Hfin.out
end Go.Proofs.Ytjieckaeplkafaa

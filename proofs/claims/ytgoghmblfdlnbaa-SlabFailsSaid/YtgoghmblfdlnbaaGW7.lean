/- The texts VRnIn, VRnRe of this proof, one behind the other. Conditions: those of each. -/
import Derived.Deep.Cut
import Derived.Deep.CutRange
import Derived.Lib.Overlaps
import Derived.Test.YtgoghmblfdlnbaaGW3
import Derived.Test.YtgoghmblfdlnbaaGW6
section
/- slices.Insert on runs. -/
set_option linter.unusedSimpArgs false
set_option linter.unusedVariables false
namespace Go.Proofs.Ytgoghmblfdlnbaa
open Go.RowKit
theorem Blk.shape {w : World} {g : Nat} {cs : Array Value} {T : TypeId} (h : Blk w g cs T) : w.shape? g = some (T, cs.size) := by
  unfold Blk at h
  simp [World.shape?, h]
theorem size_run_c (w : World) : (sizeOf 33).run Try.prog w = .ok 2 w := by kernel_rfl
/-- Two blocks that are apart. -/
theorem apart (w : World) (g vb o o2 : Nat) (cg cv : Array Value) (hg : Blk w g cg 33) (hv : Blk w vb cv 33) (hne : g ≠ vb) (h0 : cv.size ≠ 0) (la ca lb cb : Nat) :
    (callFunc 66 #[.slice (some ⟨g, o, none⟩) la ca, .slice (some ⟨vb, o2, none⟩) lb cb]).run Try.prog w = .ok (.value (.bool false)) w := by
  rw [run_callFunc_extern Try.func66 (by kernel_rfl) (by kernel_rfl) (by kernel_rfl) (e := Extern.SlicesOverlaps.overlaps #[31, 31] #[4]) (by kernel_rfl),
    Lib.run_overlaps_apart w 31 4 33 Try.underlying31 2 size_run_c ⟨g, o, none⟩ ⟨vb, o2, none⟩ la ca lb cb hne _ _ _ _ hg.shape hv.shape h0 (hg.frozen _) (hg.frozen _)]
  rfl
theorem Row.own {w : World} {S : Nat → Prop} {e : TypeId} {s n : Nat} {v : Value} {xs : List Value} (h : Row w S e s v n xs) : Row w (fun k => v.ownBlock = some k) e s v n xs := ⟨h.1, fun _ h => h⟩
theorem ins_all {l ys : List Rn} {n : Nat} (h : l.length = n) : dbl (l.take n ++ ys ++ l.drop n) = dbl l ++ dbl ys := by
  rw [List.take_of_length_le (by omega), List.drop_of_length_le (by omega), List.append_nil, dbl_append]
theorem dbl3 (a b c : List Rn) : dbl (a ++ b ++ c) = dbl a ++ dbl b ++ dbl c := by rw [dbl_append, dbl_append]
/-- What the result of Insert and Replace is: a row of s's own block, or a new one. -/
def Out (w : World) (sv : Value) (n : Nat) (l : List Rn) (e : Ending) (w' : World) : Prop :=
  ∃ A c, e = .returned (.slice A n c) ∧ Row w' (fun k => sv.ownBlock = some k ∨ w.heap.size ≤ k) 33 2 (.slice A n c) n (dbl l) ∧ Fr (fun k => sv.ownBlock = some k) w w' ∧ (A = none → sv = .slice none 0 0)
/-- Nothing is put in. -/
theorem insert_none (S Sv : Nat → Prop) (sv : Value) (n : Nat) (l : List Rn) (i : Nat) (B : Option Addr) (vc : Nat) (w : World)
    (hr : Row w S 33 2 sv n (dbl l)) (hi : i ≤ n) :
    Calls Try.prog 65 #[sv, .int .i64 i, .slice B 0 vc] w fun e w' => Out w sv n l e w' := by
  obtain ⟨A, c, rfl⟩ := hr.slice
  have hle := hr.le
  have hv := hr.view
  obtain ⟨hl, A', c', e, e1, e2, e3, e4, e5⟩ := hv
  injection e with ea _ ec
  subst ea; subst ec
  have hcm : c ≤ 9223372036854775807 := by simp only [maxLen] at e2; omega
  have hnil : A = none → (Value.slice A n c) = .slice none 0 0 := by
    intro h; subst h; have := e3 rfl; subst this; rw [show n = 0 by omega]
  have hfin : Out w (.slice A n c) n l (.returned (.slice A n c)) w := ⟨A, c, rfl, hr.own.mono fun k h => .inl h, Fr.refl _ _, hnil⟩
  have Hfin := hid hfin
  clear e2 e3 e4 e5 hfin hnil hr hl
  by_cases hci : c = i
  · subst hci
    obtain rfl : n = c := by omega
    go_enter Try.func65, Try.ntmps65
    go_wp2
    go_ret
    exact Hfin.out
  · go_enter Try.func65, Try.ntmps65
    go_wp2
    go_ret
    exact Hfin.out
/-- At the end. -/
theorem insert_end (S Sv : Nat → Prop) (sv : Value) (n m : Nat) (l ys : List Rn) (vb vc : Nat) (w : World)
    (hr : Row w S 33 2 sv n (dbl l)) (hv : View w Sv 2 (.slice (some ⟨vb, 0, none⟩) m vc) m (dbl ys)) (hn : n ≤ 100000) (hm : m ≤ 4) (hm0 : 0 < m) :
    Calls Try.prog 65 #[sv, .int .i64 n, .slice (some ⟨vb, 0, none⟩) m vc] w fun e w' => Out w sv (n + m) (l.take n ++ ys ++ l.drop n) e w' := by
  have hln := hr.view.len2
  have hle := hr.le
  obtain ⟨A, c, hsl⟩ := hr.slice
  subst hsl
  obtain ⟨hl, A', c', e, e1, e2, e3, e4, e5⟩ := hr.view
  injection e with ea _ ec
  subst ea; subst ec
  have hcm : c ≤ 9223372036854775807 := by simp only [maxLen] at e2; omega
  have Hln := hid hln; clear hln
  clear e2 e3 e4 e5 hl
  have hm9 : ¬ ((m : Int) = 0) := by omega
  by_cases hci : c = n
  · subst hci
    go_enter Try.func65, Try.ntmps65
    go_wp2_with (at_builtin; refine wp_app_view rfl _ _ 31 rfl (.agg #[.int .i64 0, .int .i64 0]) 16 Try.underlying31 info_run rfl (by decide) hr rfl hv rfl (dbl_cell ys) (by omega) (by decide) ?_)
    intro A2 cap w' r1 r2 r3
    go_wp2
    go_ret
    refine ⟨A2, cap, rfl, ?_, r2, fun h => (r3.1 h).1⟩
    rw [ins_all Hln.out]; exact r1
  · go_enter Try.func65, Try.ntmps65
    go_wp2_with (at_builtin; refine wp_app_view rfl _ _ 31 rfl (.agg #[.int .i64 0, .int .i64 0]) 16 Try.underlying31 info_run rfl (by decide) hr rfl hv rfl (dbl_cell ys) (by omega) (by decide) ?_)
    intro A2 cap w' r1 r2 r3
    go_wp2
    go_ret
    refine ⟨A2, cap, rfl, ?_, r2, fun h => (r3.1 h).1⟩
    rw [ins_all Hln.out]; exact r1
set_option maxRecDepth 20000 in
/-- There is no room. -/
theorem insert_new (S Sv : Nat → Prop) (g cap n m : Nat) (l ys : List Rn) (i : Nat) (vb vc : Nat) (w : World)
    (hr : Row w S 33 2 (.slice (some ⟨g, 0, none⟩) n cap) n (dbl l)) (hv : View w Sv 2 (.slice (some ⟨vb, 0, none⟩) m vc) m (dbl ys)) (hn : n ≤ 100000) (hm : m ≤ 4) (hm0 : 0 < m) (hi : i < n) (hcap : cap < n + m) :
    Calls Try.prog 65 #[.slice (some ⟨g, 0, none⟩) n cap, .int .i64 i, .slice (some ⟨vb, 0, none⟩) m vc] w fun e w' => Out w (.slice (some ⟨g, 0, none⟩) n cap) (n + m) (l.take i ++ ys ++ l.drop i) e w' := by
  have hln := hr.view.len2
  have Hln := hid hln; clear hln
  obtain ⟨g', cap', cur, heq, hSg, hgb, hcn, hcm, hcs, hct⟩ := hr.blk (by simp)
  injection heq with ha _ hc
  injection ha with ha
  injection ha with hg _ _
  subst hg; subst hc
  have hvp : View w S 2 (.slice (some ⟨g, 0, none⟩) i cap) i (dbl (l.take i)) := by rw [← dbl_take]; exact hr.view.pre (by omega)
  have hcm2 : cap ≤ 9223372036854775807 := by simp only [maxLen] at hcm; omega
  have h9 : i + (n + m - i) = n + m := by omega
  have hz : Hid (((n : Int) + (m : Int) - (i : Int)) = ((n + m - i : Nat) : Int)) := hid (by omega)
  have hm9 : ¬ ((m : Int) = 0) := by omega
  have hz2 : ¬ ((i : Int) = (n : Int)) := by omega
  have hb4 : ¬ (cap = i) := by omega
  clear hcm
  go_enter Try.func65, Try.ntmps65
  go_wp2_with (at_builtin; refine wp_appz rfl _ _ 31 3 rfl 33 2 16 .i64 (.agg #[.int .i64 0, .int .i64 0]) Try.underlying31 Try.underlying3 info_run rfl (by decide) _ i cap (n + m - i) _ _ rfl rfl hvp (congrArg (Value.int .i64) hz.out) (by omega) (by omega) (by omega) (by decide) ?_)
  intro w1 g1 cur1 cap1 hg1 hb1 hs1 hc1 hcm1 ht1 hf1
  rw [h9]
  have hcm1' : cap1 ≤ 9223372036854775807 := by simp only [maxLen] at hcm1; omega
  have hb5 : ¬ (cap1 = i) := by omega
  have hv1 : View w1 Sv 2 (.slice (some ⟨vb, 0, none⟩) m vc) m (dbl ys) := hv.fr hf1 fun _ _ _ h => h
  have hg1b : Blk w1 g cur 33 := hgb.fr hf1 fun h => h
  have hg1ne : g ≠ g1 := by have := hgb.lt; omega
  have hfy : i * 2 + m * 2 ≤ cur1.size := by omega
  have hty : (dbl ys).take (m * 2) = dbl ys := List.take_of_length_le (by rw [hv.length]; omega)
  have htd : (dbl (l.drop i)).take ((n - i) * 2) = dbl (l.drop i) := List.take_of_length_le (by rw [dbl_length, List.length_drop, Hln.out]; omega)
  obtain ⟨w2, hr2, hb2, hf2⟩ := run_copy_row (P := Try.prog) w1 31 3 33 2 Try.underlying31 size_run (some ⟨g1, i * 2, none⟩) (n + m - i) (cap1 - i) _ m (dbl ys) hv1 m g1 (i * 2) cur1 33 (by omega) hb1 (fun _ => rfl) hfy (fun u hu => dbl_cell ys u (List.mem_of_mem_take hu))
  rw [hty] at hb2
  have hv2 : View w2 (fun k => k = g) 2 (.slice (some ⟨g, i * 2, none⟩) (n - i) (cap - i)) (n - i) (dbl (l.drop i)) := by
    refine (seg_view (hg1b.fr hf2 (fun h => hg1ne h)) i (n - i) (cap - i) _ ?_ (by omega) (by omega) (by unfold maxLen; omega))
    rw [← dbl_drop, ← hct, List.drop_take, Nat.sub_mul]
  have hfd : (i + m) * 2 + (n - i) * 2 ≤ (laid cur1 (i * 2) (dbl ys)).size := by rw [laid_size (by rw [hv.length]; exact hfy)]; omega
  obtain ⟨w3, hr3, hb3, hf3⟩ := run_copy_row (P := Try.prog) w2.drew 31 3 33 2 Try.underlying31 size_run (some ⟨g1, (i + m) * 2, none⟩) (n + m - (i + m)) (cap1 - (i + m)) _ (n - i) (dbl (l.drop i)) hv2.drew (n - i) g1 ((i + m) * 2) (laid cur1 (i * 2) (dbl ys)) 33 (by omega) hb2.drew (fun _ => rfl) hfd (fun u hu => dbl_cell _ u (List.mem_of_mem_take hu))
  rw [htd] at hb3
  have hR : Row w3 (fun k => k = g ∨ w.heap.size ≤ k) 33 2 (.slice (some ⟨g1, 0, none⟩) (n + m) cap1) (n + m) (dbl (l.take i ++ ys ++ l.drop i)) := by
    refine Row.of_blk (.inr hg1) hb3 (by omega) hcm1 (by rw [laid_size (by rw [dbl_length, List.length_drop, Hln.out]; exact hfd), laid_size (by rw [hv.length]; exact hfy), hs1]) ?_
    have h := laid_two1 (cur := cur1) (p := i * 2) (q := m * 2) (Y := dbl ys) (D := dbl (l.drop i)) hv.length (by rw [dbl_length, List.length_drop, Hln.out]; omega)
    rw [dbl3, ← ht1, ← h, ← Nat.add_mul]
    congr 1
    rw [dbl_length, List.length_drop, Hln.out]; omega
  have hF : Fr (fun k => k = g) w w3 := ((hf1.nil (S := fun k => k = g)).trans hf2 (fun k hk => .inr (by omega))).trans (((Fr.refl (fun k => k = g1) w2).drew).then hf3) (fun k hk => .inr (by omega))
  have Hfin := hid (show Out w (.slice (some ⟨g, 0, none⟩) n cap) (n + m) (l.take i ++ ys ++ l.drop i) (.returned (.slice (some ⟨g1, 0, none⟩) (n + m) cap1)) w3 from
    ⟨_, _, rfl, hR.mono (fun k hk => hk.imp (fun h => by simp [Value.ownBlock, h]) id), hF.mono (fun k hk => by simp [Value.ownBlock, hk]), fun h => (by cases h)⟩)
  have hw1 : IntKind.i64.wrap ((i : Int) + (m : Int)) = (i : Int) + (m : Int) := by rw [IntKind.wrap_i64]; omega
  have hw0 : (0 : Int) ≤ (i : Int) + (m : Int) := by omega
  have htn : ((i : Int) + (m : Int)).toNat = i + m := by omega
  have hb6 : ¬ (cap1 = i + m) := by omega
  have hb7 : (i : Int) + (m : Int) ≤ (n : Int) + (m : Int) := by omega
  have hb8 : (i : Int) ≤ (n : Int) := by omega
  clear hR hF hf1 hf2 hf3 hb1 hb2 hb3 hfd hfy hv1 hv2 hty htd hv hvp hgb hz hs1 hcm1 hg1b hct hr ht1 hcs h9
  go_wp2_with fail
  go_region
  go_wp2
  go_ret
  exact Hfin.out
set_option maxRecDepth 20000 in
/-- There is room. -/
theorem insert_room (S Sv : Nat → Prop) (g cap n m : Nat) (l ys : List Rn) (i : Nat) (vb vc : Nat) (w : World)
    (hr : Row w S 33 2 (.slice (some ⟨g, 0, none⟩) n cap) n (dbl l)) (hv : Row w Sv 33 2 (.slice (some ⟨vb, 0, none⟩) m vc) m (dbl ys)) (hvg : g ≠ vb) (hn : n ≤ 100000) (hm : m ≤ 4) (hm0 : 0 < m) (hi : i < n) (hcap : n + m ≤ cap) :
    Calls Try.prog 65 #[.slice (some ⟨g, 0, none⟩) n cap, .int .i64 i, .slice (some ⟨vb, 0, none⟩) m vc] w fun e w' => Out w (.slice (some ⟨g, 0, none⟩) n cap) (n + m) (l.take i ++ ys ++ l.drop i) e w' := by
  have hln := hr.view.len2
  have Hln := hid hln; clear hln
  obtain ⟨g', cap', cur, heq, hSg, hgb, hcn, hcm, hcs, hct⟩ := hr.blk (by simp)
  injection heq with ha _ hc
  injection ha with ha
  injection ha with hg _ _
  subst hg; subst hc
  obtain ⟨vb', vc', cv, heq, hSv, hvb, hvn, -, hvs, -⟩ := hv.blk (by simp)
  injection heq with ha _ hc
  injection ha with ha
  injection ha with hg _ _
  subst hg; subst hc
  have hcm2 : cap ≤ 9223372036854775807 := by simp only [maxLen] at hcm; omega
  have hov := apart w vb g 0 ((i + m) * 2) cv cur hvb hgb (fun h => hvg h.symm) (by omega) m vc (n + m - (i + m)) (cap - (i + m))
  have hm9 : ¬ ((m : Int) = 0) := by omega
  have hz2 : ¬ ((i : Int) = (n : Int)) := by omega
  have hb4 : ¬ (cap = i) := by omega
  have hty : (dbl ys).take (m * 2) = dbl ys := List.take_of_length_le (by rw [hv.length]; omega)
  have hx : ((cur.toList.drop (i * 2)).take ((n + m - i) * 2)).take ((n - i) * 2) = dbl (l.drop i) := by
    rw [List.take_take, Nat.min_eq_left (by omega), ← dbl_drop, ← hct, List.drop_take, Nat.sub_mul]
  have hl1 : (dbl (l.drop i)).length = (n - i) * 2 := by rw [dbl_length, List.length_drop, Hln.out]
  have hv1 : View w.drew (fun k => k = g) 2 (.slice (some ⟨g, i * 2, none⟩) (n + m - i) (cap - i)) (n + m - i) ((cur.toList.drop (i * 2)).take ((n + m - i) * 2)) :=
    seg_view hgb.drew i (n + m - i) (cap - i) _ rfl (by omega) (by omega) (by unfold maxLen; omega)
  obtain ⟨w2, hr2, hb2, hf2⟩ := run_copy_row (P := Try.prog) w.drew 31 3 33 2 Try.underlying31 size_run (some ⟨g, (i + m) * 2, none⟩) (n + m - (i + m)) (cap - (i + m)) _ (n + m - i) _ hv1 (n - i) g ((i + m) * 2) cur 33 (by omega) hgb.drew (fun _ => rfl) (by omega) (fun u hu => by rw [hx] at hu; exact dbl_cell _ u hu)
  rw [hx] at hb2
  have hs2 : (laid cur ((i + m) * 2) (dbl (l.drop i))).size = cur.size := laid_size (by omega)
  have hv2 : View w2 _ 2 (.slice (some ⟨vb, 0, none⟩) m vc) m (dbl ys) := hv.own.view.drew.fr hf2 (fun k hk _ h => hvg (by simp [Value.ownBlock] at hk; omega))
  obtain ⟨w3, hr3, hb3, hf3⟩ := run_copy_row (P := Try.prog) w2 31 3 33 2 Try.underlying31 size_run (some ⟨g, i * 2, none⟩) (n + m - i) (cap - i) _ m (dbl ys) hv2 m g (i * 2) _ 33 (by omega) hb2 (fun _ => rfl) (by omega) (fun u hu => dbl_cell ys u (List.mem_of_mem_take hu))
  rw [hty] at hb3
  have hR : Row w3 (fun k => k = g) 33 2 (.slice (some ⟨g, 0, none⟩) (n + m) cap) (n + m) (dbl (l.take i ++ ys ++ l.drop i)) := by
    refine Row.of_blk rfl hb3 hcap hcm (by rw [laid_size (by rw [hv.length]; omega), hs2, hcs]) ?_
    have h := laid_two2 (cur := cur) (p := i * 2) (q := m * 2) (Y := dbl ys) (D := dbl (l.drop i)) hv.length (by omega)
    rw [dbl3, ← dbl_take, ← hct, List.take_take, Nat.min_eq_left (by omega), ← h, hl1, show (i + m) * 2 = i * 2 + m * 2 by omega, show i * 2 + m * 2 + (n - i) * 2 = (n + m) * 2 by omega]
  have hF : Fr (fun k => k = g) w w3 := ((Fr.refl (fun k => k = g) w).drew.then hf2).then hf3
  have Hfin := hid (show Out w (.slice (some ⟨g, 0, none⟩) n cap) (n + m) (l.take i ++ ys ++ l.drop i) (.returned (.slice (some ⟨g, 0, none⟩) (n + m) cap)) w3 from
    ⟨_, _, rfl, hR.mono (fun k hk => .inl (by simp [Value.ownBlock, hk])), hF.mono (fun k hk => by simp [Value.ownBlock, hk]), fun h => (by cases h)⟩)
  have hw1 : IntKind.i64.wrap ((i : Int) + (m : Int)) = (i : Int) + (m : Int) := by rw [IntKind.wrap_i64]; omega
  have hw0 : (0 : Int) ≤ (i : Int) + (m : Int) := by omega
  have htn : ((i : Int) + (m : Int)).toNat = i + m := by omega
  have htn2 : ((n : Int) + (m : Int)).toNat = n + m := by omega
  have hb6 : ¬ (cap = i + m) := by omega
  have hb7 : (i : Int) + (m : Int) ≤ (n : Int) + (m : Int) := by omega
  have hb8 : (i : Int) ≤ (n : Int) + (m : Int) := by omega
  clear hR hF hf2 hf3 hb2 hb3 hv1 hv2 hty hv hgb hct hr hcs hx hl1 hs2 hvb hvs
  go_enter Try.func65, Try.ntmps65
  go_wp2_with (simp only [hov])
  go_region
  go_wp2
  go_ret
  exact Hfin.out
theorem insert_ok (S Sv : Nat → Prop) (sv : Value) (n m : Nat) (l ys : List Rn) (i : Nat) (vb vc : Nat) (w : World)
    (hr : Row w S 33 2 sv n (dbl l)) (hv : Row w Sv 33 2 (.slice (some ⟨vb, 0, none⟩) m vc) m (dbl ys)) (hvg : sv.ownBlock ≠ some vb) (hn : n ≤ 100000) (hm : m ≤ 4) (hi : i ≤ n) :
    Calls Try.prog 65 #[sv, .int .i64 i, .slice (some ⟨vb, 0, none⟩) m vc] w fun e w' => Out w sv (n + m) (l.take i ++ ys ++ l.drop i) e w' := by
  by_cases h0 : m = 0
  · subst h0
    have hy : ys = [] := List.eq_nil_of_length_eq_zero hv.view.len2
    subst hy
    rw [List.append_nil, List.take_append_drop]
    exact insert_none S Sv sv n l i _ vc w hr hi
  · by_cases hin : i = n
    · subst hin
      exact insert_end S Sv sv i m l ys vb vc w hr hv.view hn hm (by omega)
    · obtain ⟨g, cap, rfl, hS, _⟩ := hr.form (by omega)
      by_cases hc : n + m ≤ cap
      · exact insert_room S Sv g cap n m l ys i vb vc w hr hv (fun h => hvg (by simp [Value.ownBlock, h])) hn hm (by omega) (by omega) hc
      · exact insert_new S Sv g cap n m l ys i vb vc w hr hv.view hn hm (by omega) (by omega) (by omega)
end Go.Proofs.Ytgoghmblfdlnbaa
end

section
/- slices.Replace on runs. -/
set_option linter.unusedSimpArgs false
set_option linter.unusedVariables false
namespace Go.Proofs.Ytgoghmblfdlnbaa
open Go.RowKit
set_option maxRecDepth 20000 in
/-- None is taken out. -/
theorem repl_ins (S Sv : Nat → Prop) (sv : Value) (n m : Nat) (l ys : List Rn) (i : Nat) (vb vc : Nat) (w : World)
    (hr : Row w S 33 2 sv n (dbl l)) (hv : Row w Sv 33 2 (.slice (some ⟨vb, 0, none⟩) m vc) m (dbl ys)) (hvg : sv.ownBlock ≠ some vb) (hn : n ≤ 100000) (hm : m ≤ 4) (hi : i ≤ n) :
    Calls Try.prog 47 #[sv, .int .i64 i, .int .i64 i, .slice (some ⟨vb, 0, none⟩) m vc] w fun e w' => Out w sv (n + m) (l.take i ++ ys ++ l.drop i) e w' := by
  obtain ⟨A, c, rfl⟩ := hr.slice
  have hle := hr.le
  obtain ⟨hl, A', c', e, e1, e2, e3, e4, e5⟩ := hr.view
  injection e with ea _ ec
  subst ea; subst ec
  have hcm : c ≤ 9223372036854775807 := by simp only [maxLen] at e2; omega
  clear e2 e3 e4 e5 hl
  have hins := insert_ok S Sv (.slice A n c) n m l ys i vb vc w hr hv hvg hn hm hi
  have Hins := hid hins
  clear hins hr hv hvg
  by_cases hci : c = i
  · have hnn : n = c := by omega
    subst hci; subst hnn
    go_enter Try.func47, Try.ntmps47
    go_wp2_with fail
    refine Hins.out.mono ?_
    rintro e w1 ⟨A, c, rfl, h1, h2, h3⟩
    go_wp2
    go_ret
    exact ⟨A, c, rfl, h1, h2, h3⟩
  · go_enter Try.func47, Try.ntmps47
    go_wp2_with fail
    refine Hins.out.mono ?_
    rintro e w1 ⟨A, c, rfl, h1, h2, h3⟩
    go_wp2
    go_ret
    exact ⟨A, c, rfl, h1, h2, h3⟩
set_option maxRecDepth 20000 in
/-- The last ones are taken out. -/
theorem repl_end (S Sv : Nat → Prop) (g cap n m : Nat) (l ys : List Rn) (i : Nat) (vb vc : Nat) (w : World)
    (hr : Row w S 33 2 (.slice (some ⟨g, 0, none⟩) n cap) n (dbl l)) (hv : Row w Sv 33 2 (.slice (some ⟨vb, 0, none⟩) m vc) m (dbl ys)) (hvg : g ≠ vb) (hn : n ≤ 100000) (hm : m ≤ 4) (hi : i < n) :
    Calls Try.prog 47 #[.slice (some ⟨g, 0, none⟩) n cap, .int .i64 i, .int .i64 n, .slice (some ⟨vb, 0, none⟩) m vc] w fun e w' => Out w (.slice (some ⟨g, 0, none⟩) n cap) (i + m + (n - n)) (l.take i ++ ys ++ l.drop n) e w' := by
  obtain ⟨j, hj⟩ : ∃ j, j = n := ⟨_, rfl⟩
  have hij : i < j := by omega
  have hln := hr.view.len2
  have Hln := hid hln; clear hln
  obtain ⟨g', cap', cur, heq, hSg, hgb, hcn, hcm, hcs, hct⟩ := hr.blk (by simp)
  injection heq with ha _ hc
  injection ha with ha
  injection ha with hg _ _
  subst hg; subst hc
  obtain ⟨vb', vc', cv, heq, hSv, hvb, hvn, -, hvs, -⟩ := hv.blk (by simp)
  injection heq with ha _ hc
  injection ha with ha
  injection ha with hg _ _
  subst hg; subst hc
  have hcm2 : cap ≤ 9223372036854775807 := by simp only [maxLen] at hcm; omega
  have hij2 : ((i : Int) == (j : Int)) = false := by simp; omega
  have hlj : (dbl (l.drop j)).length = (n - j) * 2 := by rw [dbl_length, List.length_drop, Hln.out]
  have hty : (dbl ys).take (m * 2) = dbl ys := List.take_of_length_le (by rw [hv.length]; omega)
  have hvl := hv.length
  have hdn : l.drop n = [] := List.drop_of_length_le (by rw [Hln.out]; omega)
  rw [hdn, List.append_nil, Nat.sub_self, Nat.add_zero]
  have hb4 : ¬ (cap = i) := by omega
  have hpre : Row w S 33 2 (.slice (some ⟨g, 0, none⟩) i cap) i (dbl (l.take i)) := by rw [← dbl_take]; exact hr.pre (by omega)
  have hin : (i : Int) ≤ (n : Int) := by omega
  clear hij2 hlj hj
  have hij2 : ((i : Int) == (n : Int)) = false := by simp; omega
  by_cases hlt : i + m < n
  · have hlt2 : (i : Int) + (m : Int) < (n : Int) := by omega
    have hpb : Blk w g cur 33 := hgb
    have hfit : (i + m) * 2 ≤ cur.size := by omega
    have hl1 : (laid cur (i * 2) (dbl ys)).size = cur.size := laid_size (by rw [hvl]; omega)
    have hb5 : ¬ (cap = i + m) := by omega
    have hw1 : IntKind.i64.wrap ((i : Int) + (m : Int)) = (i : Int) + (m : Int) := by rw [IntKind.wrap_i64]; omega
    have htn : ((i : Int) + (m : Int)).toNat = i + m := by omega
    have hle : (i : Int) + (m : Int) ≤ (n : Int) := by omega
    have h0 : (0 : Int) ≤ (i : Int) + (m : Int) := by omega
    have Hvb := hid hvb
    have Hcm := hid hcm
    have Hct := hid hct
    have Hcs := hid hcs
    clear hr hpre hvb hvs hcm hct hcs
    go_enter Try.func47, Try.ntmps47
    go_wp2_with (at_builtin; refine wp_app_room rfl _ _ 31 rfl 33 2 Try.underlying31 size_run g i cap cur hpb rfl ⟨vb, 0, none⟩ m vc (dbl ys) rfl hv.view (dbl_cell ys) (by omega) hfit ?_)
    intro w2 hb2 hf2
    obtain ⟨w3, cr3, hrun, hg3, hs3, ht3, hf3⟩ := run_clear_wide (P := Try.prog) w2 31 0 33 2 (.agg #[.int .i64 0, .int .i64 0]) Try.underlying31 zero_run rfl (by decide) (by simp [Value.cells, Value.oneCell']) (some ⟨g, (i + m) * 2, none⟩) (n - (i + m)) (cap - (i + m)) g ((i + m) * 2) _ 33 hb2 (fun _ => rfl) (by rw [hl1]; have := Hcs.out; omega)
    have hR : Row w3 (fun k => k = g) 33 2 (.slice (some ⟨g, 0, none⟩) (i + m) cap) (i + m) (dbl (l.take i ++ ys)) := by
      refine Row.of_blk rfl hg3 (by omega) Hcm.out (by rw [hs3, hl1, Hcs.out]) ?_
      have h2 : (dbl (l.take i)) = cur.toList.take (i * 2) := by rw [← dbl_take, ← Hct.out, List.take_take, Nat.min_eq_left (by omega)]
      rw [ht3, dbl_append, h2, laid_toList, List.take_append_of_le_length (by rw [List.length_append, List.length_take, Array.length_toList, hvl]; omega), List.take_of_length_le (by rw [List.length_append, List.length_take, Array.length_toList, hvl]; omega)]
    have Hfin := hid (show Out w (.slice (some ⟨g, 0, none⟩) n cap) (i + m) (l.take i ++ ys) (.returned (.slice (some ⟨g, 0, none⟩) (i + m) cap)) w3 from
      ⟨_, _, rfl, hR.mono (fun k hk => .inl (by simp [Value.ownBlock, hk])), (hf2.then hf3).mono (fun k hk => by simp [Value.ownBlock, hk]), fun h => (by cases h)⟩)
    clear hR hf2 hf3 hg3 ht3 hs3 hb2 hl1 hfit hpb hgb
    go_wp2
    go_ret
    exact Hfin.out
  · have hlt2 : ¬ ((i : Int) + (m : Int) < (n : Int)) := by omega
    have hvg2 := hid hvg
    clear hr hvb hvs hcm hct hcs hgb hty hvl
    go_enter Try.func47, Try.ntmps47
    go_wp2_with (at_builtin; refine wp_app_view rfl _ _ 31 rfl (.agg #[.int .i64 0, .int .i64 0]) 16 Try.underlying31 info_run rfl (by decide) hpre rfl hv.view rfl (dbl_cell ys) (by omega) (by decide) ?_)
    intro A2 cap2 w' r1 r2 r3
    rw [← dbl_append] at r1
    have hnn : A2 ≠ none := fun h => by have := (r3.1 h).1; simp at this
    have Hfin := hid (show Out w (.slice (some ⟨g, 0, none⟩) n cap) (i + m) (l.take i ++ ys) (.returned (.slice A2 (i + m) cap2)) w' from
      ⟨_, _, rfl, r1, r2, fun h => absurd h hnn⟩)
    clear r1 r2 r3 hnn
    go_wp2
    go_ret
    exact Hfin.out
end Go.Proofs.Ytgoghmblfdlnbaa
end

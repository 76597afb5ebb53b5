/- The texts VRnI, VRnD, VRnIn of this proof, one behind the other. Conditions: those of each. -/
import Derived.Test.YtgoghmblfdlnbaaGreatProg
import Derived.Deep.Cut
import Derived.Deep.CutRange
import Derived.Lib.Overlaps
import Derived.Test.YtgoghmblfdlnbaaGreatGR3
import Derived.Test.YtgoghmblfdlnbaaGreatGR5
section
/- slices.IndexFunc, slices.DeleteFunc and slices.Clone on runs. -/
set_option linter.unusedSimpArgs false
set_option linter.unusedVariables false
namespace Go.Proofs.YtgoghmblfdlnbaaGreat
open Go.RowKit
theorem info_run : (Tryz.prog.info? 39).map (fun i => (i.zero, i.size, i.bytes)) = some (some (.agg #[.int .i64 0, .int .i64 0]), 2, 16) := by kernel_rfl
theorem size_run : (Tryz.prog.info? 39).map (·.size) = some 2 := by kernel_rfl
theorem zero_run (w : World) : (zeroValue 39).run Tryz.prog w = .ok (.agg #[.int .i64 0, .int .i64 0]) w := by kernel_rfl
/-- The function that put hands on. -/
theorem none_ok (r : Rn) (b : Bool) (hb : nz r = b) (w : World) : Calls Tryz.prog 85 #[.agg #[.int .i64 (r.a : Nat), .int .i64 (r.n : Nat)]] w fun e w' => e = .returned (.bool (!b)) ∧ Fr Nil w w' := by
  obtain ⟨a, n⟩ := r
  have hf : Fr Nil w (w.alloc (.cells #[.int .i64 (a : Nat), .int .i64 (n : Nat)] 39)) := (Fr.refl _ _).alloc _
  unfold nz at hb
  dsimp only at hb ⊢
  by_cases h0 : n = 0
  · subst h0
    obtain rfl : b = false := by simpa using hb.symm
    clear hb
    go_enter Tryz.func85, Tryz.ntmps85
    go_wp2
    go_ret
    exact ⟨rfl, hf⟩
  · have hz : ((n : Int) == 0) = false := by simp; omega
    obtain rfl : b = true := by rw [← hb]; simpa using h0
    clear hb
    have H0 := hid h0; clear h0
    go_enter Tryz.func85, Tryz.ntmps85
    go_wp2
    go_ret
    exact ⟨rfl, hf⟩

/-- The first run without blocks. -/
def fzi (l : List Rn) : Int := if zi l < l.length then (zi l : Nat) else -1
set_option maxRecDepth 100000 in
theorem index_ok (S : Nat → Prop) (A : Option Addr) (n c : Nat) (l : List Rn) (w : World) (hv : View w S 2 (.slice A n c) n (dbl l)) :
    Calls Tryz.prog 104 #[.slice A n c, .func (.func 85) #[] #[]] w fun e w' => e = .returned (.int .i64 (fzi l)) ∧ Fr Nil w w' := by
  have hln := hv.len2
  have Hln := hid hln
  clear hln
  have hle : n ≤ 9223372036854775807 := hv.le
  go_enter Tryz.func104, Tryz.ntmps104
  go_wp2_with fail
  go_loopw [8] (fun v8 wr => ∃ i : Nat, v8 = .int .i64 i ∧ i ≤ n ∧ Fr Nil w wr ∧ Hid (∀ j, j < i → nz (rn l j) = true)) (fun v8 _ => n - (intOf v8).toNat)
  case atStart => exact ⟨0, rfl, by omega, Fr.refl _ _, hid fun j hj => absurd hj (by omega)⟩
  case round =>
    obtain ⟨i, rfl, hi, hfw, hok⟩ := hrel
    by_cases hlt : i < n
    · obtain ⟨b, o, rfl, -, hbl, k0, k1⟩ := rn_at (hv.fr hfw fun _ _ _ h => h) hlt
      cases hz : nz (rn l i) with
      | true =>
        have Hz := hid hz; clear hz
        go_wp2_with fail
        refine (none_ok (rn l i) _ Hz.out _).mono ?_
        rintro e w1 ⟨rfl, hf1⟩
        clear k0 k1
        go_wp2
        go_roundw
        case rel =>
          refine ⟨i + 1, by go_num, by omega, hfw.then hf1, hid fun j hj => ?_⟩
          rcases Nat.lt_or_ge j i with h | h
          · exact hok.out j h
          · obtain rfl : j = i := by omega
            exact Hz.out
        case measure => simp [intOf]; omega
      | false =>
        have Hz := hid hz; clear hz
        have hF : Hid (fzi l = (i : Nat)) := hid (by
          have := zi_unique (l := l) (i := i) (by rw [Hln.out]; omega) hok.out (fun _ => Hz.out)
          unfold fzi; rw [this, if_pos (by rw [Hln.out]; exact hlt)])
        go_wp2_with fail
        refine (none_ok (rn l i) _ Hz.out _).mono ?_
        rintro e w1 ⟨rfl, hf1⟩
        clear k0 k1
        go_wp2
        go_ret
        rw [hF.out]
        exact ⟨rfl, hfw.then hf1⟩
    · have hF : Hid (fzi l = -1) := hid (by
        have := zi_unique (l := l) (i := i) (by rw [Hln.out]; omega) hok.out (fun h => absurd h (by rw [Hln.out]; omega))
        unfold fzi; rw [this, if_neg (by rw [Hln.out]; omega)])
      go_wp2
      go_ret
      rw [hF.out]
      exact ⟨rfl, hfw⟩

/-- A copy of its own. -/
theorem clone_ok (S : Nat → Prop) (A : Option Addr) (n c : Nat) (l : List Rn) (hn : n < 1000000000) (w : World) (hv : View w S 2 (.slice A n c) n (dbl l)) :
    Calls Tryz.prog 79 #[.slice A n c] w fun e w' => ∃ A' c', e = .returned (.slice A' n c') ∧ Row w' (New w) 39 2 (.slice A' n c') n (dbl l) ∧ Fr Nil w w' := by
  have hv0 := hv
  obtain ⟨hl, A', c', e, e1, e2, e3, e4, e5⟩ := hv
  injection e with ea _ ec
  subst ea; subst ec
  cases A with
  | none =>
    obtain rfl := e3 rfl
    obtain rfl : n = 0 := by omega
    have hx : dbl l = [] := List.eq_nil_of_length_eq_zero (by simpa using hl)
    go_enter Tryz.func79, Tryz.ntmps79
    go_wp2
    go_ret
    exact ⟨none, 0, rfl, Row.nil _ _ _ _, Fr.refl _ _⟩
  | some ad =>
    go_enter Tryz.func79, Tryz.ntmps79
    go_wp2_with (at_builtin; refine wp_app_view rfl _ _ 37 rfl (.agg #[.int .i64 0, .int .i64 0]) 16 Tryz.underlying37 info_run rfl (by decide) (Row.made w #[] 39 2 0 0 rfl (Nat.le_refl _) (by decide)) rfl (hv0.alloc _) rfl (dbl_cell l) (by omega) (by decide) ?_)
    intro A cap w' r1 r2 r3
    have r4 : Row w' (New w) 39 2 (.slice A (0 + n) cap) (0 + n) (dbl l) := by
      refine Row.mono (by simpa using r1) fun k hk => ?_
      rcases hk with hk | hk
      · simp [Value.ownBlock] at hk
        unfold New; omega
      · unfold New; omega
    have r5 : Fr Nil w w' := ((Fr.refl Nil w).alloc _).trans r2 (fun k hk => by simp [Value.ownBlock] at hk; exact .inr (by omega))
    clear r1 r2 r3
    rw [Nat.zero_add] at r4 ⊢
    go_wp2
    go_ret
    exact ⟨A, cap, rfl, r4, r5⟩
end Go.Proofs.YtgoghmblfdlnbaaGreat
end

section
/- slices.DeleteFunc on runs: those without blocks go. -/
set_option linter.unusedSimpArgs false
set_option linter.unusedVariables false
namespace Go.Proofs.YtgoghmblfdlnbaaGreat
open Go.RowKit
theorem laid_two {cur : Array Value} {l1 : List Rn} {i : Nat} {r : Rn} (hi : i * 2 + 2 ≤ cur.size) (h : cur.toList.take (i * 2) = dbl l1) :
    (cur.setIfInBounds (i * 2) (.int .i64 (r.a : Nat)) |>.setIfInBounds (i * 2 + 1) (.int .i64 (r.n : Nat))).toList.take ((i + 1) * 2) = dbl (l1 ++ [r]) := by
  rw [dbl_append, dbl_one, ← h]
  apply List.ext_getElem?
  intro k
  simp only [Array.toList_setIfInBounds, List.getElem?_take, List.getElem?_set, List.getElem?_append, List.length_take, Array.length_toList, rcells]
  have hm : min (i * 2) cur.size = i * 2 := by omega
  rw [hm]
  by_cases h1 : k < i * 2
  · rw [if_pos (by omega), if_neg (by omega), if_neg (by omega), if_pos h1, if_pos h1]
  · by_cases h2 : k = i * 2
    · subst h2
      rw [if_pos (by omega), if_neg (by omega), if_pos rfl, if_pos (by omega), if_neg (by omega), Nat.sub_self]; rfl
    · by_cases h3 : k = i * 2 + 1
      · subst h3
        rw [if_pos (by omega), if_pos rfl, if_pos (by simp; omega), if_neg (by omega), show i * 2 + 1 - i * 2 = 1 by omega]; rfl
      · rw [if_neg (by omega), if_neg (by omega), show k - i * 2 = (k - i * 2 - 2) + 2 by omega]; rfl
theorem two_drop {cur : Array Value} {i j : Nat} {x y : Value} (h : i * 2 + 2 ≤ j * 2) : (cur.setIfInBounds (i * 2) x |>.setIfInBounds (i * 2 + 1) y).toList.drop (j * 2) = cur.toList.drop (j * 2) := by
  apply List.ext_getElem?
  intro k
  simp only [Array.toList_setIfInBounds, List.getElem?_drop, List.getElem?_set]
  rw [if_neg (by omega), if_neg (by omega)]
theorem drop_next {A A' D : List Value} {N j : Nat} (hA : A'.drop ((j + 1) * 2) = A.drop ((j + 1) * 2)) (h : (A.take N).drop (j * 2) = D.drop (j * 2)) : (A'.take N).drop ((j + 1) * 2) = D.drop ((j + 1) * 2) := by
  rw [List.drop_take, hA, ← List.drop_take, show (j + 1) * 2 = j * 2 + 2 by omega, ← List.drop_drop, h, List.drop_drop]
/-- What is kept of the first j. -/
def kept (l : List Rn) (j : Nat) : List Rn := (l.take j).filter nz
theorem kept_le (l : List Rn) (j : Nat) : (kept l j).length ≤ j := by
  unfold kept
  have h1 := List.length_filter_le nz (l.take j)
  have h2 := List.length_take_le j l
  omega
theorem kept_succ {l : List Rn} {j : Nat} (h : j < l.length) : kept l (j + 1) = if nz (rn l j) = true then kept l j ++ [rn l j] else kept l j := by
  unfold kept
  rw [List.take_succ_eq_append_getElem h, List.filter_append, ← rn_eq h, List.filter_cons, List.filter_nil]
  split
  · rfl
  · simp
set_option maxRecDepth 100000 in
set_option maxHeartbeats 800000 in
theorem delete_ok (S : Nat → Prop) (g cap n : Nat) (l : List Rn) (hn : n ≤ 1000) (w : World) (hr : Row w S 39 2 (.slice (some ⟨g, 0, none⟩) n cap) n (dbl l)) :
    Calls Tryz.prog 84 #[.slice (some ⟨g, 0, none⟩) n cap, .func (.func 85) #[] #[]] w fun e w' => e = .returned (.slice (some ⟨g, 0, none⟩) (l.filter nz).length cap) ∧ Row w' S 39 2 (.slice (some ⟨g, 0, none⟩) (l.filter nz).length cap) (l.filter nz).length (dbl (l.filter nz)) ∧ Fr (fun k => k = g) w w' := by
  have hln := hr.view.len2
  have Hln := hid hln
  clear hln
  have hzl := zi_le l
  rw [Hln.out] at hzl
  have hzf := zi_filter l
  have Hzf := hid hzf; clear hzf
  have hall : Hid (kept l n = l.filter nz) := hid (by unfold kept; rw [List.take_of_length_le (by rw [Hln.out]; omega)])
  go_enter Tryz.func84, Tryz.ntmps84
  go_wp2_with fail
  refine (index_ok S _ n cap l w hr.view).mono ?_
  rintro e w1 ⟨rfl, hf1⟩
  by_cases hlt : zi l < n
  · have hfz : fzi l = (zi l : Nat) := by unfold fzi; rw [if_pos (by rw [Hln.out]; exact hlt)]
    rw [hfz]
    clear hfz
    generalize hz0 : zi l = z at *
    have Hz0 := hid hz0; clear hz0
    obtain ⟨g', cap', cur, heq, hSg, hgb, hcn, hcm, hcs, hct⟩ := (hr.fr hf1 fun _ _ h => h).blk (by simp)
    injection heq with ha _ hc
    injection ha with ha
    injection ha with hg _ _
    subst hg; subst hc
    have hk0 : Hid (kept l z = l.take z) := hid (by unfold kept; exact Hzf.out.1)
    have hkn : Hid (kept l (z + 1) = l.take z) := hid (by
      rw [kept_succ (by rw [Hln.out]; exact hlt), hk0.out, if_neg (by have := Hzf.out.2.1 (by rw [Hln.out]; exact hlt); rw [this]; decide)])
    have hkl : Hid ((l.take z).length = z) := hid (by rw [List.length_take, Hln.out]; exact Nat.min_eq_left hzl)
    have hcap : cap * 2 = cur.size := hcs.symm
    have hcmx : cap ≤ 9223372036854775807 := by simp only [maxLen] at hcm; omega
    have hz9 : ((z : Int) == -1) = false := by simp
    clear hcs hcm
    go_wp2_with fail
    clear hz9
    go_loopw [5, 6] (fun v5 v6 wr => ∃ (i j : Nat) (cr : Array Value), v5 = .int .i64 i ∧ v6 = .int .i64 j ∧ i < j ∧ j ≤ n ∧ Blk wr g cr 39 ∧ cr.size = cur.size ∧ Fr (fun k => k = g) w1 wr ∧ Hid ((kept l j).length = i) ∧ Hid (cr.toList.take (i * 2) = dbl (kept l j)) ∧ Hid ((cr.toList.take (n * 2)).drop (j * 2) = (dbl l).drop (j * 2))) (fun _ v6 _ => n - (intOf v6).toNat)
    case atStart =>
      refine ⟨z, z + 1, cur, rfl, by go_num, by omega, by omega, hgb, rfl, Fr.refl _ _, hid (by rw [hkn.out]; exact hkl.out), hid ?_, hid (by rw [hct])⟩
      rw [hkn.out, ← dbl_take, ← hct, List.take_take, Nat.min_eq_left (by omega)]
    case round =>
      obtain ⟨i, j, cr, rfl, rfl, hij, hj, hgr, hsz, hfr, hki, hkt, hdr⟩ := hrel
      by_cases hjn : j < n
      · have hjl : j < l.length := by rw [Hln.out]; exact hjn
        have hcells : wr.cell? ⟨g, j * 2, none⟩ = some (.int .i64 ((rn l j).a : Nat)) ∧ wr.cell? ⟨g, j * 2 + 1, none⟩ = some (.int .i64 ((rn l j).n : Nat)) := by
          obtain ⟨g0, g1⟩ := dbl_get hjl
          have h0 : ((dbl l).drop (j * 2))[0]? = some (.int .i64 ((rn l j).a : Nat)) := by rw [List.getElem?_drop]; exact g0
          have h1 : ((dbl l).drop (j * 2))[1]? = some (.int .i64 ((rn l j).n : Nat)) := by rw [List.getElem?_drop]; exact g1
          rw [← hdr.out, List.getElem?_drop, List.getElem?_take] at h0 h1
          rw [if_pos (by omega)] at h0 h1
          rw [hgr.cell, hgr.cell, ← Array.getElem?_toList, ← Array.getElem?_toList]
          exact ⟨h0, h1⟩
        obtain ⟨k0, k1⟩ := hcells
        have k0' : wr.cell? ⟨g, 0 + j * 2, none⟩ = some (.int .i64 ((rn l j).a : Nat)) := by rw [Nat.zero_add]; exact k0
        have k1' : wr.cell? ⟨g, 0 + j * 2 + 1, none⟩ = some (.int .i64 ((rn l j).n : Nat)) := by rw [Nat.zero_add]; exact k1
        have hks := kept_succ hjl
        cases hz : nz (rn l j) with
        | true =>
          rw [hz, if_pos rfl] at hks
          have Hks := hid hks
          have Hz := hid hz
          clear hks hz
          go_wp2_with fail
          have hal : Fr Nil wr (wr.alloc (.cells #[.int .i64 ((rn l j).a : Nat), .int .i64 ((rn l j).n : Nat)] 39)) := (Fr.refl _ _).alloc _
          have hbv : Blk (wr.alloc (.cells #[.int .i64 ((rn l j).a : Nat), .int .i64 ((rn l j).n : Nat)] 39)) wr.heap.size #[.int .i64 ((rn l j).a : Nat), .int .i64 ((rn l j).n : Nat)] 39 := Blk.new _ _ _
          have hglt := hgr.lt
          refine (none_ok (rn l j) _ Hz.out _).mono ?_
          rintro e w2 ⟨rfl, hf2⟩
          have hb2 := (hgr.fr hal fun h => h).fr hf2 fun h => h
          have hv2 := hbv.fr hf2 fun h => h
          have hfr2 := (hfr.thenNil hal).thenNil hf2
          obtain ⟨vb, hvb⟩ : ∃ vb, vb = wr.heap.size := ⟨_, rfl⟩
          rw [← hvb] at hv2 hglt ⊢
          clear hvb k0 k1 k0' k1' hgr hbv hal hf2
          have v0 := hv2.cell 0
          have v1 := hv2.cell 1
          have hi2 : i * 2 + 2 ≤ cr.size := by omega
          have q0 : w2.cell? ⟨g, i * 2, none⟩ = some (cr[i * 2]'(by omega)) := by rw [hb2.cell]; exact Array.getElem?_eq_getElem _
          have q1 : w2.cell? ⟨g, i * 2 + 1, none⟩ = some (cr[i * 2 + 1]'(by omega)) := by rw [hb2.cell]; exact Array.getElem?_eq_getElem _
          have z0 := hb2.frozen (i * 2)
          have z1 := hb2.frozen (i * 2 + 1)
          have hglt2 := hb2.lt
          have hin : (i : Int) < (n : Int) := by omega
          go_wp2
          go_roundw
          case rel =>
            refine ⟨i + 1, j + 1, _, by go_num, by go_num, by omega, by omega, (hb2.set _ _).set _ _, by simpa using hsz, (hfr2.setCell (a := ⟨g, i * 2, none⟩) (.inl rfl) _).setCell (a := ⟨g, i * 2 + 1, none⟩) (.inl rfl) _, hid ?_, hid ?_, hid ?_⟩
            · rw [Hks.out, List.length_append, hki.out]; rfl
            · rw [Hks.out]; exact laid_two hi2 hkt.out
            · exact drop_next (two_drop (by omega)) hdr.out
          case measure => simp [intOf]; omega
        | false =>
          rw [hz, if_neg (by decide)] at hks
          have Hks := hid hks
          have Hz := hid hz
          clear hks hz
          go_wp2_with fail
          have hal : Fr Nil wr (wr.alloc (.cells #[.int .i64 ((rn l j).a : Nat), .int .i64 ((rn l j).n : Nat)] 39)) := (Fr.refl _ _).alloc _
          refine (none_ok (rn l j) _ Hz.out _).mono ?_
          rintro e w2 ⟨rfl, hf2⟩
          have hb2 := (hgr.fr hal fun h => h).fr hf2 fun h => h
          have hfr2 := (hfr.thenNil hal).thenNil hf2
          clear k0 k1 k0' k1' hgr hal hf2
          go_wp2
          go_roundw
          case rel =>
            refine ⟨i, j + 1, cr, rfl, by go_num, by omega, by omega, hb2, hsz, hfr2, hid ?_, hid ?_, hid ?_⟩
            · rw [Hks.out, hki.out]
            · rw [Hks.out]; exact hkt.out
            · exact drop_next rfl hdr.out
          case measure => simp [intOf]; omega
      · have hjn2 : j = n := by omega
        have hfin : Hid (kept l n = kept l j) := hid (by rw [hjn2])
        have hcs9 : i * 2 + (n - i) * 2 ≤ cr.size := by omega
        have hle : i ≤ n := by omega
        clear hjn2
        obtain ⟨w3, cr3, hrun, hg3, hs3, ht3, hf3⟩ := run_clear_wide (P := Tryz.prog) wr 37 0 39 2 (.agg #[.int .i64 0, .int .i64 0]) Tryz.underlying37 zero_run rfl (by decide) (by simp [Value.cells, Value.oneCell']) (some ⟨g, i * 2, none⟩) (n - i) (cap - i) g (i * 2) cr 39 hgr (fun _ => rfl) hcs9
        have hR : Row w3 S 39 2 (.slice (some ⟨g, 0, none⟩) i cap) i (dbl (l.filter nz)) := Row.of_blk hSg hg3 (by omega) (by unfold maxLen; omega) (by omega) (by rw [ht3, hkt.out, ← hfin.out, hall.out])
        have hli : Hid ((l.filter nz).length = i) := hid (by rw [← hall.out, hfin.out, hki.out])
        have hfr3 := (hf1.nil (S := fun k => k = g)).then (hfr.then hf3)
        clear hg3 hs3 ht3 hf3
        go_wp2
        go_ret
        rw [hli.out]
        exact ⟨rfl, hR, hfr3⟩
  · have hfz : fzi l = -1 := by unfold fzi; rw [if_neg (by rw [Hln.out]; exact hlt)]
    have hfi : l.filter nz = l := by
      have h1 := Hzf.out.1
      rwa [List.take_of_length_le (by rw [Hln.out]; omega)] at h1
    rw [hfz]
    have Hfi := hid hfi
    clear hfz hfi
    go_wp2
    go_ret
    rw [Hfi.out, Hln.out]
    exact ⟨rfl, hr.fr hf1 fun _ _ h => h, hf1.nil⟩
end Go.Proofs.YtgoghmblfdlnbaaGreat
end

section
/- slices.Insert on runs. -/
set_option linter.unusedSimpArgs false
set_option linter.unusedVariables false
namespace Go.Proofs.YtgoghmblfdlnbaaGreat
open Go.RowKit
theorem Blk.shape {w : World} {g : Nat} {cs : Array Value} {T : TypeId} (h : Blk w g cs T) : w.shape? g = some (T, cs.size) := by
  unfold Blk at h
  simp [World.shape?, h]
theorem size_run_c (w : World) : (sizeOf 39).run Tryz.prog w = .ok 2 w := by kernel_rfl
/-- Two blocks that are apart. -/
theorem apart (w : World) (g vb o o2 : Nat) (cg cv : Array Value) (hg : Blk w g cg 39) (hv : Blk w vb cv 39) (hne : g ≠ vb) (h0 : cv.size ≠ 0) (la ca lb cb : Nat) :
    (callFunc 89 #[.slice (some ⟨g, o, none⟩) la ca, .slice (some ⟨vb, o2, none⟩) lb cb]).run Tryz.prog w = .ok (.value (.bool false)) w := by
  rw [run_callFunc_extern Tryz.func89 (by kernel_rfl) (by kernel_rfl) (by kernel_rfl) (e := Extern.SlicesOverlaps.overlaps #[37, 37] #[4]) (by kernel_rfl),
    Lib.run_overlaps_apart w 37 4 39 Tryz.underlying37 2 size_run_c ⟨g, o, none⟩ ⟨vb, o2, none⟩ la ca lb cb hne _ _ _ _ hg.shape hv.shape h0 (hg.frozen _) (hg.frozen _)]
  rfl
theorem Row.own {w : World} {S : Nat → Prop} {e : TypeId} {s n : Nat} {v : Value} {xs : List Value} (h : Row w S e s v n xs) : Row w (fun k => v.ownBlock = some k) e s v n xs := ⟨h.1, fun _ h => h⟩
theorem ins_all {l ys : List Rn} {n : Nat} (h : l.length = n) : dbl (l.take n ++ ys ++ l.drop n) = dbl l ++ dbl ys := by
  rw [List.take_of_length_le (by omega), List.drop_of_length_le (by omega), List.append_nil, dbl_append]
theorem dbl3 (a b c : List Rn) : dbl (a ++ b ++ c) = dbl a ++ dbl b ++ dbl c := by rw [dbl_append, dbl_append]
/-- What the result of Insert and Replace is: a row of s's own block, or a new one. -/
def Out (w : World) (sv : Value) (n : Nat) (l : List Rn) (e : Ending) (w' : World) : Prop :=
  ∃ A c, e = .returned (.slice A n c) ∧ Row w' (fun k => sv.ownBlock = some k ∨ w.heap.size ≤ k) 39 2 (.slice A n c) n (dbl l) ∧ Fr (fun k => sv.ownBlock = some k) w w' ∧ (A = none → sv = .slice none 0 0)
/-- Nothing is put in. -/
theorem insert_none (S Sv : Nat → Prop) (sv : Value) (n : Nat) (l : List Rn) (i : Nat) (B : Option Addr) (vc : Nat) (w : World)
    (hr : Row w S 39 2 sv n (dbl l)) (hi : i ≤ n) :
    Calls Tryz.prog 88 #[sv, .int .i64 i, .slice B 0 vc] w fun e w' => Out w sv n l e w' := by
  obtain ⟨A, c, rfl⟩ := hr.slice
  have hle := hr.le
  have hv := hr.view
  obtain ⟨hl, A', c', e, e1, e2, e3, e4, e5⟩ := hv
  injection e with ea _ ec
  subst ea; subst ec
  have hcm : c ≤ 9223372036854775807 := by simp only [maxLen] at e2; omega
  have hnil : A = none → (Value.slice A n c) = .slice none 0 0 := by
    intro h; subst h; have := e3 rfl; subst this; rw [show n = 0 by omega]
  have hfin : Out w (.slice A n c) n l (.returned (.slice A n c)) w := ⟨A, c, rfl, hr.own.mono fun k h => .inl h, Fr.refl _ _, hnil⟩
  have Hfin := hid hfin
  clear e2 e3 e4 e5 hfin hnil hr hl
  by_cases hci : c = i
  · subst hci
    obtain rfl : n = c := by omega
    go_enter Tryz.func88, Tryz.ntmps88
    go_wp2
    go_ret
    exact Hfin.out
  · go_enter Tryz.func88, Tryz.ntmps88
    go_wp2
    go_ret
    exact Hfin.out
/-- At the end. -/
theorem insert_end (S Sv : Nat → Prop) (sv : Value) (n m : Nat) (l ys : List Rn) (vb vc : Nat) (w : World)
    (hr : Row w S 39 2 sv n (dbl l)) (hv : View w Sv 2 (.slice (some ⟨vb, 0, none⟩) m vc) m (dbl ys)) (hn : n ≤ 100000) (hm : m ≤ 4) (hm0 : 0 < m) :
    Calls Tryz.prog 88 #[sv, .int .i64 n, .slice (some ⟨vb, 0, none⟩) m vc] w fun e w' => Out w sv (n + m) (l.take n ++ ys ++ l.drop n) e w' := by
  have hln := hr.view.len2
  have hle := hr.le
  obtain ⟨A, c, hsl⟩ := hr.slice
  subst hsl
  obtain ⟨hl, A', c', e, e1, e2, e3, e4, e5⟩ := hr.view
  injection e with ea _ ec
  subst ea; subst ec
  have hcm : c ≤ 9223372036854775807 := by simp only [maxLen] at e2; omega
  have Hln := hid hln; clear hln
  clear e2 e3 e4 e5 hl
  have hm9 : ¬ ((m : Int) = 0) := by omega
  by_cases hci : c = n
  · subst hci
    go_enter Tryz.func88, Tryz.ntmps88
    go_wp2_with (at_builtin; refine wp_app_view rfl _ _ 37 rfl (.agg #[.int .i64 0, .int .i64 0]) 16 Tryz.underlying37 info_run rfl (by decide) hr rfl hv rfl (dbl_cell ys) (by omega) (by decide) ?_)
    intro A2 cap w' r1 r2 r3
    go_wp2
    go_ret
    refine ⟨A2, cap, rfl, ?_, r2, fun h => (r3.1 h).1⟩
    rw [ins_all Hln.out]; exact r1
  · go_enter Tryz.func88, Tryz.ntmps88
    go_wp2_with (at_builtin; refine wp_app_view rfl _ _ 37 rfl (.agg #[.int .i64 0, .int .i64 0]) 16 Tryz.underlying37 info_run rfl (by decide) hr rfl hv rfl (dbl_cell ys) (by omega) (by decide) ?_)
    intro A2 cap w' r1 r2 r3
    go_wp2
    go_ret
    refine ⟨A2, cap, rfl, ?_, r2, fun h => (r3.1 h).1⟩
    rw [ins_all Hln.out]; exact r1
set_option maxRecDepth 20000 in
/-- There is no room. -/
theorem insert_new (S Sv : Nat → Prop) (g cap n m : Nat) (l ys : List Rn) (i : Nat) (vb vc : Nat) (w : World)
    (hr : Row w S 39 2 (.slice (some ⟨g, 0, none⟩) n cap) n (dbl l)) (hv : View w Sv 2 (.slice (some ⟨vb, 0, none⟩) m vc) m (dbl ys)) (hn : n ≤ 100000) (hm : m ≤ 4) (hm0 : 0 < m) (hi : i < n) (hcap : cap < n + m) :
    Calls Tryz.prog 88 #[.slice (some ⟨g, 0, none⟩) n cap, .int .i64 i, .slice (some ⟨vb, 0, none⟩) m vc] w fun e w' => Out w (.slice (some ⟨g, 0, none⟩) n cap) (n + m) (l.take i ++ ys ++ l.drop i) e w' := by
  have hln := hr.view.len2
  have Hln := hid hln; clear hln
  obtain ⟨g', cap', cur, heq, hSg, hgb, hcn, hcm, hcs, hct⟩ := hr.blk (by simp)
  injection heq with ha _ hc
  injection ha with ha
  injection ha with hg _ _
  subst hg; subst hc
  have hvp : View w S 2 (.slice (some ⟨g, 0, none⟩) i cap) i (dbl (l.take i)) := by rw [← dbl_take]; exact hr.view.pre (by omega)
  have hcm2 : cap ≤ 9223372036854775807 := by simp only [maxLen] at hcm; omega
  have h9 : i + (n + m - i) = n + m := by omega
  have hz : Hid (((n : Int) + (m : Int) - (i : Int)) = ((n + m - i : Nat) : Int)) := hid (by omega)
  have hm9 : ¬ ((m : Int) = 0) := by omega
  have hz2 : ¬ ((i : Int) = (n : Int)) := by omega
  have hb4 : ¬ (cap = i) := by omega
  clear hcm
  go_enter Tryz.func88, Tryz.ntmps88
  go_wp2_with (at_builtin; refine wp_appz rfl _ _ 37 3 rfl 39 2 16 .i64 (.agg #[.int .i64 0, .int .i64 0]) Tryz.underlying37 Tryz.underlying3 info_run rfl (by decide) _ i cap (n + m - i) _ _ rfl rfl hvp (congrArg (Value.int .i64) hz.out) (by omega) (by omega) (by omega) (by decide) ?_)
  intro w1 g1 cur1 cap1 hg1 hb1 hs1 hc1 hcm1 ht1 hf1
  rw [h9]
  have hcm1' : cap1 ≤ 9223372036854775807 := by simp only [maxLen] at hcm1; omega
  have hb5 : ¬ (cap1 = i) := by omega
  have hv1 : View w1 Sv 2 (.slice (some ⟨vb, 0, none⟩) m vc) m (dbl ys) := hv.fr hf1 fun _ _ _ h => h
  have hg1b : Blk w1 g cur 39 := hgb.fr hf1 fun h => h
  have hg1ne : g ≠ g1 := by have := hgb.lt; omega
  have hfy : i * 2 + m * 2 ≤ cur1.size := by omega
  have hty : (dbl ys).take (m * 2) = dbl ys := List.take_of_length_le (by rw [hv.length]; omega)
  have htd : (dbl (l.drop i)).take ((n - i) * 2) = dbl (l.drop i) := List.take_of_length_le (by rw [dbl_length, List.length_drop, Hln.out]; omega)
  obtain ⟨w2, hr2, hb2, hf2⟩ := run_copy_row (P := Tryz.prog) w1 37 3 39 2 Tryz.underlying37 size_run (some ⟨g1, i * 2, none⟩) (n + m - i) (cap1 - i) _ m (dbl ys) hv1 m g1 (i * 2) cur1 39 (by omega) hb1 (fun _ => rfl) hfy (fun u hu => dbl_cell ys u (List.mem_of_mem_take hu))
  rw [hty] at hb2
  have hv2 : View w2 (fun k => k = g) 2 (.slice (some ⟨g, i * 2, none⟩) (n - i) (cap - i)) (n - i) (dbl (l.drop i)) := by
    refine (seg_view (hg1b.fr hf2 (fun h => hg1ne h)) i (n - i) (cap - i) _ ?_ (by omega) (by omega) (by unfold maxLen; omega))
    rw [← dbl_drop, ← hct, List.drop_take, Nat.sub_mul]
  have hfd : (i + m) * 2 + (n - i) * 2 ≤ (laid cur1 (i * 2) (dbl ys)).size := by rw [laid_size (by rw [hv.length]; exact hfy)]; omega
  obtain ⟨w3, hr3, hb3, hf3⟩ := run_copy_row (P := Tryz.prog) w2.drew 37 3 39 2 Tryz.underlying37 size_run (some ⟨g1, (i + m) * 2, none⟩) (n + m - (i + m)) (cap1 - (i + m)) _ (n - i) (dbl (l.drop i)) hv2.drew (n - i) g1 ((i + m) * 2) (laid cur1 (i * 2) (dbl ys)) 39 (by omega) hb2.drew (fun _ => rfl) hfd (fun u hu => dbl_cell _ u (List.mem_of_mem_take hu))
  rw [htd] at hb3
  have hR : Row w3 (fun k => k = g ∨ w.heap.size ≤ k) 39 2 (.slice (some ⟨g1, 0, none⟩) (n + m) cap1) (n + m) (dbl (l.take i ++ ys ++ l.drop i)) := by
    refine Row.of_blk (.inr hg1) hb3 (by omega) hcm1 (by rw [laid_size (by rw [dbl_length, List.length_drop, Hln.out]; exact hfd), laid_size (by rw [hv.length]; exact hfy), hs1]) ?_
    have h := laid_two1 (cur := cur1) (p := i * 2) (q := m * 2) (Y := dbl ys) (D := dbl (l.drop i)) hv.length (by rw [dbl_length, List.length_drop, Hln.out]; omega)
    rw [dbl3, ← ht1, ← h, ← Nat.add_mul]
    congr 1
    rw [dbl_length, List.length_drop, Hln.out]; omega
  have hF : Fr (fun k => k = g) w w3 := ((hf1.nil (S := fun k => k = g)).trans hf2 (fun k hk => .inr (by omega))).trans (((Fr.refl (fun k => k = g1) w2).drew).then hf3) (fun k hk => .inr (by omega))
  have Hfin := hid (show Out w (.slice (some ⟨g, 0, none⟩) n cap) (n + m) (l.take i ++ ys ++ l.drop i) (.returned (.slice (some ⟨g1, 0, none⟩) (n + m) cap1)) w3 from
    ⟨_, _, rfl, hR.mono (fun k hk => hk.imp (fun h => by simp [Value.ownBlock, h]) id), hF.mono (fun k hk => by simp [Value.ownBlock, hk]), fun h => (by cases h)⟩)
  have hw1 : IntKind.i64.wrap ((i : Int) + (m : Int)) = (i : Int) + (m : Int) := by rw [IntKind.wrap_i64]; omega
  have hw0 : (0 : Int) ≤ (i : Int) + (m : Int) := by omega
  have htn : ((i : Int) + (m : Int)).toNat = i + m := by omega
  have hb6 : ¬ (cap1 = i + m) := by omega
  have hb7 : (i : Int) + (m : Int) ≤ (n : Int) + (m : Int) := by omega
  have hb8 : (i : Int) ≤ (n : Int) := by omega
  clear hR hF hf1 hf2 hf3 hb1 hb2 hb3 hfd hfy hv1 hv2 hty htd hv hvp hgb hz hs1 hcm1 hg1b hct hr ht1 hcs h9
  go_wp2_with fail
  go_region
  go_wp2
  go_ret
  exact Hfin.out
set_option maxRecDepth 20000 in
/-- There is room. -/
theorem insert_room (S Sv : Nat → Prop) (g cap n m : Nat) (l ys : List Rn) (i : Nat) (vb vc : Nat) (w : World)
    (hr : Row w S 39 2 (.slice (some ⟨g, 0, none⟩) n cap) n (dbl l)) (hv : Row w Sv 39 2 (.slice (some ⟨vb, 0, none⟩) m vc) m (dbl ys)) (hvg : g ≠ vb) (hn : n ≤ 100000) (hm : m ≤ 4) (hm0 : 0 < m) (hi : i < n) (hcap : n + m ≤ cap) :
    Calls Tryz.prog 88 #[.slice (some ⟨g, 0, none⟩) n cap, .int .i64 i, .slice (some ⟨vb, 0, none⟩) m vc] w fun e w' => Out w (.slice (some ⟨g, 0, none⟩) n cap) (n + m) (l.take i ++ ys ++ l.drop i) e w' := by
  have hln := hr.view.len2
  have Hln := hid hln; clear hln
  obtain ⟨g', cap', cur, heq, hSg, hgb, hcn, hcm, hcs, hct⟩ := hr.blk (by simp)
  injection heq with ha _ hc
  injection ha with ha
  injection ha with hg _ _
  subst hg; subst hc
  obtain ⟨vb', vc', cv, heq, hSv, hvb, hvn, -, hvs, -⟩ := hv.blk (by simp)
  injection heq with ha _ hc
  injection ha with ha
  injection ha with hg _ _
  subst hg; subst hc
  have hcm2 : cap ≤ 9223372036854775807 := by simp only [maxLen] at hcm; omega
  have hov := apart w vb g 0 ((i + m) * 2) cv cur hvb hgb (fun h => hvg h.symm) (by omega) m vc (n + m - (i + m)) (cap - (i + m))
  have hm9 : ¬ ((m : Int) = 0) := by omega
  have hz2 : ¬ ((i : Int) = (n : Int)) := by omega
  have hb4 : ¬ (cap = i) := by omega
  have hty : (dbl ys).take (m * 2) = dbl ys := List.take_of_length_le (by rw [hv.length]; omega)
  have hx : ((cur.toList.drop (i * 2)).take ((n + m - i) * 2)).take ((n - i) * 2) = dbl (l.drop i) := by
    rw [List.take_take, Nat.min_eq_left (by omega), ← dbl_drop, ← hct, List.drop_take, Nat.sub_mul]
  have hl1 : (dbl (l.drop i)).length = (n - i) * 2 := by rw [dbl_length, List.length_drop, Hln.out]
  have hv1 : View w.drew (fun k => k = g) 2 (.slice (some ⟨g, i * 2, none⟩) (n + m - i) (cap - i)) (n + m - i) ((cur.toList.drop (i * 2)).take ((n + m - i) * 2)) :=
    seg_view hgb.drew i (n + m - i) (cap - i) _ rfl (by omega) (by omega) (by unfold maxLen; omega)
  obtain ⟨w2, hr2, hb2, hf2⟩ := run_copy_row (P := Tryz.prog) w.drew 37 3 39 2 Tryz.underlying37 size_run (some ⟨g, (i + m) * 2, none⟩) (n + m - (i + m)) (cap - (i + m)) _ (n + m - i) _ hv1 (n - i) g ((i + m) * 2) cur 39 (by omega) hgb.drew (fun _ => rfl) (by omega) (fun u hu => by rw [hx] at hu; exact dbl_cell _ u hu)
  rw [hx] at hb2
  have hs2 : (laid cur ((i + m) * 2) (dbl (l.drop i))).size = cur.size := laid_size (by omega)
  have hv2 : View w2 _ 2 (.slice (some ⟨vb, 0, none⟩) m vc) m (dbl ys) := hv.own.view.drew.fr hf2 (fun k hk _ h => hvg (by simp [Value.ownBlock] at hk; omega))
  obtain ⟨w3, hr3, hb3, hf3⟩ := run_copy_row (P := Tryz.prog) w2 37 3 39 2 Tryz.underlying37 size_run (some ⟨g, i * 2, none⟩) (n + m - i) (cap - i) _ m (dbl ys) hv2 m g (i * 2) _ 39 (by omega) hb2 (fun _ => rfl) (by omega) (fun u hu => dbl_cell ys u (List.mem_of_mem_take hu))
  rw [hty] at hb3
  have hR : Row w3 (fun k => k = g) 39 2 (.slice (some ⟨g, 0, none⟩) (n + m) cap) (n + m) (dbl (l.take i ++ ys ++ l.drop i)) := by
    refine Row.of_blk rfl hb3 hcap hcm (by rw [laid_size (by rw [hv.length]; omega), hs2, hcs]) ?_
    have h := laid_two2 (cur := cur) (p := i * 2) (q := m * 2) (Y := dbl ys) (D := dbl (l.drop i)) hv.length (by omega)
    rw [dbl3, ← dbl_take, ← hct, List.take_take, Nat.min_eq_left (by omega), ← h, hl1, show (i + m) * 2 = i * 2 + m * 2 by omega, show i * 2 + m * 2 + (n - i) * 2 = (n + m) * 2 by omega]
  have hF : Fr (fun k => k = g) w w3 := ((Fr.refl (fun k => k = g) w).drew.then hf2).then hf3
  have Hfin := hid (show Out w (.slice (some ⟨g, 0, none⟩) n cap) (n + m) (l.take i ++ ys ++ l.drop i) (.returned (.slice (some ⟨g, 0, none⟩) (n + m) cap)) w3 from
    ⟨_, _, rfl, hR.mono (fun k hk => .inl (by simp [Value.ownBlock, hk])), hF.mono (fun k hk => by simp [Value.ownBlock, hk]), fun h => (by cases h)⟩)
  have hw1 : IntKind.i64.wrap ((i : Int) + (m : Int)) = (i : Int) + (m : Int) := by rw [IntKind.wrap_i64]; omega
  have hw0 : (0 : Int) ≤ (i : Int) + (m : Int) := by omega
  have htn : ((i : Int) + (m : Int)).toNat = i + m := by omega
  have htn2 : ((n : Int) + (m : Int)).toNat = n + m := by omega
  have hb6 : ¬ (cap = i + m) := by omega
  have hb7 : (i : Int) + (m : Int) ≤ (n : Int) + (m : Int) := by omega
  have hb8 : (i : Int) ≤ (n : Int) + (m : Int) := by omega
  clear hR hF hf2 hf3 hb2 hb3 hv1 hv2 hty hv hgb hct hr hcs hx hl1 hs2 hvb hvs
  go_enter Tryz.func88, Tryz.ntmps88
  go_wp2_with (simp only [hov])
  go_region
  go_wp2
  go_ret
  exact Hfin.out
theorem insert_ok (S Sv : Nat → Prop) (sv : Value) (n m : Nat) (l ys : List Rn) (i : Nat) (vb vc : Nat) (w : World)
    (hr : Row w S 39 2 sv n (dbl l)) (hv : Row w Sv 39 2 (.slice (some ⟨vb, 0, none⟩) m vc) m (dbl ys)) (hvg : sv.ownBlock ≠ some vb) (hn : n ≤ 100000) (hm : m ≤ 4) (hi : i ≤ n) :
    Calls Tryz.prog 88 #[sv, .int .i64 i, .slice (some ⟨vb, 0, none⟩) m vc] w fun e w' => Out w sv (n + m) (l.take i ++ ys ++ l.drop i) e w' := by
  by_cases h0 : m = 0
  · subst h0
    have hy : ys = [] := List.eq_nil_of_length_eq_zero hv.view.len2
    subst hy
    rw [List.append_nil, List.take_append_drop]
    exact insert_none S Sv sv n l i _ vc w hr hi
  · by_cases hin : i = n
    · subst hin
      exact insert_end S Sv sv i m l ys vb vc w hr hv.view hn hm (by omega)
    · obtain ⟨g, cap, rfl, hS, _⟩ := hr.form (by omega)
      by_cases hc : n + m ≤ cap
      · exact insert_room S Sv g cap n m l ys i vb vc w hr hv (fun h => hvg (by simp [Value.ownBlock, h])) hn hm (by omega) (by omega) hc
      · exact insert_new S Sv g cap n m l ys i vb vc w hr hv.view hn hm (by omega) (by omega) (by omega)
end Go.Proofs.YtgoghmblfdlnbaaGreat
end

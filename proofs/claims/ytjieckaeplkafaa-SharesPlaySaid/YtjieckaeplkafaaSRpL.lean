/- The reference's Runs: List, Greatest. -/
import Derived.Test.YtjieckaeplkafaaSRpM
import Derived.Test.YtjieckaeplkafaaSRnW2
set_option linter.unusedSimpArgs false
set_option linter.unusedVariables false
namespace Go.Proofs.Ytjieckaeplkafaa
open Go.RowKit
theorem laid_inc {cur : Array Value} {l : List Rn} {N j n' : Nat} (hl : l.length = N) (hj : j < N) (h : cur.toList.take (N * 2) = dbl l) :
    (cur.setIfInBounds (j * 2 + 1) (.int .i64 (n' : Nat))).toList.take (N * 2) = dbl (l.set j ⟨(rn l j).a, n'⟩) := by
  rw [dbl_set l j _ (by omega), ← h, Array.toList_setIfInBounds, List.take_set]
  congr 1
  obtain ⟨g0, -⟩ := dbl_get (l := l) (i := j) (by omega)
  rw [h]
  refine List.ext_getElem? fun k => ?_
  rw [List.getElem?_set]
  split
  · rename_i e; subst e
    rw [if_pos (by rw [dbl_length]; omega)]
    exact g0
  · rfl
set_option maxRecDepth 20000 in
theorem ref_list (mb fb bl : Nat) (L : List Rn) (F : List Bool) (w : World) (hR : Rf w mb fb F) (hF : Fre bl L F) :
    Calls Try.prog 39 #[.pointer (some ⟨mb, 0, none⟩)] w fun e w' => ∃ A c, e = .returned (.slice A L.length c) ∧ Row w' (New w) 33 2 (.slice A L.length c) L.length (dbl L) ∧ Fr Nil w w' := by
  have hbl : bl ≤ 8192 := hF.1.1
  have HR := hid hR
  have HF := hid hF
  have HL := hid hF.2.1
  have c0 := hR.1.cell 0
  rw [hF.2.1] at c0
  clear hR hF
  go_enter Try.func39, Try.ntmps39
  go_wp2_with fail
  go_loopw [3, 4] (fun v3 v4 wr => ∃ (i : Nat) (l : List Rn) (B : Option Addr) (cb : Nat), v3 = .slice B l.length cb ∧ v4 = .int .i64 i ∧ i ≤ bl ∧ l.length ≤ i ∧ Hid (LInv F i l ∧ Row wr (New w) 33 2 (.slice B l.length cb) l.length (dbl l)) ∧ Fr Nil w wr) (fun _ v4 _ => bl - (intOf v4).toNat)
  case atStart => exact ⟨0, [], none, 0, rfl, rfl, by omega, by simp, hid ⟨LInv.zero _, Row.nil _ _ _ _⟩, Fr.refl _ _⟩
  case round =>
    clear c0
    obtain ⟨i, l, B, cb, rfl, rfl, hi, hli, hA, hfw⟩ := hrel
    have HRr := hid (HR.out.nil hfw)
    have c0 := HRr.out.1.cell 0
    rw [HL.out] at c0
    by_cases hlt : i < bl
    · have q0 := HRr.out.at (k := i) (by rw [HL.out]; exact hlt)
      cases hb : F.getD i false with
      | false =>
        rw [hb] at q0
        have Hb := hid hb
        clear hb
        go_wp2_with fail
        go_roundw
        case rel => exact ⟨i + 1, l, B, cb, rfl, by go_num, by omega, by omega, hid ⟨hA.out.1.skip Hb.out, hA.out.2⟩, hfw⟩
        case measure => simp [intOf]; omega
      | true =>
        rw [hb] at q0
        have Hb := hid hb
        clear hb
        obtain ⟨e, he⟩ : ∃ e, e = l.length - 1 := ⟨_, rfl⟩
        have hend : Hid (0 < l.length → (rn l e).a + (rn l e).n ≤ i) := hid fun h => hA.out.1.2.1 _ (mem_rn (by omega))
        have hle8 : l.length ≤ 8192 := by omega
        have He := hid he
        clear he
        go_upto_region 6 with (fail)
        go_cut [43] from 22 to 43 (fun v wx => v = .bool (decide (0 < l.length ∧ (rn l e).a + (rn l e).n = i)) ∧ Fr Nil wr wx)
        case first =>
          by_cases h0 : 0 < l.length
          · obtain ⟨bm, om, rfl, -, hbm, m0, m1⟩ := rn_at hA.out.2.view (show e < l.length by have := He.out; omega)
            have hm2 : decide ((0 : Int) < (l.length : Int)) = true := decide_eq_true (by omega)
            have hm3 : decide (0 < l.length) = true := decide_eq_true h0
            have hj1 : IntKind.i64.wrap ((l.length : Int) - 1) = (l.length : Int) - 1 := by rw [IntKind.wrap_i64]; omega
            have hj2 : ((l.length : Int) - 1).toNat = e := by have := He.out; omega
            have hj3 : (0 : Int) ≤ (l.length : Int) - 1 := by omega
            have hj4 : (l.length : Int) - 1 < (l.length : Int) := by omega
            have he2 := hend.out h0
            have hG : Hid (decide (0 < l.length ∧ (rn l e).a + (rn l e).n = i) = decide (((rn l e).a : Int) + ((rn l e).n : Int) = (i : Int))) := hid (decide_eq_decide.2 (by omega))
            go_quiet (fail)
            go_wp2
            go_meet
            case rel => exact ⟨by rw [hG.out]; rfl, (Fr.refl _ _).drewN _⟩
          · have hm2 : decide ((0 : Int) < (l.length : Int)) = false := decide_eq_false (by omega)
            have hm3 : decide (0 < l.length) = false := decide_eq_false h0
            have hG : Hid (decide (0 < l.length ∧ (rn l e).a + (rn l e).n = i) = false) := hid (decide_eq_false fun h => h0 h.1)
            go_quiet (fail)
            go_wp2
            go_meet
            case rel => exact ⟨by rw [hG.out], (Fr.refl _ _).drewN _⟩
        case rest =>
          obtain ⟨rfl, hfc⟩ := hcut
          obtain ⟨w6, rfl⟩ : ∃ w6 : World, w6 = wc := ⟨_, rfl⟩
          have hRow6 := hA.out.2.fr hfc fun _ _ h => h
          have hF6 := hid (hfw.then hfc)
          by_cases hG : 0 < l.length ∧ (rn l e).a + (rn l e).n = i
          · rw [decide_eq_true hG]
            obtain ⟨h0, hG2⟩ := hG
            obtain ⟨g, cap', cur, heq, hSg, hgb, hcn, hcm, hcs, hct⟩ := hRow6.blk (by intro h; injection h with _ h2; omega)
            injection heq with ha _ hc
            subst ha; subst hc
            have hel : e < l.length := by have := He.out; omega
            obtain ⟨p0, p1⟩ := dbl_get (l := l) (i := e) hel
            rw [← hct, List.getElem?_take, if_pos (by omega), Array.getElem?_toList, ← hgb.cell] at p0 p1
            have z1 := hgb.frozen (e * 2 + 1)
            have hj1 : IntKind.i64.wrap ((l.length : Int) - 1) = (l.length : Int) - 1 := by rw [IntKind.wrap_i64]; omega
            have hj2 : ((l.length : Int) - 1).toNat = e := by have := He.out; omega
            have hj3 : (0 : Int) ≤ (l.length : Int) - 1 := by omega
            have hj4 : (l.length : Int) - 1 < (l.length : Int) := by omega
            have hn8 : (rn l e).n ≤ 8192 := by have := hend.out h0; omega
            have Hfin := hid (show LInv F (i + 1) (l.set e ⟨(rn l e).a, (rn l e).n + 1⟩) ∧ Row (w6.setCell ⟨g, e * 2 + 1, none⟩ (.int .i64 (((rn l e).n : Int) + 1))) (New w) 33 2 (.slice (some ⟨g, 0, none⟩) (l.set e ⟨(rn l e).a, (rn l e).n + 1⟩).length cb) (l.set e ⟨(rn l e).a, (rn l e).n + 1⟩).length (dbl (l.set e ⟨(rn l e).a, (rn l e).n + 1⟩)) from by
              refine ⟨by have he := He.out; subst he; exact hA.out.1.grow Hb.out h0 hG2, ?_⟩
              rw [List.length_set, show (((rn l e).n : Int) + 1) = (((rn l e).n + 1 : Nat) : Int) by omega]
              exact Row.of_blk hSg (hgb.set _ _) hcn hcm (by simpa using hcs) (laid_inc rfl hel hct))
            have Hf := hid (hF6.out.setCell (a := ⟨g, e * 2 + 1, none⟩) (.inr hSg) (.int .i64 (((rn l e).n : Int) + 1)))
            clear hct hcs hcm hcn hgb hA hRow6 hfc hend
            go_wp2_with fail
            go_roundw
            case rel => exact ⟨i + 1, l.set e ⟨(rn l e).a, (rn l e).n + 1⟩, some ⟨g, 0, none⟩, cb, by rw [List.length_set], by go_num, by omega, by rw [List.length_set]; omega, Hfin, Hf.out⟩
            case measure => simp [intOf]; omega
          · rw [decide_eq_false hG]
            have Hfin := hid (hA.out.1.add Hb.out fun h0 h1 => hG ⟨h0, by have he := He.out; subst he; exact h1⟩)
            clear hG
            have hvl : View (w6.alloc (.cells #[.int .i64 (i : Nat), .int .i64 1] 33)) (New w6) 2 (.slice (some ⟨w6.heap.size, 0, none⟩) 1 1) 1 (dbl [⟨i, 1⟩]) := View.lit w6 #[.int .i64 (i : Nat), .int .i64 1] 33 (0, 0) 1 rfl (by decide)
            go_wp2_with (at_builtin; refine wp_app_view rfl _ _ 37 rfl (.agg #[.int .i64 0, .int .i64 0]) 16 Try.underlying37 info_run rfl (by decide) (hRow6.alloc _) rfl hvl rfl (dbl_cell _) (by omega) (by decide) ?_)
            intro B2 cb2 w7 r1 r2 r3
            rw [← dbl_append] at r1
            have hal : Fr Nil w6 (w6.alloc (.cells #[.int .i64 (i : Nat), .int .i64 1] 33)) := (Fr.refl _ _).alloc _
            have hs6 := hF6.out.size
            have hrow7 : Row w7 (New w) 33 2 (.slice B2 (l.length + 1) cb2) (l.length + 1) (dbl (l ++ [⟨i, 1⟩])) := r1.mono fun k hk => hk.elim (fun h => hRow6.2 k h) (fun h => Nat.le_trans hs6 (Nat.le_trans hal.size h))
            have Hrow7 := hid hrow7
            have HF7 := hid ((hF6.out.then hal).trans r2 fun k hk => .inr (hRow6.2 k hk))
            clear r1 r2 r3 hrow7 hvl hal hRow6 hfc
            go_wp2_with fail
            go_roundw
            case rel =>
              have hln : (l ++ [(⟨i, 1⟩ : Rn)]).length = l.length + 1 := by simp
              exact ⟨i + 1, l ++ [⟨i, 1⟩], B2, cb2, by rw [hln], by go_num, by omega, by omega, hid ⟨Hfin.out, by rw [hln]; exact Hrow7.out⟩, HF7.out⟩
            case measure => simp [intOf]; omega
    · obtain rfl : i = bl := by omega
      obtain rfl := hA.out.1.end HF.out
      go_wp2
      go_ret
      exact ⟨B, cb, rfl, hA.out.2, hfw⟩
theorem ref_greatest (mb fb bl : Nat) (L : List Rn) (F : List Bool) (w : World) (hR : Rf w mb fb F) (hF : Fre bl L F) :
    Calls Try.prog 46 #[.pointer (some ⟨mb, 0, none⟩)] w fun e w' => e = .returned (.int .i64 (topN L : Nat)) ∧ Fr Nil w w' := by
  have HL := hid hF.1.lok
  have Hli := hid (ref_list mb fb bl L F w hR hF)
  clear hR hF
  go_enter Try.func46, Try.ntmps46
  go_wp2_with fail
  refine Hli.out.mono ?_
  rintro e w1 ⟨A, c, rfl, h1, h2⟩
  obtain ⟨n, hL⟩ : ∃ n, n = L.length := ⟨_, rfl⟩
  have HLl := hid hL
  have hL9 : n ≤ 8192 := by rw [hL]; exact HL.out.2.1
  have hv := h1.view
  rw [← hL] at hv ⊢
  have Hv := hid hv
  clear hL h1 hv
  go_wp2_with fail
  go_loopw [4, 5] (fun v4 v5 wr => ∃ i : Nat, v4 = .int .i64 (mxN L i : Nat) ∧ v5 = .int .i64 i ∧ i ≤ n ∧ Fr Nil w1 wr) (fun _ v5 _ => n - (intOf v5).toNat)
  case atStart => exact ⟨0, by simp [mxN], rfl, by omega, Fr.refl _ _⟩
  case round =>
    obtain ⟨i, rfl, rfl, hi, hfw⟩ := hrel
    by_cases hlt : i < n
    · obtain ⟨b, o, rfl, -, hbl, q0, q1⟩ := rn_at (Hv.out.fr hfw fun _ _ _ h => h) hlt
      have hS := hid (mxN_succ (l := L) (i := i) (by rw [← HLl.out]; exact hlt))
      have hB := mxN_le HL.out i (by rw [← HLl.out]; exact hi)
      have hbo := HL.out.2.2 i (by rw [← HLl.out]; exact hlt)
      have hbl8 := HL.out.1
      have hn8 : (rn L i).n ≤ 8192 := by omega
      clear hbo hbl8
      go_wp2_with fail
      go_roundw
      case rel => exact ⟨i + 1, by rw [hS.out]; simp; try (split <;> omega), by go_num, by omega, hfw⟩
      case measure => simp [intOf]; omega
    · have hE := hid (show topN L = mxN L i from by unfold topN; rw [show i = L.length by rw [← HLl.out]; omega])
      go_wp2
      go_ret
      rw [hE.out]
      exact ⟨rfl, h2.then hfw⟩
end Go.Proofs.Ytjieckaeplkafaa

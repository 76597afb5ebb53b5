/- The law RunsGrow (under way). -/
import Derived.Test.YtbfhoadhihlhjaaRnW2
set_option linter.unusedSimpArgs false
set_option linter.unusedVariables false
namespace Go.Proofs.Ytbfhoadhihlhjaa
open Go.RowKit
set_option maxRecDepth 20000 in
set_option maxHeartbeats 2000000 in
theorem runsGrow_ok (A : Option Addr) (n c : Nat) (zs : List Int) (A2 : Option Addr) (n2 c2 : Nat) (zs2 : List Int) (w : World) (hr : IsRow .u8 w A n c zs) (hr2 : IsRow .u8 w A2 n2 c2 zs2) :
    Calls Try.prog 3 #[.slice A n c, .slice A2 n2 c2] w fun e w' => e = .returned (.bool true) ∧ Fr Nil w w' := by
  obtain ⟨hv, hlen, hwf⟩ := hr.view
  obtain ⟨hv2, hlen2, hwf2⟩ := hr2.view
  have hnle := hv.le
  have hnle2 := hv2.le
  have Hv := hid hv
  have Hlen := hid hlen
  have Hwf := hid hwf
  have Hv2 := hid hv2
  have Hlen2 := hid hlen2
  have Hwf2 := hid hwf2
  clear hv hlen hwf hv2 hlen2 hwf2 hr hr2
  generalize zs.take n = l at *
  generalize zs2.take n2 = l2 at *
  go_enter Try.func3, Try.ntmps3
  go_wp2_with fail
  refine (awake_ok w).mono ?_
  rintro e w0 ⟨rfl, f0⟩
  have F0 := hid f0; clear f0
  by_cases hn : 30 < n
  · go_wp2
    go_ret
    exact ⟨rfl, F0.out⟩
  by_cases hn2 : 100 < n2
  · go_wp2
    go_ret
    exact ⟨rfl, F0.out⟩
  go_wp2_with fail
  refine (new_t 200 w0).mono ?_
  rw [show newBl 200 = 200 by decide, show newL 200 = grow 0 by decide]
  rintro e w1 ⟨pb, T1, rfl, h, u1, f1⟩
  have H1 := hid h
  have U1 := hid (fun k hk => Nat.le_trans F0.out.size (u1 k hk) : ∀ k, T1 k → w.heap.size ≤ k)
  have F1 := hid (F0.out.then f1)
  clear h u1 f1 F0
  go_wp2_with fail
  go_loopw [6, 7] (fun v6 v7 wr => ∃ (i t : Nat) (m : List Rn) (T S : Nat → Prop) (B : Option Addr) (cb : Nat), v7 = .int .i64 i ∧ i ≤ n ∧ m.length ≤ i ∧ v6 = .slice B m.length cb ∧ Row wr S 30 2 (.slice B m.length cb) m.length (dbl m) ∧ Cuts t m ∧ (m.length = 0 ∧ t = 0 ∨ 0 < m.length ∧ (rn m (m.length - 1)).a + (rn m (m.length - 1)).n = t) ∧ t ≤ 200 ∧ RsT wr T pb 200 (grow t) ∧ (∀ k, T k → w.heap.size ≤ k) ∧ (∀ k, S k → w.heap.size ≤ k ∧ k < wr.heap.size ∧ ¬ T k) ∧ Fr Nil w wr) (fun _ v7 _ => n - (intOf v7).toNat)
  case atStart => exact ⟨0, 0, [], T1, fun _ => False, none, 0, rfl, by omega, by simp, rfl, Row.nil _ _ _ _, Cuts.nil, .inl ⟨rfl, rfl⟩, by omega, H1.out, U1.out, fun _ h => h.elim, F1.out⟩
  case round =>
    obtain ⟨i, t, m, T, S, B, cb, rfl, hi, hmi, rfl, hRow, hC, hE, ht, hR, hT, hS, hfw⟩ := hrel
    have HR := hid hR
    have HT := hid hT
    have HS := hid hS
    have HC := hid hC
    have HRow := hid hRow
    have HE := hid hE
    clear hE
    clear hR hT hS hC hRow
    by_cases hlt : i < n
    · obtain ⟨b, o, rfl, -, hbl, q0⟩ := intAt (Hv.out.fr hfw fun _ _ _ h => h) hlt
      have hz : 0 ≤ l.getD i 0 ∧ l.getD i 0 < 256 := bounds_u8 (Hwf.out _ (by
        simp [List.getD, List.getElem?_eq_getElem (show i < l.length by rw [Hlen.out]; exact hlt)]))
      obtain ⟨z, hz2⟩ : ∃ z : Nat, l.getD i 0 = z := ⟨(l.getD i 0).toNat, by omega⟩
      rw [hz2] at q0 hz
      clear hz2
      have hz256 : z < 256 := by omega
      clear hz
      go_wp2_with fail
      have es : (1 + (z : Int) % 9) = ((1 + z % 9 : Nat) : Int) := by omega
      rw [es]
      obtain ⟨k, hk⟩ : ∃ k, k = 1 + z % 9 := ⟨_, rfl⟩
      rw [← hk]
      have hk1 : 1 ≤ k ∧ k ≤ 9 := by omega
      clear es hk
      obtain ⟨hk1, hk9⟩ := hk1
      obtain ⟨ht1, ht2⟩ := grow_take ht hk1
      refine (take_t HR.out k).mono ?_
      rw [ht1, ht2]
      clear ht1 ht2
      by_cases hfit : t + k ≤ 200
      · rw [if_pos hfit, if_pos hfit]
        rintro e w5 ⟨rfl, ⟨T', h5, h5T⟩, f5⟩
        have hRow5 := HRow.out.fr f5 fun k hk h => (HS.out k (HRow.out.2 k hk)).2.2 h
        have HRow5 := hid hRow5
        have H5 := hid h5
        have H5T := hid h5T
        have F5 := hid f5
        clear h5 h5T f5 hRow5
        go_wp2_with fail
        go_cut [81] from 48 to 81 (fun v wx => v = .bool false ∧ Fr Nil w5 wx)
        case first =>
          rcases HE.out with ⟨e1, e2⟩ | ⟨e1, e2⟩
          · have hm0 : ((m.length : Int) == 0) = true := by rw [e1]; rfl
            have hk200 : decide ((k : Int) ≤ 200) = true := decide_eq_true (by omega)
            go_quiet (fail)
            go_wp2
            go_meet
            case rel => exact ⟨rfl, (Fr.refl _ _).drewN _⟩
          · obtain ⟨bm, om, rfl, -, hbm, m0, m1⟩ := rn_at HRow5.out.view (show m.length - 1 < m.length by omega)
            have hm0 : ((m.length : Int) == 0) = false := by simp; intro h; rw [h] at e1; exact absurd e1 (by decide)
            have hmp : decide ((0 : Int) < (m.length : Int)) = true := decide_eq_true (by omega)
            have hmp2 : decide (0 < m.length) = true := decide_eq_true e1
            have hj1 : IntKind.i64.wrap ((m.length : Int) - 1) = (m.length : Int) - 1 := by rw [IntKind.wrap_i64]; omega
            have hj2 : ((m.length : Int) - 1).toNat = m.length - 1 := by omega
            have hj3 : (0 : Int) ≤ (m.length : Int) - 1 := by omega
            have hj4 : (m.length : Int) - 1 < (m.length : Int) := by omega
            have hle : decide (((rn m (m.length - 1)).a : Int) + ((rn m (m.length - 1)).n : Int) + (k : Int) ≤ 200) = true := decide_eq_true (by omega)
            go_quiet (fail)
            go_wp2
            go_meet
            case rel => exact ⟨rfl, (Fr.refl _ _).drewN _⟩
        case rest =>
          obtain ⟨rfl, hfc⟩ := hcut
          obtain ⟨w6, rfl⟩ : ∃ w6 : World, w6 = wc := ⟨_, rfl⟩
          have hRow6 := HRow5.out.fr hfc fun _ _ h => h
          have hlm : m.length ≤ 30 := by omega
          have hvl : View (w6.alloc (.cells #[.int .i64 (t : Nat), .int .i64 (k : Nat)] 30)) (New w6) 2 (.slice (some ⟨w6.heap.size, 0, none⟩) 1 1) 1 (dbl [⟨t, k⟩]) := View.lit w6 #[.int .i64 (t : Nat), .int .i64 (k : Nat)] 30 (0, 0) 1 rfl (by decide)
          go_wp2_with (at_builtin; refine wp_app_view rfl _ _ 26 rfl (.agg #[.int .i64 0, .int .i64 0]) 16 Try.underlying26 info_run rfl (by decide) (hRow6.alloc _) rfl hvl rfl (dbl_cell _) (by omega) (by decide) ?_)
          intro B2 cb2 w7 r1 r2 r3
          rw [← dbl_append] at r1
          have hal : Fr Nil w6 (w6.alloc (.cells #[.int .i64 (t : Nat), .int .i64 (k : Nat)] 30)) := (Fr.refl _ _).alloc _
          have hs6 := hfc.size
          have hs5 := F5.out.size
          have hwr := hfw.size
          have hown : ∀ j, (Value.slice B m.length cb).ownBlock = some j → S j := HRow.out.2
          have f56 : Fr Nil w5 (w6.alloc (.cells #[.int .i64 (t : Nat), .int .i64 (k : Nat)] 30)) := hfc.then hal
          have f7 : Fr (fun j => (Value.slice B m.length cb).ownBlock = some j) w5 w7 := (f56.nil).then r2
          have HR7 := hid (H5.out.fr f7 (fun j hj ho => by
            rcases H5T.out j hj with h | h
            · exact (HS.out j (hown j ho)).2.2 h
            · have := (HS.out j (hown j ho)).2.1; omega))
          have HF7 := hid (show Fr Nil w w7 from (hfw.trans F5.out (fun j hj => .inr (HT.out j hj))).trans f7 (fun j ho => .inr (HS.out j (hown j ho)).1))
          have HT7 := hid (fun j hj => (H5T.out j hj).elim (HT.out j) (fun h => Nat.le_trans hwr h) : ∀ j, T' j → w.heap.size ≤ j)
          have HRow7 := hid r1.own
          have HS7 := hid (show ∀ j, (Value.slice B2 (m.length + 1) cb2).ownBlock = some j → w.heap.size ≤ j ∧ j < w7.heap.size ∧ ¬ T' j from fun j hj => by
            have hlt7 := r1.lt j hj
            have h5l := H5.out.lt j
            rcases r1.2 j hj with h | h
            · obtain ⟨q1, q2, q3⟩ := HS.out j (hown j h)
              exact ⟨q1, hlt7, fun ht => by
                rcases H5T.out j ht with h6 | h6
                · exact q3 h6
                · omega⟩
            · have hsz := hal.size
              exact ⟨by omega, hlt7, fun ht => by have := h5l ht; omega⟩)
          clear r1 r2 r3 f7 f56 hal hown hvl hRow6 hfc
          go_wp2_with fail
          go_roundw
          case rel =>
            have hln : (m ++ [(⟨t, k⟩ : Rn)]).length = m.length + 1 := by simp
            refine ⟨i + 1, t + k, m ++ [⟨t, k⟩], T', _, B2, cb2, by go_num, by omega, by omega, by rw [hln], by rw [hln]; exact HRow7.out, HC.out.snoc hk1, .inr ⟨by omega, ?_⟩, hfit, HR7.out, HT7.out, HS7.out, HF7.out⟩
            rw [hln, Nat.add_sub_cancel, rn_snoc, if_neg (Nat.lt_irrefl _), if_pos rfl]
          case measure => simp [intOf]; omega
      · rw [if_neg hfit, if_neg hfit]
        rintro e w5 ⟨rfl, ⟨T', h5, h5T⟩, f5⟩
        have hRow5 := HRow.out.own.fr f5 fun k hk h => (HS.out k (HRow.out.2 k hk)).2.2 h
        have HRow5 := hid hRow5
        have H5 := hid h5
        have H5T := hid h5T
        have F5 := hid f5
        clear h5 h5T f5 hRow5
        go_wp2_with fail
        go_cut [81] from 48 to 81 (fun v wx => v = .bool false ∧ Fr Nil w5 wx)
        case first =>
          rcases HE.out with ⟨e1, e2⟩ | ⟨e1, e2⟩
          · omega
          · obtain ⟨bm, om, rfl, -, hbm, m0, m1⟩ := rn_at HRow5.out.view (show m.length - 1 < m.length by omega)
            have hm0 : ((m.length : Int) == 0) = false := by simp; intro h; rw [h] at e1; exact absurd e1 (by decide)
            have hmp : decide ((0 : Int) < (m.length : Int)) = true := decide_eq_true (by omega)
            have hmp2 : decide (0 < m.length) = true := decide_eq_true e1
            have hj1 : IntKind.i64.wrap ((m.length : Int) - 1) = (m.length : Int) - 1 := by rw [IntKind.wrap_i64]; omega
            have hj2 : ((m.length : Int) - 1).toNat = m.length - 1 := by omega
            have hj3 : (0 : Int) ≤ (m.length : Int) - 1 := by omega
            have hj4 : (m.length : Int) - 1 < (m.length : Int) := by omega
            have hle : decide (((rn m (m.length - 1)).a : Int) + ((rn m (m.length - 1)).n : Int) + (k : Int) ≤ 200) = false := decide_eq_false (by omega)
            go_quiet (fail)
            go_wp2
            go_meet
            case rel => exact ⟨rfl, (Fr.refl _ _).drewN _⟩
        case rest =>
          obtain ⟨rfl, hfc⟩ := hcut
          obtain ⟨w6, rfl⟩ : ∃ w6 : World, w6 = wc := ⟨_, rfl⟩
          have HF6 := hid hfc
          clear hfc
          go_wp2_with fail
          go_roundw
          case rel =>
            have hs5 := F5.out.size
            have hs6 := HF6.out.size
            have hwr := hfw.size
            refine ⟨i + 1, t, m, T', _, B, cb, by go_num, by omega, by omega, rfl, HRow5.out.fr HF6.out (fun _ _ h => h), HC.out, HE.out, ht, H5.out.nil HF6.out, fun j hj => (H5T.out j hj).elim (HT.out j) (fun h => Nat.le_trans hwr h), fun j hj => ?_, (hfw.trans F5.out (fun j hj => .inr (HT.out j hj))).then HF6.out⟩
            obtain ⟨q1, q2, q3⟩ := HS.out j (HRow.out.2 j hj)
            exact ⟨q1, by omega, fun h => (H5T.out j h).elim q3 (fun h => by omega)⟩
          case measure => simp [intOf]; omega
    · have hmn : m.length ≤ 30 := by omega
      have HF := hid hfw
      clear hfw hmi
      go_wp2_with fail
      refine (copy_t HR.out).mono ?_
      rintro e w2 ⟨qb, Tc, rfl, hc2, uc, f2⟩
      have HCp := hid hc2
      have HUc := hid uc
      have HF2 := hid f2
      clear hc2 uc f2
      go_wp2_with fail
      refine (free_t HCp.out).mono ?_
      rintro e w3 ⟨rfl, f3⟩
      have HF3 := hid (HF2.out.then f3)
      have HCp3 := hid (HCp.out.nil f3)
      clear f3
      obtain ⟨was, hwas⟩ : ∃ was, was = sumN (grow t) := ⟨_, rfl⟩
      rw [← hwas]
      have HWas := hid hwas
      clear hwas
      go_wp2_with fail
      obtain ⟨M, hM⟩ : ∃ M, M = m.length := ⟨_, rfl⟩
      have HM := hid hM
      rw [← hM] at hmn ⊢
      clear hM
      obtain ⟨wo, rfl⟩ : ∃ wo : World, wo = wr := ⟨_, rfl⟩
      go_loopw [13] (fun v13 wr => ∃ (i : Nat) (m' : List Rn) (L : List Rn) (T' : Nat → Prop), v13 = .int .i64 i ∧ i ≤ M ∧ m'.length = M ∧ Hid (Row wr S 30 2 (.slice B M cb) M (dbl m') ∧ Cuts t m' ∧ RsT wr T' pb 200 L ∧ (∀ k, has L k = (decide (t ≤ k ∧ k < 200) || (List.range i).any fun j => isin (rn m' j) k)) ∧ RsT wr Tc qb 200 (grow t) ∧ (∀ k, T' k → w.heap.size ≤ k ∧ ¬ S k ∧ ¬ Tc k) ∧ (∀ k, S k → ¬ Tc k) ∧ Fr Nil w wr ∧ wo.heap.size ≤ wr.heap.size)) (fun v13 _ => M - (intOf v13).toNat)
      case atStart =>
        refine ⟨0, m, grow t, T, rfl, by omega, HM.out.symm, hid ⟨?_, HC.out, ((HR.out.nil HF3.out)), fun k => by rw [grow_has t k ht]; simp, HCp3.out, fun k hk => ⟨HT.out k hk, fun h => (HS.out k h).2.2 hk, fun h => ?_⟩, fun k h1 h2 => ?_, HF.out.then HF3.out, HF3.out.size⟩⟩
        · rw [HM.out]; exact HRow.out.fr HF3.out fun _ _ h => h
        · have := HUc.out k h; have := HR.out.lt k hk; omega
        · have := HUc.out k h2; have := (HS.out k h1).2.1; omega
      case round =>
        obtain ⟨i, m', L, T', rfl, hi, hm', hA⟩ := hrel
        have Hm' := hid hm'
        clear hm'
        by_cases hlt : i < M
        · obtain ⟨g, cap', cur, heq, hSg, hgb, hcn, hcm, hcs, hct⟩ := hA.out.1.blk (by simp; intro h; omega)
          injection heq with ha _ hc
          subst ha; subst hc
          go_upto_if 103 with (fail)
          go_cut [14] from 103 to 115 (fun v wx => ∃ k : Nat, v = .int .i64 k ∧ i ≤ k ∧ k < M ∧ Fr Nil wr wx)
          case first =>
            by_cases hno : i < n2
            · obtain ⟨b, o, rfl, -, hbl, q0⟩ := intAt (Hv2.out.fr hA.out.2.2.2.2.2.2.2.1 fun _ _ _ h => h) hno
              have hz : 0 ≤ l2.getD i 0 ∧ l2.getD i 0 < 256 := bounds_u8 (Hwf2.out _ (by
                simp [List.getD, List.getElem?_eq_getElem (show i < l2.length by rw [Hlen2.out]; exact hno)]))
              obtain ⟨z, hz2⟩ : ∃ z : Nat, l2.getD i 0 = z := ⟨(l2.getD i 0).toNat, by omega⟩
              rw [hz2] at q0 hz
              clear hz2
              have hz256 : z < 256 := by omega
              clear hz
              go_wp2_with fail
              go_meet
              case rel =>
                have e1 : ((i : Int) + (z : Int) % ((M : Int) - (i : Int))) = ((i + z % (M - i) : Nat) : Int) := by
                  rw [show (M : Int) - (i : Int) = ((M - i : Nat) : Int) by omega, ← Int.natCast_emod]; omega
                have e2 : z % (M - i) < M - i := Nat.mod_lt _ (by omega)
                rw [e1]
                exact ⟨i + z % (M - i), congrArg _ (show wrap64 _ = _ by unfold wrap64; omega), by omega, by omega, Fr.refl _ _⟩
            · go_wp2_with fail
              go_meet
              case rel => exact ⟨i, rfl, Nat.le_refl _, hlt, Fr.refl _ _⟩
          case rest =>
            obtain ⟨k, rfl, hk1, hk2, hfc⟩ := hcut
            obtain ⟨w4, rfl⟩ : ∃ w4 : World, w4 = wc := ⟨_, rfl⟩
            have hgb4 := hgb.fr hfc fun h => h
            have Hl : Hid (m'.length = M) := Hm'
            go_upto_region 26 with (fail)
            go_cut [] from 116 to 129 (fun wx => Blk wx g ((((cur.setIfInBounds (i * 2) (.int .i64 ((rn m' k).a : Nat))).setIfInBounds (i * 2 + 1) (.int .i64 ((rn m' k).n : Nat))).setIfInBounds (k * 2) (.int .i64 ((rn m' i).a : Nat))).setIfInBounds (k * 2 + 1) (.int .i64 ((rn m' i).n : Nat))) 30 ∧ Fr (fun k => k = g) w4 wx)
            case first =>
              obtain ⟨p0, p1⟩ := dbl_get (l := m') (i := i) (by rw [Hl.out]; exact hlt)
              obtain ⟨p2, p3⟩ := dbl_get (l := m') (i := k) (by rw [Hl.out]; exact hk2)
              rw [← hct, List.getElem?_take, if_pos (by omega), Array.getElem?_toList, ← hgb4.cell] at p0 p1 p2 p3
              have z0 := hgb4.frozen (i * 2)
              have z1 := hgb4.frozen (i * 2 + 1)
              have z2 := hgb4.frozen (k * 2)
              have z3 := hgb4.frozen (k * 2 + 1)
              have hgl := hgb4.lt
              have hcsz : M * 2 ≤ cur.size := by omega
              by_cases hik : k = i
              · have Hx : Hid (Blk ((((w4.setCell ⟨g, i * 2, none⟩ (.int .i64 ((rn m' i).a : Nat))).setCell ⟨g, i * 2 + 1, none⟩ (.int .i64 ((rn m' i).n : Nat))).setCell ⟨g, i * 2, none⟩ (.int .i64 ((rn m' i).a : Nat))).setCell ⟨g, i * 2 + 1, none⟩ (.int .i64 ((rn m' i).n : Nat))) g _ _ ∧ Fr (fun k => k = g) w4 ((((w4.setCell ⟨g, i * 2, none⟩ (.int .i64 ((rn m' i).a : Nat))).setCell ⟨g, i * 2 + 1, none⟩ (.int .i64 ((rn m' i).n : Nat))).setCell ⟨g, i * 2, none⟩ (.int .i64 ((rn m' i).a : Nat))).setCell ⟨g, i * 2 + 1, none⟩ (.int .i64 ((rn m' i).n : Nat)))) := hid ⟨(((hgb4.set _ _).set _ _).set _ _).set _ _, ((((Fr.refl (fun k => k = g) w4).setCell (a := ⟨g, i * 2, none⟩) (.inl rfl) _).setCell (a := ⟨g, i * 2 + 1, none⟩) (.inl rfl) _).setCell (a := ⟨g, i * 2, none⟩) (.inl rfl) _).setCell (a := ⟨g, i * 2 + 1, none⟩) (.inl rfl) _⟩
                subst hik
                go_wp2_with fail
                go_region
                go_wp2
                go_meet
                case rel => exact ⟨Hx.out.1.drew, Hx.out.2.drew⟩
              · have Hx : Hid (Blk ((((w4.setCell ⟨g, i * 2, none⟩ (.int .i64 ((rn m' k).a : Nat))).setCell ⟨g, i * 2 + 1, none⟩ (.int .i64 ((rn m' k).n : Nat))).setCell ⟨g, k * 2, none⟩ (.int .i64 ((rn m' i).a : Nat))).setCell ⟨g, k * 2 + 1, none⟩ (.int .i64 ((rn m' i).n : Nat))) g _ _ ∧ Fr (fun k => k = g) w4 ((((w4.setCell ⟨g, i * 2, none⟩ (.int .i64 ((rn m' k).a : Nat))).setCell ⟨g, i * 2 + 1, none⟩ (.int .i64 ((rn m' k).n : Nat))).setCell ⟨g, k * 2, none⟩ (.int .i64 ((rn m' i).a : Nat))).setCell ⟨g, k * 2 + 1, none⟩ (.int .i64 ((rn m' i).n : Nat)))) := hid ⟨(((hgb4.set _ _).set _ _).set _ _).set _ _, ((((Fr.refl (fun k => k = g) w4).setCell (a := ⟨g, i * 2, none⟩) (.inl rfl) _).setCell (a := ⟨g, i * 2 + 1, none⟩) (.inl rfl) _).setCell (a := ⟨g, k * 2, none⟩) (.inl rfl) _).setCell (a := ⟨g, k * 2 + 1, none⟩) (.inl rfl) _⟩
                have n0 : i * 2 ≠ k * 2 := by omega
                have n1 : k * 2 ≠ i * 2 := by omega
                have n2 : i * 2 + 1 ≠ k * 2 + 1 := by omega
                have n3 : k * 2 + 1 ≠ i * 2 + 1 := by omega
                have n4 : i * 2 ≠ k * 2 + 1 := by omega
                have n5 : k * 2 ≠ i * 2 + 1 := by omega
                go_wp2_with fail
                go_region
                go_wp2
                go_meet
                case rel => exact ⟨Hx.out.1.drew, Hx.out.2.drew⟩
            case rest =>
              obtain ⟨hgb5, hf5⟩ := hcut
              obtain ⟨w5, rfl⟩ : ∃ w5 : World, w5 = wc := ⟨_, rfl⟩
              obtain ⟨-, aC, aR, aH, aCp, aT, aS, aF, aZ⟩ := hA.out
              have hL := laid_swp Hl.out hlt hk2 hct
              obtain ⟨q0, q1⟩ := dbl_get (l := swp m' i k) (i := i) (by rw [swp_length, Hl.out]; exact hlt)
              rw [← hL, List.getElem?_take, if_pos (by omega), Array.getElem?_toList, ← hgb5.cell] at q0 q1
              have hRow5 : Row w5 S 30 2 (.slice (some ⟨g, 0, none⟩) M cb) M (dbl (swp m' i k)) := Row.of_blk hSg hgb5 hcn hcm (by simpa using hcs) hL
              have HC2 := hid (aC.swap (i := i) (k := k) (by rw [Hl.out]; exact hlt) (by rw [Hl.out]; exact hk2))
              have hm2 : Hid ((swp m' i k).length = M) := hid (by rw [swp_length]; exact Hl.out)
              have hh2 : ∀ x, has L x = (decide (t ≤ x ∧ x < 200) || (List.range i).any fun j => isin (rn (swp m' i k) j) x) := fun x => by
                rw [aH x, swp_any (by rw [Hl.out]; exact hlt) (by rw [Hl.out]; exact hk2) hk1]
              have f45 : Fr (fun k => k = g) wr w5 := (hfc.nil).then hf5
              have HWo := hid (Nat.le_trans aZ f45.size)
              have HR5 := hid (aR.fr f45 (fun k hk h => (aT k hk).2.1 (h ▸ hSg)))
              have HC5 := hid (aCp.fr f45 (fun k hk h => (aS k (h ▸ hSg)) hk))
              have HF5 := hid (aF.trans f45 (fun k h => .inr (h ▸ (HS.out g hSg).1)))
              have HT5 := hid aT
              have HS5 := hid aS
              have HRow5 := hid hRow5
              clear hRow5 aC aR aH aCp aT aS aF aZ hL hgb5 hf5 hfc hA hgb hct f45
              generalize swp m' i k = m2 at *
              obtain ⟨g1, g2, g3⟩ := grow_give HC2.out ht (by rw [hm2.out]; exact hlt) HR5.out.wf hh2
              have b1 := (HC2.out.b i (by rw [hm2.out]; exact hlt)).1
              have G1 := hid g1
              have G2 := hid g2
              have G3 := hid g3
              clear g1 g2 g3 hh2
              go_upto_region 27 with (fail)
              have hS : (fun w' => w'.cell? ⟨g, i * 2, none⟩ = some (.int .i64 ((rn m2 i).a : Nat)) ∧ w'.cell? ⟨g, i * 2 + 1, none⟩ = some (.int .i64 ((rn m2 i).n : Nat))) w5.drew := ⟨q0, q1⟩
              have ed : Fr Nil w5 w5.drew := (Fr.refl _ _).drew
              have HR5d := hid (HR5.out.nil ed)
              have HC5d := hid (HC5.out.nil ed)
              have HRow5d := hid (HRow5.out.fr ed fun _ _ h => h)
              have HF5d := hid (HF5.out.then ed)
              clear q0 q1 ed HR5 HC5 HRow5 HF5
              refine wpU_region (k := 26) (S := fun w' => w'.cell? ⟨g, i * 2, none⟩ = some (.int .i64 ((rn m2 i).a : Nat)) ∧ w'.cell? ⟨g, i * 2 + 1, none⟩ = some (.int .i64 ((rn m2 i).n : Nat))) (by kernel_rfl) ?_
              refine wpU_take (i := 0) (v := ?_) rfl (by kernel_rfl) (by kernel_rfl) (fun _ _ _ h => h) _ _ _ _ (by kernel_rfl) (by kernel_rfl) (by kernel_rfl) (Or.inl ⟨by kernel_rfl, ?_⟩) hS ?_
              rotate_left
              · (intro w9 hS9; obtain ⟨s0, s1⟩ := hS9; go_simp); (try with_reducible rfl)
              try simp only [Act.put, List.getElem_toArray, List.getElem_cons_succ, List.getElem_cons_zero, List.setIfInBounds_toArray, List.set_cons_zero, List.set_cons_succ]
              refine wpU_take (i := 1) (v := ?_) rfl (by kernel_rfl) (by kernel_rfl) (fun _ _ _ h => h) _ _ _ _ (by kernel_rfl) (by kernel_rfl) (by kernel_rfl) (Or.inl ⟨by kernel_rfl, ?_⟩) hS ?_
              rotate_left
              · (intro w9 hS9; obtain ⟨s0, s1⟩ := hS9; go_simp); (try with_reducible rfl)
              try simp only [Act.put, List.getElem_toArray, List.getElem_cons_succ, List.getElem_cons_zero, List.setIfInBounds_toArray, List.set_cons_zero, List.set_cons_succ]
              refine wpU_take (i := 2) (v := ?_) rfl (by kernel_rfl) (by kernel_rfl) (fun _ _ _ h => h) _ _ _ _ (by kernel_rfl) (by kernel_rfl) (by kernel_rfl) (Or.inl ⟨by kernel_rfl, ?_⟩) hS ?_
              rotate_left
              · (intro w9 hS9; obtain ⟨s0, s1⟩ := hS9; go_simp); (try with_reducible rfl)
              try simp only [Act.put, List.getElem_toArray, List.getElem_cons_succ, List.getElem_cons_zero, List.setIfInBounds_toArray, List.set_cons_zero, List.set_cons_succ]
              refine wpU_take (i := 3) (v := ?_) rfl (by kernel_rfl) (by kernel_rfl) (fun _ _ _ h => h) _ _ _ _ (by kernel_rfl) (by kernel_rfl) (by kernel_rfl) (Or.inl ⟨by kernel_rfl, ?_⟩) hS ?_
              rotate_left
              · (intro w9 hS9; obtain ⟨s0, s1⟩ := hS9; go_simp); (try with_reducible rfl)
              try simp only [Act.put, List.getElem_toArray, List.getElem_cons_succ, List.getElem_cons_zero, List.setIfInBounds_toArray, List.set_cons_zero, List.set_cons_succ]
              refine wpU_take (i := 4) (v := ?_) rfl (by kernel_rfl) (by kernel_rfl) (fun _ _ _ h => h) _ _ _ _ (by kernel_rfl) (by kernel_rfl) (by kernel_rfl) (Or.inl ⟨by kernel_rfl, ?_⟩) hS ?_
              rotate_left
              · (intro w9 hS9; obtain ⟨s0, s1⟩ := hS9; go_simp); (try with_reducible rfl)
              try simp only [Act.put, List.getElem_toArray, List.getElem_cons_succ, List.getElem_cons_zero, List.setIfInBounds_toArray, List.set_cons_zero, List.set_cons_succ]
              refine wpU_take (i := 5) (v := ?_) rfl (by kernel_rfl) (by kernel_rfl) (fun _ _ _ h => h) _ _ _ _ (by kernel_rfl) (by kernel_rfl) (by kernel_rfl) (Or.inl ⟨by kernel_rfl, ?_⟩) hS ?_
              rotate_left
              · (intro w9 hS9; obtain ⟨s0, s1⟩ := hS9; go_simp); (try with_reducible rfl)
              try simp only [Act.put, List.getElem_toArray, List.getElem_cons_succ, List.getElem_cons_zero, List.setIfInBounds_toArray, List.set_cons_zero, List.set_cons_succ]
              refine wpU_take (i := 6) (v := ?_) rfl (by kernel_rfl) (by kernel_rfl) (fun _ _ _ h => h) _ _ _ _ (by kernel_rfl) (by kernel_rfl) (by kernel_rfl) (Or.inl ⟨by kernel_rfl, ?_⟩) hS ?_
              rotate_left
              · (intro w9 hS9; obtain ⟨s0, s1⟩ := hS9; go_simp); (try with_reducible rfl)
              try simp only [Act.put, List.getElem_toArray, List.getElem_cons_succ, List.getElem_cons_zero, List.setIfInBounds_toArray, List.set_cons_zero, List.set_cons_succ]
              refine wpU_take (i := 7) (v := ?_) rfl (by kernel_rfl) (by kernel_rfl) (fun _ _ _ h => h) _ _ _ _ (by kernel_rfl) (by kernel_rfl) (by kernel_rfl) (Or.inl ⟨by kernel_rfl, ?_⟩) hS ?_
              rotate_left
              · (intro w9 hS9; obtain ⟨s0, s1⟩ := hS9; go_simp); (try with_reducible rfl)
              try simp only [Act.put, List.getElem_toArray, List.getElem_cons_succ, List.getElem_cons_zero, List.setIfInBounds_toArray, List.set_cons_zero, List.set_cons_succ]
              refine wpU_take (i := 8) (v := ?_) rfl (by kernel_rfl) (by kernel_rfl) (fun _ _ _ h => h) _ _ _ _ (by kernel_rfl) (by kernel_rfl) (by kernel_rfl) (Or.inl ⟨by kernel_rfl, ?_⟩) hS ?_
              rotate_left
              · (intro w9 hS9; obtain ⟨s0, s1⟩ := hS9; go_simp); (try with_reducible rfl)
              try simp only [Act.put, List.getElem_toArray, List.getElem_cons_succ, List.getElem_cons_zero, List.setIfInBounds_toArray, List.set_cons_zero, List.set_cons_succ]
              refine wpU_take (i := 9) (v := ?_) rfl (by kernel_rfl) (by kernel_rfl) (fun _ _ _ h => h) _ _ _ _ (by kernel_rfl) (by kernel_rfl) (by kernel_rfl) (Or.inl ⟨by kernel_rfl, ?_⟩) hS ?_
              rotate_left
              · (intro w9 hS9; obtain ⟨s0, s1⟩ := hS9; go_simp); (try with_reducible rfl)
              try simp only [Act.put, List.getElem_toArray, List.getElem_cons_succ, List.getElem_cons_zero, List.setIfInBounds_toArray, List.set_cons_zero, List.set_cons_succ]
              refine wpU_take (i := 10) (v := ?_) rfl (by kernel_rfl) (by kernel_rfl) (fun _ _ _ h => h) _ _ _ _ (by kernel_rfl) (by kernel_rfl) (by kernel_rfl) (Or.inl ⟨by kernel_rfl, ?_⟩) hS ?_
              rotate_left
              · (intro w9 hS9; obtain ⟨s0, s1⟩ := hS9; go_simp); (try with_reducible rfl)
              try simp only [Act.put, List.getElem_toArray, List.getElem_cons_succ, List.getElem_cons_zero, List.setIfInBounds_toArray, List.set_cons_zero, List.set_cons_succ]
              refine wpU_next (i := 11) rfl (by kernel_rfl) (fun K hK => ?_)
              go_simp
              refine (give_t HR5d.out _ _).mono ?_
              rw [G1.out]
              rintro e w6 ⟨rfl, ⟨T6, h6, h6T⟩, f6⟩
              have hS6 : (fun w' => w'.cell? ⟨g, i * 2, none⟩ = some (.int .i64 ((rn m2 i).a : Nat)) ∧ w'.cell? ⟨g, i * 2 + 1, none⟩ = some (.int .i64 ((rn m2 i).n : Nat))) w6 := ⟨f6.cell hS.1 fun h => (HT5.out _ h).2.1 hSg, f6.cell hS.2 fun h => (HT5.out _ h).2.1 hSg⟩
              have H6 := hid h6
              have H6T := hid h6T
              have F6 := hid f6
              clear h6 h6T f6
              refine hK.out _ _ (fun _ => hS6) ?_
              clear hK K
              try simp only [Act.put, List.getElem_toArray, List.getElem_cons_succ, List.getElem_cons_zero, List.setIfInBounds_toArray, List.set_cons_zero, List.set_cons_succ]
              refine wpU_next (i := 12) rfl (by kernel_rfl) (fun K hK => ?_)
              go_simp
              refine hK.out _ _ (fun _ => hS6) ?_
              clear hK K
              try simp only [Act.put, List.getElem_toArray, List.getElem_cons_succ, List.getElem_cons_zero, List.setIfInBounds_toArray, List.set_cons_zero, List.set_cons_succ]
              refine wpU_next (i := 13) rfl (by kernel_rfl) (fun K hK => ?_)
              go_simp
              refine hK.out _ _ (fun _ => hS6) ?_
              clear hK K
              try simp only [Act.put, List.getElem_toArray, List.getElem_cons_succ, List.getElem_cons_zero, List.setIfInBounds_toArray, List.set_cons_zero, List.set_cons_succ]
              refine wpU_take (i := 14) (v := ?_) rfl (by kernel_rfl) (by kernel_rfl) (fun _ _ _ h => h) _ _ _ _ (by kernel_rfl) (by kernel_rfl) (by kernel_rfl) (Or.inl ⟨by kernel_rfl, ?_⟩) hS6 ?_
              rotate_left
              · (intro w9 hS9; obtain ⟨s0, s1⟩ := hS9; go_simp); (try with_reducible rfl)
              try simp only [Act.put, List.getElem_toArray, List.getElem_cons_succ, List.getElem_cons_zero, List.setIfInBounds_toArray, List.set_cons_zero, List.set_cons_succ]
              refine wpU_take (i := 15) (v := ?_) rfl (by kernel_rfl) (by kernel_rfl) (fun _ _ _ h => h) _ _ _ _ (by kernel_rfl) (by kernel_rfl) (by kernel_rfl) (Or.inl ⟨by kernel_rfl, ?_⟩) hS6 ?_
              rotate_left
              · (intro w9 hS9; obtain ⟨s0, s1⟩ := hS9; go_simp); (try with_reducible rfl)
              try simp only [Act.put, List.getElem_toArray, List.getElem_cons_succ, List.getElem_cons_zero, List.setIfInBounds_toArray, List.set_cons_zero, List.set_cons_succ]
              refine wpU_take (i := 16) (v := ?_) rfl (by kernel_rfl) (by kernel_rfl) (fun _ _ _ h => h) _ _ _ _ (by kernel_rfl) (by kernel_rfl) (by kernel_rfl) (Or.inl ⟨by kernel_rfl, ?_⟩) hS6 ?_
              rotate_left
              · (intro w9 hS9; obtain ⟨s0, s1⟩ := hS9; go_simp); (try with_reducible rfl)
              try simp only [Act.put, List.getElem_toArray, List.getElem_cons_succ, List.getElem_cons_zero, List.setIfInBounds_toArray, List.set_cons_zero, List.set_cons_succ]
              refine wpU_take (i := 17) (v := ?_) rfl (by kernel_rfl) (by kernel_rfl) (fun _ _ _ h => h) _ _ _ _ (by kernel_rfl) (by kernel_rfl) (by kernel_rfl) (Or.inl ⟨by kernel_rfl, ?_⟩) hS6 ?_
              rotate_left
              · (intro w9 hS9; obtain ⟨s0, s1⟩ := hS9; go_simp); (try with_reducible rfl)
              try simp only [Act.put, List.getElem_toArray, List.getElem_cons_succ, List.getElem_cons_zero, List.setIfInBounds_toArray, List.set_cons_zero, List.set_cons_succ]
              refine wpU_take (i := 18) (v := ?_) rfl (by kernel_rfl) (by kernel_rfl) (fun _ _ _ h => h) _ _ _ _ (by kernel_rfl) (by kernel_rfl) (by kernel_rfl) (Or.inl ⟨by kernel_rfl, ?_⟩) hS6 ?_
              rotate_left
              · (intro w9 hS9; obtain ⟨s0, s1⟩ := hS9; go_simp); (try with_reducible rfl)
              try simp only [Act.put, List.getElem_toArray, List.getElem_cons_succ, List.getElem_cons_zero, List.setIfInBounds_toArray, List.set_cons_zero, List.set_cons_succ]
              refine wpU_take (i := 19) (v := ?_) rfl (by kernel_rfl) (by kernel_rfl) (fun _ _ _ h => h) _ _ _ _ (by kernel_rfl) (by kernel_rfl) (by kernel_rfl) (Or.inl ⟨by kernel_rfl, ?_⟩) hS6 ?_
              rotate_left
              · (intro w9 hS9; obtain ⟨s0, s1⟩ := hS9; go_simp); (try with_reducible rfl)
              try simp only [Act.put, List.getElem_toArray, List.getElem_cons_succ, List.getElem_cons_zero, List.setIfInBounds_toArray, List.set_cons_zero, List.set_cons_succ]
              refine wpU_take (i := 20) (v := ?_) rfl (by kernel_rfl) (by kernel_rfl) (fun _ _ _ h => h) _ _ _ _ (by kernel_rfl) (by kernel_rfl) (by kernel_rfl) (Or.inl ⟨by kernel_rfl, ?_⟩) hS6 ?_
              rotate_left
              · (intro w9 hS9; obtain ⟨s0, s1⟩ := hS9; go_simp); (try with_reducible rfl)
              try simp only [Act.put, List.getElem_toArray, List.getElem_cons_succ, List.getElem_cons_zero, List.setIfInBounds_toArray, List.set_cons_zero, List.set_cons_succ]
              refine wpU_take (i := 21) (v := ?_) rfl (by kernel_rfl) (by kernel_rfl) (fun _ _ _ h => h) _ _ _ _ (by kernel_rfl) (by kernel_rfl) (by kernel_rfl) (Or.inl ⟨by kernel_rfl, ?_⟩) hS6 ?_
              rotate_left
              · (intro w9 hS9; obtain ⟨s0, s1⟩ := hS9; go_simp); (try with_reducible rfl)
              try simp only [Act.put, List.getElem_toArray, List.getElem_cons_succ, List.getElem_cons_zero, List.setIfInBounds_toArray, List.set_cons_zero, List.set_cons_succ]
              refine wpU_take (i := 22) (v := ?_) rfl (by kernel_rfl) (by kernel_rfl) (fun _ _ _ h => h) _ _ _ _ (by kernel_rfl) (by kernel_rfl) (by kernel_rfl) (Or.inl ⟨by kernel_rfl, ?_⟩) hS6 ?_
              rotate_left
              · (intro w9 hS9; obtain ⟨s0, s1⟩ := hS9; go_simp); (try with_reducible rfl)
              try simp only [Act.put, List.getElem_toArray, List.getElem_cons_succ, List.getElem_cons_zero, List.setIfInBounds_toArray, List.set_cons_zero, List.set_cons_succ]
              refine wpU_take (i := 23) (v := ?_) rfl (by kernel_rfl) (by kernel_rfl) (fun _ _ _ h => h) _ _ _ _ (by kernel_rfl) (by kernel_rfl) (by kernel_rfl) (Or.inl ⟨by kernel_rfl, ?_⟩) hS6 ?_
              rotate_left
              · (intro w9 hS9; obtain ⟨s0, s1⟩ := hS9; go_simp); (try with_reducible rfl)
              try simp only [Act.put, List.getElem_toArray, List.getElem_cons_succ, List.getElem_cons_zero, List.setIfInBounds_toArray, List.set_cons_zero, List.set_cons_succ]
              refine wpU_take (i := 24) (v := ?_) rfl (by kernel_rfl) (by kernel_rfl) (fun _ _ _ h => h) _ _ _ _ (by kernel_rfl) (by kernel_rfl) (by kernel_rfl) (Or.inl ⟨by kernel_rfl, ?_⟩) hS6 ?_
              rotate_left
              · (intro w9 hS9; obtain ⟨s0, s1⟩ := hS9; go_simp); (try with_reducible rfl)
              try simp only [Act.put, List.getElem_toArray, List.getElem_cons_succ, List.getElem_cons_zero, List.setIfInBounds_toArray, List.set_cons_zero, List.set_cons_succ]
              refine wpU_next (i := 25) rfl (by kernel_rfl) (fun K hK => ?_)
              go_simp
              refine (give_t H6.out _ _).mono ?_
              rw [G3.out, show giveL 200 (giveL 200 L ((rn m2 i).a : Nat) ((rn m2 i).n : Nat)) ((rn m2 i).a : Nat) ((rn m2 i).n : Nat) = giveL 200 L ((rn m2 i).a : Nat) ((rn m2 i).n : Nat) from if_neg (by rw [G3.out]; decide)]
              rintro e w7 ⟨rfl, ⟨T7, h7, h7T⟩, f7⟩
              have e6 := F6.out.size
              have hTT : ∀ j, T7 j → T' j ∨ w5.drew.heap.size ≤ j := fun j h => (h7T j h).elim (H6T.out j) (fun h => .inr (Nat.le_trans e6 h))
              have f57 : Fr T' w5.drew w7 := F6.out.trans f7 (fun j h => H6T.out j h)
              have hS7 : (fun w' => w'.cell? ⟨g, i * 2, none⟩ = some (.int .i64 ((rn m2 i).a : Nat)) ∧ w'.cell? ⟨g, i * 2 + 1, none⟩ = some (.int .i64 ((rn m2 i).n : Nat))) w7 := ⟨f57.cell hS.1 fun h => (HT5.out _ h).2.1 hSg, f57.cell hS.2 fun h => (HT5.out _ h).2.1 hSg⟩
              have H7 := hid h7
              have HTT := hid hTT
              have F57 := hid f57
              clear h7 h7T f7 hTT f57 e6
              refine hK.out _ _ (fun _ => hS7) ?_
              clear hK K
              try simp only [Act.put, List.getElem_toArray, List.getElem_cons_succ, List.getElem_cons_zero, List.setIfInBounds_toArray, List.set_cons_zero, List.set_cons_succ]
              refine wpU_next (i := 26) rfl (by kernel_rfl) (fun K hK => ?_)
              go_simp
              refine hK.out _ _ (fun h => absurd rfl h.1) ?_
              refine wpU_done (by kernel_rfl) ?_ _
              clear hK K
              go_wp2_with fail
              go_roundw
              case rel =>
                have hs5 := F57.out.size
                have hw5 := HF5d.out.size
                refine ⟨i + 1, m2, _, T7, by go_num, by omega, hm2.out, hid ⟨HRow5d.out.fr F57.out fun j hj h => ?_, HC2.out, H7.out, G2.out, HC5d.out.fr F57.out fun j hj h => (HT5.out j h).2.2 hj, fun j hj => ?_, HS5.out, HF5d.out.trans F57.out fun j hj => .inr (HT5.out j hj).1, Nat.le_trans HWo.out (Nat.le_trans (Nat.le_of_eq rfl) hs5)⟩⟩
                · exact (HT5.out j h).2.1 (HRow5d.out.2 j hj)
                · rcases HTT.out j hj with h | h
                  · exact HT5.out j h
                  · exact ⟨Nat.le_trans hw5 h, fun h2 => by have := (HS.out j h2).2.1; have h9 : wo.heap.size ≤ w5.drew.heap.size := HWo.out; omega, fun h2 => by have := HC5d.out.lt j h2; omega⟩
              case measure => simp [intOf]; omega
        · obtain ⟨aRow, aC, aR, aH, aCp, aT, aS, aF, -⟩ := hA.out
          have hiM : i = M := by omega
          subst hiM
          have hl1 := grow_end aC ht aR.wf (by rw [Hm'.out]; exact aH)
          subst hl1
          have HR5 := hid aR
          have HC5 := hid aCp
          have HF5 := hid aF
          clear aRow aC aR aH aCp aT aS aF hA
          go_wp2_with fail
          refine (list_t HR5.out).mono ?_
          rintro e w6 ⟨A6, c6, rfl, r6, f6⟩
          obtain ⟨b6, o6, rfl, -, hb6, q0, q1⟩ := rn_at r6.view (show 0 < 1 by decide)
          have k0 : w6.cell? ⟨b6, o6, none⟩ = some (.int .i64 0) := q0
          have k1 : w6.cell? ⟨b6, o6 + 1, none⟩ = some (.int .i64 200) := q1
          have HF6 := hid (HF5.out.then f6)
          have HC6 := hid (HC5.out.nil f6)
          clear q0 q1 r6 f6
          go_wp2_with fail
          refine (free_t HC6.out).mono ?_
          rw [← HWas.out]
          rintro e w7 ⟨rfl, f7⟩
          have HF7 := hid (HF6.out.then f7)
          clear f7
          go_wp2
          go_ret
          exact ⟨rfl, HF7.out⟩
end Go.Proofs.Ytbfhoadhihlhjaa

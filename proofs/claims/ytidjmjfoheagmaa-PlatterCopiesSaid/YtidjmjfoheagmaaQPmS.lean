/- The reference's Platter: Sync, Crash, Fail. -/
import Derived.Test.YtidjmjfoheagmaaQPmW
import Derived.BigRegion
set_option linter.unusedSimpArgs false
set_option linter.unusedVariables false
namespace Go.Proofs.Ytidjmjfoheagmaa
open Go.RowKit
theorem setB_cut {ca : List (Nat × List Nat)} {kept : Nat → Bool} {bl : List (List Nat)} {N m : Nat} (h : ∀ k, m ≤ k → kept k = false) : setB ca kept bl N = setB ca kept bl (min N m) := by
  induction N with
  | zero => simp
  | succ N ih =>
    by_cases hm : N < m
    · rw [Nat.min_eq_left (by omega)]
    · rw [setB_succ, ih, show min (N + 1) m = min N m by omega]
      unfold stepB
      rw [h N (by omega)]
      split <;> rfl
set_option maxRecDepth 20000 in
theorem m_sync (T : Nat → Prop) (mb : Nat) (p : Pl) (b : Bool) (hb : b = true ↔ p.bad 3) (hok : p.ok) (w : World) (h : IsM w T mb p) :
    Calls Try.prog 38 #[.pointer (some ⟨mb, 0, none⟩)] w fun e w' => e = .returned (.int .i64 (if b then 6 else 0)) ∧ IsM w' T mb (synced b p) ∧ Fr T w w' := by
  have hca := hok.2.2.2.1
  have HCo := hid hok.2.2.2.2
  have HTm := hid h.1
  have Hf := hid (m_fault3 T mb p b hb ⟨(hok.1 3).1, (hok.1 3).2, hok.2.1⟩ w h)
  obtain ⟨kept, hkept⟩ : ∃ kept : Nat → Bool, kept = fun _ => true := ⟨_, rfl⟩
  have Hkept := hid hkept
  clear hb hok h hkept
  go_enter Try.func38, Try.ntmps38
  go_wp2_with fail
  refine Hf.out.mono ?_
  rintro e w1 ⟨rfl, h, f1⟩
  have F1 := hid (f1.mono (S' := T) fun k hk => by rw [hk]; exact HTm.out)
  clear f1 Hf
  cases b with
  | true =>
    have HM := hid h
    clear h
    go_wp2
    go_ret
    exact ⟨rfl, HM.out, F1.out⟩
  | false =>
    obtain ⟨g0, vb, vc, vf, g1, ⟨bs0, g2, g2'⟩, ⟨cv, g3, g3'⟩, g4⟩ := h
    obtain ⟨Ab, cb, rfl⟩ := g2.slice
    obtain ⟨Ac, cc, rfl⟩ := g3.slice
    have Hne1 := hid (show (Value.slice Ab p.bl.length cb).ownBlock ≠ some mb from g2.apart_blk g1 (by decide))
    have Hne2 := hid (show ∀ k, (Value.slice Ab p.bl.length cb).ownBlock = some k → (Value.slice Ac p.ca.length cc).ownBlock ≠ some k from g2.apart g3 (by decide))
    have HG1 := hid (show Blk w1 mb (pcs (.slice Ab p.bl.length cb) (.slice Ac p.ca.length cc) vf (p.ask 3).co (p.ask 3).si) 64 from g1)
    have HG2 := hid (show Row w1 T 22 1 (.slice Ab p.bl.length cb) p.bl.length bs0 from g2)
    have HG2' := hid (show ∀ (i : Nat) x, p.bl[i]? = some x → ∃ v, bs0[i]? = some v ∧ Dat w1 T v x from g2')
    have HG3 := hid (show Row w1 T 88 2 (.slice Ac p.ca.length cc) p.ca.length (flatW cv) from g3)
    have HG3' := hid (show ∀ (i n : Nat) x, p.ca[i]? = some (n, x) → ∃ v, cv[i]? = some (n, v) ∧ Dat w1 T v x from g3')
    have HG4 := hid (show FauM w1 T vf p.fa from g4)
    have HY := hid (show ∀ k, True → k < w1.heap.size → (Value.slice Ab p.bl.length cb).ownBlock = some k → Typ w1 k 22 from fun k _ _ hk => g2.own_typ hk)
    have HT0 := hid g0
    clear g0 g1 g2 g2' g3 g3' g4
    go_wp2_with fail
    go_loopw [3] (fun v3 wr => ∃ (i : Nat) (bs : List Value), v3 = .int .i64 i ∧ i ≤ p.ca.length ∧ Fr (fun k => (Value.slice Ab p.bl.length cb).ownBlock = some k) w1 wr ∧ Row wr T 22 1 (.slice Ab p.bl.length cb) p.bl.length bs ∧ Hid (∀ (j : Nat) x, (setB p.ca kept p.bl i)[j]? = some x → ∃ v, bs[j]? = some v ∧ Dat w1 T v x)) (fun v3 _ => p.ca.length - (intOf v3).toNat)
    case atStart => exact ⟨0, bs0, rfl, by omega, Fr.refl _ _, HG2.out, HG2'⟩
    case round =>
      obtain ⟨i, bs, rfl, hi, hfw, hR, HD⟩ := hrel
      have g1r := HG1.out.fr hfw Hne1.out
      have c0 : wr.cell? ⟨mb, 0, none⟩ = some (.slice Ab p.bl.length cb) := g1r.cell 0
      have c1 : wr.cell? ⟨mb, 1, none⟩ = some (.slice Ac p.ca.length cc) := g1r.cell 1
      have z1 : wr.frozen? ⟨mb, 1, none⟩ = false := g1r.frozen 1
      have HG1r := hid g1r
      clear g1r
      by_cases hlt : i < p.ca.length
      · skip
        have hil : i < p.ca.length := hlt
        obtain ⟨gc, v, hAc, hTc, q0, q1, hd⟩ := cac_at (HG3.out.fr hfw fun k hk h => Hne2.out k h hk) (fun j n x hx => let ⟨v, hv, hd⟩ := HG3'.out j n x hx; ⟨v, hv, hd.fr hfw HY.out (by decide)⟩) hil
        subst hAc
        obtain ⟨Av, kv, rfl⟩ := hd.slice
        have hnb : (p.ca[i]'hil).1 < p.bl.length := HCo.out _ (List.getElem_mem hil)
        obtain ⟨gb, capb, hgb, hTb, hltb⟩ := hR.form (by omega)
        injection hgb with hgb1 _ hgb2
        subst hgb1; subst hgb2
        have Hpi := hid (show p.ca[i]? = some (p.ca[i]'hil) from List.getElem?_eq_getElem hil)
        obtain ⟨m, hm⟩ : ∃ m, m = (p.ca[i]'hil).1 := ⟨_, rfl⟩
        obtain ⟨x, hx⟩ : ∃ x, x = (p.ca[i]'hil).2 := ⟨_, rfl⟩
        rw [← hm] at q0 hnb
        rw [← hx] at hd
        have Hmx := hid (show p.ca[i]'hil = (m, x) from by rw [hm, hx])
        have hbl : bs.length = p.bl.length := by have := hR.length; rwa [Nat.mul_one] at this
        obtain ⟨u, hbn⟩ : ∃ u, bs[m]? = some u := ⟨_, List.getElem?_eq_getElem (by omega)⟩
        have e3 : wr.cell? ⟨gb, m, none⟩ = some u := hR.cell hbn
        have e4 : wr.frozen? ⟨gb, m, none⟩ = false := hR.frozen m
        have Hdat := hid (show Dat w1 T (.slice Av 64 kv) x from by
          obtain ⟨v', hv', hd'⟩ := HG3'.out i m x (by rw [Hpi.out, Hmx.out])
          have hcell := (HG3.out.fr hfw fun k hk h => Hne2.out k h hk)
          obtain ⟨f1, f2⟩ := flatW_at cv i m v' hv'
          have h9 := hcell.cell f2
          rw [show 2 * i + 1 = i * 2 + 1 by omega, q1] at h9
          injection h9 with h9
          rw [h9]; exact hd')
        have Hstep := hid (show ∀ (j : Nat) y, (setB p.ca kept p.bl (i + 1))[j]? = some y → kept i = true → ∃ v, (bs.set m (.slice Av 64 kv))[j]? = some v ∧ Dat w1 T v y from fun j y hj hk => by
          rw [setB_succ] at hj
          unfold stepB at hj
          rw [Hpi.out, Hmx.out] at hj
          simp only [hk, if_true] at hj
          rw [List.getElem?_set] at hj
          by_cases hjn : m = j
          · subst hjn
            rw [if_pos rfl] at hj
            split at hj
            · injection hj with hj
              subst hj
              exact ⟨_, by rw [List.getElem?_set, if_pos rfl, if_pos (by omega)], Hdat.out⟩
            · cases hj
          · rw [if_neg hjn] at hj
            obtain ⟨u, hu, hd⟩ := HD.out j y hj
            exact ⟨u, by rw [List.getElem?_set, if_neg hjn]; exact hu, hd⟩)
        clear hm hx hd hbn
        go_upto_region 6 with (fail)
        go_region
        go_wp2_with fail
        go_roundw
        case rel => exact ⟨i + 1, bs.set m (.slice Av 64 kv), by go_num, by omega, (hfw.setCell (a := ⟨gb, m, none⟩) (.inl rfl) _).drew, (hR.store m _).drew, hid fun j y hj => Hstep.out j y hj (by rw [Hkept.out])⟩
        case measure => simp [intOf]; omega
      · have Hic := hid (show i = p.ca.length by omega)
        have hfp : Fr (fun k => k = mb) wr (wr.setCell ⟨mb, 1, none⟩ (.slice none 0 0)) := (Fr.refl (fun k => k = mb) wr).setCell (a := ⟨mb, 1, none⟩) (.inl rfl) _
        have Hfin := hid (show IsM (wr.setCell ⟨mb, 1, none⟩ (.slice none 0 0)) T mb (synced false p) ∧ Fr T w (wr.setCell ⟨mb, 1, none⟩ (.slice none 0 0)) from by
          refine ⟨IsM.own (p := synced false p) HT0.out HG1r.out hfp (HG1r.out.set 1 _) ?_ (CacM.nil _ _) (VT.fr HG4.out hfw HY.out (by decide)), F1.out.then ((hfw.mono fun k hk => HG2.out.2 k hk).then (hfp.mono fun k hk => by rw [hk]; exact HT0.out))⟩
          refine ⟨bs, ?_, ?_⟩
          · show Row wr T _ 1 _ (setB p.ca (fun _ => true) p.bl p.ca.length).length bs
            rw [setB_len]; exact hR
          · intro j x hx
            obtain ⟨v, hv, hd⟩ := HD.out j x (by rw [Hkept.out, Hic.out]; exact hx)
            exact ⟨v, hv, Dat.fr hd hfw HY.out (by decide)⟩)
        clear hfp
        go_wp2
        go_ret
        exact ⟨rfl, Hfin.out⟩
set_option maxRecDepth 20000 in
theorem m_crash (T S : Nat → Prop) (mb : Nat) (p : Pl) (m0 : Nat) (keep : List Bool) (v : Value) (hok : p.ok) (hm0 : m0 ≤ 1000000000) (w : World) (h : IsM w T mb p) (hv : View w S 1 v m0 (bools keep)) (hS : ∀ k, S k → ¬ T k) :
    Calls Try.prog 39 #[.pointer (some ⟨mb, 0, none⟩), v] w fun e w' => e = .returned (.tuple #[]) ∧ IsM w' T mb (p.crash keep) ∧ Fr T w w' := by
  obtain ⟨A0, c0', rfl⟩ : ∃ A c, v = .slice A m0 c := let ⟨_, A, c, e, _⟩ := hv; ⟨A, c, e⟩
  have hca := hok.2.2.2.1
  have HCo := hid hok.2.2.2.2
  have HS := hid hS
  have HK := hid hv
  have hkl : keep.length = m0 := by have := hv.length; simpa [bools] using this
  have HKl := hid hkl
  obtain ⟨kept, hkept⟩ : ∃ kept : Nat → Bool, kept = keptOf keep := ⟨_, rfl⟩
  have Hkept := hid hkept
  obtain ⟨w1, rfl⟩ : ∃ w1 : World, w1 = w := ⟨_, rfl⟩
  clear hok hkept hv hS hkl
  obtain ⟨g0, vb, vc, vf, g1, ⟨bs0, g2, g2'⟩, ⟨cv, g3, g3'⟩, g4⟩ := h
  obtain ⟨Ab, cb, rfl⟩ := g2.slice
  obtain ⟨Ac, cc, rfl⟩ := g3.slice
  have Hne1 := hid (show (Value.slice Ab p.bl.length cb).ownBlock ≠ some mb from g2.apart_blk g1 (by decide))
  have Hne2 := hid (show ∀ k, (Value.slice Ab p.bl.length cb).ownBlock = some k → (Value.slice Ac p.ca.length cc).ownBlock ≠ some k from g2.apart g3 (by decide))
  have HG1 := hid (show Blk w1 mb (pcs (.slice Ab p.bl.length cb) (.slice Ac p.ca.length cc) vf p.co p.si) 64 from g1)
  have HG2 := hid (show Row w1 T 22 1 (.slice Ab p.bl.length cb) p.bl.length bs0 from g2)
  have HG2' := hid (show ∀ (i : Nat) x, p.bl[i]? = some x → ∃ v, bs0[i]? = some v ∧ Dat w1 T v x from g2')
  have HG3 := hid (show Row w1 T 88 2 (.slice Ac p.ca.length cc) p.ca.length (flatW cv) from g3)
  have HG3' := hid (show ∀ (i n : Nat) x, p.ca[i]? = some (n, x) → ∃ v, cv[i]? = some (n, v) ∧ Dat w1 T v x from g3')
  have HG4 := hid (show FauM w1 T vf p.fa from g4)
  have HY := hid (show ∀ k, True → k < w1.heap.size → (Value.slice Ab p.bl.length cb).ownBlock = some k → Typ w1 k 22 from fun k _ _ hk => g2.own_typ hk)
  have HT0 := hid g0
  clear g0 g1 g2 g2' g3 g3' g4
  go_enter Try.func39, Try.ntmps39
  go_wp2_with fail
  go_loopw [4] (fun v4 wr => ∃ (i : Nat) (bs : List Value), v4 = .int .i64 i ∧ i ≤ p.ca.length ∧ i ≤ m0 ∧ Fr (fun k => (Value.slice Ab p.bl.length cb).ownBlock = some k) w1 wr ∧ Row wr T 22 1 (.slice Ab p.bl.length cb) p.bl.length bs ∧ Hid (∀ (j : Nat) x, (setB p.ca kept p.bl i)[j]? = some x → ∃ v, bs[j]? = some v ∧ Dat w1 T v x)) (fun v4 _ => p.ca.length - (intOf v4).toNat)
  case atStart => exact ⟨0, bs0, rfl, by omega, by omega, Fr.refl _ _, HG2.out, HG2'⟩
  case round =>
    obtain ⟨i, bs, rfl, hi, him, hfw, hR, HD⟩ := hrel
    have g1r := HG1.out.fr hfw Hne1.out
    have c0 : wr.cell? ⟨mb, 0, none⟩ = some (.slice Ab p.bl.length cb) := g1r.cell 0
    have c1 : wr.cell? ⟨mb, 1, none⟩ = some (.slice Ac p.ca.length cc) := g1r.cell 1
    have z1 : wr.frozen? ⟨mb, 1, none⟩ = false := g1r.frozen 1
    have c2 : wr.cell? ⟨mb, 2, none⟩ = some vf := g1r.cell 2
    have z2 : wr.frozen? ⟨mb, 2, none⟩ = false := g1r.frozen 2
    have HG1r := hid g1r
    clear g1r
    by_cases hlt : i < p.ca.length
    · by_cases hltm : i < m0
      · skip
        have hil : i < p.ca.length := hlt
        obtain ⟨gc, v, hAc, hTc, q0, q1, hd⟩ := cac_at (HG3.out.fr hfw fun k hk h => Hne2.out k h hk) (fun j n x hx => let ⟨v, hv, hd⟩ := HG3'.out j n x hx; ⟨v, hv, hd.fr hfw HY.out (by decide)⟩) hil
        subst hAc
        obtain ⟨Av, kv, rfl⟩ := hd.slice
        have hnb : (p.ca[i]'hil).1 < p.bl.length := HCo.out _ (List.getElem_mem hil)
        obtain ⟨gb, capb, hgb, hTb, hltb⟩ := hR.form (by omega)
        injection hgb with hgb1 _ hgb2
        subst hgb1; subst hgb2
        have Hpi := hid (show p.ca[i]? = some (p.ca[i]'hil) from List.getElem?_eq_getElem hil)
        obtain ⟨m, hm⟩ : ∃ m, m = (p.ca[i]'hil).1 := ⟨_, rfl⟩
        obtain ⟨x, hx⟩ : ∃ x, x = (p.ca[i]'hil).2 := ⟨_, rfl⟩
        rw [← hm] at q0 hnb
        rw [← hx] at hd
        have Hmx := hid (show p.ca[i]'hil = (m, x) from by rw [hm, hx])
        have hbl : bs.length = p.bl.length := by have := hR.length; rwa [Nat.mul_one] at this
        obtain ⟨u, hbn⟩ : ∃ u, bs[m]? = some u := ⟨_, List.getElem?_eq_getElem (by omega)⟩
        have e3 : wr.cell? ⟨gb, m, none⟩ = some u := hR.cell hbn
        have e4 : wr.frozen? ⟨gb, m, none⟩ = false := hR.frozen m
        have Hdat := hid (show Dat w1 T (.slice Av 64 kv) x from by
          obtain ⟨v', hv', hd'⟩ := HG3'.out i m x (by rw [Hpi.out, Hmx.out])
          have hcell := (HG3.out.fr hfw fun k hk h => Hne2.out k h hk)
          obtain ⟨f1, f2⟩ := flatW_at cv i m v' hv'
          have h9 := hcell.cell f2
          rw [show 2 * i + 1 = i * 2 + 1 by omega, q1] at h9
          injection h9 with h9
          rw [h9]; exact hd')
        have Hstep := hid (show ∀ (j : Nat) y, (setB p.ca kept p.bl (i + 1))[j]? = some y → kept i = true → ∃ v, (bs.set m (.slice Av 64 kv))[j]? = some v ∧ Dat w1 T v y from fun j y hj hk => by
          rw [setB_succ] at hj
          unfold stepB at hj
          rw [Hpi.out, Hmx.out] at hj
          simp only [hk, if_true] at hj
          rw [List.getElem?_set] at hj
          by_cases hjn : m = j
          · subst hjn
            rw [if_pos rfl] at hj
            split at hj
            · injection hj with hj
              subst hj
              exact ⟨_, by rw [List.getElem?_set, if_pos rfl, if_pos (by omega)], Hdat.out⟩
            · cases hj
          · rw [if_neg hjn] at hj
            obtain ⟨u, hu, hd⟩ := HD.out j y hj
            exact ⟨u, by rw [List.getElem?_set, if_neg hjn]; exact hu, hd⟩)
        clear hm hx hd hbn
        have hvr := HK.out.fr hfw fun k hk _ h => HS.out k hk (HG2.out.2 k h)
        obtain ⟨_, A9, c9, e9, _, _, _, _, h5⟩ := hvr
        injection e9 with ea9 _ ec9
        subst ea9
        subst ec9
        obtain ⟨b9, o9, rfl, -, -, h5⟩ := h5 (by omega)
        have hil9 : i < keep.length := by rw [HKl.out]; exact hltm
        have hkc : wr.cell? ⟨b9, o9 + i, none⟩ = some (.bool (keep[i]'hil9)) := h5 i _ (by simp [bools, List.getElem?_eq_getElem hil9])
        have HKi := hid (show kept i = (keep[i]'hil9) from by rw [Hkept.out]; unfold keptOf; simp [List.getD, List.getElem?_eq_getElem hil9])
        obtain ⟨kb, hkb⟩ : ∃ kb, kb = (keep[i]'hil9) := ⟨_, rfl⟩
        rw [← hkb] at hkc HKi
        clear hkb h5 hil9
        cases kb with
        | true =>
          go_upto_region 4 with (fail)
          go_region
          go_wp2_with fail
          go_roundw
          case rel => exact ⟨i + 1, bs.set m (.slice Av 64 kv), by go_num, by omega, by omega, (hfw.setCell (a := ⟨gb, m, none⟩) (.inl rfl) _).drew, (hR.store m _).drew, hid fun j y hj => Hstep.out j y hj HKi.out⟩
          case measure => simp [intOf]; omega
        | false =>
          go_wp2_with fail
          go_roundw
          case rel =>
            refine ⟨i + 1, bs, by go_num, by omega, by omega, hfw, hR, hid fun j y hj => ?_⟩
            rw [setB_succ] at hj
            unfold stepB at hj
            rw [Hpi.out, HKi.out] at hj
            exact HD.out j y hj
          case measure => simp [intOf]; omega
      · skip
        have Hic := hid (show i = min p.ca.length m0 by omega)
        have hfp : Fr (fun k => k = mb) wr ((wr.setCell ⟨mb, 1, none⟩ (.slice none 0 0)).setCell ⟨mb, 2, none⟩ (.slice none 0 0)) := ((Fr.refl (fun k => k = mb) wr).setCell (a := ⟨mb, 1, none⟩) (.inl rfl) _).setCell (a := ⟨mb, 2, none⟩) (.inl rfl) _
        have Hfin := hid (show IsM ((wr.setCell ⟨mb, 1, none⟩ (.slice none 0 0)).setCell ⟨mb, 2, none⟩ (.slice none 0 0)) T mb (p.crash keep) ∧ Fr T w1 ((wr.setCell ⟨mb, 1, none⟩ (.slice none 0 0)).setCell ⟨mb, 2, none⟩ (.slice none 0 0)) from by
          refine ⟨IsM.own (p := p.crash keep) HT0.out HG1r.out hfp ((HG1r.out.set 1 _).set 2 _) ?_ (CacM.nil _ _) (VT.nil _ _ _ _), (hfw.mono fun k hk => HG2.out.2 k hk).then (hfp.mono fun k hk => by rw [hk]; exact HT0.out)⟩
          refine ⟨bs, ?_, ?_⟩
          · show Row wr T _ 1 _ (setB p.ca (keptOf keep) p.bl p.ca.length).length bs
            rw [setB_len]; exact hR
          · intro j x hx
            obtain ⟨v, hv, hd⟩ := HD.out j x (by
              rw [Hkept.out, Hic.out]
              rw [← setB_cut (ca := p.ca) (kept := keptOf keep) (bl := p.bl) (fun k hk => by unfold keptOf; rw [List.getD_eq_getElem?_getD, List.getElem?_eq_none (by rw [HKl.out]; exact hk)]; rfl)]
              exact hx)
            exact ⟨v, hv, Dat.fr hd hfw HY.out (by decide)⟩)
        clear hfp
        go_wp2
        go_end0
        exact ⟨rfl, Hfin.out⟩
    · skip
      have Hic := hid (show i = min p.ca.length m0 by omega)
      have hfp : Fr (fun k => k = mb) wr ((wr.setCell ⟨mb, 1, none⟩ (.slice none 0 0)).setCell ⟨mb, 2, none⟩ (.slice none 0 0)) := ((Fr.refl (fun k => k = mb) wr).setCell (a := ⟨mb, 1, none⟩) (.inl rfl) _).setCell (a := ⟨mb, 2, none⟩) (.inl rfl) _
      have Hfin := hid (show IsM ((wr.setCell ⟨mb, 1, none⟩ (.slice none 0 0)).setCell ⟨mb, 2, none⟩ (.slice none 0 0)) T mb (p.crash keep) ∧ Fr T w1 ((wr.setCell ⟨mb, 1, none⟩ (.slice none 0 0)).setCell ⟨mb, 2, none⟩ (.slice none 0 0)) from by
        refine ⟨IsM.own (p := p.crash keep) HT0.out HG1r.out hfp ((HG1r.out.set 1 _).set 2 _) ?_ (CacM.nil _ _) (VT.nil _ _ _ _), (hfw.mono fun k hk => HG2.out.2 k hk).then (hfp.mono fun k hk => by rw [hk]; exact HT0.out)⟩
        refine ⟨bs, ?_, ?_⟩
        · show Row wr T _ 1 _ (setB p.ca (keptOf keep) p.bl p.ca.length).length bs
          rw [setB_len]; exact hR
        · intro j x hx
          obtain ⟨v, hv, hd⟩ := HD.out j x (by
            rw [Hkept.out, Hic.out]
            rw [← setB_cut (ca := p.ca) (kept := keptOf keep) (bl := p.bl) (fun k hk => by unfold keptOf; rw [List.getD_eq_getElem?_getD, List.getElem?_eq_none (by rw [HKl.out]; exact hk)]; rfl)]
            exact hx)
          exact ⟨v, hv, Dat.fr hd hfw HY.out (by decide)⟩)
      clear hfp
      go_wp2
      go_end0
      exact ⟨rfl, Hfin.out⟩
theorem info_faultm : (Try.prog.info? 89).map (fun i => (i.zero, i.size, i.bytes)) = some (some (.agg #[.int .i64 0, .int .i64 0]), 2, 16) := by kernel_rfl
theorem m_fail (T S : Nat → Prop) (mb : Nat) (p : Pl) (v : Value) (n : Nat) (fl : List (Int × Int)) (hn : n = fl.length) (hl : n < 1000000) (w : World) (h : IsM w T mb p) (hv : View w S 2 v n (flatF fl)) :
    Calls Try.prog 25 #[.pointer (some ⟨mb, 0, none⟩), v] w fun e w' => e = .returned (.tuple #[]) ∧ IsM w' (Grow w T) mb (p.fail fl) ∧ Fr T w w' := by
  subst hn
  have HV := hid hv
  clear hv
  obtain ⟨g0, vb, vc, vf, g1, g2, g3, g4⟩ := h
  have HT0 := hid g0
  have HG2 := hid g2
  have HG3 := hid g3
  clear g0 g2 g3 g4
  go_enter Try.func25, Try.ntmps25
  go_wp2_with (at_builtin; refine wp_app_view rfl _ _ 53 rfl (.agg #[.int .i64 0, .int .i64 0]) 16 Try.underlying53 info_faultm rfl (by decide) (Row.nil _ (New w) _ _) rfl HV.out rfl (flatF_cell _) (by omega) (by decide) ?_)
  intro A4 c4 w4 r4 f4 r4n
  clear r4n
  have f4n : Fr Nil w w4 := f4.mono fun k hk => absurd hk (by simp [Value.ownBlock])
  have HF4 := hid f4n
  have HR4 := hid (show VT w4 (New w) 89 2 (.slice A4 fl.length c4) fl.length (flatF fl) from by
    have h9 := (r4.mono fun k hk => hk.elim (fun h => by simp [Value.ownBlock] at h) fun h => h : Row w4 (New w) _ _ _ _ _).vt
    simpa using h9)
  have b4 := g1.fr f4n fun h => h
  have Hb4 := hid b4
  have z2 := b4.frozen 2
  have z7 := b4.frozen 7
  have z8 := b4.frozen 8
  have z9 := b4.frozen 9
  have z10 := b4.frozen 10
  have c2 : w4.cell? ⟨mb, 2, none⟩ = some vf := b4.cell 2
  have c7 : w4.cell? ⟨mb, 7, none⟩ = some (.int .i64 (p.si 0 : Int)) := b4.cell 7
  have c8 : w4.cell? ⟨mb, 8, none⟩ = some (.int .i64 (p.si 1 : Int)) := b4.cell 8
  have c9 : w4.cell? ⟨mb, 9, none⟩ = some (.int .i64 (p.si 2 : Int)) := b4.cell 9
  have c10 : w4.cell? ⟨mb, 10, none⟩ = some (.int .i64 (p.si 3 : Int)) := b4.cell 10
  clear r4 f4 b4 g1
  go_wp2
  go_end0
  refine ⟨rfl, ?_⟩
  have hfp : Fr (fun k => k = mb) w4 (((((w4.setCell ⟨mb, 2, none⟩ (.slice A4 fl.length c4)).setCell ⟨mb, 7, none⟩ (.int .i64 0)).setCell ⟨mb, 8, none⟩ (.int .i64 0)).setCell ⟨mb, 9, none⟩ (.int .i64 0)).setCell ⟨mb, 10, none⟩ (.int .i64 0)) := (((((Fr.refl (fun k => k = mb) w4).setCell (a := ⟨mb, 2, none⟩) (.inl rfl) _).setCell (a := ⟨mb, 7, none⟩) (.inl rfl) _).setCell (a := ⟨mb, 8, none⟩) (.inl rfl) _).setCell (a := ⟨mb, 9, none⟩) (.inl rfl) _).setCell (a := ⟨mb, 10, none⟩) (.inl rfl) _
  refine ⟨IsM.own (p := p.fail fl) (.inl HT0.out) Hb4.out hfp (((((Hb4.out.set 2 _).set 7 _).set 8 _).set 9 _).set 10 _) ((HG2.out.fr (S1 := Nil) (X := 4) HF4.out (fun _ _ _ h => h.elim) (by decide) (by decide)).mono fun k hk => .inl hk) ((HG3.out.fr (S1 := Nil) (X := 4) HF4.out (fun _ _ _ h => h.elim) (by decide) (by decide)).mono fun k hk => .inl hk) (VT.mono HR4.out fun k hk => .inr hk), ?_⟩
  exact HF4.out.nil.then (hfp.mono fun k hk => by rw [hk]; exact HT0.out)
end Go.Proofs.Ytidjmjfoheagmaa

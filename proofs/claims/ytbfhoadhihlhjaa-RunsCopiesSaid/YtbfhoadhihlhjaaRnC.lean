/- The law RunsCopies. -/
import Derived.Test.YtbfhoadhihlhjaaRnC1
import Derived.Deep.WholeRow
set_option linter.unusedSimpArgs false
set_option linter.unusedVariables false
namespace Go.Proofs.Ytbfhoadhihlhjaa
open Go.RowKit
set_option maxRecDepth 20000 in
set_option maxHeartbeats 2000000 in
theorem runsCopies_ok (A : Option Addr) (n c : Nat) (zs : List Int) (A2 : Option Addr) (n2 c2 : Nat) (zs2 : List Int) (w : World) (hr : IsRow .u8 w A n c zs) (hr2 : IsRow .u8 w A2 n2 c2 zs2) :
    Calls Try.prog 7 #[.slice A n c, .slice A2 n2 c2] w fun e w' => e = .returned (.bool true) ∧ Fr Nil w w' := by
  obtain ⟨hv, hlen, hwf⟩ := hr.view
  obtain ⟨hv2, hlen2, hwf2⟩ := hr2.view
  have hnle := hv.le
  have hnle2 := hv2.le
  have Hv := hid hv
  have Hlen := hid hlen
  have Hwf := hid hwf
  have Hv2 := hid hv2
  have Hlen2 := hid hlen2
  have Hwf2 := hid hwf2
  clear hv hlen hwf hv2 hlen2 hwf2 hr hr2
  generalize zs.take n = l at *
  generalize zs2.take n2 = l2 at *
  go_enter Try.func7, Try.ntmps7
  go_wp2_with fail
  refine (awake_ok w).mono ?_
  rintro e w0 ⟨rfl, f0⟩
  have F0 := hid f0; clear f0
  by_cases hn : 60 < n
  · go_wp2
    go_ret
    exact ⟨rfl, F0.out⟩
  by_cases hn2 : 60 < n2
  · go_wp2
    go_ret
    exact ⟨rfl, F0.out⟩
  go_wp2_with fail
  refine (new_t 50 w0).mono ?_
  rw [show newBl 50 = 50 by decide, show newL 50 = [⟨0, 50⟩] by decide]
  rintro e w1 ⟨pb, T1, rfl, h, u1, f1⟩
  have H1 := hid h
  have U1 := hid (fun k hk => Nat.le_trans F0.out.size (u1 k hk) : ∀ k, T1 k → w.heap.size ≤ k)
  have F1 := hid (F0.out.then f1)
  clear h u1 f1 F0
  go_wp2_with fail
  have hb0 := Blk.new w1 (bools (List.replicate 50 false)) 44
  have f2 : Fr Nil w1 (w1.alloc (.cells (bools (List.replicate 50 false)) 44)) := (Fr.refl _ _).alloc _
  obtain ⟨w2, hw2⟩ : ∃ w2, w2 = w1.alloc (.cells (bools (List.replicate 50 false)) 44) := ⟨_, rfl⟩
  rw [← hw2] at hb0 f2
  rw [show bools (List.replicate 50 false) = #[.bool false, .bool false, .bool false, .bool false, .bool false, .bool false, .bool false, .bool false, .bool false, .bool false, .bool false, .bool false, .bool false, .bool false, .bool false, .bool false, .bool false, .bool false, .bool false, .bool false, .bool false, .bool false, .bool false, .bool false, .bool false, .bool false, .bool false, .bool false, .bool false, .bool false, .bool false, .bool false, .bool false, .bool false, .bool false, .bool false, .bool false, .bool false, .bool false, .bool false, .bool false, .bool false, .bool false, .bool false, .bool false, .bool false, .bool false, .bool false, .bool false, .bool false] from rfl] at hw2
  obtain ⟨tb, htb⟩ : ∃ tb, tb = w1.heap.size := ⟨_, rfl⟩
  have ht1 : ∀ k, T1 k → k < tb := fun k hk => by rw [htb]; exact H1.out.lt k hk
  have hwt : Hid (w.heap.size ≤ tb) := hid (by rw [htb]; exact F1.out.size)
  rw [← htb] at hb0 ⊢
  rw [← hw2]
  have HB0 := hid hb0
  have H2 := hid (H1.out.nil f2)
  have F2 := hid (F1.out.then f2)
  have Ht1 := hid ht1
  clear hb0 f2 htb ht1 hw2 H1 F1
  go_loopw [7, 8] (fun v7 v8 wr => ∃ (i : Nat) (L : List Rn) (tk : List Bool) (T : Nat → Prop), v8 = .int .i64 i ∧ v7 = .int .i64 (cntF tk : Nat) ∧ i ≤ n ∧ Hid (RsT wr T pb 50 L ∧ Free 50 L tk ∧ Blk wr tb (bools tk) 44 ∧ (∀ k, T k → w.heap.size ≤ k ∧ k ≠ tb)) ∧ Fr Nil w wr) (fun _ v8 _ => n - (intOf v8).toNat)
  case atStart => exact ⟨0, _, _, T1, rfl, rfl, by omega, hid ⟨H2.out, Free.start, HB0.out, fun k hk => ⟨U1.out k hk, by have := Ht1.out k hk; omega⟩⟩, F2.out⟩
  case round =>
    obtain ⟨i, L, tk, T, rfl, rfl, hi, hA, hfw⟩ := hrel
    by_cases hlt : i < n
    · skip
      obtain ⟨b, o, rfl, -, hbl, q0⟩ := intAt (Hv.out.fr hfw fun _ _ _ h => h) hlt
      have hz : 0 ≤ l.getD i 0 ∧ l.getD i 0 < 256 := bounds_u8 (Hwf.out _ (by
        simp [List.getD, List.getElem?_eq_getElem (show i < l.length by rw [Hlen.out]; exact hlt)]))
      obtain ⟨z, hz2⟩ : ∃ z : Nat, l.getD i 0 = z := ⟨(l.getD i 0).toNat, by omega⟩
      rw [hz2] at q0 hz
      clear hz2
      have hz256 : z < 256 := by omega
      clear hz
      go_wp2_with fail
      have es : ((z : Int) % 50) = ((z % 50 : Nat) : Int) := by omega
      rw [es]
      obtain ⟨k, hk⟩ : ∃ k, k = z % 50 := ⟨_, rfl⟩
      rw [← hk]
      have hk50 : k < 50 := by omega
      have hk50i : (k : Int) < 50 := by omega
      clear es hk q0 hz256
      obtain ⟨aR, aF, aB, aT⟩ := hA.out
      obtain ⟨hmr, hmf⟩ := aF.mark hk50
      have hcl := cnt_le tk
      have h50 := aF.2.1
      have hsz : tk.length = 50 := h50
      have q0 := aB.cell k
      rw [bools_at (by omega)] at q0
      obtain ⟨b, hb⟩ : ∃ b, b = tk.getD k false := ⟨_, rfl⟩
      rw [← hb] at hmr q0
      have HB := hid aB
      have HR := hid aR
      have HT := hid aT
      have HF := hid aF
      have Hmr := hid hmr
      have Hmf := hid hmf
      have Hb := hid hb
      clear hA hmr hmf hb aR aF aB aT
      go_upto_region 14 with (fail)
      have ed : Fr Nil wr wr.drew := (Fr.refl _ _).drew
      have hS : (fun w' : World => w'.cell? ⟨tb, k, none⟩ = some (.bool b)) wr.drew := q0
      have HRd := hid (HR.out.nil ed)
      refine wpU_region (k := 6) (S := fun w' : World => w'.cell? ⟨tb, k, none⟩ = some (.bool b)) (by kernel_rfl) ?_
      refine wpU_take (i := 0) (v := ?_) rfl (by kernel_rfl) (by kernel_rfl) (fun _ _ _ h => h) _ _ _ _ (by kernel_rfl) (by kernel_rfl) (by kernel_rfl) (Or.inl ⟨by kernel_rfl, ?_⟩) hS ?_
      rotate_left
      · (intro w9 hS9; obtain s0 := hS9; go_simp); (try with_reducible rfl)
      try simp only [Act.put, List.getElem_toArray, List.getElem_cons_succ, List.getElem_cons_zero, List.setIfInBounds_toArray, List.set_cons_zero, List.set_cons_succ]
      refine wpU_take (i := 1) (v := ?_) rfl (by kernel_rfl) (by kernel_rfl) (fun _ _ _ h => h) _ _ _ _ (by kernel_rfl) (by kernel_rfl) (by kernel_rfl) (Or.inl ⟨by kernel_rfl, ?_⟩) hS ?_
      rotate_left
      · (intro w9 hS9; obtain s0 := hS9; go_simp); (try with_reducible rfl)
      try simp only [Act.put, List.getElem_toArray, List.getElem_cons_succ, List.getElem_cons_zero, List.setIfInBounds_toArray, List.set_cons_zero, List.set_cons_succ]
      refine wpU_take (i := 3) (v := ?_) rfl (by kernel_rfl) (by kernel_rfl) (fun _ _ _ h => h) _ _ _ _ (by kernel_rfl) (by kernel_rfl) (by kernel_rfl) (Or.inl ⟨by kernel_rfl, ?_⟩) hS ?_
      rotate_left
      · (intro w9 hS9; obtain s0 := hS9; go_simp); (try with_reducible rfl)
      try simp only [Act.put, List.getElem_toArray, List.getElem_cons_succ, List.getElem_cons_zero, List.setIfInBounds_toArray, List.set_cons_zero, List.set_cons_succ]
      refine wpU_take (i := 4) (v := ?_) rfl (by kernel_rfl) (by kernel_rfl) (fun _ _ _ h => h) _ _ _ _ (by kernel_rfl) (by kernel_rfl) (by kernel_rfl) (Or.inl ⟨by kernel_rfl, ?_⟩) hS ?_
      rotate_left
      · (intro w9 hS9; obtain s0 := hS9; go_simp); (try with_reducible rfl)
      try simp only [Act.put, List.getElem_toArray, List.getElem_cons_succ, List.getElem_cons_zero, List.setIfInBounds_toArray, List.set_cons_zero, List.set_cons_succ]
      refine wpU_take (i := 5) (v := ?_) rfl (by kernel_rfl) (by kernel_rfl) (fun _ _ _ h => h) _ _ _ _ (by kernel_rfl) (by kernel_rfl) (by kernel_rfl) (Or.inl ⟨by kernel_rfl, ?_⟩) hS ?_
      rotate_left
      · (intro w9 hS9; obtain s0 := hS9; go_simp); (try with_reducible rfl)
      try simp only [Act.put, List.getElem_toArray, List.getElem_cons_succ, List.getElem_cons_zero, List.setIfInBounds_toArray, List.set_cons_zero, List.set_cons_succ]
      refine wpU_next (i := 2) rfl (by kernel_rfl) (fun K hK => ?_)
      go_simp
      refine (mark_t HRd.out _ _).mono ?_
      rw [Hmr.out]
      rintro e w3 ⟨rfl, ⟨T3, h3, h3T⟩, f3⟩
      have hS3 : (fun w' : World => w'.cell? ⟨tb, k, none⟩ = some (.bool b)) w3 := f3.cell hS fun h => (HT.out _ h).2 rfl
      have HB3 := hid ((HB.out.fr ed fun h => h).fr f3 fun h => (HT.out _ h).2 rfl)
      have H3 := hid h3
      have HT3 := hid (fun k hk => by
        have e1 := HB.out.lt
        have e2 := hfw.size
        rcases h3T k hk with h | h
        · exact HT.out k h
        · have h9 : wr.heap.size ≤ k := h
          exact ⟨by omega, by omega⟩ : ∀ k, T3 k → w.heap.size ≤ k ∧ k ≠ tb)
      have HF3 := hid ((hfw.then ed).trans f3 fun k hk => .inr (HT.out k hk).1)
      clear h3 h3T f3
      refine hK.out _ _ (fun _ => hS3) ?_
      clear hK K
      try simp only [Act.put, List.getElem_toArray, List.getElem_cons_succ, List.getElem_cons_zero, List.setIfInBounds_toArray, List.set_cons_zero, List.set_cons_succ]
      refine wpU_next (i := 6) rfl (by kernel_rfl) (fun K hK => ?_)
      go_simp
      refine hK.out _ _ (fun h => absurd rfl h.1) ?_
      refine wpU_done (by kernel_rfl) ?_ _
      clear hK K
      cases b with
      | false =>
        have q1 : w3.cell? ⟨tb, k, none⟩ = some (.bool false) := hS3
        have z1 := HB3.out.frozen k
        have Hc := hid (cnt_set (tk := tk) (k := k) (by omega) Hb.out.symm)
        go_wp2_with fail
        go_roundw
        case rel =>
          refine ⟨i + 1, _, tk.set k true, T3, by go_num, ?_, by omega, hid ⟨H3.out.fr ((Fr.refl (fun j => j = tb) _).setCell (a := ⟨tb, k, none⟩) (.inl rfl) _) (fun j hj h => (HT3.out j hj).2 h), Hmf.out, by rw [← bools_set]; exact HB3.out.set k _, HT3.out⟩, HF3.out.setCell (a := ⟨tb, k, none⟩) (.inr hwt.out) _⟩
          have := Hc.out
          go_num
        case measure => simp [intOf]; omega
      | true =>
        have q1 : w3.cell? ⟨tb, k, none⟩ = some (.bool true) := hS3
        have z1 := HB3.out.frozen k
        have Hc := hid (set_same (tk := tk) (k := k) (by omega) Hb.out.symm)
        go_wp2_with fail
        go_roundw
        case rel =>
          refine ⟨i + 1, _, tk.set k true, T3, by go_num, by rw [Hc.out], by omega, hid ⟨H3.out.fr ((Fr.refl (fun j => j = tb) _).setCell (a := ⟨tb, k, none⟩) (.inl rfl) _) (fun j hj h => (HT3.out j hj).2 h), Hmf.out, by rw [← bools_set]; exact HB3.out.set k _, HT3.out⟩, HF3.out.setCell (a := ⟨tb, k, none⟩) (.inr hwt.out) _⟩
        case measure => simp [intOf]; omega
    · obtain ⟨aR, aF, aB, aT⟩ := hA.out
      have hF := hid aF
      have hTT := hid aT
      have hcl : cntF tk ≤ 50 := by have := cnt_le tk; rw [aF.2.1] at this; exact this
      go_wp2_with fail
      refine (copy_t aR).mono ?_
      rintro e w3 ⟨qb, Tc, rfl, hc2, uc, f3⟩
      have hC := hid hc2
      have hR := hid (aR.nil f3)
      have hB := hid (aB.fr f3 fun h => h)
      have hUc := hid (show ∀ k, Tc k → w.heap.size ≤ k ∧ k ≠ tb ∧ ¬ T k from fun k hk => by
        have e1 := uc k hk
        have e2 := hfw.size
        have e3 := aB.lt
        exact ⟨by omega, by omega, fun h => by have := aR.lt k h; omega⟩)
      have hF3 := hid (hfw.then f3)
      clear aR aF aB aT hc2 uc f3 hfw hA
      go_upto_region 20 with (fail)
      have h50 : (bools tk).size = 50 := by rw [bools_size, hF.out.2.1]
      have hi : (Try.prog.info? 44).map (·.size) = some (bools tk).size := by rw [h50]; kernel_rfl
      have hs := run_storeCells_new (P := Try.prog) w3 44 #[.bool false, .bool false, .bool false, .bool false, .bool false, .bool false, .bool false, .bool false, .bool false, .bool false, .bool false, .bool false, .bool false, .bool false, .bool false, .bool false, .bool false, .bool false, .bool false, .bool false, .bool false, .bool false, .bool false, .bool false, .bool false, .bool false, .bool false, .bool false, .bool false, .bool false, .bool false, .bool false, .bool false, .bool false, .bool false, .bool false, .bool false, .bool false, .bool false, .bool false, .bool false, .bool false, .bool false, .bool false, .bool false, .bool false, .bool false, .bool false, .bool false, .bool false] (bools tk) hi (by rw [h50]; rfl) (bools_cell tk)
      go_wp2_with (refine wpList_load_row rfl 44 _ rfl tb rfl 44 _ (0, 0) (.array 50 4) hB.out (by kernel_rfl) rfl hi ?_)
      have hbv := Blk.new w3 (bools tk) 44
      have f4 : Fr Nil w3 (w3.alloc (.cells (bools tk) 44)) := (Fr.refl _ _).alloc _
      obtain ⟨w4, hw4⟩ : ∃ w4, w4 = w3.alloc (.cells (bools tk) 44) := ⟨_, rfl⟩
      obtain ⟨vb, hvb⟩ : ∃ vb, vb = w3.heap.size := ⟨_, rfl⟩
      rw [← hw4] at hbv f4 ⊢
      rw [← hvb] at hbv ⊢
      have hvT : ∀ k, T k → k < vb := fun k hk => by rw [hvb]; exact hR.out.lt k hk
      have hvC : ∀ k, Tc k → k < vb := fun k hk => by rw [hvb]; exact hC.out.lt k hk
      have hvt : Hid (tb < vb) := hid (by rw [hvb]; exact hB.out.lt)
      have hvw : Hid (w.heap.size ≤ vb) := hid (by rw [hvb]; exact hF3.out.size)
      have HUc := hid (show ∀ k, Tc k → w.heap.size ≤ k ∧ k ≠ tb ∧ k ≠ vb from fun k hk => ⟨(hUc.out k hk).1, (hUc.out k hk).2.1, by have := hvC k hk; omega⟩)
      have HUT := hid (show ∀ k, T k → w.heap.size ≤ k ∧ k ≠ tb ∧ k ≠ vb ∧ ¬ Tc k from fun k hk => ⟨(hTT.out k hk).1, (hTT.out k hk).2, by have := hvT k hk; omega, fun h => (hUc.out k h).2.2 hk⟩)
      have HRr := hid (hR.out.nil f4)
      have HCc := hid (hC.out.nil f4)
      have HBt := hid (hB.out.fr f4 fun h => h)
      have HBv := hid hbv
      have HF4 := hid (hF3.out.then f4)
      clear hbv f4 hw4 hvb hvT hvC hUc hTT hR hC hB hF3 h50 hs hi
      obtain ⟨Lc, hLc⟩ : ∃ Lc, Lc = L := ⟨_, rfl⟩
      rw [← hLc] at HCc
      obtain ⟨was, hwas⟩ : ∃ was, was = tk := ⟨_, rfl⟩
      rw [← hwas] at HBv
      have HFc : Hid (Free 50 Lc was) := hid (by rw [hLc, hwas]; exact hF.out)
      obtain ⟨N, hN⟩ : ∃ N, N = cntF tk := ⟨_, rfl⟩
      rw [← hN] at hcl ⊢
      clear hLc hwas hN
      go_loopw [12] (fun v12 wr => ∃ (i : Nat) (L : List Rn) (tk : List Bool) (T : Nat → Prop), v12 = .int .i64 i ∧ i ≤ n2 ∧ Hid (RsT wr T pb 50 L ∧ Free 50 L tk ∧ Blk wr tb (bools tk) 44 ∧ Blk wr vb (bools was) 44 ∧ RsT wr Tc qb 50 Lc ∧ (∀ k, T k → w.heap.size ≤ k ∧ k ≠ tb ∧ k ≠ vb ∧ ¬ Tc k)) ∧ Fr Nil w wr) (fun v12 _ => n2 - (intOf v12).toNat)
      case atStart => exact ⟨0, L, tk, T, rfl, by omega, hid ⟨HRr.out, hF.out, HBt.out, HBv.out, HCc.out, HUT.out⟩, HF4.out⟩
      case round =>
        clear HRr hF HBt HBv HCc HUT HF4
        obtain ⟨i, L, tk, T, rfl, hi, hA, hfw⟩ := hrel
        by_cases hlt : i < n2
        · skip
          obtain ⟨b, o, rfl, -, hbl, q0⟩ := intAt (Hv2.out.fr hfw fun _ _ _ h => h) hlt
          have hz : 0 ≤ l2.getD i 0 ∧ l2.getD i 0 < 256 := bounds_u8 (Hwf2.out _ (by
            simp [List.getD, List.getElem?_eq_getElem (show i < l2.length by rw [Hlen2.out]; exact hlt)]))
          obtain ⟨z, hz2⟩ : ∃ z : Nat, l2.getD i 0 = z := ⟨(l2.getD i 0).toNat, by omega⟩
          rw [hz2] at q0 hz
          clear hz2
          have hz256 : z < 256 := by omega
          clear hz
          go_wp2_with fail
          have es : ((z : Int) % 50) = ((z % 50 : Nat) : Int) := by omega
          rw [es]
          obtain ⟨k, hk⟩ : ∃ k, k = z % 50 := ⟨_, rfl⟩
          rw [← hk]
          have hk50 : k < 50 := by omega
          have hk50i : (k : Int) < 50 := by omega
          clear es hk q0 hz256
          obtain ⟨aR, aF, aB, aV, aC, aT⟩ := hA.out
          obtain ⟨hmr, hmf⟩ := aF.give hk50
          have hsz : tk.length = 50 := aF.2.1
          have q0 := aB.cell k
          rw [bools_at (by omega)] at q0
          obtain ⟨b, hb⟩ : ∃ b, b = tk.getD k false := ⟨_, rfl⟩
          rw [← hb] at hmr q0
          have HB := hid aB
          have HV := hid aV
          have HC := hid aC
          have HR := hid aR
          have HT := hid aT
          have Hmr := hid hmr
          have Hmf := hid hmf
          clear hA hmr hmf hb aR aF aB aT aV aC
          go_upto_region 25 with (fail)
          have ed : Fr Nil wr wr.drew := (Fr.refl _ _).drew
          have hS : (fun w' : World => w'.cell? ⟨tb, k, none⟩ = some (.bool b)) wr.drew := q0
          have HRd := hid (HR.out.nil ed)
          refine wpU_region (k := 6) (S := fun w' : World => w'.cell? ⟨tb, k, none⟩ = some (.bool b)) (by kernel_rfl) ?_
          refine wpU_take (i := 0) (v := ?_) rfl (by kernel_rfl) (by kernel_rfl) (fun _ _ _ h => h) _ _ _ _ (by kernel_rfl) (by kernel_rfl) (by kernel_rfl) (Or.inl ⟨by kernel_rfl, ?_⟩) hS ?_
          rotate_left
          · (intro w9 hS9; obtain s0 := hS9; go_simp); (try with_reducible rfl)
          try simp only [Act.put, List.getElem_toArray, List.getElem_cons_succ, List.getElem_cons_zero, List.setIfInBounds_toArray, List.set_cons_zero, List.set_cons_succ]
          refine wpU_take (i := 1) (v := ?_) rfl (by kernel_rfl) (by kernel_rfl) (fun _ _ _ h => h) _ _ _ _ (by kernel_rfl) (by kernel_rfl) (by kernel_rfl) (Or.inl ⟨by kernel_rfl, ?_⟩) hS ?_
          rotate_left
          · (intro w9 hS9; obtain s0 := hS9; go_simp); (try with_reducible rfl)
          try simp only [Act.put, List.getElem_toArray, List.getElem_cons_succ, List.getElem_cons_zero, List.setIfInBounds_toArray, List.set_cons_zero, List.set_cons_succ]
          refine wpU_take (i := 3) (v := ?_) rfl (by kernel_rfl) (by kernel_rfl) (fun _ _ _ h => h) _ _ _ _ (by kernel_rfl) (by kernel_rfl) (by kernel_rfl) (Or.inl ⟨by kernel_rfl, ?_⟩) hS ?_
          rotate_left
          · (intro w9 hS9; obtain s0 := hS9; go_simp); (try with_reducible rfl)
          try simp only [Act.put, List.getElem_toArray, List.getElem_cons_succ, List.getElem_cons_zero, List.setIfInBounds_toArray, List.set_cons_zero, List.set_cons_succ]
          refine wpU_take (i := 4) (v := ?_) rfl (by kernel_rfl) (by kernel_rfl) (fun _ _ _ h => h) _ _ _ _ (by kernel_rfl) (by kernel_rfl) (by kernel_rfl) (Or.inl ⟨by kernel_rfl, ?_⟩) hS ?_
          rotate_left
          · (intro w9 hS9; obtain s0 := hS9; go_simp); (try with_reducible rfl)
          try simp only [Act.put, List.getElem_toArray, List.getElem_cons_succ, List.getElem_cons_zero, List.setIfInBounds_toArray, List.set_cons_zero, List.set_cons_succ]
          refine wpU_take (i := 5) (v := ?_) rfl (by kernel_rfl) (by kernel_rfl) (fun _ _ _ h => h) _ _ _ _ (by kernel_rfl) (by kernel_rfl) (by kernel_rfl) (Or.inl ⟨by kernel_rfl, ?_⟩) hS ?_
          rotate_left
          · (intro w9 hS9; obtain s0 := hS9; go_simp); (try with_reducible rfl)
          try simp only [Act.put, List.getElem_toArray, List.getElem_cons_succ, List.getElem_cons_zero, List.setIfInBounds_toArray, List.set_cons_zero, List.set_cons_succ]
          refine wpU_next (i := 2) rfl (by kernel_rfl) (fun K hK => ?_)
          go_simp
          refine (give_t HRd.out _ _).mono ?_
          rw [Hmr.out]
          rintro e w5 ⟨rfl, ⟨T3, h3, h3T⟩, f3⟩
          have hS3 : (fun w' : World => w'.cell? ⟨tb, k, none⟩ = some (.bool b)) w5 := f3.cell hS fun h => (HT.out _ h).2.1 rfl
          have HB3 := hid ((HB.out.fr ed fun h => h).fr f3 fun h => (HT.out _ h).2.1 rfl)
          have HV3 := hid ((HV.out.fr ed fun h => h).fr f3 fun h => (HT.out _ h).2.2.1 rfl)
          have HC3 := hid ((HC.out.nil ed).fr f3 fun k hk h => (HT.out _ h).2.2.2 hk)
          have H3 := hid h3
          have HT3 := hid (fun k hk => by
            have e1 := HB.out.lt
            have e2 := hfw.size
            have e3 := HV.out.lt
            rcases h3T k hk with h | h
            · exact HT.out k h
            · have h9 : wr.heap.size ≤ k := h
              exact ⟨by omega, by omega, by omega, fun h => by have := HC.out.lt k h; omega⟩ : ∀ k, T3 k → w.heap.size ≤ k ∧ k ≠ tb ∧ k ≠ vb ∧ ¬ Tc k)
          have HF3 := hid ((hfw.then ed).trans f3 fun k hk => .inr (HT.out k hk).1)
          clear h3 h3T f3
          refine hK.out _ _ (fun _ => hS3) ?_
          clear hK K
          try simp only [Act.put, List.getElem_toArray, List.getElem_cons_succ, List.getElem_cons_zero, List.setIfInBounds_toArray, List.set_cons_zero, List.set_cons_succ]
          refine wpU_next (i := 6) rfl (by kernel_rfl) (fun K hK => ?_)
          go_simp
          refine hK.out _ _ (fun h => absurd rfl h.1) ?_
          refine wpU_done (by kernel_rfl) ?_ _
          clear hK K
          have q1 : w5.cell? ⟨tb, k, none⟩ = some (.bool b) := hS3
          have z1 := HB3.out.frozen k
          have hbb : (b != b) = false := by cases b <;> rfl
          go_wp2_with fail
          go_roundw
          case rel =>
            refine ⟨i + 1, _, tk.set k false, T3, by go_num, by omega, hid ⟨H3.out.fr ((Fr.refl (fun j => j = tb) _).setCell (a := ⟨tb, k, none⟩) (.inl rfl) _) (fun j hj h => (HT3.out j hj).2.1 h), Hmf.out, by rw [← bools_set]; exact HB3.out.set k _, HV3.out.set_other (by have := hvt.out; show vb ≠ tb; omega) _, HC3.out.fr ((Fr.refl (fun j => j = tb) _).setCell (a := ⟨tb, k, none⟩) (.inl rfl) _) (fun j hj h => (HUc.out j hj).2.1 h), HT3.out⟩, HF3.out.setCell (a := ⟨tb, k, none⟩) (.inr hwt.out) _⟩
          case measure => simp [intOf]; omega
        · have HF0 := hid hfw
          clear hfw
          go_wp2_with fail
          go_loopw [14] (fun v14 ws => ∃ (k : Nat) (Lr Ld : List Rn) (rk ck : List Bool) (Tr Td : Nat → Prop), v14 = .int .i64 k ∧ k ≤ 50 ∧ Hid (RsT ws Tr pb 50 Lr ∧ Free 50 Lr rk ∧ Mkd k rk tk ∧ RsT ws Td qb 50 Ld ∧ Free 50 Ld ck ∧ Mkd k ck was ∧ Blk ws tb (bools tk) 44 ∧ Blk ws vb (bools was) 44 ∧ (∀ k, Tr k → w.heap.size ≤ k ∧ k ≠ tb ∧ k ≠ vb ∧ ¬ Td k) ∧ (∀ k, Td k → w.heap.size ≤ k ∧ k ≠ tb ∧ k ≠ vb)) ∧ Fr Nil w ws) (fun v14 _ => 50 - (intOf v14).toNat)
          case atStart =>
            obtain ⟨aR, aF, aB, aV, aC, aT⟩ := hA.out
            exact ⟨0, L, Lc, tk, was, T, Tc, rfl, by omega, hid ⟨aR, aF, Mkd.zero _, aC, HFc.out, Mkd.zero _, aB, aV, aT, HUc.out⟩, HF0.out⟩
          case round =>
            have hwl := hid HFc.out.2.1
            have htl := hid hA.out.2.1.2.1
            clear hA HF0
            obtain ⟨k, Lr, Ld, rk, ck, Tr, Td, rfl, hk, hA, hfw⟩ := hrel
            by_cases hlt : k < 50
            · have hki : (k : Int) < 50 := by omega
              obtain ⟨aR, aF, aM, aC, aG, aN, aB, aV, aT, aU⟩ := hA.out
              obtain ⟨m1, m2⟩ := aG.mark hlt
              obtain ⟨m3, m4⟩ := aF.mark hlt
              rw [aN.at hlt] at m1
              rw [aM.at hlt] at m3
              have mm1 := aN.succ hlt aG.2.1
              have mm2 := aM.succ hlt aF.2.1
              have q0 := aV.cell k
              rw [bools_at (by rw [hwl.out]; exact hlt)] at q0
              have q1 := aB.cell k
              rw [bools_at (by rw [htl.out]; exact hlt)] at q1
              obtain ⟨b1, hb1⟩ : ∃ b, b = was.getD k false := ⟨_, rfl⟩
              rw [← hb1] at m1 q0
              obtain ⟨b2, hb2⟩ : ∃ b, b = tk.getD k false := ⟨_, rfl⟩
              rw [← hb2] at m3 q1
              clear hb1 hb2
              have HB := hid aB
              have HV := hid aV
              have HC := hid aC
              have HR := hid aR
              have HT := hid aT
              have HU := hid aU
              have M1 := hid m1
              have M2 := hid m2
              have M3 := hid m3
              have M4 := hid m4
              have MM1 := hid mm1
              have MM2 := hid mm2
              clear m1 m2 m3 m4 mm1 mm2 aR aF aM aC aG aN aB aV aT aU hA
              have hx1 : ((!b1) == b1) = false := by cases b1 <;> rfl
              have hx2 : ((!b2) == b2) = false := by cases b2 <;> rfl
              go_upto_region 31 with (fail)
              have ed : Fr Nil wr wr.drew := (Fr.refl _ _).drew
              have hS : (fun w' : World => w'.cell? ⟨vb, k, none⟩ = some (.bool b1) ∧ w'.cell? ⟨tb, k, none⟩ = some (.bool b2)) wr.drew := ⟨q0, q1⟩
              have HRd := hid (HR.out.nil ed)
              have HCd := hid (HC.out.nil ed)
              clear q0 q1
              refine wpU_region (k := 15) (S := fun w' : World => w'.cell? ⟨vb, k, none⟩ = some (.bool b1) ∧ w'.cell? ⟨tb, k, none⟩ = some (.bool b2)) (by kernel_rfl) ?_
              refine wpU_take (i := 0) (v := ?_) rfl (by kernel_rfl) (by kernel_rfl) (fun _ _ _ h => h) _ _ _ _ (by kernel_rfl) (by kernel_rfl) (by kernel_rfl) (Or.inl ⟨by kernel_rfl, ?_⟩) hS ?_
              rotate_left
              · (intro w9 hS9; obtain ⟨s0, s1⟩ := hS9; go_simp); (try with_reducible rfl)
              try simp only [Act.put, List.getElem_toArray, List.getElem_cons_succ, List.getElem_cons_zero, List.setIfInBounds_toArray, List.set_cons_zero, List.set_cons_succ]
              refine wpU_take (i := 1) (v := ?_) rfl (by kernel_rfl) (by kernel_rfl) (fun _ _ _ h => h) _ _ _ _ (by kernel_rfl) (by kernel_rfl) (by kernel_rfl) (Or.inl ⟨by kernel_rfl, ?_⟩) hS ?_
              rotate_left
              · (intro w9 hS9; obtain ⟨s0, s1⟩ := hS9; go_simp); (try with_reducible rfl)
              try simp only [Act.put, List.getElem_toArray, List.getElem_cons_succ, List.getElem_cons_zero, List.setIfInBounds_toArray, List.set_cons_zero, List.set_cons_succ]
              refine wpU_take (i := 3) (v := ?_) rfl (by kernel_rfl) (by kernel_rfl) (fun _ _ _ h => h) _ _ _ _ (by kernel_rfl) (by kernel_rfl) (by kernel_rfl) (Or.inl ⟨by kernel_rfl, ?_⟩) hS ?_
              rotate_left
              · (intro w9 hS9; obtain ⟨s0, s1⟩ := hS9; go_simp); (try with_reducible rfl)
              try simp only [Act.put, List.getElem_toArray, List.getElem_cons_succ, List.getElem_cons_zero, List.setIfInBounds_toArray, List.set_cons_zero, List.set_cons_succ]
              refine wpU_take (i := 4) (v := ?_) rfl (by kernel_rfl) (by kernel_rfl) (fun _ _ _ h => h) _ _ _ _ (by kernel_rfl) (by kernel_rfl) (by kernel_rfl) (Or.inl ⟨by kernel_rfl, ?_⟩) hS ?_
              rotate_left
              · (intro w9 hS9; obtain ⟨s0, s1⟩ := hS9; go_simp); (try with_reducible rfl)
              try simp only [Act.put, List.getElem_toArray, List.getElem_cons_succ, List.getElem_cons_zero, List.setIfInBounds_toArray, List.set_cons_zero, List.set_cons_succ]
              refine wpU_take (i := 5) (v := ?_) rfl (by kernel_rfl) (by kernel_rfl) (fun _ _ _ h => h) _ _ _ _ (by kernel_rfl) (by kernel_rfl) (by kernel_rfl) (Or.inl ⟨by kernel_rfl, ?_⟩) hS ?_
              rotate_left
              · (intro w9 hS9; obtain ⟨s0, s1⟩ := hS9; go_simp); (try with_reducible rfl)
              try simp only [Act.put, List.getElem_toArray, List.getElem_cons_succ, List.getElem_cons_zero, List.setIfInBounds_toArray, List.set_cons_zero, List.set_cons_succ]
              refine wpU_next (i := 2) rfl (by kernel_rfl) (fun K hK => ?_)
              go_simp
              refine (mark_t HCd.out _ _).mono ?_
              rw [M1.out]
              rintro e w5 ⟨rfl, ⟨T3, h3, h3T⟩, f3⟩
              have hS3 : (fun w' : World => w'.cell? ⟨vb, k, none⟩ = some (.bool b1) ∧ w'.cell? ⟨tb, k, none⟩ = some (.bool b2)) w5 := ⟨f3.cell hS.1 fun h => (HU.out _ h).2.2 rfl, f3.cell hS.2 fun h => (HU.out _ h).2.1 rfl⟩
              have HR3 := hid (HRd.out.fr f3 fun j hj h => (HT.out j hj).2.2.2 h)
              have HB3 := hid ((HB.out.fr ed fun h => h).fr f3 fun h => (HU.out _ h).2.1 rfl)
              have HV3 := hid ((HV.out.fr ed fun h => h).fr f3 fun h => (HU.out _ h).2.2 rfl)
              have H3 := hid h3
              have HT3 := hid (fun k hk => by
                have e1 := HB.out.lt
                have e2 := hfw.size
                have e3 := HV.out.lt
                rcases h3T k hk with h | h
                · exact ⟨(HU.out k h).1, (HU.out k h).2.1, (HU.out k h).2.2, fun h2 => (HT.out k h2).2.2.2 h⟩
                · have h9 : wr.heap.size ≤ k := h
                  exact ⟨by omega, by omega, by omega, fun h => by have := HR.out.lt k h; omega⟩ : ∀ k, T3 k → w.heap.size ≤ k ∧ k ≠ tb ∧ k ≠ vb ∧ ¬ Tr k)
              have HF3 := hid ((hfw.then ed).trans f3 fun k hk => .inr (HU.out k hk).1)
              clear h3 h3T f3 hfw hS
              refine hK.out _ _ (fun _ => hS3) ?_
              clear hK K
              try simp only [Act.put, List.getElem_toArray, List.getElem_cons_succ, List.getElem_cons_zero, List.setIfInBounds_toArray, List.set_cons_zero, List.set_cons_succ]
              refine wpU_next (i := 6) rfl (by kernel_rfl) (fun K hK => ?_)
              go_simp
              refine hK.out _ _ (fun _ => hS3) ?_
              clear hK K
              try simp only [Act.put, List.getElem_toArray, List.getElem_cons_succ, List.getElem_cons_zero, List.setIfInBounds_toArray, List.set_cons_zero, List.set_cons_succ]
              refine wpU_next (i := 7) rfl (by kernel_rfl) (fun K hK => ?_)
              go_simp
              refine hK.out _ _ (fun _ => hS3) ?_
              clear hK K
              try simp only [Act.put, List.getElem_toArray, List.getElem_cons_succ, List.getElem_cons_zero, List.setIfInBounds_toArray, List.set_cons_zero, List.set_cons_succ]
              refine wpU_take (i := 8) (v := ?_) rfl (by kernel_rfl) (by kernel_rfl) (fun _ _ _ h => h) _ _ _ _ (by kernel_rfl) (by kernel_rfl) (by kernel_rfl) (Or.inl ⟨by kernel_rfl, ?_⟩) hS3 ?_
              rotate_left
              · (intro w9 hS9; obtain ⟨s0, s1⟩ := hS9; go_simp); (try with_reducible rfl)
              try simp only [Act.put, List.getElem_toArray, List.getElem_cons_succ, List.getElem_cons_zero, List.setIfInBounds_toArray, List.set_cons_zero, List.set_cons_succ]
              refine wpU_take (i := 9) (v := ?_) rfl (by kernel_rfl) (by kernel_rfl) (fun _ _ _ h => h) _ _ _ _ (by kernel_rfl) (by kernel_rfl) (by kernel_rfl) (Or.inl ⟨by kernel_rfl, ?_⟩) hS3 ?_
              rotate_left
              · (intro w9 hS9; obtain ⟨s0, s1⟩ := hS9; go_simp); (try with_reducible rfl)
              try simp only [Act.put, List.getElem_toArray, List.getElem_cons_succ, List.getElem_cons_zero, List.setIfInBounds_toArray, List.set_cons_zero, List.set_cons_succ]
              refine wpU_take (i := 11) (v := ?_) rfl (by kernel_rfl) (by kernel_rfl) (fun _ _ _ h => h) _ _ _ _ (by kernel_rfl) (by kernel_rfl) (by kernel_rfl) (Or.inl ⟨by kernel_rfl, ?_⟩) hS3 ?_
              rotate_left
              · (intro w9 hS9; obtain ⟨s0, s1⟩ := hS9; go_simp); (try with_reducible rfl)
              try simp only [Act.put, List.getElem_toArray, List.getElem_cons_succ, List.getElem_cons_zero, List.setIfInBounds_toArray, List.set_cons_zero, List.set_cons_succ]
              refine wpU_take (i := 12) (v := ?_) rfl (by kernel_rfl) (by kernel_rfl) (fun _ _ _ h => h) _ _ _ _ (by kernel_rfl) (by kernel_rfl) (by kernel_rfl) (Or.inl ⟨by kernel_rfl, ?_⟩) hS3 ?_
              rotate_left
              · (intro w9 hS9; obtain ⟨s0, s1⟩ := hS9; go_simp); (try with_reducible rfl)
              try simp only [Act.put, List.getElem_toArray, List.getElem_cons_succ, List.getElem_cons_zero, List.setIfInBounds_toArray, List.set_cons_zero, List.set_cons_succ]
              refine wpU_take (i := 13) (v := ?_) rfl (by kernel_rfl) (by kernel_rfl) (fun _ _ _ h => h) _ _ _ _ (by kernel_rfl) (by kernel_rfl) (by kernel_rfl) (Or.inl ⟨by kernel_rfl, ?_⟩) hS3 ?_
              rotate_left
              · (intro w9 hS9; obtain ⟨s0, s1⟩ := hS9; go_simp); (try with_reducible rfl)
              try simp only [Act.put, List.getElem_toArray, List.getElem_cons_succ, List.getElem_cons_zero, List.setIfInBounds_toArray, List.set_cons_zero, List.set_cons_succ]
              refine wpU_next (i := 10) rfl (by kernel_rfl) (fun K hK => ?_)
              go_simp
              refine (mark_t HR3.out _ _).mono ?_
              rw [M3.out]
              rintro e w6 ⟨rfl, ⟨T6, h6, h6T⟩, f6⟩
              have hS6 : (fun w' : World => w'.cell? ⟨vb, k, none⟩ = some (.bool b1) ∧ w'.cell? ⟨tb, k, none⟩ = some (.bool b2)) w6 := ⟨f6.cell hS3.1 fun h => (HT.out _ h).2.2.1 rfl, f6.cell hS3.2 fun h => (HT.out _ h).2.1 rfl⟩
              have HC6 := hid (H3.out.fr f6 fun j hj h => (HT3.out j hj).2.2.2 h)
              have HB6 := hid (HB3.out.fr f6 fun h => (HT.out _ h).2.1 rfl)
              have HV6 := hid (HV3.out.fr f6 fun h => (HT.out _ h).2.2.1 rfl)
              have H6 := hid h6
              have HT6 := hid (fun k hk => by
                have e1 := HB3.out.lt
                have e2 := HF3.out.size
                have e3 := HV3.out.lt
                rcases h6T k hk with h | h
                · exact ⟨(HT.out k h).1, (HT.out k h).2.1, (HT.out k h).2.2.1, fun h2 => (HT3.out k h2).2.2.2 h⟩
                · exact ⟨by omega, by omega, by omega, fun h => by have := H3.out.lt k h; omega⟩ : ∀ k, T6 k → w.heap.size ≤ k ∧ k ≠ tb ∧ k ≠ vb ∧ ¬ T3 k)
              have HF6 := hid (HF3.out.trans f6 fun k hk => .inr (HT.out k hk).1)
              clear h6 h6T f6
              refine hK.out _ _ (fun _ => hS6) ?_
              clear hK K
              try simp only [Act.put, List.getElem_toArray, List.getElem_cons_succ, List.getElem_cons_zero, List.setIfInBounds_toArray, List.set_cons_zero, List.set_cons_succ]
              refine wpU_next (i := 14) rfl (by kernel_rfl) (fun K hK => ?_)
              go_simp
              refine hK.out _ _ (fun _ => hS6) ?_
              clear hK K
              try simp only [Act.put, List.getElem_toArray, List.getElem_cons_succ, List.getElem_cons_zero, List.setIfInBounds_toArray, List.set_cons_zero, List.set_cons_succ]
              refine wpU_next (i := 15) rfl (by kernel_rfl) (fun K hK => ?_)
              go_simp
              refine hK.out _ _ (fun h => absurd rfl h.1) ?_
              refine wpU_done (by kernel_rfl) ?_ _
              clear hK K
              go_wp2_with fail
              go_roundw
              case rel =>
                exact ⟨k + 1, _, _, rk.set k true, ck.set k true, T6, T3, by go_num, by omega, hid ⟨H6.out, M4.out, MM2.out, HC6.out, M2.out, MM1.out, HB6.out, HV6.out, HT6.out, fun k hk => ⟨(HT3.out k hk).1, (HT3.out k hk).2.1, (HT3.out k hk).2.2.1⟩⟩, HF6.out⟩
              case measure => simp [intOf]; omega
            · obtain rfl : k = 50 := by omega
              obtain ⟨aR, aF, aM, aC, aG, aN, aB, aV, aT, aU⟩ := hA.out
              obtain rfl := aF.full aM
              obtain rfl := aG.full aN
              have HR := hid aR
              have HC := hid aC
              have HF9 := hid hfw
              clear aR aF aM aC aG aN aB aV aT aU hA hfw
              go_wp2_with fail
              refine (free_t HC.out).mono ?_
              rw [show sumN [] = 0 from rfl]
              rintro e w5 ⟨rfl, f5⟩
              have HR5 := hid (HR.out.nil f5)
              have HC5 := hid (HC.out.nil f5)
              have HF5 := hid (HF9.out.then f5)
              clear f5 HR HC HF9
              go_wp2_with fail
              refine (free_t HR5.out).mono ?_
              rw [show sumN [] = 0 from rfl]
              rintro e w6 ⟨rfl, f6⟩
              have HC6 := hid (HC5.out.nil f6)
              have HF6 := hid (HF5.out.then f6)
              clear f6 HR5 HC5 HF5
              go_wp2_with fail
              refine (list_t HC6.out).mono ?_
              rintro e w7 ⟨A7, c7, rfl, r7, f7⟩
              have HC7 := hid (HC6.out.nil f7)
              have HF7 := hid (HF6.out.then f7)
              clear f7 r7 HC6 HF6
              go_wp2_with fail
              refine (greatest_t HC7.out).mono ?_
              rw [show topN [] = 0 from rfl]
              rintro e w8 ⟨rfl, f8⟩
              have HF8 := hid (HF7.out.then f8)
              clear f8 HC7 HF7
              go_wp2
              go_ret
              exact ⟨rfl, HF8.out⟩
end Go.Proofs.Ytbfhoadhihlhjaa

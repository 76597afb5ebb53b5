/- The law SharesPlay: its walk. -/
import Derived.Test.YtjieckaeplkafaaShR
set_option linter.unusedSimpArgs false
set_option linter.unusedVariables false
namespace Go.Proofs.Ytjieckaeplkafaa
open Go.RowKit
set_option maxRecDepth 20000 in
set_option maxHeartbeats 2000000 in
theorem play_law (A0 : Option Addr) (n c0 : Nat) (ps : List Ded) (w : World) (hr : Deds w (fun k => k < w.heap.size) (.slice A0 n c0) n ps) :
    Calls Try.prog 6 #[.slice A0 n c0] w fun e w' => e = .returned (.bool true) ∧ Fr Nil w w' := by
  have hnle2 : n ≤ 9223372036854775807 := by obtain ⟨_, _, _, _, h, _⟩ := hr; exact h
  have Hd := hid hr
  clear hr
  go_enter Try.func6, Try.ntmps6
  go_wp2_with fail
  refine (awake_ok w).mono ?_
  rintro e w1 ⟨rfl, f1⟩
  have F1 := hid f1
  clear f1
  by_cases hn : 100 < n
  · go_wp2
    go_ret
    exact ⟨rfl, F1.out⟩
  go_wp2_with fail
  refine (sw_new 40 w1).mono ?_
  rintro e w2 ⟨pb, T1, rfl, h1, h2, f2⟩
  rw [show newBl 40 = 40 by decide, show newL 40 = [⟨0, 40⟩] by decide] at h1
  have H1 := hid h1; have H2 := hid h2; have F2 := hid f2
  clear h1 h2 f2
  go_wp2_with fail
  refine (ref_new 40 w2).mono ?_
  rw [show newBl 40 = 40 by decide]
  rintro e w3 ⟨mb, fb, rfl, h3, h4, h5, f3⟩
  have H3 := hid h3; have H4 := hid h4; have H5 := hid h5; have F3 := hid f3
  clear h3 h4 h5 f3
  go_wp2_with fail
  refine (snew_ok pb w3).mono ?_
  rintro e w4 ⟨sb, Ts, rfl, h6, h7, f4⟩
  have H6 := hid h6; have H7 := hid h7; have F4 := hid f4
  clear h6 h7 f4
  go_wp2_with fail
  refine (rz_new mb w4).mono ?_
  rintro e w5 ⟨rb, rfl, h8, h9, f5⟩
  have HP := hid (Play.start H1.out H2.out F2.out H3.out H4.out H5.out F3.out H6.out H7.out F4.out h8 h9 f5)
  clear h8 h9 f5 H1 H2 F2 H3 H4 H5 F3 H6 H7 F4
  have hn100 : n ≤ 100 := by omega
  clear hn
  go_wp2_with fail
  go_loopw [7] (fun v7 wx => ∃ (g : Nat), v7 = .int .i64 g ∧ g ≤ n ∧ Hid (Play w1 wx sb pb rb mb fb (1 + g))) (fun v7 _ => n - (intOf v7).toNat)
  case atStart => exact ⟨0, rfl, by omega, HP⟩
  case round =>
    obtain ⟨g, rfl, hg, hA⟩ := hrel
    by_cases hgn : g < n
    · obtain ⟨b, o, rfl, -, hbl, hded⟩ := ded_at (Hd.out.fr (F1.out.then hA.out.fr0) fun _ _ _ h => h) hgn
      generalize ps.getD g ⟨0, 0, 0⟩ = p at *
      obtain ⟨d, a, nn⟩ := p
      obtain ⟨d0, d1, d2, bd, ba, bn⟩ := hded
      dsimp only at d0 d1 d2 bd ba bn
      have Ba := hid ba
      obtain ⟨U, L, H, A, l, N, W, T, F, hP⟩ := hA.out
      have HP0 := hid hP
      clear bd ba bn hA HP hP
      go_upto_region 13 with (fail)
      obtain ⟨W3, hW3⟩ : ∃ W3, W3 = wr.alloc (.cells #[.int .i64 d, .int .i64 a, .int .i64 nn] 43) := ⟨_, rfl⟩
      have f3 : Fr Nil wr W3 := by rw [hW3]; exact (Fr.refl _ _).alloc _
      have hX0 : Blk W3 wr.heap.size #[.int .i64 d, .int .i64 a, .int .i64 nn] 43 := by rw [hW3]; exact Blk.new _ _ _
      rw [← hW3]
      clear hW3
      obtain ⟨xb, hxb⟩ : ∃ xb, xb = wr.heap.size := ⟨_, rfl⟩
      rw [← hxb] at hX0 ⊢
      have x0 : W3.cell? ⟨xb, 0, none⟩ = some (.int .i64 d) := hX0.cell 0
      have x1 : W3.cell? ⟨xb, 1, none⟩ = some (.int .i64 a) := hX0.cell 1
      have x2 : W3.cell? ⟨xb, 2, none⟩ = some (.int .i64 nn) := hX0.cell 2
      have HX := hid hX0
      have HP3 := hid (HP0.out.nil f3)
      have HGX := hid (show Sg (fun k => Qz T mb fb k ∨ k = xb) w1 W3 sb pb 40 (1 + g) U L H A l from HP0.out.g.fr (S := Nil) f3 (fun k h => h.elim) (fun k h => h.elim) fun k hk => by
        rcases hk with h | h
        · refine ⟨.inl h, ?_⟩
          obtain ⟨V, g1, g2, g3, g4, g5⟩ := HP3.out.g
          exact g4 k h
        · exact ⟨.inr (by omega), by have := hX0.lt; omega⟩)
      have Hxr := hid (show ¬ xb = rb from fun h => by have := HP0.out.z.lt rb HP0.out.z.ts; omega)
      have HNl := hid (show N.length ≤ 100000 from by have := HP3.out.rel.len HP3.out.g.inv; omega)
      have HNk := hid (show ∀ u ∈ N, u.k ≤ 100000 from fun u hu => by have := HP3.out.rel.bd HP3.out.g.inv u hu; omega)
      have HWl := hid (show W.length ≤ 8192 from by
        have h1 := (HP3.out.relw.perm (HP3.out.g.inv.back)).length_eq
        have h2 := runs_len HP3.out.g.inv.back.r
        rw [List.length_map] at h1
        omega)
      clear hxb hX0 f3 d0 d1 d2 hbl HP0
      by_cases h0 : d = 0
      · subst h0
        have hz3 := and3_nat nn
        obtain ⟨r, hr⟩ : ∃ r, r = (nn % 4).toNat := ⟨_, rfl⟩
        have hr3 : r ≤ 3 := by omega
        rw [← hr] at hz3
        clear hr
        go_upto_region 18 with (fail)
        clear hz3 x0 x1 x2
        obtain ⟨t, ht⟩ : ∃ t, t = r + 1 := ⟨_, rfl⟩
        have ht1 : 1 ≤ t := by omega
        rw [show (1 + (r : Int)) = ((t : Nat) : Int) from by omega]
        have Ht := hid ht1
        have ht4 : t ≤ 4 := by omega
        clear ht ht1 hr3
        by_cases hti : takeI l ((t : Nat) : Int) < l.length
        · have Hti := hid hti
          clear hti
          go_wp2_with fail
          refine (sg_take HP3.out.g t Ht.out Hti.out).mono ?_
          rintro e w4 ⟨y, rfl, hy60, hy, hH, hf⟩
          have HH := hid hH
          have hy40 : y ≤ 40 := by omega
          have Z4 := hid (HP3.out.keepz hf)
          have S4 := hid hf.size
          have hty : takeR l ((t : Nat) : Int) = ((y : Int), true) := by rw [takeR_yes Hti.out, ← hy]
          have Hty := hid hty
          clear hH hf hy hy60 hty
          go_wp2_with fail
          refine (ref_take mb fb 40 l F (t : Nat) w4 Z4.out.2 HP3.out.fre (by omega)).mono ?_
          rw [Hty.out]
          rintro e w5 ⟨rfl, hF5, f5⟩
          have HF5 := hid hF5
          have HH5 := hid (HH.out.fr f5 (fun k hk => .inr (.inr hk)) (fun k hk => by rw [hk]; exact HP3.out.n.2.2))
          have Z5 := hid (Z4.out.1.fr f5 fun k hk => (HP3.out.t k hk).2)
          have S5 := hid (Nat.le_trans S4.out f5.size)
          clear hF5 f5 HH Z4 S4
          go_wp2_with fail
          refine (sg_add HH5.out (by omega)).mono ?_
          rintro e w6 ⟨rfl, hG, hf⟩
          have HG6 := hid hG
          have Z6 := hid (Z5.out.fr hf fun k hk hn => hn (.inl hk))
          have F6 := hid (show ∃ F', Rf w6 mb fb F' ∧ Fre 40 (takeL l ((t : Nat) : Int)) F' from by
            obtain ⟨F', a1, a2⟩ := HF5.out
            exact ⟨F', a1.fr hf (fun hn => hn (.inr (.inl rfl))) (fun hn => hn (.inr (.inr rfl))), a2⟩)
          have S6 := hid (Nat.le_trans S5.out hf.size)
          have hfree : has l y = true := by
            have := (take_has HP3.out.g.inv.r.wf ((t : Nat) : Int) Hti.out 0).2 y (btw_iff.2 ⟨by rw [← HH5.out.ha]; exact Nat.le_refl _, by rw [← HH5.out.ha]; have := Ht.out; simp; omega⟩)
            exact this
          have hnk := HP3.out.g.inv.no_key hfree
          have hra := HP3.out.rel.add (n := t) hnk.1 hnk.2
          have HRA := hid hra
          have Hpu := hid (uput_new (u := ⟨y, t, 1⟩) hnk.1)
          have HNl := hid (show N.length ≤ 100000 from by have := HP3.out.rel.len HP3.out.g.inv; omega)
          clear hG hf hfree hnk hra HF5 HH5 Z5 S5
          go_wp2_with fail
          refine (rz_add T rb mb N W w6 Z6.out HNl.out y t Ht.out HRA.out.2 (by omega)).mono ?_
          rintro e w7 ⟨rfl, hZ7, f7⟩
          have HP7 := hid (show Play w1 w7 sb pb rb mb fb (1 + (g + 1)) from by
            obtain ⟨F', a1, a2⟩ := F6.out
            refine PSt.play (HP3.out.next S6.out HG6.out hZ7 (a1.fr f7 (fun h => (HP3.out.t rb HP3.out.z.ts).1 h.symm) (fun h => (HP3.out.t rb HP3.out.z.ts).2 h.symm)) a2 f7 (fun k hk => .inl hk) HRA.out.1 HP3.out.relw ?_) (by omega)
            rw [Hpu.out, List.map_append, List.append_assoc, ← List.append_assoc (H.map Us.r)]
            refine List.Perm.trans ?_ (List.Perm.append_right _ HP3.out.p)
            rw [List.append_assoc]
            exact List.Perm.append_left _ List.perm_append_comm)
          clear hZ7 f7 F6 Z6 S6 HG6 HRA Hpu HNl HP3
          obtain ⟨U9, L9, H9, A9, l9, N9, W9, T9, F9, hP⟩ := HP7.out
          have HP := hid hP
          clear hP
          go_wp2_with fail
          refine (shsame_ok _ _ w1 _ sb pb rb mb 40 _ _ _ _ _ _ _ _ HP.out.g HP.out.z HP.out.rel).mono ?_
          rintro e w8 ⟨rfl, f8⟩
          have HP8 := hid (HP.out.nil f8)
          clear f8 HP
          go_wp2_with fail
          obtain ⟨TR, hTR⟩ := HP8.out.g.rs
          have HTR := hid hTR
          clear hTR
          refine (same_ok TR pb mb fb 40 _ _ w8 HTR.out HP8.out.f HP8.out.fre).mono ?_
          rintro e w9 ⟨rfl, f9⟩
          have HP9 := hid (show Play w1 w9 sb pb rb mb fb (1 + (g + 1)) from PSt.play ⟨_, HP8.out.nil f9⟩ (by omega))
          clear f9 HP8 HTR
          go_wp2_with fail
          go_roundw
          case rel => exact ⟨g + 1, by go_num, by omega, HP9⟩
          case measure => simp [intOf]; omega
        · have Hti := hid hti
          clear hti
          go_wp2_with fail
          refine (sg_takeno HP3.out.g (t : Nat) Hti.out).mono ?_
          rintro e w4 ⟨rfl, hG, hf⟩
          have HG4 := hid hG
          have Z4 := hid (HP3.out.keepz hf)
          have S4 := hid hf.size
          have Hno := hid (takeL_no Hti.out)
          clear hG hf
          go_wp2_with fail
          refine (ref_take mb fb 40 l F (t : Nat) w4 Z4.out.2 HP3.out.fre (by omega)).mono ?_
          rw [Hno.out.1, Hno.out.2]
          rintro e w5 ⟨rfl, hF5, f5⟩
          have HP7 := hid (show Play w1 w5 sb pb rb mb fb (1 + (g + 1)) from by
            obtain ⟨F', a1, a2⟩ := hF5
            exact PSt.play (HP3.out.next S4.out HG4.out ⟨T, Z4.out.1.fr f5 fun k hk => (HP3.out.t k hk).2, fun k hk => .inl hk⟩ a1 a2 f5 (fun k hk => .inr hk) HP3.out.rel HP3.out.relw HP3.out.p) (by omega))
          clear hF5 f5 HG4 Z4 S4 Hno HP3
          obtain ⟨U9, L9, H9, A9, l9, N9, W9, T9, F9, hP⟩ := HP7.out
          have HP := hid hP
          clear hP
          go_wp2_with fail
          refine (shsame_ok _ _ w1 _ sb pb rb mb 40 _ _ _ _ _ _ _ _ HP.out.g HP.out.z HP.out.rel).mono ?_
          rintro e w8 ⟨rfl, f8⟩
          have HP8 := hid (HP.out.nil f8)
          clear f8 HP
          go_wp2_with fail
          obtain ⟨TR, hTR⟩ := HP8.out.g.rs
          have HTR := hid hTR
          clear hTR
          refine (same_ok TR pb mb fb 40 _ _ w8 HTR.out HP8.out.f HP8.out.fre).mono ?_
          rintro e w9 ⟨rfl, f9⟩
          have HP9 := hid (show Play w1 w9 sb pb rb mb fb (1 + (g + 1)) from PSt.play ⟨_, HP8.out.nil f9⟩ (by omega))
          clear f9 HP8 HTR
          go_wp2_with fail
          go_roundw
          case rel => exact ⟨g + 1, by go_num, by omega, HP9⟩
          case measure => simp [intOf]; omega
      by_cases h1 : d = 1
      · subst h1
        have hz3 := and3_nat nn
        obtain ⟨r, hr⟩ : ∃ r, r = (nn % 4).toNat := ⟨_, rfl⟩
        have hr3 : r ≤ 3 := by omega
        rw [← hr] at hz3
        clear hr
        go_upto_region 18 with (fail)
        clear hz3 x0 x1 x2
        obtain ⟨t, ht⟩ : ∃ t, t = r + 1 := ⟨_, rfl⟩
        have ht1 : 1 ≤ t := by omega
        rw [show (1 + (r : Int)) = ((t : Nat) : Int) from by omega]
        have Ht := hid ht1
        have ht4 : t ≤ 4 := by omega
        clear ht ht1 hr3
        by_cases hti : takeI l ((t : Nat) : Int) < l.length
        · have Hti := hid hti
          clear hti
          go_wp2_with fail
          refine (sg_take HP3.out.g t Ht.out Hti.out).mono ?_
          rintro e w4 ⟨y, rfl, hy60, hy, hH, hf⟩
          have HH := hid hH
          have hy40 : y ≤ 40 := by omega
          have Z4 := hid (HP3.out.keepz hf)
          have S4 := hid hf.size
          have hty : takeR l ((t : Nat) : Int) = ((y : Int), true) := by rw [takeR_yes Hti.out, ← hy]
          have Hty := hid hty
          clear hH hf hy hy60 hty
          go_wp2_with fail
          refine (ref_take mb fb 40 l F (t : Nat) w4 Z4.out.2 HP3.out.fre (by omega)).mono ?_
          rw [Hty.out]
          rintro e w5 ⟨rfl, hF5, f5⟩
          have HF5 := hid hF5
          have HH5 := hid (HH.out.fr f5 (fun k hk => .inr (.inr hk)) (fun k hk => by rw [hk]; exact HP3.out.n.2.2))
          have Z5 := hid (Z4.out.1.fr f5 fun k hk => (HP3.out.t k hk).2)
          have S5 := hid (Nat.le_trans S4.out f5.size)
          clear hF5 f5 HH Z4 S4
          go_wp2_with fail
          refine (sg_add HH5.out (by omega)).mono ?_
          rintro e w6 ⟨rfl, hG, hf⟩
          have HG6 := hid hG
          have Z6 := hid (Z5.out.fr hf fun k hk hn => hn (.inl hk))
          have F6 := hid (show ∃ F', Rf w6 mb fb F' ∧ Fre 40 (takeL l ((t : Nat) : Int)) F' from by
            obtain ⟨F', a1, a2⟩ := HF5.out
            exact ⟨F', a1.fr hf (fun hn => hn (.inr (.inl rfl))) (fun hn => hn (.inr (.inr rfl))), a2⟩)
          have S6 := hid (Nat.le_trans S5.out hf.size)
          have hfree : has l y = true := by
            have := (take_has HP3.out.g.inv.r.wf ((t : Nat) : Int) Hti.out 0).2 y (btw_iff.2 ⟨by rw [← HH5.out.ha]; exact Nat.le_refl _, by rw [← HH5.out.ha]; have := Ht.out; simp; omega⟩)
            exact this
          have hnk := HP3.out.g.inv.no_key hfree
          have hra := HP3.out.rel.add (n := t) hnk.1 hnk.2
          have HRA := hid hra
          have Hpu := hid (uput_new (u := ⟨y, t, 1⟩) hnk.1)
          have HNl := hid (show N.length ≤ 100000 from by have := HP3.out.rel.len HP3.out.g.inv; omega)
          clear hG hf hfree hnk hra HF5 HH5 Z5 S5
          go_wp2_with fail
          refine (rz_add T rb mb N W w6 Z6.out HNl.out y t Ht.out HRA.out.2 (by omega)).mono ?_
          rintro e w7 ⟨rfl, hZ7, f7⟩
          have HP7 := hid (show Play w1 w7 sb pb rb mb fb (1 + (g + 1)) from by
            obtain ⟨F', a1, a2⟩ := F6.out
            refine PSt.play (HP3.out.next S6.out HG6.out hZ7 (a1.fr f7 (fun h => (HP3.out.t rb HP3.out.z.ts).1 h.symm) (fun h => (HP3.out.t rb HP3.out.z.ts).2 h.symm)) a2 f7 (fun k hk => .inl hk) HRA.out.1 HP3.out.relw ?_) (by omega)
            rw [Hpu.out, List.map_append, List.append_assoc, ← List.append_assoc (H.map Us.r)]
            refine List.Perm.trans ?_ (List.Perm.append_right _ HP3.out.p)
            rw [List.append_assoc]
            exact List.Perm.append_left _ List.perm_append_comm)
          clear hZ7 f7 F6 Z6 S6 HG6 HRA Hpu HNl HP3
          obtain ⟨U9, L9, H9, A9, l9, N9, W9, T9, F9, hP⟩ := HP7.out
          have HP := hid hP
          clear hP
          go_wp2_with fail
          refine (shsame_ok _ _ w1 _ sb pb rb mb 40 _ _ _ _ _ _ _ _ HP.out.g HP.out.z HP.out.rel).mono ?_
          rintro e w8 ⟨rfl, f8⟩
          have HP8 := hid (HP.out.nil f8)
          clear f8 HP
          go_wp2_with fail
          obtain ⟨TR, hTR⟩ := HP8.out.g.rs
          have HTR := hid hTR
          clear hTR
          refine (same_ok TR pb mb fb 40 _ _ w8 HTR.out HP8.out.f HP8.out.fre).mono ?_
          rintro e w9 ⟨rfl, f9⟩
          have HP9 := hid (show Play w1 w9 sb pb rb mb fb (1 + (g + 1)) from PSt.play ⟨_, HP8.out.nil f9⟩ (by omega))
          clear f9 HP8 HTR
          go_wp2_with fail
          go_roundw
          case rel => exact ⟨g + 1, by go_num, by omega, HP9⟩
          case measure => simp [intOf]; omega
        · have Hti := hid hti
          clear hti
          go_wp2_with fail
          refine (sg_takeno HP3.out.g (t : Nat) Hti.out).mono ?_
          rintro e w4 ⟨rfl, hG, hf⟩
          have HG4 := hid hG
          have Z4 := hid (HP3.out.keepz hf)
          have S4 := hid hf.size
          have Hno := hid (takeL_no Hti.out)
          clear hG hf
          go_wp2_with fail
          refine (ref_take mb fb 40 l F (t : Nat) w4 Z4.out.2 HP3.out.fre (by omega)).mono ?_
          rw [Hno.out.1, Hno.out.2]
          rintro e w5 ⟨rfl, hF5, f5⟩
          have HP7 := hid (show Play w1 w5 sb pb rb mb fb (1 + (g + 1)) from by
            obtain ⟨F', a1, a2⟩ := hF5
            exact PSt.play (HP3.out.next S4.out HG4.out ⟨T, Z4.out.1.fr f5 fun k hk => (HP3.out.t k hk).2, fun k hk => .inl hk⟩ a1 a2 f5 (fun k hk => .inr hk) HP3.out.rel HP3.out.relw HP3.out.p) (by omega))
          clear hF5 f5 HG4 Z4 S4 Hno HP3
          obtain ⟨U9, L9, H9, A9, l9, N9, W9, T9, F9, hP⟩ := HP7.out
          have HP := hid hP
          clear hP
          go_wp2_with fail
          refine (shsame_ok _ _ w1 _ sb pb rb mb 40 _ _ _ _ _ _ _ _ HP.out.g HP.out.z HP.out.rel).mono ?_
          rintro e w8 ⟨rfl, f8⟩
          have HP8 := hid (HP.out.nil f8)
          clear f8 HP
          go_wp2_with fail
          obtain ⟨TR, hTR⟩ := HP8.out.g.rs
          have HTR := hid hTR
          clear hTR
          refine (same_ok TR pb mb fb 40 _ _ w8 HTR.out HP8.out.f HP8.out.fre).mono ?_
          rintro e w9 ⟨rfl, f9⟩
          have HP9 := hid (show Play w1 w9 sb pb rb mb fb (1 + (g + 1)) from PSt.play ⟨_, HP8.out.nil f9⟩ (by omega))
          clear f9 HP8 HTR
          go_wp2_with fail
          go_roundw
          case rel => exact ⟨g + 1, by go_num, by omega, HP9⟩
          case measure => simp [intOf]; omega
      by_cases h2 : d = 2
      · subst h2
        have hz3 := and3_nat nn
        obtain ⟨r, hr⟩ : ∃ r, r = (nn % 4).toNat := ⟨_, rfl⟩
        have hr3 : r ≤ 3 := by omega
        rw [← hr] at hz3
        clear hr
        go_upto_region 18 with (fail)
        clear hz3 x0 x1 x2
        obtain ⟨t, ht⟩ : ∃ t, t = r + 1 := ⟨_, rfl⟩
        have ht1 : 1 ≤ t := by omega
        rw [show (1 + (r : Int)) = ((t : Nat) : Int) from by omega]
        have Ht := hid ht1
        have ht4 : t ≤ 4 := by omega
        clear ht ht1 hr3
        by_cases hti : takeI l ((t : Nat) : Int) < l.length
        · have Hti := hid hti
          clear hti
          go_wp2_with fail
          refine (sg_take HP3.out.g t Ht.out Hti.out).mono ?_
          rintro e w4 ⟨y, rfl, hy60, hy, hH, hf⟩
          have HH := hid hH
          have hy40 : y ≤ 40 := by omega
          have Z4 := hid (HP3.out.keepz hf)
          have S4 := hid hf.size
          have hty : takeR l ((t : Nat) : Int) = ((y : Int), true) := by rw [takeR_yes Hti.out, ← hy]
          have Hty := hid hty
          clear hH hf hy hy60 hty
          go_wp2_with fail
          refine (ref_take mb fb 40 l F (t : Nat) w4 Z4.out.2 HP3.out.fre (by omega)).mono ?_
          rw [Hty.out]
          rintro e w5 ⟨rfl, hF5, f5⟩
          have HF5 := hid hF5
          have HH5 := hid (HH.out.fr f5 (fun k hk => .inr (.inr hk)) (fun k hk => by rw [hk]; exact HP3.out.n.2.2))
          have Z5 := hid (Z4.out.1.fr f5 fun k hk => (HP3.out.t k hk).2)
          have S5 := hid (Nat.le_trans S4.out f5.size)
          clear hF5 f5 HH Z4 S4
          go_wp2_with fail
          refine (sg_add HH5.out (by omega)).mono ?_
          rintro e w6 ⟨rfl, hG, hf⟩
          have HG6 := hid hG
          have Z6 := hid (Z5.out.fr hf fun k hk hn => hn (.inl hk))
          have F6 := hid (show ∃ F', Rf w6 mb fb F' ∧ Fre 40 (takeL l ((t : Nat) : Int)) F' from by
            obtain ⟨F', a1, a2⟩ := HF5.out
            exact ⟨F', a1.fr hf (fun hn => hn (.inr (.inl rfl))) (fun hn => hn (.inr (.inr rfl))), a2⟩)
          have S6 := hid (Nat.le_trans S5.out hf.size)
          have hfree : has l y = true := by
            have := (take_has HP3.out.g.inv.r.wf ((t : Nat) : Int) Hti.out 0).2 y (btw_iff.2 ⟨by rw [← HH5.out.ha]; exact Nat.le_refl _, by rw [← HH5.out.ha]; have := Ht.out; simp; omega⟩)
            exact this
          have hnk := HP3.out.g.inv.no_key hfree
          have hra := HP3.out.rel.add (n := t) hnk.1 hnk.2
          have HRA := hid hra
          have Hpu := hid (uput_new (u := ⟨y, t, 1⟩) hnk.1)
          have HNl := hid (show N.length ≤ 100000 from by have := HP3.out.rel.len HP3.out.g.inv; omega)
          clear hG hf hfree hnk hra HF5 HH5 Z5 S5
          go_wp2_with fail
          refine (rz_add T rb mb N W w6 Z6.out HNl.out y t Ht.out HRA.out.2 (by omega)).mono ?_
          rintro e w7 ⟨rfl, hZ7, f7⟩
          have HP7 := hid (show Play w1 w7 sb pb rb mb fb (1 + (g + 1)) from by
            obtain ⟨F', a1, a2⟩ := F6.out
            refine PSt.play (HP3.out.next S6.out HG6.out hZ7 (a1.fr f7 (fun h => (HP3.out.t rb HP3.out.z.ts).1 h.symm) (fun h => (HP3.out.t rb HP3.out.z.ts).2 h.symm)) a2 f7 (fun k hk => .inl hk) HRA.out.1 HP3.out.relw ?_) (by omega)
            rw [Hpu.out, List.map_append, List.append_assoc, ← List.append_assoc (H.map Us.r)]
            refine List.Perm.trans ?_ (List.Perm.append_right _ HP3.out.p)
            rw [List.append_assoc]
            exact List.Perm.append_left _ List.perm_append_comm)
          clear hZ7 f7 F6 Z6 S6 HG6 HRA Hpu HNl HP3
          obtain ⟨U9, L9, H9, A9, l9, N9, W9, T9, F9, hP⟩ := HP7.out
          have HP := hid hP
          clear hP
          go_wp2_with fail
          refine (shsame_ok _ _ w1 _ sb pb rb mb 40 _ _ _ _ _ _ _ _ HP.out.g HP.out.z HP.out.rel).mono ?_
          rintro e w8 ⟨rfl, f8⟩
          have HP8 := hid (HP.out.nil f8)
          clear f8 HP
          go_wp2_with fail
          obtain ⟨TR, hTR⟩ := HP8.out.g.rs
          have HTR := hid hTR
          clear hTR
          refine (same_ok TR pb mb fb 40 _ _ w8 HTR.out HP8.out.f HP8.out.fre).mono ?_
          rintro e w9 ⟨rfl, f9⟩
          have HP9 := hid (show Play w1 w9 sb pb rb mb fb (1 + (g + 1)) from PSt.play ⟨_, HP8.out.nil f9⟩ (by omega))
          clear f9 HP8 HTR
          go_wp2_with fail
          go_roundw
          case rel => exact ⟨g + 1, by go_num, by omega, HP9⟩
          case measure => simp [intOf]; omega
        · have Hti := hid hti
          clear hti
          go_wp2_with fail
          refine (sg_takeno HP3.out.g (t : Nat) Hti.out).mono ?_
          rintro e w4 ⟨rfl, hG, hf⟩
          have HG4 := hid hG
          have Z4 := hid (HP3.out.keepz hf)
          have S4 := hid hf.size
          have Hno := hid (takeL_no Hti.out)
          clear hG hf
          go_wp2_with fail
          refine (ref_take mb fb 40 l F (t : Nat) w4 Z4.out.2 HP3.out.fre (by omega)).mono ?_
          rw [Hno.out.1, Hno.out.2]
          rintro e w5 ⟨rfl, hF5, f5⟩
          have HP7 := hid (show Play w1 w5 sb pb rb mb fb (1 + (g + 1)) from by
            obtain ⟨F', a1, a2⟩ := hF5
            exact PSt.play (HP3.out.next S4.out HG4.out ⟨T, Z4.out.1.fr f5 fun k hk => (HP3.out.t k hk).2, fun k hk => .inl hk⟩ a1 a2 f5 (fun k hk => .inr hk) HP3.out.rel HP3.out.relw HP3.out.p) (by omega))
          clear hF5 f5 HG4 Z4 S4 Hno HP3
          obtain ⟨U9, L9, H9, A9, l9, N9, W9, T9, F9, hP⟩ := HP7.out
          have HP := hid hP
          clear hP
          go_wp2_with fail
          refine (shsame_ok _ _ w1 _ sb pb rb mb 40 _ _ _ _ _ _ _ _ HP.out.g HP.out.z HP.out.rel).mono ?_
          rintro e w8 ⟨rfl, f8⟩
          have HP8 := hid (HP.out.nil f8)
          clear f8 HP
          go_wp2_with fail
          obtain ⟨TR, hTR⟩ := HP8.out.g.rs
          have HTR := hid hTR
          clear hTR
          refine (same_ok TR pb mb fb 40 _ _ w8 HTR.out HP8.out.f HP8.out.fre).mono ?_
          rintro e w9 ⟨rfl, f9⟩
          have HP9 := hid (show Play w1 w9 sb pb rb mb fb (1 + (g + 1)) from PSt.play ⟨_, HP8.out.nil f9⟩ (by omega))
          clear f9 HP8 HTR
          go_wp2_with fail
          go_roundw
          case rel => exact ⟨g + 1, by go_num, by omega, HP9⟩
          case measure => simp [intOf]; omega
      by_cases h3 : d = 3
      · subst h3
        go_upto_region 24 with (fail)
        have hS : (fun w' : World => w'.cell? ⟨xb, 1, none⟩ = some (.int .i64 a)) W3.drew := x1
        clear x0 x1 x2
        refine wpU_region (k := 9) (S := (fun w' : World => w'.cell? ⟨xb, 1, none⟩ = some (.int .i64 a))) (by kernel_rfl) ?_
        refine wpU_take (i := 0) (v := ?_) rfl (by kernel_rfl) (by kernel_rfl) (fun _ _ _ h => h) _ _ _ _ (by kernel_rfl) (by kernel_rfl) (by kernel_rfl) (Or.inl ⟨by kernel_rfl, ?_⟩) hS ?_
        rotate_left
        · (intro w9 hS9; obtain s0 := hS9; go_simp); (try with_reducible rfl)
        try simp only [Act.put, List.getElem_toArray, List.getElem_cons_succ, List.getElem_cons_zero, List.setIfInBounds_toArray, List.set_cons_zero, List.set_cons_succ]
        refine wpU_take (i := 1) (v := ?_) rfl (by kernel_rfl) (by kernel_rfl) (fun _ _ _ h => h) _ _ _ _ (by kernel_rfl) (by kernel_rfl) (by kernel_rfl) (Or.inl ⟨by kernel_rfl, ?_⟩) hS ?_
        rotate_left
        · (intro w9 hS9; obtain s0 := hS9; go_simp); (try with_reducible rfl)
        try simp only [Act.put, List.getElem_toArray, List.getElem_cons_succ, List.getElem_cons_zero, List.setIfInBounds_toArray, List.set_cons_zero, List.set_cons_succ]
        refine wpU_take (i := 2) (v := ?_) rfl (by kernel_rfl) (by kernel_rfl) (fun _ _ _ h => h) _ _ _ _ (by kernel_rfl) (by kernel_rfl) (by kernel_rfl) (Or.inl ⟨by kernel_rfl, ?_⟩) hS ?_
        rotate_left
        · (intro w9 hS9; obtain s0 := hS9; go_simp); (try with_reducible rfl)
        try simp only [Act.put, List.getElem_toArray, List.getElem_cons_succ, List.getElem_cons_zero, List.setIfInBounds_toArray, List.set_cons_zero, List.set_cons_succ]
        refine wpU_take (i := 4) (v := ?_) rfl (by kernel_rfl) (by kernel_rfl) (fun _ _ _ h => h) _ _ _ _ (by kernel_rfl) (by kernel_rfl) (by kernel_rfl) (Or.inl ⟨by kernel_rfl, ?_⟩) hS ?_
        rotate_left
        · (intro w9 hS9; obtain s0 := hS9; go_simp); (try with_reducible rfl)
        try simp only [Act.put, List.getElem_toArray, List.getElem_cons_succ, List.getElem_cons_zero, List.setIfInBounds_toArray, List.set_cons_zero, List.set_cons_succ]
        refine wpU_take (i := 5) (v := ?_) rfl (by kernel_rfl) (by kernel_rfl) (fun _ _ _ h => h) _ _ _ _ (by kernel_rfl) (by kernel_rfl) (by kernel_rfl) (Or.inl ⟨by kernel_rfl, ?_⟩) hS ?_
        rotate_left
        · (intro w9 hS9; obtain s0 := hS9; go_simp); (try with_reducible rfl)
        try simp only [Act.put, List.getElem_toArray, List.getElem_cons_succ, List.getElem_cons_zero, List.setIfInBounds_toArray, List.set_cons_zero, List.set_cons_succ]
        refine wpU_take (i := 6) (v := ?_) rfl (by kernel_rfl) (by kernel_rfl) (fun _ _ _ h => h) _ _ _ _ (by kernel_rfl) (by kernel_rfl) (by kernel_rfl) (Or.inl ⟨by kernel_rfl, ?_⟩) hS ?_
        rotate_left
        · (intro w9 hS9; obtain s0 := hS9; go_simp); (try with_reducible rfl)
        try simp only [Act.put, List.getElem_toArray, List.getElem_cons_succ, List.getElem_cons_zero, List.setIfInBounds_toArray, List.set_cons_zero, List.set_cons_succ]
        refine wpU_next (i := 3) rfl (by kernel_rfl) (fun K hK => ?_)
        go_simp
        refine (sg_more (HGX.out.nil (Fr.refl _ _).drew) a (wf_i64 Ba.out) (by omega)).mono ?_
        rintro e w4 ⟨rfl, hG, hf⟩
        have hf' : Fr (fun k => ¬ Qz T mb fb k) W3.drew w4 := hf.mono fun k hk h => hk (.inl h)
        have HG4 := hid (show Sg (Qz T mb fb) _ _ _ _ _ _ _ _ _ _ _ from hG.fr (S := Nil) (Fr.refl _ _) (fun k h => h.elim) (fun k h => h.elim) fun k hk => ⟨.inl (.inl hk), by obtain ⟨V, g1, g2, g3, g4, g5⟩ := hG; exact g4 k (.inl hk)⟩)
        have Z4 := hid ((HP3.out.nil (Fr.refl _ _).drew).keepz hf')
        have S4 := hid (show W3.heap.size ≤ w4.heap.size from hf.size)
        have hS4 : (fun w' : World => w'.cell? ⟨xb, 1, none⟩ = some (.int .i64 a)) w4 := (HX.out.drew.fr hf fun h => h (.inr rfl)).cell 1
        clear hG hf hS hf'
        refine hK.out _ _ (fun _ => hS4) ?_
        clear hK K
        try simp only [Act.put, List.getElem_toArray, List.getElem_cons_succ, List.getElem_cons_zero, List.setIfInBounds_toArray, List.set_cons_zero, List.set_cons_succ]
        refine wpU_next (i := 7) rfl (by kernel_rfl) (fun K hK => ?_)
        go_simp
        refine (rz_more T rb mb N W w4 Z4.out.1 HNl.out HNk.out a).mono ?_
        rw [HP3.out.rel.chg HP3.out.g.inv a]
        rintro e w5 ⟨rfl, hZ5, f5⟩
        have HP7 := hid (show Play w1 w5 sb pb rb mb fb (1 + (g + 1)) from
          PSt.play (HP3.out.next S4.out HG4.out hZ5 (Z4.out.2.fr f5 (fun h => (HP3.out.t rb HP3.out.z.ts).1 h.symm) (fun h => (HP3.out.t rb HP3.out.z.ts).2 h.symm)) HP3.out.fre f5 (fun k hk => .inl hk) (HP3.out.rel.more HP3.out.g.inv a) HP3.out.relw (by rw [HP3.out.g.inv.more_runs a]; exact HP3.out.p)) (by omega))
        have hS5 : (fun w' : World => w'.cell? ⟨xb, 1, none⟩ = some (.int .i64 a)) w5 := f5.cell hS4 fun (h : xb = rb) => Hxr.out h
        clear hZ5 f5 HG4 Z4 S4 hS4
        refine hK.out _ _ (fun _ => hS5) ?_
        clear hK K
        try simp only [Act.put, List.getElem_toArray, List.getElem_cons_succ, List.getElem_cons_zero, List.setIfInBounds_toArray, List.set_cons_zero, List.set_cons_succ]
        refine wpU_next (i := 8) rfl (by kernel_rfl) (fun K hK => ?_)
        go_simp
        refine hK.out _ _ (fun _ => hS5) ?_
        clear hK K
        try simp only [Act.put, List.getElem_toArray, List.getElem_cons_succ, List.getElem_cons_zero, List.setIfInBounds_toArray, List.set_cons_zero, List.set_cons_succ]
        refine wpU_next (i := 9) rfl (by kernel_rfl) (fun K hK => ?_)
        go_simp
        refine hK.out _ _ (fun h => absurd rfl h.1) ?_
        refine wpU_done (by kernel_rfl) ?_ _
        clear hK K
        clear hS5 HP3 HGX
        obtain ⟨U9, L9, H9, A9, l9, N9, W9, T9, F9, hP⟩ := HP7.out
        have HP := hid hP
        clear hP
        go_wp2_with fail
        refine (shsame_ok _ _ w1 _ sb pb rb mb 40 _ _ _ _ _ _ _ _ HP.out.g HP.out.z HP.out.rel).mono ?_
        rintro e w8 ⟨rfl, f8⟩
        have HP8 := hid (HP.out.nil f8)
        clear f8 HP
        go_wp2_with fail
        obtain ⟨TR, hTR⟩ := HP8.out.g.rs
        have HTR := hid hTR
        clear hTR
        refine (same_ok TR pb mb fb 40 _ _ w8 HTR.out HP8.out.f HP8.out.fre).mono ?_
        rintro e w9 ⟨rfl, f9⟩
        have HP9 := hid (show Play w1 w9 sb pb rb mb fb (1 + (g + 1)) from PSt.play ⟨_, HP8.out.nil f9⟩ (by omega))
        clear f9 HP8 HTR
        go_wp2_with fail
        go_roundw
        case rel => exact ⟨g + 1, by go_num, by omega, HP9⟩
        case measure => simp [intOf]; omega
      by_cases h4 : d = 4
      · subst h4
        go_upto_region 27 with (fail)
        have hS : (fun w' : World => w'.cell? ⟨xb, 1, none⟩ = some (.int .i64 a)) W3.drew := x1
        clear x0 x1 x2
        refine wpU_region (k := 9) (S := (fun w' : World => w'.cell? ⟨xb, 1, none⟩ = some (.int .i64 a))) (by kernel_rfl) ?_
        refine wpU_take (i := 0) (v := ?_) rfl (by kernel_rfl) (by kernel_rfl) (fun _ _ _ h => h) _ _ _ _ (by kernel_rfl) (by kernel_rfl) (by kernel_rfl) (Or.inl ⟨by kernel_rfl, ?_⟩) hS ?_
        rotate_left
        · (intro w9 hS9; obtain s0 := hS9; go_simp); (try with_reducible rfl)
        try simp only [Act.put, List.getElem_toArray, List.getElem_cons_succ, List.getElem_cons_zero, List.setIfInBounds_toArray, List.set_cons_zero, List.set_cons_succ]
        refine wpU_take (i := 1) (v := ?_) rfl (by kernel_rfl) (by kernel_rfl) (fun _ _ _ h => h) _ _ _ _ (by kernel_rfl) (by kernel_rfl) (by kernel_rfl) (Or.inl ⟨by kernel_rfl, ?_⟩) hS ?_
        rotate_left
        · (intro w9 hS9; obtain s0 := hS9; go_simp); (try with_reducible rfl)
        try simp only [Act.put, List.getElem_toArray, List.getElem_cons_succ, List.getElem_cons_zero, List.setIfInBounds_toArray, List.set_cons_zero, List.set_cons_succ]
        refine wpU_take (i := 2) (v := ?_) rfl (by kernel_rfl) (by kernel_rfl) (fun _ _ _ h => h) _ _ _ _ (by kernel_rfl) (by kernel_rfl) (by kernel_rfl) (Or.inl ⟨by kernel_rfl, ?_⟩) hS ?_
        rotate_left
        · (intro w9 hS9; obtain s0 := hS9; go_simp); (try with_reducible rfl)
        try simp only [Act.put, List.getElem_toArray, List.getElem_cons_succ, List.getElem_cons_zero, List.setIfInBounds_toArray, List.set_cons_zero, List.set_cons_succ]
        refine wpU_take (i := 4) (v := ?_) rfl (by kernel_rfl) (by kernel_rfl) (fun _ _ _ h => h) _ _ _ _ (by kernel_rfl) (by kernel_rfl) (by kernel_rfl) (Or.inl ⟨by kernel_rfl, ?_⟩) hS ?_
        rotate_left
        · (intro w9 hS9; obtain s0 := hS9; go_simp); (try with_reducible rfl)
        try simp only [Act.put, List.getElem_toArray, List.getElem_cons_succ, List.getElem_cons_zero, List.setIfInBounds_toArray, List.set_cons_zero, List.set_cons_succ]
        refine wpU_take (i := 5) (v := ?_) rfl (by kernel_rfl) (by kernel_rfl) (fun _ _ _ h => h) _ _ _ _ (by kernel_rfl) (by kernel_rfl) (by kernel_rfl) (Or.inl ⟨by kernel_rfl, ?_⟩) hS ?_
        rotate_left
        · (intro w9 hS9; obtain s0 := hS9; go_simp); (try with_reducible rfl)
        try simp only [Act.put, List.getElem_toArray, List.getElem_cons_succ, List.getElem_cons_zero, List.setIfInBounds_toArray, List.set_cons_zero, List.set_cons_succ]
        refine wpU_take (i := 6) (v := ?_) rfl (by kernel_rfl) (by kernel_rfl) (fun _ _ _ h => h) _ _ _ _ (by kernel_rfl) (by kernel_rfl) (by kernel_rfl) (Or.inl ⟨by kernel_rfl, ?_⟩) hS ?_
        rotate_left
        · (intro w9 hS9; obtain s0 := hS9; go_simp); (try with_reducible rfl)
        try simp only [Act.put, List.getElem_toArray, List.getElem_cons_succ, List.getElem_cons_zero, List.setIfInBounds_toArray, List.set_cons_zero, List.set_cons_succ]
        refine wpU_next (i := 3) rfl (by kernel_rfl) (fun K hK => ?_)
        go_simp
        refine (sg_less (HGX.out.nil (Fr.refl _ _).drew) a (wf_i64 Ba.out) (by omega)).mono ?_
        rintro e w4 ⟨rfl, hG, hf⟩
        have hf' : Fr (fun k => ¬ Qz T mb fb k) W3.drew w4 := hf.mono fun k hk h => hk (.inl h)
        have HG4 := hid (show Sg (Qz T mb fb) _ _ _ _ _ _ _ _ _ _ _ from hG.fr (S := Nil) (Fr.refl _ _) (fun k h => h.elim) (fun k h => h.elim) fun k hk => ⟨.inl (.inl hk), by obtain ⟨V, g1, g2, g3, g4, g5⟩ := hG; exact g4 k (.inl hk)⟩)
        have Z4 := hid ((HP3.out.nil (Fr.refl _ _).drew).keepz hf')
        have S4 := hid (show W3.heap.size ≤ w4.heap.size from hf.size)
        have hS4 : (fun w' : World => w'.cell? ⟨xb, 1, none⟩ = some (.int .i64 a)) w4 := (HX.out.drew.fr hf fun h => h (.inr rfl)).cell 1
        clear hG hf hS hf'
        refine hK.out _ _ (fun _ => hS4) ?_
        clear hK K
        try simp only [Act.put, List.getElem_toArray, List.getElem_cons_succ, List.getElem_cons_zero, List.setIfInBounds_toArray, List.set_cons_zero, List.set_cons_succ]
        refine wpU_next (i := 7) rfl (by kernel_rfl) (fun K hK => ?_)
        go_simp
        refine (rz_less T rb mb N W w4 Z4.out.1 HNl.out HNk.out a).mono ?_
        rw [HP3.out.rel.chg HP3.out.g.inv a]
        rintro e w5 ⟨rfl, hZ5, f5⟩
        have HP7 := hid (show Play w1 w5 sb pb rb mb fb (1 + (g + 1)) from
          PSt.play (HP3.out.next S4.out HG4.out hZ5 (Z4.out.2.fr f5 (fun h => (HP3.out.t rb HP3.out.z.ts).1 h.symm) (fun h => (HP3.out.t rb HP3.out.z.ts).2 h.symm)) HP3.out.fre f5 (fun k hk => .inl hk) (HP3.out.rel.less HP3.out.g.inv a) HP3.out.relw ((HP3.out.g.inv.less_runs a).trans HP3.out.p)) (by omega))
        have hS5 : (fun w' : World => w'.cell? ⟨xb, 1, none⟩ = some (.int .i64 a)) w5 := f5.cell hS4 fun (h : xb = rb) => Hxr.out h
        clear hZ5 f5 HG4 Z4 S4 hS4
        refine hK.out _ _ (fun _ => hS5) ?_
        clear hK K
        try simp only [Act.put, List.getElem_toArray, List.getElem_cons_succ, List.getElem_cons_zero, List.setIfInBounds_toArray, List.set_cons_zero, List.set_cons_succ]
        refine wpU_next (i := 8) rfl (by kernel_rfl) (fun K hK => ?_)
        go_simp
        refine hK.out _ _ (fun _ => hS5) ?_
        clear hK K
        try simp only [Act.put, List.getElem_toArray, List.getElem_cons_succ, List.getElem_cons_zero, List.setIfInBounds_toArray, List.set_cons_zero, List.set_cons_succ]
        refine wpU_next (i := 9) rfl (by kernel_rfl) (fun K hK => ?_)
        go_simp
        refine hK.out _ _ (fun h => absurd rfl h.1) ?_
        refine wpU_done (by kernel_rfl) ?_ _
        clear hK K
        clear hS5 HP3 HGX
        obtain ⟨U9, L9, H9, A9, l9, N9, W9, T9, F9, hP⟩ := HP7.out
        have HP := hid hP
        clear hP
        go_wp2_with fail
        refine (shsame_ok _ _ w1 _ sb pb rb mb 40 _ _ _ _ _ _ _ _ HP.out.g HP.out.z HP.out.rel).mono ?_
        rintro e w8 ⟨rfl, f8⟩
        have HP8 := hid (HP.out.nil f8)
        clear f8 HP
        go_wp2_with fail
        obtain ⟨TR, hTR⟩ := HP8.out.g.rs
        have HTR := hid hTR
        clear hTR
        refine (same_ok TR pb mb fb 40 _ _ w8 HTR.out HP8.out.f HP8.out.fre).mono ?_
        rintro e w9 ⟨rfl, f9⟩
        have HP9 := hid (show Play w1 w9 sb pb rb mb fb (1 + (g + 1)) from PSt.play ⟨_, HP8.out.nil f9⟩ (by omega))
        clear f9 HP8 HTR
        go_wp2_with fail
        go_roundw
        case rel => exact ⟨g + 1, by go_num, by omega, HP9⟩
        case measure => simp [intOf]; omega
      by_cases h5 : d = 5
      · subst h5
        go_upto_region 27 with (fail)
        have hS : (fun w' : World => w'.cell? ⟨xb, 1, none⟩ = some (.int .i64 a)) W3.drew := x1
        clear x0 x1 x2
        refine wpU_region (k := 9) (S := (fun w' : World => w'.cell? ⟨xb, 1, none⟩ = some (.int .i64 a))) (by kernel_rfl) ?_
        refine wpU_take (i := 0) (v := ?_) rfl (by kernel_rfl) (by kernel_rfl) (fun _ _ _ h => h) _ _ _ _ (by kernel_rfl) (by kernel_rfl) (by kernel_rfl) (Or.inl ⟨by kernel_rfl, ?_⟩) hS ?_
        rotate_left
        · (intro w9 hS9; obtain s0 := hS9; go_simp); (try with_reducible rfl)
        try simp only [Act.put, List.getElem_toArray, List.getElem_cons_succ, List.getElem_cons_zero, List.setIfInBounds_toArray, List.set_cons_zero, List.set_cons_succ]
        refine wpU_take (i := 1) (v := ?_) rfl (by kernel_rfl) (by kernel_rfl) (fun _ _ _ h => h) _ _ _ _ (by kernel_rfl) (by kernel_rfl) (by kernel_rfl) (Or.inl ⟨by kernel_rfl, ?_⟩) hS ?_
        rotate_left
        · (intro w9 hS9; obtain s0 := hS9; go_simp); (try with_reducible rfl)
        try simp only [Act.put, List.getElem_toArray, List.getElem_cons_succ, List.getElem_cons_zero, List.setIfInBounds_toArray, List.set_cons_zero, List.set_cons_succ]
        refine wpU_take (i := 2) (v := ?_) rfl (by kernel_rfl) (by kernel_rfl) (fun _ _ _ h => h) _ _ _ _ (by kernel_rfl) (by kernel_rfl) (by kernel_rfl) (Or.inl ⟨by kernel_rfl, ?_⟩) hS ?_
        rotate_left
        · (intro w9 hS9; obtain s0 := hS9; go_simp); (try with_reducible rfl)
        try simp only [Act.put, List.getElem_toArray, List.getElem_cons_succ, List.getElem_cons_zero, List.setIfInBounds_toArray, List.set_cons_zero, List.set_cons_succ]
        refine wpU_take (i := 4) (v := ?_) rfl (by kernel_rfl) (by kernel_rfl) (fun _ _ _ h => h) _ _ _ _ (by kernel_rfl) (by kernel_rfl) (by kernel_rfl) (Or.inl ⟨by kernel_rfl, ?_⟩) hS ?_
        rotate_left
        · (intro w9 hS9; obtain s0 := hS9; go_simp); (try with_reducible rfl)
        try simp only [Act.put, List.getElem_toArray, List.getElem_cons_succ, List.getElem_cons_zero, List.setIfInBounds_toArray, List.set_cons_zero, List.set_cons_succ]
        refine wpU_take (i := 5) (v := ?_) rfl (by kernel_rfl) (by kernel_rfl) (fun _ _ _ h => h) _ _ _ _ (by kernel_rfl) (by kernel_rfl) (by kernel_rfl) (Or.inl ⟨by kernel_rfl, ?_⟩) hS ?_
        rotate_left
        · (intro w9 hS9; obtain s0 := hS9; go_simp); (try with_reducible rfl)
        try simp only [Act.put, List.getElem_toArray, List.getElem_cons_succ, List.getElem_cons_zero, List.setIfInBounds_toArray, List.set_cons_zero, List.set_cons_succ]
        refine wpU_take (i := 6) (v := ?_) rfl (by kernel_rfl) (by kernel_rfl) (fun _ _ _ h => h) _ _ _ _ (by kernel_rfl) (by kernel_rfl) (by kernel_rfl) (Or.inl ⟨by kernel_rfl, ?_⟩) hS ?_
        rotate_left
        · (intro w9 hS9; obtain s0 := hS9; go_simp); (try with_reducible rfl)
        try simp only [Act.put, List.getElem_toArray, List.getElem_cons_succ, List.getElem_cons_zero, List.setIfInBounds_toArray, List.set_cons_zero, List.set_cons_succ]
        refine wpU_next (i := 3) rfl (by kernel_rfl) (fun K hK => ?_)
        go_simp
        refine (sg_less (HGX.out.nil (Fr.refl _ _).drew) a (wf_i64 Ba.out) (by omega)).mono ?_
        rintro e w4 ⟨rfl, hG, hf⟩
        have hf' : Fr (fun k => ¬ Qz T mb fb k) W3.drew w4 := hf.mono fun k hk h => hk (.inl h)
        have HG4 := hid (show Sg (Qz T mb fb) _ _ _ _ _ _ _ _ _ _ _ from hG.fr (S := Nil) (Fr.refl _ _) (fun k h => h.elim) (fun k h => h.elim) fun k hk => ⟨.inl (.inl hk), by obtain ⟨V, g1, g2, g3, g4, g5⟩ := hG; exact g4 k (.inl hk)⟩)
        have Z4 := hid ((HP3.out.nil (Fr.refl _ _).drew).keepz hf')
        have S4 := hid (show W3.heap.size ≤ w4.heap.size from hf.size)
        have hS4 : (fun w' : World => w'.cell? ⟨xb, 1, none⟩ = some (.int .i64 a)) w4 := (HX.out.drew.fr hf fun h => h (.inr rfl)).cell 1
        clear hG hf hS hf'
        refine hK.out _ _ (fun _ => hS4) ?_
        clear hK K
        try simp only [Act.put, List.getElem_toArray, List.getElem_cons_succ, List.getElem_cons_zero, List.setIfInBounds_toArray, List.set_cons_zero, List.set_cons_succ]
        refine wpU_next (i := 7) rfl (by kernel_rfl) (fun K hK => ?_)
        go_simp
        refine (rz_less T rb mb N W w4 Z4.out.1 HNl.out HNk.out a).mono ?_
        rw [HP3.out.rel.chg HP3.out.g.inv a]
        rintro e w5 ⟨rfl, hZ5, f5⟩
        have HP7 := hid (show Play w1 w5 sb pb rb mb fb (1 + (g + 1)) from
          PSt.play (HP3.out.next S4.out HG4.out hZ5 (Z4.out.2.fr f5 (fun h => (HP3.out.t rb HP3.out.z.ts).1 h.symm) (fun h => (HP3.out.t rb HP3.out.z.ts).2 h.symm)) HP3.out.fre f5 (fun k hk => .inl hk) (HP3.out.rel.less HP3.out.g.inv a) HP3.out.relw ((HP3.out.g.inv.less_runs a).trans HP3.out.p)) (by omega))
        have hS5 : (fun w' : World => w'.cell? ⟨xb, 1, none⟩ = some (.int .i64 a)) w5 := f5.cell hS4 fun (h : xb = rb) => Hxr.out h
        clear hZ5 f5 HG4 Z4 S4 hS4
        refine hK.out _ _ (fun _ => hS5) ?_
        clear hK K
        try simp only [Act.put, List.getElem_toArray, List.getElem_cons_succ, List.getElem_cons_zero, List.setIfInBounds_toArray, List.set_cons_zero, List.set_cons_succ]
        refine wpU_next (i := 8) rfl (by kernel_rfl) (fun K hK => ?_)
        go_simp
        refine hK.out _ _ (fun _ => hS5) ?_
        clear hK K
        try simp only [Act.put, List.getElem_toArray, List.getElem_cons_succ, List.getElem_cons_zero, List.setIfInBounds_toArray, List.set_cons_zero, List.set_cons_succ]
        refine wpU_next (i := 9) rfl (by kernel_rfl) (fun K hK => ?_)
        go_simp
        refine hK.out _ _ (fun h => absurd rfl h.1) ?_
        refine wpU_done (by kernel_rfl) ?_ _
        clear hK K
        clear hS5 HP3 HGX
        obtain ⟨U9, L9, H9, A9, l9, N9, W9, T9, F9, hP⟩ := HP7.out
        have HP := hid hP
        clear hP
        go_wp2_with fail
        refine (shsame_ok _ _ w1 _ sb pb rb mb 40 _ _ _ _ _ _ _ _ HP.out.g HP.out.z HP.out.rel).mono ?_
        rintro e w8 ⟨rfl, f8⟩
        have HP8 := hid (HP.out.nil f8)
        clear f8 HP
        go_wp2_with fail
        obtain ⟨TR, hTR⟩ := HP8.out.g.rs
        have HTR := hid hTR
        clear hTR
        refine (same_ok TR pb mb fb 40 _ _ w8 HTR.out HP8.out.f HP8.out.fre).mono ?_
        rintro e w9 ⟨rfl, f9⟩
        have HP9 := hid (show Play w1 w9 sb pb rb mb fb (1 + (g + 1)) from PSt.play ⟨_, HP8.out.nil f9⟩ (by omega))
        clear f9 HP8 HTR
        go_wp2_with fail
        go_roundw
        case rel => exact ⟨g + 1, by go_num, by omega, HP9⟩
        case measure => simp [intOf]; omega
      by_cases h6 : d = 6
      · subst h6
        clear x1 x2
        go_wp2_with fail
        refine (sg_settle HP3.out.g).mono ?_
        rintro e w4 ⟨rfl, hG, hf⟩
        have HG4 := hid hG
        have Z4 := hid (HP3.out.keepz hf)
        have S4 := hid hf.size
        clear hG hf
        go_wp2_with fail
        refine (rz_settle T rb mb fb 40 N W l F w4 Z4.out.1 Z4.out.2 HP3.out.fre HP3.out.t (by have := HP3.out.rel.len HP3.out.g.inv; omega) (fun u hu => by have := HP3.out.rel.bd HP3.out.g.inv u hu; omega)).mono ?_
        rw [HP3.out.rel.late HP3.out.g.inv]
        rintro e w5 ⟨rfl, hZ5, hF5, f5⟩
        have HP7 := hid (show Play w1 w5 sb pb rb mb fb (1 + (g + 1)) from by
          obtain ⟨F', a1, a2⟩ := hF5
          exact PSt.play (HP3.out.next S4.out HG4.out hZ5 a1 a2 f5 (fun k hk => hk) (HP3.out.rel.settle HP3.out.g.inv) (HP3.out.rel.settle HP3.out.g.inv) (by simp)) (by omega))
        clear hZ5 hF5 f5 HG4 Z4 S4 HP3
        obtain ⟨U9, L9, H9, A9, l9, N9, W9, T9, F9, hP⟩ := HP7.out
        have HP := hid hP
        clear hP
        go_wp2_with fail
        refine (shsame_ok _ _ w1 _ sb pb rb mb 40 _ _ _ _ _ _ _ _ HP.out.g HP.out.z HP.out.rel).mono ?_
        rintro e w8 ⟨rfl, f8⟩
        have HP8 := hid (HP.out.nil f8)
        clear f8 HP
        go_wp2_with fail
        obtain ⟨TR, hTR⟩ := HP8.out.g.rs
        have HTR := hid hTR
        clear hTR
        refine (same_ok TR pb mb fb 40 _ _ w8 HTR.out HP8.out.f HP8.out.fre).mono ?_
        rintro e w9 ⟨rfl, f9⟩
        have HP9 := hid (show Play w1 w9 sb pb rb mb fb (1 + (g + 1)) from PSt.play ⟨_, HP8.out.nil f9⟩ (by omega))
        clear f9 HP8 HTR
        go_wp2_with fail
        go_roundw
        case rel => exact ⟨g + 1, by go_num, by omega, HP9⟩
        case measure => simp [intOf]; omega
      by_cases h7 : d = 7
      · subst h7
        clear x1 x2
        go_wp2_with fail
        refine (sg_back HP3.out.g).mono ?_
        rintro e w4 ⟨rfl, hG, hf⟩
        have HG4 := hid hG
        have Z4 := hid (HP3.out.keepz hf)
        have S4 := hid hf.size
        clear hG hf
        go_wp2_with fail
        refine (rz_back T rb mb fb 40 N W l F w4 Z4.out.1 Z4.out.2 HP3.out.fre HP3.out.t (by have := HP3.out.rel.len HP3.out.g.inv; omega) (HWl.out) (fun u hu => by have := HP3.out.rel.bd HP3.out.g.inv u hu; omega)).mono ?_
        rw [HP3.out.rel.back HP3.out.g.inv HP3.out.relw HP3.out.p]
        rintro e w5 ⟨rfl, hZ5, hF5, f5⟩
        have HP7 := hid (show Play w1 w5 sb pb rb mb fb (1 + (g + 1)) from by
          obtain ⟨F', a1, a2⟩ := hF5
          exact PSt.play (HP3.out.next S4.out HG4.out hZ5 a1 a2 f5 (fun k hk => hk) HP3.out.relw HP3.out.relw (by simp)) (by omega))
        clear hZ5 hF5 f5 HG4 Z4 S4 HP3
        obtain ⟨U9, L9, H9, A9, l9, N9, W9, T9, F9, hP⟩ := HP7.out
        have HP := hid hP
        clear hP
        go_wp2_with fail
        refine (shsame_ok _ _ w1 _ sb pb rb mb 40 _ _ _ _ _ _ _ _ HP.out.g HP.out.z HP.out.rel).mono ?_
        rintro e w8 ⟨rfl, f8⟩
        have HP8 := hid (HP.out.nil f8)
        clear f8 HP
        go_wp2_with fail
        obtain ⟨TR, hTR⟩ := HP8.out.g.rs
        have HTR := hid hTR
        clear hTR
        refine (same_ok TR pb mb fb 40 _ _ w8 HTR.out HP8.out.f HP8.out.fre).mono ?_
        rintro e w9 ⟨rfl, f9⟩
        have HP9 := hid (show Play w1 w9 sb pb rb mb fb (1 + (g + 1)) from PSt.play ⟨_, HP8.out.nil f9⟩ (by omega))
        clear f9 HP8 HTR
        go_wp2_with fail
        go_roundw
        case rel => exact ⟨g + 1, by go_num, by omega, HP9⟩
        case measure => simp [intOf]; omega
      by_cases h8 : d = 8
      · subst h8
        by_cases c1 : 0 < nn
        · by_cases c2 : 0 ≤ a
          · by_cases c3 : usesI U a = 0
            · have HC3 := hid (show usesI N a = 0 from by rw [HP3.out.rel.uses HP3.out.g.inv]; exact c3)
              clear c3
              go_wp2_with fail
              refine (rz_uses T rb mb N W W3 HP3.out.z HNl.out a).mono ?_
              rintro e w4 ⟨rfl, rfl⟩
              rw [HC3.out]
              go_wp2_with fail
              go_roundw
              case rel => exact ⟨g + 1, by go_num, by omega, hid (PSt.play ⟨_, HP3.out⟩ (by omega))⟩
              case measure => simp [intOf]; omega
            · have HC3 := hid (show usesI N a = usesI U a from HP3.out.rel.uses HP3.out.g.inv a)
              have Hfin := hid (show fineI U L a nn = false from by unfold fineI; simp [c3])
              have Hbad := hid (show nn < 1 ∨ a < 0 ∨ atN N a < N.length from .inr (.inr (Classical.byContradiction fun h => c3 (by rw [← HC3.out]; exact (usesI_no h).1))))
              obtain ⟨x, hx⟩ : ∃ x, x = usesI U a := ⟨_, rfl⟩
              have Hx := hid hx
              have hx0 : (((x : Nat) : Int) == 0) = false := by simp; omega
              clear c3 hx
              go_wp2_with fail
              refine (rz_uses T rb mb N W W3 HP3.out.z HNl.out a).mono ?_
              rintro e w4 ⟨rfl, rfl⟩
              rw [HC3.out, ← Hx.out]
              go_upto_region 35 with (fail)
              clear hx0
              have hS : (fun w' : World => w'.cell? ⟨xb, 1, none⟩ = some (.int .i64 a) ∧ w'.cell? ⟨xb, 2, none⟩ = some (.int .i64 nn)) W3.drew := ⟨x1, x2⟩
              clear x0 x1 x2
              refine wpU_region (k := 15) (S := (fun w' : World => w'.cell? ⟨xb, 1, none⟩ = some (.int .i64 a) ∧ w'.cell? ⟨xb, 2, none⟩ = some (.int .i64 nn))) (by kernel_rfl) ?_
              refine wpU_take (i := 0) (v := ?_) rfl (by kernel_rfl) (by kernel_rfl) (fun _ _ _ h => h) _ _ _ _ (by kernel_rfl) (by kernel_rfl) (by kernel_rfl) (Or.inl ⟨by kernel_rfl, ?_⟩) hS ?_
              rotate_left
              · (intro w9 hS9; obtain ⟨s0, s1⟩ := hS9; go_simp); (try with_reducible rfl)
              try simp only [Act.put, List.getElem_toArray, List.getElem_cons_succ, List.getElem_cons_zero, List.setIfInBounds_toArray, List.set_cons_zero, List.set_cons_succ]
              refine wpU_take (i := 1) (v := ?_) rfl (by kernel_rfl) (by kernel_rfl) (fun _ _ _ h => h) _ _ _ _ (by kernel_rfl) (by kernel_rfl) (by kernel_rfl) (Or.inl ⟨by kernel_rfl, ?_⟩) hS ?_
              rotate_left
              · (intro w9 hS9; obtain ⟨s0, s1⟩ := hS9; go_simp); (try with_reducible rfl)
              try simp only [Act.put, List.getElem_toArray, List.getElem_cons_succ, List.getElem_cons_zero, List.setIfInBounds_toArray, List.set_cons_zero, List.set_cons_succ]
              refine wpU_take (i := 2) (v := ?_) rfl (by kernel_rfl) (by kernel_rfl) (fun _ _ _ h => h) _ _ _ _ (by kernel_rfl) (by kernel_rfl) (by kernel_rfl) (Or.inl ⟨by kernel_rfl, ?_⟩) hS ?_
              rotate_left
              · (intro w9 hS9; obtain ⟨s0, s1⟩ := hS9; go_simp); (try with_reducible rfl)
              try simp only [Act.put, List.getElem_toArray, List.getElem_cons_succ, List.getElem_cons_zero, List.setIfInBounds_toArray, List.set_cons_zero, List.set_cons_succ]
              refine wpU_take (i := 3) (v := ?_) rfl (by kernel_rfl) (by kernel_rfl) (fun _ _ _ h => h) _ _ _ _ (by kernel_rfl) (by kernel_rfl) (by kernel_rfl) (Or.inl ⟨by kernel_rfl, ?_⟩) hS ?_
              rotate_left
              · (intro w9 hS9; obtain ⟨s0, s1⟩ := hS9; go_simp); (try with_reducible rfl)
              try simp only [Act.put, List.getElem_toArray, List.getElem_cons_succ, List.getElem_cons_zero, List.setIfInBounds_toArray, List.set_cons_zero, List.set_cons_succ]
              refine wpU_take (i := 4) (v := ?_) rfl (by kernel_rfl) (by kernel_rfl) (fun _ _ _ h => h) _ _ _ _ (by kernel_rfl) (by kernel_rfl) (by kernel_rfl) (Or.inl ⟨by kernel_rfl, ?_⟩) hS ?_
              rotate_left
              · (intro w9 hS9; obtain ⟨s0, s1⟩ := hS9; go_simp); (try with_reducible rfl)
              try simp only [Act.put, List.getElem_toArray, List.getElem_cons_succ, List.getElem_cons_zero, List.setIfInBounds_toArray, List.set_cons_zero, List.set_cons_succ]
              refine wpU_take (i := 5) (v := ?_) rfl (by kernel_rfl) (by kernel_rfl) (fun _ _ _ h => h) _ _ _ _ (by kernel_rfl) (by kernel_rfl) (by kernel_rfl) (Or.inl ⟨by kernel_rfl, ?_⟩) hS ?_
              rotate_left
              · (intro w9 hS9; obtain ⟨s0, s1⟩ := hS9; go_simp); (try with_reducible rfl)
              try simp only [Act.put, List.getElem_toArray, List.getElem_cons_succ, List.getElem_cons_zero, List.setIfInBounds_toArray, List.set_cons_zero, List.set_cons_succ]
              refine wpU_take (i := 7) (v := ?_) rfl (by kernel_rfl) (by kernel_rfl) (fun _ _ _ h => h) _ _ _ _ (by kernel_rfl) (by kernel_rfl) (by kernel_rfl) (Or.inl ⟨by kernel_rfl, ?_⟩) hS ?_
              rotate_left
              · (intro w9 hS9; obtain ⟨s0, s1⟩ := hS9; go_simp); (try with_reducible rfl)
              try simp only [Act.put, List.getElem_toArray, List.getElem_cons_succ, List.getElem_cons_zero, List.setIfInBounds_toArray, List.set_cons_zero, List.set_cons_succ]
              refine wpU_take (i := 8) (v := ?_) rfl (by kernel_rfl) (by kernel_rfl) (fun _ _ _ h => h) _ _ _ _ (by kernel_rfl) (by kernel_rfl) (by kernel_rfl) (Or.inl ⟨by kernel_rfl, ?_⟩) hS ?_
              rotate_left
              · (intro w9 hS9; obtain ⟨s0, s1⟩ := hS9; go_simp); (try with_reducible rfl)
              try simp only [Act.put, List.getElem_toArray, List.getElem_cons_succ, List.getElem_cons_zero, List.setIfInBounds_toArray, List.set_cons_zero, List.set_cons_succ]
              refine wpU_take (i := 9) (v := ?_) rfl (by kernel_rfl) (by kernel_rfl) (fun _ _ _ h => h) _ _ _ _ (by kernel_rfl) (by kernel_rfl) (by kernel_rfl) (Or.inl ⟨by kernel_rfl, ?_⟩) hS ?_
              rotate_left
              · (intro w9 hS9; obtain ⟨s0, s1⟩ := hS9; go_simp); (try with_reducible rfl)
              try simp only [Act.put, List.getElem_toArray, List.getElem_cons_succ, List.getElem_cons_zero, List.setIfInBounds_toArray, List.set_cons_zero, List.set_cons_succ]
              refine wpU_take (i := 10) (v := ?_) rfl (by kernel_rfl) (by kernel_rfl) (fun _ _ _ h => h) _ _ _ _ (by kernel_rfl) (by kernel_rfl) (by kernel_rfl) (Or.inl ⟨by kernel_rfl, ?_⟩) hS ?_
              rotate_left
              · (intro w9 hS9; obtain ⟨s0, s1⟩ := hS9; go_simp); (try with_reducible rfl)
              try simp only [Act.put, List.getElem_toArray, List.getElem_cons_succ, List.getElem_cons_zero, List.setIfInBounds_toArray, List.set_cons_zero, List.set_cons_succ]
              refine wpU_take (i := 11) (v := ?_) rfl (by kernel_rfl) (by kernel_rfl) (fun _ _ _ h => h) _ _ _ _ (by kernel_rfl) (by kernel_rfl) (by kernel_rfl) (Or.inl ⟨by kernel_rfl, ?_⟩) hS ?_
              rotate_left
              · (intro w9 hS9; obtain ⟨s0, s1⟩ := hS9; go_simp); (try with_reducible rfl)
              try simp only [Act.put, List.getElem_toArray, List.getElem_cons_succ, List.getElem_cons_zero, List.setIfInBounds_toArray, List.set_cons_zero, List.set_cons_succ]
              refine wpU_take (i := 12) (v := ?_) rfl (by kernel_rfl) (by kernel_rfl) (fun _ _ _ h => h) _ _ _ _ (by kernel_rfl) (by kernel_rfl) (by kernel_rfl) (Or.inl ⟨by kernel_rfl, ?_⟩) hS ?_
              rotate_left
              · (intro w9 hS9; obtain ⟨s0, s1⟩ := hS9; go_simp); (try with_reducible rfl)
              try simp only [Act.put, List.getElem_toArray, List.getElem_cons_succ, List.getElem_cons_zero, List.setIfInBounds_toArray, List.set_cons_zero, List.set_cons_succ]
              refine wpU_next (i := 6) rfl (by kernel_rfl) (fun K hK => ?_)
              go_simp
              refine (sg_addno (HP3.out.g.nil (Fr.refl _ _).drew) a nn (wf_i64 Ba.out) Hfin.out).mono ?_
              rintro e w4 ⟨rfl, -, hf⟩
              have HP4 := hid ((HP3.out.nil (Fr.refl _ _).drew).nil hf)
              have hS4 : (fun w' : World => w'.cell? ⟨xb, 1, none⟩ = some (.int .i64 a) ∧ w'.cell? ⟨xb, 2, none⟩ = some (.int .i64 nn)) w4 := ⟨hf.cell (w := W3.drew) hS.1 fun h => h, hf.cell (w := W3.drew) hS.2 fun h => h⟩
              clear hf hS
              refine hK.out _ _ (fun _ => hS4) ?_
              clear hK K
              try simp only [Act.put, List.getElem_toArray, List.getElem_cons_succ, List.getElem_cons_zero, List.setIfInBounds_toArray, List.set_cons_zero, List.set_cons_succ]
              refine wpU_next (i := 13) rfl (by kernel_rfl) (fun K hK => ?_)
              go_simp
              refine (rz_addno T rb mb N W w4 HP4.out.z HNl.out a nn Hbad.out).mono ?_
              rintro e w5 ⟨rfl, hf⟩
              have HP5 := hid (show Play w1 w5 sb pb rb mb fb (1 + (g + 1)) from PSt.play ⟨_, HP4.out.nil hf⟩ (by omega))
              have hS5 : (fun w' : World => w'.cell? ⟨xb, 1, none⟩ = some (.int .i64 a) ∧ w'.cell? ⟨xb, 2, none⟩ = some (.int .i64 nn)) w5 := ⟨hf.cell hS4.1 fun h => h, hf.cell hS4.2 fun h => h⟩
              clear hf hS4 HP4
              refine hK.out _ _ (fun _ => hS5) ?_
              clear hK K
              try simp only [Act.put, List.getElem_toArray, List.getElem_cons_succ, List.getElem_cons_zero, List.setIfInBounds_toArray, List.set_cons_zero, List.set_cons_succ]
              refine wpU_next (i := 14) rfl (by kernel_rfl) (fun K hK => ?_)
              go_simp
              refine hK.out _ _ (fun _ => hS5) ?_
              clear hK K
              try simp only [Act.put, List.getElem_toArray, List.getElem_cons_succ, List.getElem_cons_zero, List.setIfInBounds_toArray, List.set_cons_zero, List.set_cons_succ]
              refine wpU_next (i := 15) rfl (by kernel_rfl) (fun K hK => ?_)
              go_simp
              refine hK.out _ _ (fun h => absurd rfl h.1) ?_
              refine wpU_done (by kernel_rfl) ?_ _
              clear hK K
              clear hS5 HP3
              obtain ⟨U9, L9, H9, A9, l9, N9, W9, T9, F9, hP⟩ := HP5.out
              have HP := hid hP
              clear hP
              go_wp2_with fail
              refine (shsame_ok _ _ w1 _ sb pb rb mb 40 _ _ _ _ _ _ _ _ HP.out.g HP.out.z HP.out.rel).mono ?_
              rintro e w8 ⟨rfl, f8⟩
              have HP8 := hid (HP.out.nil f8)
              clear f8 HP
              go_wp2_with fail
              obtain ⟨TR, hTR⟩ := HP8.out.g.rs
              have HTR := hid hTR
              clear hTR
              refine (same_ok TR pb mb fb 40 _ _ w8 HTR.out HP8.out.f HP8.out.fre).mono ?_
              rintro e w9 ⟨rfl, f9⟩
              have HP9 := hid (show Play w1 w9 sb pb rb mb fb (1 + (g + 1)) from PSt.play ⟨_, HP8.out.nil f9⟩ (by omega))
              clear f9 HP8 HTR
              go_wp2_with fail
              go_roundw
              case rel => exact ⟨g + 1, by go_num, by omega, HP9⟩
              case measure => simp [intOf]; omega
          · have Hfin := hid (show fineI U L a nn = false from by unfold fineI; simp [c2])
            have Hbad := hid (show nn < 1 ∨ a < 0 ∨ atN N a < N.length from .inr (.inl (by omega)))
            go_upto_region 35 with (fail)
            clear c1 c2
            have hS : (fun w' : World => w'.cell? ⟨xb, 1, none⟩ = some (.int .i64 a) ∧ w'.cell? ⟨xb, 2, none⟩ = some (.int .i64 nn)) W3.drew := ⟨x1, x2⟩
            clear x0 x1 x2
            refine wpU_region (k := 15) (S := (fun w' : World => w'.cell? ⟨xb, 1, none⟩ = some (.int .i64 a) ∧ w'.cell? ⟨xb, 2, none⟩ = some (.int .i64 nn))) (by kernel_rfl) ?_
            refine wpU_take (i := 0) (v := ?_) rfl (by kernel_rfl) (by kernel_rfl) (fun _ _ _ h => h) _ _ _ _ (by kernel_rfl) (by kernel_rfl) (by kernel_rfl) (Or.inl ⟨by kernel_rfl, ?_⟩) hS ?_
            rotate_left
            · (intro w9 hS9; obtain ⟨s0, s1⟩ := hS9; go_simp); (try with_reducible rfl)
            try simp only [Act.put, List.getElem_toArray, List.getElem_cons_succ, List.getElem_cons_zero, List.setIfInBounds_toArray, List.set_cons_zero, List.set_cons_succ]
            refine wpU_take (i := 1) (v := ?_) rfl (by kernel_rfl) (by kernel_rfl) (fun _ _ _ h => h) _ _ _ _ (by kernel_rfl) (by kernel_rfl) (by kernel_rfl) (Or.inl ⟨by kernel_rfl, ?_⟩) hS ?_
            rotate_left
            · (intro w9 hS9; obtain ⟨s0, s1⟩ := hS9; go_simp); (try with_reducible rfl)
            try simp only [Act.put, List.getElem_toArray, List.getElem_cons_succ, List.getElem_cons_zero, List.setIfInBounds_toArray, List.set_cons_zero, List.set_cons_succ]
            refine wpU_take (i := 2) (v := ?_) rfl (by kernel_rfl) (by kernel_rfl) (fun _ _ _ h => h) _ _ _ _ (by kernel_rfl) (by kernel_rfl) (by kernel_rfl) (Or.inl ⟨by kernel_rfl, ?_⟩) hS ?_
            rotate_left
            · (intro w9 hS9; obtain ⟨s0, s1⟩ := hS9; go_simp); (try with_reducible rfl)
            try simp only [Act.put, List.getElem_toArray, List.getElem_cons_succ, List.getElem_cons_zero, List.setIfInBounds_toArray, List.set_cons_zero, List.set_cons_succ]
            refine wpU_take (i := 3) (v := ?_) rfl (by kernel_rfl) (by kernel_rfl) (fun _ _ _ h => h) _ _ _ _ (by kernel_rfl) (by kernel_rfl) (by kernel_rfl) (Or.inl ⟨by kernel_rfl, ?_⟩) hS ?_
            rotate_left
            · (intro w9 hS9; obtain ⟨s0, s1⟩ := hS9; go_simp); (try with_reducible rfl)
            try simp only [Act.put, List.getElem_toArray, List.getElem_cons_succ, List.getElem_cons_zero, List.setIfInBounds_toArray, List.set_cons_zero, List.set_cons_succ]
            refine wpU_take (i := 4) (v := ?_) rfl (by kernel_rfl) (by kernel_rfl) (fun _ _ _ h => h) _ _ _ _ (by kernel_rfl) (by kernel_rfl) (by kernel_rfl) (Or.inl ⟨by kernel_rfl, ?_⟩) hS ?_
            rotate_left
            · (intro w9 hS9; obtain ⟨s0, s1⟩ := hS9; go_simp); (try with_reducible rfl)
            try simp only [Act.put, List.getElem_toArray, List.getElem_cons_succ, List.getElem_cons_zero, List.setIfInBounds_toArray, List.set_cons_zero, List.set_cons_succ]
            refine wpU_take (i := 5) (v := ?_) rfl (by kernel_rfl) (by kernel_rfl) (fun _ _ _ h => h) _ _ _ _ (by kernel_rfl) (by kernel_rfl) (by kernel_rfl) (Or.inl ⟨by kernel_rfl, ?_⟩) hS ?_
            rotate_left
            · (intro w9 hS9; obtain ⟨s0, s1⟩ := hS9; go_simp); (try with_reducible rfl)
            try simp only [Act.put, List.getElem_toArray, List.getElem_cons_succ, List.getElem_cons_zero, List.setIfInBounds_toArray, List.set_cons_zero, List.set_cons_succ]
            refine wpU_take (i := 7) (v := ?_) rfl (by kernel_rfl) (by kernel_rfl) (fun _ _ _ h => h) _ _ _ _ (by kernel_rfl) (by kernel_rfl) (by kernel_rfl) (Or.inl ⟨by kernel_rfl, ?_⟩) hS ?_
            rotate_left
            · (intro w9 hS9; obtain ⟨s0, s1⟩ := hS9; go_simp); (try with_reducible rfl)
            try simp only [Act.put, List.getElem_toArray, List.getElem_cons_succ, List.getElem_cons_zero, List.setIfInBounds_toArray, List.set_cons_zero, List.set_cons_succ]
            refine wpU_take (i := 8) (v := ?_) rfl (by kernel_rfl) (by kernel_rfl) (fun _ _ _ h => h) _ _ _ _ (by kernel_rfl) (by kernel_rfl) (by kernel_rfl) (Or.inl ⟨by kernel_rfl, ?_⟩) hS ?_
            rotate_left
            · (intro w9 hS9; obtain ⟨s0, s1⟩ := hS9; go_simp); (try with_reducible rfl)
            try simp only [Act.put, List.getElem_toArray, List.getElem_cons_succ, List.getElem_cons_zero, List.setIfInBounds_toArray, List.set_cons_zero, List.set_cons_succ]
            refine wpU_take (i := 9) (v := ?_) rfl (by kernel_rfl) (by kernel_rfl) (fun _ _ _ h => h) _ _ _ _ (by kernel_rfl) (by kernel_rfl) (by kernel_rfl) (Or.inl ⟨by kernel_rfl, ?_⟩) hS ?_
            rotate_left
            · (intro w9 hS9; obtain ⟨s0, s1⟩ := hS9; go_simp); (try with_reducible rfl)
            try simp only [Act.put, List.getElem_toArray, List.getElem_cons_succ, List.getElem_cons_zero, List.setIfInBounds_toArray, List.set_cons_zero, List.set_cons_succ]
            refine wpU_take (i := 10) (v := ?_) rfl (by kernel_rfl) (by kernel_rfl) (fun _ _ _ h => h) _ _ _ _ (by kernel_rfl) (by kernel_rfl) (by kernel_rfl) (Or.inl ⟨by kernel_rfl, ?_⟩) hS ?_
            rotate_left
            · (intro w9 hS9; obtain ⟨s0, s1⟩ := hS9; go_simp); (try with_reducible rfl)
            try simp only [Act.put, List.getElem_toArray, List.getElem_cons_succ, List.getElem_cons_zero, List.setIfInBounds_toArray, List.set_cons_zero, List.set_cons_succ]
            refine wpU_take (i := 11) (v := ?_) rfl (by kernel_rfl) (by kernel_rfl) (fun _ _ _ h => h) _ _ _ _ (by kernel_rfl) (by kernel_rfl) (by kernel_rfl) (Or.inl ⟨by kernel_rfl, ?_⟩) hS ?_
            rotate_left
            · (intro w9 hS9; obtain ⟨s0, s1⟩ := hS9; go_simp); (try with_reducible rfl)
            try simp only [Act.put, List.getElem_toArray, List.getElem_cons_succ, List.getElem_cons_zero, List.setIfInBounds_toArray, List.set_cons_zero, List.set_cons_succ]
            refine wpU_take (i := 12) (v := ?_) rfl (by kernel_rfl) (by kernel_rfl) (fun _ _ _ h => h) _ _ _ _ (by kernel_rfl) (by kernel_rfl) (by kernel_rfl) (Or.inl ⟨by kernel_rfl, ?_⟩) hS ?_
            rotate_left
            · (intro w9 hS9; obtain ⟨s0, s1⟩ := hS9; go_simp); (try with_reducible rfl)
            try simp only [Act.put, List.getElem_toArray, List.getElem_cons_succ, List.getElem_cons_zero, List.setIfInBounds_toArray, List.set_cons_zero, List.set_cons_succ]
            refine wpU_next (i := 6) rfl (by kernel_rfl) (fun K hK => ?_)
            go_simp
            refine (sg_addno (HP3.out.g.nil (Fr.refl _ _).drew) a nn (wf_i64 Ba.out) Hfin.out).mono ?_
            rintro e w4 ⟨rfl, -, hf⟩
            have HP4 := hid ((HP3.out.nil (Fr.refl _ _).drew).nil hf)
            have hS4 : (fun w' : World => w'.cell? ⟨xb, 1, none⟩ = some (.int .i64 a) ∧ w'.cell? ⟨xb, 2, none⟩ = some (.int .i64 nn)) w4 := ⟨hf.cell (w := W3.drew) hS.1 fun h => h, hf.cell (w := W3.drew) hS.2 fun h => h⟩
            clear hf hS
            refine hK.out _ _ (fun _ => hS4) ?_
            clear hK K
            try simp only [Act.put, List.getElem_toArray, List.getElem_cons_succ, List.getElem_cons_zero, List.setIfInBounds_toArray, List.set_cons_zero, List.set_cons_succ]
            refine wpU_next (i := 13) rfl (by kernel_rfl) (fun K hK => ?_)
            go_simp
            refine (rz_addno T rb mb N W w4 HP4.out.z HNl.out a nn Hbad.out).mono ?_
            rintro e w5 ⟨rfl, hf⟩
            have HP5 := hid (show Play w1 w5 sb pb rb mb fb (1 + (g + 1)) from PSt.play ⟨_, HP4.out.nil hf⟩ (by omega))
            have hS5 : (fun w' : World => w'.cell? ⟨xb, 1, none⟩ = some (.int .i64 a) ∧ w'.cell? ⟨xb, 2, none⟩ = some (.int .i64 nn)) w5 := ⟨hf.cell hS4.1 fun h => h, hf.cell hS4.2 fun h => h⟩
            clear hf hS4 HP4
            refine hK.out _ _ (fun _ => hS5) ?_
            clear hK K
            try simp only [Act.put, List.getElem_toArray, List.getElem_cons_succ, List.getElem_cons_zero, List.setIfInBounds_toArray, List.set_cons_zero, List.set_cons_succ]
            refine wpU_next (i := 14) rfl (by kernel_rfl) (fun K hK => ?_)
            go_simp
            refine hK.out _ _ (fun _ => hS5) ?_
            clear hK K
            try simp only [Act.put, List.getElem_toArray, List.getElem_cons_succ, List.getElem_cons_zero, List.setIfInBounds_toArray, List.set_cons_zero, List.set_cons_succ]
            refine wpU_next (i := 15) rfl (by kernel_rfl) (fun K hK => ?_)
            go_simp
            refine hK.out _ _ (fun h => absurd rfl h.1) ?_
            refine wpU_done (by kernel_rfl) ?_ _
            clear hK K
            clear hS5 HP3
            obtain ⟨U9, L9, H9, A9, l9, N9, W9, T9, F9, hP⟩ := HP5.out
            have HP := hid hP
            clear hP
            go_wp2_with fail
            refine (shsame_ok _ _ w1 _ sb pb rb mb 40 _ _ _ _ _ _ _ _ HP.out.g HP.out.z HP.out.rel).mono ?_
            rintro e w8 ⟨rfl, f8⟩
            have HP8 := hid (HP.out.nil f8)
            clear f8 HP
            go_wp2_with fail
            obtain ⟨TR, hTR⟩ := HP8.out.g.rs
            have HTR := hid hTR
            clear hTR
            refine (same_ok TR pb mb fb 40 _ _ w8 HTR.out HP8.out.f HP8.out.fre).mono ?_
            rintro e w9 ⟨rfl, f9⟩
            have HP9 := hid (show Play w1 w9 sb pb rb mb fb (1 + (g + 1)) from PSt.play ⟨_, HP8.out.nil f9⟩ (by omega))
            clear f9 HP8 HTR
            go_wp2_with fail
            go_roundw
            case rel => exact ⟨g + 1, by go_num, by omega, HP9⟩
            case measure => simp [intOf]; omega
        · have Hfin := hid (show fineI U L a nn = false from by unfold fineI; rw [decide_eq_false (show ¬ 1 ≤ nn by omega)]; simp)
          have Hbad := hid (show nn < 1 ∨ a < 0 ∨ atN N a < N.length from .inl (by omega))
          go_upto_region 35 with (fail)
          clear c1
          have hS : (fun w' : World => w'.cell? ⟨xb, 1, none⟩ = some (.int .i64 a) ∧ w'.cell? ⟨xb, 2, none⟩ = some (.int .i64 nn)) W3.drew := ⟨x1, x2⟩
          clear x0 x1 x2
          refine wpU_region (k := 15) (S := (fun w' : World => w'.cell? ⟨xb, 1, none⟩ = some (.int .i64 a) ∧ w'.cell? ⟨xb, 2, none⟩ = some (.int .i64 nn))) (by kernel_rfl) ?_
          refine wpU_take (i := 0) (v := ?_) rfl (by kernel_rfl) (by kernel_rfl) (fun _ _ _ h => h) _ _ _ _ (by kernel_rfl) (by kernel_rfl) (by kernel_rfl) (Or.inl ⟨by kernel_rfl, ?_⟩) hS ?_
          rotate_left
          · (intro w9 hS9; obtain ⟨s0, s1⟩ := hS9; go_simp); (try with_reducible rfl)
          try simp only [Act.put, List.getElem_toArray, List.getElem_cons_succ, List.getElem_cons_zero, List.setIfInBounds_toArray, List.set_cons_zero, List.set_cons_succ]
          refine wpU_take (i := 1) (v := ?_) rfl (by kernel_rfl) (by kernel_rfl) (fun _ _ _ h => h) _ _ _ _ (by kernel_rfl) (by kernel_rfl) (by kernel_rfl) (Or.inl ⟨by kernel_rfl, ?_⟩) hS ?_
          rotate_left
          · (intro w9 hS9; obtain ⟨s0, s1⟩ := hS9; go_simp); (try with_reducible rfl)
          try simp only [Act.put, List.getElem_toArray, List.getElem_cons_succ, List.getElem_cons_zero, List.setIfInBounds_toArray, List.set_cons_zero, List.set_cons_succ]
          refine wpU_take (i := 2) (v := ?_) rfl (by kernel_rfl) (by kernel_rfl) (fun _ _ _ h => h) _ _ _ _ (by kernel_rfl) (by kernel_rfl) (by kernel_rfl) (Or.inl ⟨by kernel_rfl, ?_⟩) hS ?_
          rotate_left
          · (intro w9 hS9; obtain ⟨s0, s1⟩ := hS9; go_simp); (try with_reducible rfl)
          try simp only [Act.put, List.getElem_toArray, List.getElem_cons_succ, List.getElem_cons_zero, List.setIfInBounds_toArray, List.set_cons_zero, List.set_cons_succ]
          refine wpU_take (i := 3) (v := ?_) rfl (by kernel_rfl) (by kernel_rfl) (fun _ _ _ h => h) _ _ _ _ (by kernel_rfl) (by kernel_rfl) (by kernel_rfl) (Or.inl ⟨by kernel_rfl, ?_⟩) hS ?_
          rotate_left
          · (intro w9 hS9; obtain ⟨s0, s1⟩ := hS9; go_simp); (try with_reducible rfl)
          try simp only [Act.put, List.getElem_toArray, List.getElem_cons_succ, List.getElem_cons_zero, List.setIfInBounds_toArray, List.set_cons_zero, List.set_cons_succ]
          refine wpU_take (i := 4) (v := ?_) rfl (by kernel_rfl) (by kernel_rfl) (fun _ _ _ h => h) _ _ _ _ (by kernel_rfl) (by kernel_rfl) (by kernel_rfl) (Or.inl ⟨by kernel_rfl, ?_⟩) hS ?_
          rotate_left
          · (intro w9 hS9; obtain ⟨s0, s1⟩ := hS9; go_simp); (try with_reducible rfl)
          try simp only [Act.put, List.getElem_toArray, List.getElem_cons_succ, List.getElem_cons_zero, List.setIfInBounds_toArray, List.set_cons_zero, List.set_cons_succ]
          refine wpU_take (i := 5) (v := ?_) rfl (by kernel_rfl) (by kernel_rfl) (fun _ _ _ h => h) _ _ _ _ (by kernel_rfl) (by kernel_rfl) (by kernel_rfl) (Or.inl ⟨by kernel_rfl, ?_⟩) hS ?_
          rotate_left
          · (intro w9 hS9; obtain ⟨s0, s1⟩ := hS9; go_simp); (try with_reducible rfl)
          try simp only [Act.put, List.getElem_toArray, List.getElem_cons_succ, List.getElem_cons_zero, List.setIfInBounds_toArray, List.set_cons_zero, List.set_cons_succ]
          refine wpU_take (i := 7) (v := ?_) rfl (by kernel_rfl) (by kernel_rfl) (fun _ _ _ h => h) _ _ _ _ (by kernel_rfl) (by kernel_rfl) (by kernel_rfl) (Or.inl ⟨by kernel_rfl, ?_⟩) hS ?_
          rotate_left
          · (intro w9 hS9; obtain ⟨s0, s1⟩ := hS9; go_simp); (try with_reducible rfl)
          try simp only [Act.put, List.getElem_toArray, List.getElem_cons_succ, List.getElem_cons_zero, List.setIfInBounds_toArray, List.set_cons_zero, List.set_cons_succ]
          refine wpU_take (i := 8) (v := ?_) rfl (by kernel_rfl) (by kernel_rfl) (fun _ _ _ h => h) _ _ _ _ (by kernel_rfl) (by kernel_rfl) (by kernel_rfl) (Or.inl ⟨by kernel_rfl, ?_⟩) hS ?_
          rotate_left
          · (intro w9 hS9; obtain ⟨s0, s1⟩ := hS9; go_simp); (try with_reducible rfl)
          try simp only [Act.put, List.getElem_toArray, List.getElem_cons_succ, List.getElem_cons_zero, List.setIfInBounds_toArray, List.set_cons_zero, List.set_cons_succ]
          refine wpU_take (i := 9) (v := ?_) rfl (by kernel_rfl) (by kernel_rfl) (fun _ _ _ h => h) _ _ _ _ (by kernel_rfl) (by kernel_rfl) (by kernel_rfl) (Or.inl ⟨by kernel_rfl, ?_⟩) hS ?_
          rotate_left
          · (intro w9 hS9; obtain ⟨s0, s1⟩ := hS9; go_simp); (try with_reducible rfl)
          try simp only [Act.put, List.getElem_toArray, List.getElem_cons_succ, List.getElem_cons_zero, List.setIfInBounds_toArray, List.set_cons_zero, List.set_cons_succ]
          refine wpU_take (i := 10) (v := ?_) rfl (by kernel_rfl) (by kernel_rfl) (fun _ _ _ h => h) _ _ _ _ (by kernel_rfl) (by kernel_rfl) (by kernel_rfl) (Or.inl ⟨by kernel_rfl, ?_⟩) hS ?_
          rotate_left
          · (intro w9 hS9; obtain ⟨s0, s1⟩ := hS9; go_simp); (try with_reducible rfl)
          try simp only [Act.put, List.getElem_toArray, List.getElem_cons_succ, List.getElem_cons_zero, List.setIfInBounds_toArray, List.set_cons_zero, List.set_cons_succ]
          refine wpU_take (i := 11) (v := ?_) rfl (by kernel_rfl) (by kernel_rfl) (fun _ _ _ h => h) _ _ _ _ (by kernel_rfl) (by kernel_rfl) (by kernel_rfl) (Or.inl ⟨by kernel_rfl, ?_⟩) hS ?_
          rotate_left
          · (intro w9 hS9; obtain ⟨s0, s1⟩ := hS9; go_simp); (try with_reducible rfl)
          try simp only [Act.put, List.getElem_toArray, List.getElem_cons_succ, List.getElem_cons_zero, List.setIfInBounds_toArray, List.set_cons_zero, List.set_cons_succ]
          refine wpU_take (i := 12) (v := ?_) rfl (by kernel_rfl) (by kernel_rfl) (fun _ _ _ h => h) _ _ _ _ (by kernel_rfl) (by kernel_rfl) (by kernel_rfl) (Or.inl ⟨by kernel_rfl, ?_⟩) hS ?_
          rotate_left
          · (intro w9 hS9; obtain ⟨s0, s1⟩ := hS9; go_simp); (try with_reducible rfl)
          try simp only [Act.put, List.getElem_toArray, List.getElem_cons_succ, List.getElem_cons_zero, List.setIfInBounds_toArray, List.set_cons_zero, List.set_cons_succ]
          refine wpU_next (i := 6) rfl (by kernel_rfl) (fun K hK => ?_)
          go_simp
          refine (sg_addno (HP3.out.g.nil (Fr.refl _ _).drew) a nn (wf_i64 Ba.out) Hfin.out).mono ?_
          rintro e w4 ⟨rfl, -, hf⟩
          have HP4 := hid ((HP3.out.nil (Fr.refl _ _).drew).nil hf)
          have hS4 : (fun w' : World => w'.cell? ⟨xb, 1, none⟩ = some (.int .i64 a) ∧ w'.cell? ⟨xb, 2, none⟩ = some (.int .i64 nn)) w4 := ⟨hf.cell (w := W3.drew) hS.1 fun h => h, hf.cell (w := W3.drew) hS.2 fun h => h⟩
          clear hf hS
          refine hK.out _ _ (fun _ => hS4) ?_
          clear hK K
          try simp only [Act.put, List.getElem_toArray, List.getElem_cons_succ, List.getElem_cons_zero, List.setIfInBounds_toArray, List.set_cons_zero, List.set_cons_succ]
          refine wpU_next (i := 13) rfl (by kernel_rfl) (fun K hK => ?_)
          go_simp
          refine (rz_addno T rb mb N W w4 HP4.out.z HNl.out a nn Hbad.out).mono ?_
          rintro e w5 ⟨rfl, hf⟩
          have HP5 := hid (show Play w1 w5 sb pb rb mb fb (1 + (g + 1)) from PSt.play ⟨_, HP4.out.nil hf⟩ (by omega))
          have hS5 : (fun w' : World => w'.cell? ⟨xb, 1, none⟩ = some (.int .i64 a) ∧ w'.cell? ⟨xb, 2, none⟩ = some (.int .i64 nn)) w5 := ⟨hf.cell hS4.1 fun h => h, hf.cell hS4.2 fun h => h⟩
          clear hf hS4 HP4
          refine hK.out _ _ (fun _ => hS5) ?_
          clear hK K
          try simp only [Act.put, List.getElem_toArray, List.getElem_cons_succ, List.getElem_cons_zero, List.setIfInBounds_toArray, List.set_cons_zero, List.set_cons_succ]
          refine wpU_next (i := 14) rfl (by kernel_rfl) (fun K hK => ?_)
          go_simp
          refine hK.out _ _ (fun _ => hS5) ?_
          clear hK K
          try simp only [Act.put, List.getElem_toArray, List.getElem_cons_succ, List.getElem_cons_zero, List.setIfInBounds_toArray, List.set_cons_zero, List.set_cons_succ]
          refine wpU_next (i := 15) rfl (by kernel_rfl) (fun K hK => ?_)
          go_simp
          refine hK.out _ _ (fun h => absurd rfl h.1) ?_
          refine wpU_done (by kernel_rfl) ?_ _
          clear hK K
          clear hS5 HP3
          obtain ⟨U9, L9, H9, A9, l9, N9, W9, T9, F9, hP⟩ := HP5.out
          have HP := hid hP
          clear hP
          go_wp2_with fail
          refine (shsame_ok _ _ w1 _ sb pb rb mb 40 _ _ _ _ _ _ _ _ HP.out.g HP.out.z HP.out.rel).mono ?_
          rintro e w8 ⟨rfl, f8⟩
          have HP8 := hid (HP.out.nil f8)
          clear f8 HP
          go_wp2_with fail
          obtain ⟨TR, hTR⟩ := HP8.out.g.rs
          have HTR := hid hTR
          clear hTR
          refine (same_ok TR pb mb fb 40 _ _ w8 HTR.out HP8.out.f HP8.out.fre).mono ?_
          rintro e w9 ⟨rfl, f9⟩
          have HP9 := hid (show Play w1 w9 sb pb rb mb fb (1 + (g + 1)) from PSt.play ⟨_, HP8.out.nil f9⟩ (by omega))
          clear f9 HP8 HTR
          go_wp2_with fail
          go_roundw
          case rel => exact ⟨g + 1, by go_num, by omega, HP9⟩
          case measure => simp [intOf]; omega
      · have HP7 := hid (show Play w1 W3 sb pb rb mb fb (1 + (g + 1)) from PSt.play ⟨_, HP3.out⟩ (by omega))
        clear x1 x2 HP3
        obtain ⟨U9, L9, H9, A9, l9, N9, W9, T9, F9, hP⟩ := HP7.out
        have HP := hid hP
        clear hP
        go_wp2_with fail
        refine (shsame_ok _ _ w1 _ sb pb rb mb 40 _ _ _ _ _ _ _ _ HP.out.g HP.out.z HP.out.rel).mono ?_
        rintro e w8 ⟨rfl, f8⟩
        have HP8 := hid (HP.out.nil f8)
        clear f8 HP
        go_wp2_with fail
        obtain ⟨TR, hTR⟩ := HP8.out.g.rs
        have HTR := hid hTR
        clear hTR
        refine (same_ok TR pb mb fb 40 _ _ w8 HTR.out HP8.out.f HP8.out.fre).mono ?_
        rintro e w9 ⟨rfl, f9⟩
        have HP9 := hid (show Play w1 w9 sb pb rb mb fb (1 + (g + 1)) from PSt.play ⟨_, HP8.out.nil f9⟩ (by omega))
        clear f9 HP8 HTR
        go_wp2_with fail
        go_roundw
        case rel => exact ⟨g + 1, by go_num, by omega, HP9⟩
        case measure => simp [intOf]; omega
    · go_wp2
      go_ret
      exact ⟨rfl, F1.out.then hA.out.fr0⟩
theorem play_raw (v : Value) (w : World) (h : ∃ n ps, Deds w (fun k => k < w.heap.size) v n ps) :
    Calls Try.prog 6 #[v] w fun e w' => e = .returned (.bool true) ∧ Fr Nil w w' := by
  obtain ⟨n, ps, h⟩ := h
  obtain ⟨A1, c1, rfl⟩ := h.slice
  exact play_law A1 n c1 ps w h
end Go.Proofs.Ytjieckaeplkafaa

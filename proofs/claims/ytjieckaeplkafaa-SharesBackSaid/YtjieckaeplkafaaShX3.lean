/- The law SharesBack: its walk. -/
import Derived.Test.YtjieckaeplkafaaShO
set_option linter.unusedSimpArgs false
set_option linter.unusedVariables false
namespace Go.Proofs.Ytjieckaeplkafaa
open Go.RowKit
/-- Shares and runs, whatever they hold. -/
def Any (Q : Nat → Prop) (w1 w : World) (sb pb N : Nat) (U0 : List Us) : Prop := ∃ U L A l, Sg Q w1 w sb pb 60 N U L U0 A l
def Ow (a b c : Value) : Nat → Prop := fun k => a.ownBlock = some k ∨ b.ownBlock = some k ∨ c.ownBlock = some k
theorem Sg.any {Q : Nat → Prop} {w1 w : World} {sb pb N N' : Nat} {U L H : List Us} {A l : List Rn} (h : Sg Q w1 w sb pb 60 N U L H A l) (hN : N ≤ N') : Any Q w1 w sb pb N' H := ⟨_, _, _, _, h.mono hN⟩
def usL (U : List Us) : List Int := (lst U).map fun r => ((usesI U (r.a : Nat) : Nat) : Int)
theorem usL_take {U : List Us} {j : Nat} (h : j < (lst U).length) : (usL U).take (j + 1) = (usL U).take j ++ [((usesI U ((rn (lst U) j).a : Nat) : Nat) : Int)] := by
  have h2 : j < (usL U).length := by unfold usL; rw [List.length_map]; exact h
  rw [List.take_succ_eq_append_getElem h2]
  congr 2
  simp [usL, rn_eq h]
theorem usL_get {U : List Us} {j : Nat} (h : j < (lst U).length) : (usL U).getD j 0 = ((usesI U ((rn (lst U) j).a : Nat) : Nat) : Int) := by
  have h2 : j < (usL U).length := by unfold usL; rw [List.length_map]; exact h
  rw [rn_eq h]
  simp [usL, List.getElem?_eq_getElem h]
theorem info_int3 : (Try.prog.info? 3).map (fun i => (i.zero, i.size, i.bytes)) = some (some (.int .i64 0), 1, 8) := by kernel_rfl
theorem ints_app (k : IntKind) (a b : List Int) : ints k (a ++ b) = ints k a ++ ints k b := by simp [ints]
set_option maxRecDepth 20000 in
set_option maxHeartbeats 1000000 in
theorem back_law (A0 : Option Addr) (m c0 : Nat) (zs0 : List Int) (A1 : Option Addr) (n c1 : Nat) (ps : List Ded) (w : World) (hr0 : IsRow .u8 w A0 m c0 zs0) (hr1 : Deds w (fun k => k < w.heap.size) (.slice A1 n c1) n ps) :
    Calls Try.prog 5 #[.slice A0 m c0, .slice A1 n c1] w fun e w' => e = .returned (.bool true) ∧ Fr Nil w w' := by
  obtain ⟨hv, hlen, hwf⟩ := hr0.view
  have hnle := hv.le
  have hnle2 : n ≤ 9223372036854775807 := by obtain ⟨_, _, _, _, h, _⟩ := hr1; exact h
  have Hv := hid hv
  have Hlen := hid hlen
  have Hwf := hid hwf
  have Hd := hid hr1
  clear hv hlen hwf hr0 hr1
  generalize zs0.take m = l0 at *
  go_enter Try.func5, Try.ntmps5
  go_wp2_with fail
  refine (awake_ok w).mono ?_
  rintro e w1 ⟨rfl, f1⟩
  have F1 := hid f1
  clear f1
  by_cases hn : 30 < m
  · go_wp2
    go_ret
    exact ⟨rfl, F1.out⟩
  by_cases hn2 : 80 < n
  · go_wp2
    go_ret
    exact ⟨rfl, F1.out⟩
  go_wp2_with fail
  refine (sw_new 60 w1).mono ?_
  rintro e w2 ⟨pb, T, rfl, h1, h2, f2⟩
  rw [show newBl 60 = 60 by decide, show newL 60 = [⟨0, 60⟩] by decide] at h1
  have H1 := hid h1; have H2 := hid h2; have F2 := hid f2
  clear h1 h2 f2
  go_wp2_with fail
  refine (sw_shares H1.out H2.out F2.out).mono ?_
  rintro e w3 ⟨sb, rfl, h3⟩
  have H3 := hid (show Any (fun _ => False) w1 w3 sb pb 1 [] from ⟨_, _, _, _, Sg.of (N := 1) h3 (Inv.new (by decide) (by decide))⟩)
  clear h3 H1 H2 F2
  have hm30 : m ≤ 30 := by omega
  have hn80 : n ≤ 80 := by omega
  clear hn hn2
  go_wp2_with fail
  go_loopw [7] (fun v7 wx => ∃ (i : Nat), v7 = .int .i64 i ∧ i ≤ m ∧ Hid (Any (fun _ => False) w1 wx sb pb (1 + i) [])) (fun v7 _ => m - (intOf v7).toNat)
  case atStart => exact ⟨0, rfl, by omega, H3⟩
  case round =>
    obtain ⟨i, rfl, hi, hA⟩ := hrel
    by_cases hlt : i < m
    · obtain ⟨U, L, A, l, hG⟩ := hA.out
      obtain ⟨zb, zo, rfl, -, hbl, q0⟩ := intK Hv.out hlt
      have hz : 0 ≤ l0.getD i 0 ∧ l0.getD i 0 < 256 := bounds_u8 (Hwf.out _ (by
        simp [List.getD, List.getElem?_eq_getElem (show i < l0.length by rw [Hlen.out]; exact hlt)]))
      obtain ⟨z, hz2⟩ : ∃ z : Nat, l0.getD i 0 = z := ⟨(l0.getD i 0).toNat, by omega⟩
      rw [hz2] at q0 hz
      have Q0 := hid q0
      have q3 := (F1.out.then hG.fr0).cell q0 fun h => h
      have hbl3 := Nat.lt_of_lt_of_le hbl (F1.out.then hG.fr0).size
      clear hz2 q0 hbl
      have hz3 := u8_and3 z (by omega)
      obtain ⟨r, hr⟩ : ∃ r, r = z % 4 := ⟨_, rfl⟩
      rw [← hr] at hz3
      have hr3 : r ≤ 3 := by omega
      have hwr : IntKind.i64.wrap (r : Int) = (r : Int) := by rw [IntKind.wrap_i64]; omega
      clear hz hr
      have HG := hid hG
      clear hG
      go_upto_region 13 with (fail)
      clear hz3 hwr q3 hbl3
      obtain ⟨t, ht⟩ : ∃ t, t = r + 1 := ⟨_, rfl⟩
      have ht1 : 1 ≤ t ∧ t ≤ 4 := by omega
      rw [show (1 + (r : Int)) = ((t : Nat) : Int) from by omega]
      have Ht := hid ht1.1
      have ht4 : t ≤ 4 := ht1.2
      clear ht ht1 hr3
      by_cases hti : takeI l ((t : Nat) : Int) < l.length
      · have Hti := hid hti
        clear hti
        go_wp2_with fail
        refine (sg_take HG.out t Ht.out Hti.out).mono ?_
        rintro e w4 ⟨a, rfl, ha60, ha, hH, hf⟩
        have HH := hid hH
        have Ha60 := hid ha60
        clear hH hf ha ha60
        go_wp2_with fail
        refine (sg_add HH.out (by omega)).mono ?_
        rintro e w5 ⟨rfl, hG, hf⟩
        have HG5 := hid hG
        have q5 : w5.cell? ⟨zb, zo + i, none⟩ = some (.int .u8 (z : Nat)) := (F1.out.then HG5.out.fr0).cell Q0.out fun h => h
        clear hG hf
        by_cases hb1 : (bits .and .u8 (z : Int) 4 == 4) = true
        · go_wp2_with fail
          refine (sg_more HG5.out (a : Nat) (wf_i64 (by have := Ha60.out; omega)) (by omega)).mono ?_
          rintro e w7 ⟨rfl, hG, hf⟩
          have HG7 := hid hG
          have q7 : w7.cell? ⟨zb, zo + i, none⟩ = some (.int .u8 (z : Nat)) := (F1.out.then HG7.out.fr0).cell Q0.out fun h => h
          clear hG hf q5 hb1
          by_cases hb2 : (bits .and .u8 (z : Int) 24 == 24) = true
          · go_wp2_with fail
            refine (sg_less HG7.out (a : Nat) (wf_i64 (by have := Ha60.out; omega)) (by omega)).mono ?_
            rintro e w8 ⟨rfl, hG, hf⟩
            have HG8 := hid hG
            clear hG hf hb2
            go_wp2_with fail
            go_roundw
            case rel => exact ⟨i + 1, by go_num, by omega, hid (HG8.out.any (by omega))⟩
            case measure => simp [intOf]; omega
          · replace hb2 : (bits .and .u8 (z : Int) 24 == 24) = false := by simpa using hb2
            go_wp2_with fail
            go_roundw
            case rel => exact ⟨i + 1, by go_num, by omega, hid (HG7.out.any (by omega))⟩
            case measure => simp [intOf]; omega
        · replace hb1 : (bits .and .u8 (z : Int) 4 == 4) = false := by simpa using hb1
          by_cases hb2 : (bits .and .u8 (z : Int) 24 == 24) = true
          · go_wp2_with fail
            refine (sg_less HG5.out (a : Nat) (wf_i64 (by have := Ha60.out; omega)) (by omega)).mono ?_
            rintro e w8 ⟨rfl, hG, hf⟩
            have HG8 := hid hG
            clear hG hf hb2
            go_wp2_with fail
            go_roundw
            case rel => exact ⟨i + 1, by go_num, by omega, hid (HG8.out.any (by omega))⟩
            case measure => simp [intOf]; omega
          · replace hb2 : (bits .and .u8 (z : Int) 24 == 24) = false := by simpa using hb2
            go_wp2_with fail
            go_roundw
            case rel => exact ⟨i + 1, by go_num, by omega, hid (HG5.out.any (by omega))⟩
            case measure => simp [intOf]; omega
      · have Hti := hid hti
        clear hti
        go_wp2_with fail
        refine (sg_takeno HG.out (t : Nat) Hti.out).mono ?_
        rintro e w4 ⟨rfl, hG, hf⟩
        have HG4 := hid hG
        clear hG hf
        go_wp2_with fail
        go_roundw
        case rel => exact ⟨i + 1, by go_num, by omega, hid (HG4.out.any (by omega))⟩
        case measure => simp [intOf]; omega
    · have hE : i = m := by omega
      subst hE
      obtain ⟨U, L, A, l, hG⟩ := hA.out
      have HG := hid (hG.mono (show 1 + i ≤ 31 by omega))
      clear hG hA H3
      go_wp2_with fail
      refine (sg_settle HG.out).mono ?_
      rintro e w4 ⟨rfl, hG, -⟩
      generalize givs 60 l (lst L) = l4 at *
      have HG4 := hid hG
      clear hG HG
      go_wp2_with fail
      refine (sg_list HG4.out).mono ?_
      rintro e w5 ⟨B5, c5, rfl, r5, f5⟩
      obtain ⟨M, hM⟩ : ∃ M, M = U.length := ⟨_, rfl⟩
      rw [← hM] at r5 ⊢
      have hM60 : M ≤ 60 := by rw [hM]; exact HG4.out.inv.len.1
      have HG5 := hid (HG4.out.nil f5)
      have R5 := hid r5
      have F5 := hid f5
      have HM := hid hM
      clear r5 f5 hM
      go_wp2_with fail
      refine (sg_rlist HG5.out).mono ?_
      rintro e w6 ⟨B6, c6, rfl, r6, f6⟩
      obtain ⟨P, hP⟩ : ∃ P, P = l4.length := ⟨_, rfl⟩
      rw [← hP] at r6 ⊢
      have hP8 : P ≤ 8192 := by rw [hP]; exact HG4.out.inv.r.wf.lok.2.1
      have HQ := hid (HG4.out.fr (Q' := Ow (.slice B5 M c5) (.slice B6 P c6) (.slice none 0 0)) (S := Nil) (F5.out.then f6) (fun k h => h.elim) (fun k h => h.elim) fun k hk => by
        rcases hk with h | h | h
        · exact ⟨.inr (R5.out.2 k h), Nat.lt_of_lt_of_le (R5.out.lt k h) f6.size⟩
        · exact ⟨.inr (Nat.le_trans F5.out.size (r6.2 k h)), r6.lt k h⟩
        · simp [Value.ownBlock] at h)
      have R56 := hid (R5.out.fr f6 fun _ _ h => h)
      have R6 := hid r6
      have F6 := hid f6
      have HP := hid hP
      clear r6 f6 hP HG5 R5
      go_wp2_with fail
      go_loopw [13, 14] (fun v13 v14 wx => ∃ (j : Nat) (A3 : Option Addr) (c3 : Nat), v14 = .int .i64 j ∧ v13 = .slice A3 j c3 ∧ j ≤ M ∧ Fr Nil w6 wx ∧ Row wx (New w6) 3 1 (.slice A3 j c3) j (ints .i64 ((usL U).take j)) ∧ Hid (Sg (Ow (.slice B5 M c5) (.slice B6 P c6) (.slice A3 j c3)) w1 wx sb pb 60 31 U [] U [] l4)) (fun _ v14 _ => M - (intOf v14).toNat)
      case atStart => exact ⟨0, none, 0, rfl, rfl, by omega, Fr.refl _ _, Row.nil w6 (New w6) 3 1, HQ⟩
      case round =>
        obtain ⟨j, A3, c3, rfl, rfl, hj, hfw, hrow, hS⟩ := hrel
        by_cases hjm : j < M
        · obtain ⟨b, o, rfl, -, hbl, q0, -⟩ := rn_at (R56.out.view.fr hfw fun _ _ _ h => h) hjm
          have hjl : j < (lst U).length := by rw [lst_length, ← HM.out]; exact hjm
          have hra := (HQ.out.inv.runs).1 _ (mem_rn hjl)
          have htk := hid (usL_take hjl)
          obtain ⟨a, ha⟩ : ∃ a, a = (rn (lst U) j).a := ⟨_, rfl⟩
          rw [← ha] at q0 htk hra
          have ha60 : a ≤ 60 := hra.1
          obtain ⟨x, hx⟩ : ∃ x, x = usesI U (a : Nat) := ⟨_, rfl⟩
          rw [← hx] at htk
          have HX := hid hx
          have Hr := hid hrow
          have Hf := hid hfw
          clear hx ha hra hjl hrow hfw
          go_wp2_with fail
          refine (sg_uses hS.out (a : Nat) (wf_i64 (by omega))).mono ?_
          rintro e w7 ⟨rfl, rfl⟩
          rw [← HX.out]
          go_wp2_with (at_builtin; refine wp_app_view rfl _ _ 28 rfl (.int .i64 0) 8 Try.underlying28 info_int3 rfl (by decide) (Hr.out.alloc _) rfl (View.lit (s := 1) wr #[.int .i64 (x : Nat)] 3 (0, 0) 1 rfl (by decide)) rfl (by simp [Value.oneCell']) (by omega) (by decide) ?_)
          rintro A6 c6' w8 q1 q2 -
          have hr0 := Hr.out
          have hf0 := Hf.out
          have fal : Fr Nil wr (wr.alloc (.cells #[.int .i64 (x : Nat)] 3)) := (Fr.refl _ _).alloc _
          have f8 : Fr Nil w6 w8 := (hf0.then fal).trans q2 fun k hk => .inr (hr0.2 k hk)
          have h16 : w1.heap.size ≤ w6.heap.size := HQ.out.fr0.size
          have HS8 := hid ((hS.out.nil fal).fr (S := fun k => (Value.slice A3 j c3).ownBlock = some k) (Q' := Ow (.slice _ M c5) (.slice B6 P c6) (.slice A6 (j + 1) c6')) q2 (fun k hk => .inr (.inr hk)) (fun k hk => Nat.le_trans h16 (hr0.2 k hk)) fun k hk => by
            rcases hk with h | h | h
            · exact ⟨.inl (.inl h), Nat.lt_of_lt_of_le (R56.out.lt k h) f8.size⟩
            · exact ⟨.inl (.inr (.inl h)), Nat.lt_of_lt_of_le (R6.out.lt k h) f8.size⟩
            · exact ⟨(q1.2 k h).imp (fun h => .inr (.inr h)) id, q1.lt k h⟩)
          have HR8 := hid (show Row w8 (New w6) 3 1 (.slice A6 (j + 1) c6') (j + 1) (ints .i64 ((usL U).take (j + 1))) from by
            rw [htk.out, ints_app]
            exact q1.mono fun k hk => hk.elim (fun h => hr0.2 k h) (fun h => Nat.le_trans (hf0.then fal).size h))
          have F8 := hid f8
          clear q1 q2 hr0 hf0 fal f8 h16 htk
          go_wp2
          go_roundw
          case rel => exact ⟨j + 1, A6, c6', by go_num, rfl, by omega, F8.out, HR8.out, HS8⟩
          case measure => simp [intOf]; omega
        · obtain rfl : j = M := by omega
          rw [List.take_of_length_le (by unfold usL; rw [List.length_map, lst_length, ← HM.out]; exact Nat.le_refl _)] at hrow
          have HR := hid hrow
          have HF := hid hfw
          have R57 := hid (R56.out.fr hfw fun _ _ h => h)
          have R67 := hid (R6.out.fr hfw fun _ _ h => h)
          have HW := hid (hS.out.any (show 31 ≤ 200 by decide))
          have HS0 := hid hS.out.inv
          clear hrow hfw R56 R6 hS
          go_wp2_with fail
          go_loopw [15] (fun v15 wx => ∃ (g : Nat), v15 = .int .i64 g ∧ g ≤ n ∧ Fr (fun k => ¬ Ow (.slice B5 j c5) (.slice B6 P c6) (.slice A3 j c3) k) wr wx ∧ Hid (Any (Ow (.slice B5 j c5) (.slice B6 P c6) (.slice A3 j c3)) w1 wx sb pb (200 + g) U)) (fun v15 _ => n - (intOf v15).toNat)
          case atStart => exact ⟨0, rfl, by omega, Fr.refl _ _, HW⟩
          case round =>
            obtain ⟨g, rfl, hg, hfw, hA⟩ := hrel
            obtain ⟨U2, L2, A2, l, hG⟩ := hA.out
            by_cases hgn : g < n
            · obtain ⟨b, o, rfl, -, hbl, hded⟩ := ded_at (Hd.out.fr (F1.out.then hG.fr0) fun _ _ _ h => h) hgn
              generalize ps.getD g ⟨0, 0, 0⟩ = p at *
              obtain ⟨d, a, nn⟩ := p
              obtain ⟨d0, d1, d2, bd, ba, bn⟩ := hded
              dsimp only at d0 d1 d2 bd ba bn
              have Ba := hid ba
              have HG := hid hG
              clear bd ba bn hG
              go_upto_region 31 with (fail)
              obtain ⟨W3, hW3⟩ : ∃ W3, W3 = wr.alloc (.cells #[.int .i64 d, .int .i64 a, .int .i64 nn] 43) := ⟨_, rfl⟩
              have f3 : Fr Nil wr W3 := by rw [hW3]; exact (Fr.refl _ _).alloc _
              have hX0 : Blk W3 wr.heap.size #[.int .i64 d, .int .i64 a, .int .i64 nn] 43 := by rw [hW3]; exact Blk.new _ _ _
              rw [← hW3]
              clear hW3
              obtain ⟨xb, hxb⟩ : ∃ xb, xb = wr.heap.size := ⟨_, rfl⟩
              rw [← hxb] at hX0 ⊢
              have x0 : W3.cell? ⟨xb, 0, none⟩ = some (.int .i64 d) := hX0.cell 0
              have x1 : W3.cell? ⟨xb, 1, none⟩ = some (.int .i64 a) := hX0.cell 1
              have x2 : W3.cell? ⟨xb, 2, none⟩ = some (.int .i64 nn) := hX0.cell 2
              have HG3 := hid (HG.out.nil f3)
              have F3 := hid (hfw.then f3.nil)
              clear hxb hX0 f3 hfw d0 d1 d2 hbl hA HG
              by_cases h0 : d = 0
              · subst h0
                have hz3 := and3_nat nn
                obtain ⟨r, hr⟩ : ∃ r, r = (nn % 4).toNat := ⟨_, rfl⟩
                have hr3 : r ≤ 3 := by omega
                rw [← hr] at hz3
                clear hr
                go_upto_region 36 with (fail)
                clear hz3 x0 x1 x2
                obtain ⟨t, ht⟩ : ∃ t, t = r + 1 := ⟨_, rfl⟩
                have ht1 : 1 ≤ t := by omega
                rw [show (1 + (r : Int)) = ((t : Nat) : Int) from by omega]
                have Ht := hid ht1
                have ht4 : t ≤ 4 := by omega
                clear ht ht1 hr3
                by_cases hti : takeI l ((t : Nat) : Int) < l.length
                · have Hti := hid hti
                  clear hti
                  go_wp2_with fail
                  refine (sg_take HG3.out t Ht.out Hti.out).mono ?_
                  rintro e w4 ⟨y, rfl, hy60, hy, hH, hf⟩
                  have HH := hid hH
                  have Hy60 := hid hy60
                  have F4 := hid (F3.out.then hf)
                  clear hH hf hy hy60
                  go_wp2_with fail
                  refine (sg_add HH.out (by omega)).mono ?_
                  rintro e w5 ⟨rfl, hG, hf⟩
                  have HG5 := hid hG
                  have F5' := hid (F4.out.then hf)
                  clear hG hf
                  go_wp2_with fail
                  go_roundw
                  case rel => exact ⟨g + 1, by go_num, by omega, F5'.out, hid (HG5.out.any (by omega))⟩
                  case measure => simp [intOf]; omega
                · have Hti := hid hti
                  clear hti
                  go_wp2_with fail
                  refine (sg_takeno HG3.out (t : Nat) Hti.out).mono ?_
                  rintro e w4 ⟨rfl, hG, hf⟩
                  have HG4' := hid hG
                  have F4 := hid (F3.out.then hf)
                  clear hG hf
                  go_wp2_with fail
                  go_roundw
                  case rel => exact ⟨g + 1, by go_num, by omega, F4.out, hid (HG4'.out.any (by omega))⟩
                  case measure => simp [intOf]; omega
              by_cases h1 : d = 1
              · subst h1
                have hz3 := and3_nat nn
                obtain ⟨r, hr⟩ : ∃ r, r = (nn % 4).toNat := ⟨_, rfl⟩
                have hr3 : r ≤ 3 := by omega
                rw [← hr] at hz3
                clear hr
                go_upto_region 36 with (fail)
                clear hz3 x0 x1 x2
                obtain ⟨t, ht⟩ : ∃ t, t = r + 1 := ⟨_, rfl⟩
                have ht1 : 1 ≤ t := by omega
                rw [show (1 + (r : Int)) = ((t : Nat) : Int) from by omega]
                have Ht := hid ht1
                have ht4 : t ≤ 4 := by omega
                clear ht ht1 hr3
                by_cases hti : takeI l ((t : Nat) : Int) < l.length
                · have Hti := hid hti
                  clear hti
                  go_wp2_with fail
                  refine (sg_take HG3.out t Ht.out Hti.out).mono ?_
                  rintro e w4 ⟨y, rfl, hy60, hy, hH, hf⟩
                  have HH := hid hH
                  have Hy60 := hid hy60
                  have F4 := hid (F3.out.then hf)
                  clear hH hf hy hy60
                  go_wp2_with fail
                  refine (sg_add HH.out (by omega)).mono ?_
                  rintro e w5 ⟨rfl, hG, hf⟩
                  have HG5 := hid hG
                  have F5' := hid (F4.out.then hf)
                  clear hG hf
                  go_wp2_with fail
                  go_roundw
                  case rel => exact ⟨g + 1, by go_num, by omega, F5'.out, hid (HG5.out.any (by omega))⟩
                  case measure => simp [intOf]; omega
                · have Hti := hid hti
                  clear hti
                  go_wp2_with fail
                  refine (sg_takeno HG3.out (t : Nat) Hti.out).mono ?_
                  rintro e w4 ⟨rfl, hG, hf⟩
                  have HG4' := hid hG
                  have F4 := hid (F3.out.then hf)
                  clear hG hf
                  go_wp2_with fail
                  go_roundw
                  case rel => exact ⟨g + 1, by go_num, by omega, F4.out, hid (HG4'.out.any (by omega))⟩
                  case measure => simp [intOf]; omega
              by_cases h2 : d = 2
              · subst h2
                have hz3 := and3_nat nn
                obtain ⟨r, hr⟩ : ∃ r, r = (nn % 4).toNat := ⟨_, rfl⟩
                have hr3 : r ≤ 3 := by omega
                rw [← hr] at hz3
                clear hr
                go_upto_region 36 with (fail)
                clear hz3 x0 x1 x2
                obtain ⟨t, ht⟩ : ∃ t, t = r + 1 := ⟨_, rfl⟩
                have ht1 : 1 ≤ t := by omega
                rw [show (1 + (r : Int)) = ((t : Nat) : Int) from by omega]
                have Ht := hid ht1
                have ht4 : t ≤ 4 := by omega
                clear ht ht1 hr3
                by_cases hti : takeI l ((t : Nat) : Int) < l.length
                · have Hti := hid hti
                  clear hti
                  go_wp2_with fail
                  refine (sg_take HG3.out t Ht.out Hti.out).mono ?_
                  rintro e w4 ⟨y, rfl, hy60, hy, hH, hf⟩
                  have HH := hid hH
                  have Hy60 := hid hy60
                  have F4 := hid (F3.out.then hf)
                  clear hH hf hy hy60
                  go_wp2_with fail
                  refine (sg_add HH.out (by omega)).mono ?_
                  rintro e w5 ⟨rfl, hG, hf⟩
                  have HG5 := hid hG
                  have F5' := hid (F4.out.then hf)
                  clear hG hf
                  go_wp2_with fail
                  go_roundw
                  case rel => exact ⟨g + 1, by go_num, by omega, F5'.out, hid (HG5.out.any (by omega))⟩
                  case measure => simp [intOf]; omega
                · have Hti := hid hti
                  clear hti
                  go_wp2_with fail
                  refine (sg_takeno HG3.out (t : Nat) Hti.out).mono ?_
                  rintro e w4 ⟨rfl, hG, hf⟩
                  have HG4' := hid hG
                  have F4 := hid (F3.out.then hf)
                  clear hG hf
                  go_wp2_with fail
                  go_roundw
                  case rel => exact ⟨g + 1, by go_num, by omega, F4.out, hid (HG4'.out.any (by omega))⟩
                  case measure => simp [intOf]; omega
              by_cases h3 : d = 3
              · subst h3
                go_wp2_with fail
                refine (sg_more HG3.out a (wf_i64 Ba.out) (by omega)).mono ?_
                rintro e w4 ⟨rfl, hG, hf⟩
                have HG4' := hid hG
                have F4 := hid (F3.out.then hf)
                clear hG hf x0 x1 x2
                go_wp2_with fail
                go_roundw
                case rel => exact ⟨g + 1, by go_num, by omega, F4.out, hid (HG4'.out.any (by omega))⟩
                case measure => simp [intOf]; omega
              by_cases h4 : d = 4
              · subst h4
                go_wp2_with fail
                refine (sg_less HG3.out a (wf_i64 Ba.out) (by omega)).mono ?_
                rintro e w4 ⟨rfl, hG, hf⟩
                have HG4' := hid hG
                have F4 := hid (F3.out.then hf)
                clear hG hf x0 x1 x2
                go_wp2_with fail
                go_roundw
                case rel => exact ⟨g + 1, by go_num, by omega, F4.out, hid (HG4'.out.any (by omega))⟩
                case measure => simp [intOf]; omega
              by_cases h5 : d = 5
              · subst h5
                go_wp2_with fail
                refine (sg_less HG3.out a (wf_i64 Ba.out) (by omega)).mono ?_
                rintro e w4 ⟨rfl, hG, hf⟩
                have HG4' := hid hG
                have F4 := hid (F3.out.then hf)
                clear hG hf x0 x1 x2
                go_wp2_with fail
                go_roundw
                case rel => exact ⟨g + 1, by go_num, by omega, F4.out, hid (HG4'.out.any (by omega))⟩
                case measure => simp [intOf]; omega
              · clear x1 x2
                go_wp2_with fail
                go_roundw
                case rel => exact ⟨g + 1, by go_num, by omega, F3.out, hid (HG3.out.any (by omega))⟩
                case measure => simp [intOf]; omega
            · have R5a := hid (R57.out.fr hfw fun k hk h => h (.inl hk))
              have R6a := hid (R67.out.fr hfw fun k hk h => h (.inr (.inl hk)))
              have R3a := hid (HR.out.fr hfw fun k hk h => h (.inr (.inr hk)))
              have HG := hid hG
              have hgn2 : g = n := by omega
              subst hgn2
              clear hfw hA hG HW hgn hg
              go_wp2_with fail
              refine (sg_back HG.out).mono ?_
              rintro e w4 ⟨rfl, hG, hf⟩
              have hl : givs 60 l A2 = l4 := InvR.unique hG.inv.r HS0.out.r
              rw [hl] at hG
              have HG4 := hid hG
              have R5b := hid (R5a.out.fr hf fun k hk h => h (.inl hk))
              have R6b := hid (R6a.out.fr hf fun k hk h => h (.inr (.inl hk)))
              have R3b := hid (R3a.out.fr hf fun k hk h => h (.inr (.inr hk)))
              clear hl hG hf R5a R6a R3a HG
              go_wp2_with fail
              refine (sg_list HG4.out).mono ?_
              rintro e w5 ⟨B7, c7, rfl, r7, f7⟩
              rw [← HM.out] at r7 ⊢
              have R7 := hid r7
              have F7 := hid f7
              clear r7 f7
              go_wp2_with fail
              refine (list_same _ _ _ _ _ _ _ (lst U) w5 R7.out.view (R5b.out.fr F7.out fun _ _ h => h).view (by omega)).mono ?_
              rintro e w6 ⟨rfl, f8⟩
              have F8 := hid (F7.out.then f8)
              clear f8 R7 F7
              go_wp2_with fail
              refine (sg_rlist (HG4.out.nil F8.out)).mono ?_
              rintro e w7 ⟨B9, c9, rfl, r9, f9⟩
              rw [← HP.out] at r9 ⊢
              have R9 := hid r9
              have F9 := hid (F8.out.then f9)
              clear r9 f9 F8
              go_wp2_with fail
              refine (list_same _ _ _ _ _ _ _ l4 w7 R9.out.view (R6b.out.fr F9.out fun _ _ h => h).view (by omega)).mono ?_
              rintro e w8 ⟨rfl, f10⟩
              have F10 := hid (F9.out.then f10)
              clear f10 R9 F9
              go_wp2_with fail
              refine (sg_late (HG4.out.nil F10.out)).mono ?_
              rintro e w9 ⟨B11, c11, rfl, -, f11⟩
              have F11 := hid (F10.out.then f11)
              clear f11 F10
              have HG9 := hid (HG4.out.nil F11.out)
              have V5 := hid (R5b.out.fr F11.out fun _ _ h => h).view
              have V3 := hid (R3b.out.fr F11.out fun _ _ h => h).view
              clear HG4 R5b R6b R3b F11
              go_wp2_with fail
              go_loopw [20] (fun v20 wx => ∃ (q : Nat), v20 = .int .i64 q ∧ q ≤ j ∧ Fr Nil w9 wx) (fun v20 _ => j - (intOf v20).toNat)
              case atStart => exact ⟨0, rfl, by omega, Fr.refl _ _⟩
              case round =>
                obtain ⟨q, rfl, hq, hfw⟩ := hrel
                by_cases hqj : q < j
                · obtain ⟨b1, o1, rfl, -, hb1, p0, -⟩ := rn_at (V5.out.fr hfw fun _ _ _ h => h) hqj
                  obtain ⟨b2, o2, rfl, -, hb2, p1⟩ := intK (V3.out.fr hfw fun _ _ _ h => h) hqj
                  have hjl : q < (lst U).length := by rw [lst_length, ← HM.out]; exact hqj
                  rw [usL_get hjl] at p1
                  have hra := (HS0.out.runs).1 _ (mem_rn hjl)
                  obtain ⟨a, ha⟩ : ∃ a, a = (rn (lst U) q).a := ⟨_, rfl⟩
                  rw [← ha] at p0 p1 hra
                  have ha60 : a ≤ 60 := hra.1
                  obtain ⟨x, hx⟩ : ∃ x, x = usesI U (a : Nat) := ⟨_, rfl⟩
                  rw [← hx] at p1
                  have HX := hid hx
                  have HGr := hid (HG9.out.nil hfw)
                  clear hx ha hra hjl
                  go_upto_region 50 with (fail)
                  go_quiet ((refine (sg_uses (HGr.out.nil ((Fr.refl _ _).drewN _)) (a : Nat) (wf_i64 (by omega))).mono ?_; rintro e w7 ⟨rfl, rfl⟩; rw [← HX.out]; exact ⟨rfl, _, rfl⟩))
                  go_wp2_with fail
                  go_roundw
                  case rel => exact ⟨q + 1, by go_num, by omega, (hfw).then ((Fr.refl _ _).drewN _)⟩
                  case measure => simp [intOf]; omega
                · go_wp2
                  go_ret
                  exact ⟨rfl, F1.out.then (HG9.out.nil hfw).fr0⟩
theorem back_raw (A0 : Option Addr) (m c0 : Nat) (zs0 : List Int) (v : Value) (w : World) (hr0 : IsRow .u8 w A0 m c0 zs0) (h : ∃ n ps, Deds w (fun k => k < w.heap.size) v n ps) :
    Calls Try.prog 5 #[.slice A0 m c0, v] w fun e w' => e = .returned (.bool true) ∧ Fr Nil w w' := by
  obtain ⟨n, ps, h⟩ := h
  obtain ⟨A1, c1, rfl⟩ := h.slice
  exact back_law A0 m c0 zs0 A1 n c1 ps w hr0 h
end Go.Proofs.Ytjieckaeplkafaa

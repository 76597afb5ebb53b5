/- The law PlatterPlays. -/
import Derived.Test.YtidjmjfoheagmaaPlO
import Derived.Test.YtidjmjfoheagmaaPlC
set_option linter.unusedSimpArgs false
set_option linter.unusedVariables false
namespace Go.Proofs.Ytidjmjfoheagmaa
open Go.RowKit
theorem do_any (T TM S : Nat → Prop) (pb mb : Nat) (p : Pl) (m : Nat) (d : Dd) (Ak Af : Option Addr) (ck cf kl fl : Nat) (w : World) (h : Pair2 w T TM pb mb p p) (hok : p.okm m) (hm : m ≤ 900000) (hd : DdOk d kl fl w S Ak Af ck cf) (hS : ∀ k, S k → ¬ T k ∧ ¬ TM k) :
    Calls Try.prog 22 #[.pointer (some ⟨pb, 0, none⟩), .pointer (some ⟨mb, 0, none⟩), .agg #[.int .i64 d.d, .int .i64 d.n, .int .u8 (d.b : Int), .int .u32 (d.mask : Int), .slice Ak kl ck, .slice Af fl cf]] w (DoPost w T TM pb mb d p) := by
  by_cases h0 : d.d = 0
  · exact do_write0 T TM S pb mb p m d Ak Af ck cf kl fl h0 w h hok hm hd hS
  by_cases h1 : d.d = 1
  · exact do_write1 T TM S pb mb p m d Ak Af ck cf kl fl h1 w h hok hm hd hS
  by_cases h2 : d.d = 2
  · exact do_write2 T TM S pb mb p m d Ak Af ck cf kl fl h2 w h hok hm hd hS
  by_cases h3 : d.d = 3
  · exact do_write3 T TM S pb mb p m d Ak Af ck cf kl fl h3 w h hok hm hd hS
  by_cases h4 : d.d = 4
  · exact do_read4 T TM S pb mb p m d Ak Af ck cf kl fl h4 w h hok hm hd hS
  by_cases h5 : d.d = 5
  · exact do_read5 T TM S pb mb p m d Ak Af ck cf kl fl h5 w h hok hm hd hS
  by_cases h6 : d.d = 6
  · exact do_sync T TM S pb mb p m d Ak Af ck cf kl fl h6 w h hok hm hd hS
  by_cases h7 : d.d = 7
  · exact do_crash T TM S pb mb p m d Ak Af ck cf kl fl h7 w h hok hm hd hS
  by_cases h8 : d.d = 8
  · exact do_fail T TM S pb mb p m d Ak Af ck cf kl fl h8 w h hok hm hd hS
  by_cases h9 : d.d = 9
  · exact do_rot T TM S pb mb p m d Ak Af ck cf kl fl h9 w h hok hm hd hS
  exact do_none T TM S pb mb p m d Ak Af ck cf kl fl (by omega) w h hok hm hd hS
set_option maxRecDepth 20000 in
set_option maxHeartbeats 4000000 in
theorem plays_law (b0 : Int) (hb0 : (Lit.int .i64 b0).wf = true) (v : Value) (w : World) (hv : ∃ n xs, Dxs w (fun k => k < w.heap.size) v n xs) :
    Calls Try.prog 7 #[.int .i64 b0, v] w fun e w' => e = .returned (.bool true) ∧ Fr Nil w w' := by
  have hb0 := bounds_i64 hb0
  obtain ⟨n, xs, hl, A, c, rfl, hn9, hd⟩ := hv
  have Hl := hid hl
  have Hd := hid hd
  clear hl hd
  go_enter Try.func7, Try.ntmps7
  go_wp2_with fail
  refine (awake_ok w).mono ?_
  rintro e w0 ⟨rfl, f0⟩
  have F0 := hid f0; clear f0
  go_upto_region 3 with (fail)
  go_cut [24] from 14 to 24 (fun v wx => v = .bool (decide (150 < n ∨ (500 < b0 ∧ b0 ≤ 8192))) ∧ wx = w0)
  case first =>
    by_cases hn : 150 < n
    · have E : Hid (decide (150 < n ∨ (500 < b0 ∧ b0 ≤ 8192)) = true) := hid (decide_eq_true (.inl hn))
      go_wp2_with fail
      go_meet
      case rel => exact ⟨by rw [E.out], rfl⟩
    · by_cases h1 : 500 < b0
      · have E : Hid (decide (150 < n ∨ (500 < b0 ∧ b0 ≤ 8192)) = decide (b0 ≤ 8192)) := hid (decide_eq_decide.2 (by omega))
        have hnd : decide ((150 : Int) < (n : Int)) = false := decide_eq_false (by omega)
        have hnd2 : decide (150 < n) = false := decide_eq_false (by omega)
        go_wp2_with fail
        go_meet
        case rel => exact ⟨by rw [E.out], rfl⟩
      · have E : Hid (decide (150 < n ∨ (500 < b0 ∧ b0 ≤ 8192)) = false) := hid (decide_eq_false (by omega))
        have hnd : decide ((150 : Int) < (n : Int)) = false := decide_eq_false (by omega)
        have hnd2 : decide (150 < n) = false := decide_eq_false (by omega)
        go_wp2_with fail
        go_meet
        case rel => exact ⟨by rw [E.out], rfl⟩
  case rest =>
    obtain ⟨rfl, rfl⟩ := hcut
    obtain ⟨w0, rfl⟩ : ∃ w0 : World, w0 = wc := ⟨_, rfl⟩
    by_cases hb : 150 < n ∨ (500 < b0 ∧ b0 ≤ 8192)
    · rw [decide_eq_true hb]
      clear hb
      go_wp2
      go_ret
      exact ⟨rfl, F0.out⟩
    · rw [decide_eq_false hb]
      have hn : n ≤ 150 := by omega
      have Hb := hid hb
      clear hb
      go_wp2_with fail
      by_cases hbad : b0 < 64 ∨ 8192 < b0
      · refine (pnew_bad b0 hbad w0).mono ?_
        rintro e w1 ⟨rfl, rfl⟩
        go_wp2_with fail
        refine (m_new_bad b0 hbad w0).mono ?_
        rintro e w1 ⟨rfl, rfl⟩
        clear hbad
        go_wp2
        go_ret
        exact ⟨rfl, F0.out⟩
      · obtain ⟨B, rfl⟩ : ∃ B : Nat, b0 = B := ⟨b0.toNat, by omega⟩
        have hB1 : 64 ≤ B := by omega
        have hB2 : B ≤ 500 := by have := Hb.out; omega
        clear hbad
        refine (pnew_ok B hB1 (by omega) w0).mono ?_
        rintro e w1 ⟨pb, rfl, h, f1⟩
        have HP1 := hid h.bd
        have F1 := hid f1
        clear h f1
        go_wp2_with fail
        refine (m_new B hB1 (by omega) w1).mono ?_
        rintro e w2 ⟨mb, rfl, h, f2⟩
        have HPair := hid (show Pair2 w2 (fun k => New w0 k ∧ k < w1.heap.size) (fun k => New w1 k ∧ k < w2.heap.size) pb mb (fresh B) (fresh B) from
          ⟨HP1.out.fr f2 fun _ _ h => h, h.bd, fun k hk => Nat.lt_of_lt_of_le hk.2 f2.size, fun k hk => hk.2, fun k hk hm => by have h1 := hk.2; have h2 : w1.heap.size ≤ k := hm.1; omega⟩)
        have F2 := hid ((F0.out.then F1.out).then f2)
        have Hs1 := hid F1.out.size
        have Hs0 := hid F0.out.size
        clear h f2
        go_wp2_with fail
        go_loopw [9] (fun v9 wr => ∃ (i : Nat) (p : Pl) (T TM : Nat → Prop), v9 = .int .i64 i ∧ i ≤ n ∧ Hid (Pair2 wr T TM pb mb p p ∧ p.okm (2 * i) ∧ p.co 0 = 0 ∧ p.bl.length = B ∧ (∀ k, T k → w.heap.size ≤ k) ∧ (∀ k, TM k → w.heap.size ≤ k)) ∧ Fr Nil w wr) (fun v9 _ => n - (intOf v9).toNat)
        case atStart =>
          refine ⟨0, fresh B, _, _, rfl, by omega, hid ⟨HPair.out, okm_fresh B (by omega), rfl, by simp [fresh], fun k hk => ?_, fun k hk => ?_⟩, F2.out⟩
          · have h1 : w0.heap.size ≤ k := hk.1
            have := Hs0.out; omega
          · have h1 : w1.heap.size ≤ k := hk.1
            have := Hs0.out; have := Hs1.out; omega
        case round =>
          clear HPair F2 HP1
          obtain ⟨i, p, T, TM, rfl, hi, hA, hfw⟩ := hrel
          by_cases hlt : i < n
          · obtain ⟨b, o, rfl, hbS, hbl, hat⟩ := Hd.out (by omega)
            obtain ⟨x, hx⟩ : ∃ x, xs[i]? = some x := ⟨_, List.getElem?_eq_getElem (by rw [Hl.out]; exact hlt)⟩
            obtain ⟨⟨q0, q1, q2, q3, q4, q5⟩, hx1, hx2, hx3, hx4, hx5⟩ := hat i x hx
            have q0 := hfw.cell q0 fun h => h
            have q1 := hfw.cell q1 fun h => h
            have q2 := hfw.cell q2 fun h => h
            have q3 := hfw.cell q3 fun h => h
            have q4 := hfw.cell q4 fun h => h
            have q5 := hfw.cell q5 fun h => h
            have X4 := hid (hx4.fr hfw fun _ _ _ h => h)
            have X5 := hid (hx5.fr hfw fun _ _ _ h => h)
            have Xn := hid hx1
            have Xb := hid hx2
            have Xm := hid hx3
            obtain ⟨fl, hfl⟩ : ∃ fl, fl = x.d.fa.length := ⟨_, rfl⟩
            rw [← hfl] at q5 X5
            have Hfl := hid hfl
            have hkl9 := X4.out.le
            have hfl9 := X5.out.le
            have HF := hid hfw
            clear hat hx hx1 hx2 hx3 hx4 hx5 hfl hfw
            by_cases hk : 200 < x.kl
            · go_wp2
              go_ret
              exact ⟨rfl, HF.out⟩
            by_cases hf : 20 < fl
            · go_wp2
              go_ret
              exact ⟨rfl, HF.out⟩
            go_wp2_with fail
            refine (do_any T TM (fun k => k < w.heap.size) pb mb p (2 * i) x.d x.Ak x.Af x.ck x.cf x.kl fl wr hA.out.1 hA.out.2.1 (by omega) ⟨Xn.out, Xb.out, Xm.out, by omega, ⟨Hfl.out, by omega⟩, X4.out, X5.out⟩ fun k hk => ⟨fun h => by have := hA.out.2.2.2.2.1 k h; omega, fun h => by have := hA.out.2.2.2.2.2 k h; omega⟩).mono ?_
            rintro e w5 ⟨rfl, ⟨T', TM', h5, hT5, hTM5⟩, f5⟩
            have H5 := hid h5
            have HF5 := hid (HF.out.trans f5 fun k hk => .inr (hk.elim (hA.out.2.2.2.2.1 k) (hA.out.2.2.2.2.2 k)))
            have HT5 := hid (fun k hk => (hT5 k hk).elim (hA.out.2.2.2.2.1 k) (fun h => Nat.le_trans HF.out.size h) : ∀ k, T' k → w.heap.size ≤ k)
            have HTM5 := hid (fun k hk => (hTM5 k hk).elim (hA.out.2.2.2.2.2 k) (fun h => Nat.le_trans HF.out.size h) : ∀ k, TM' k → w.heap.size ≤ k)
            have Hok := hid (okm_do (d := x.d) hA.out.2.1 (by have := Hfl.out; omega))
            have Hco := hid (co0_do (d := x.d) hA.out.2.2.1)
            have Hbl := hid ((bl_do (d := x.d) (p := p)).trans hA.out.2.2.2.1)
            clear h5 f5 hT5 hTM5 hA
            go_wp2_with fail
            refine (same_ok T' TM' pb mb (doP x.d p) Hco.out w5 H5.out.ip H5.out.im).mono ?_
            rintro e w6 ⟨rfl, f6⟩
            have HF6 := hid (HF5.out.then f6)
            have H6 := hid (H5.out.nil f6)
            clear f6
            go_wp2_with fail
            go_roundw
            case rel => exact ⟨i + 1, _, T', TM', by go_num, by omega, hid ⟨H6.out, Hok.out.mono (by omega), Hco.out, Hbl.out, HT5.out, HTM5.out⟩, HF6.out⟩
            case measure => simp [intOf]; omega
          · have hin : i ≤ 150 := by omega
            have HF := hid hfw
            clear hfw
            go_wp2_with fail
            refine (copy_ok T pb p wr hA.out.1.ip (hA.out.2.1.ok (by omega)) hA.out.2.1.2.1 (by rw [hA.out.2.2.2.1]; omega)).mono ?_
            rintro e w5 ⟨qb, rfl, hq, f5, hqb⟩
            have HQ := hid hq
            have H5 := hid (hA.out.1.nil f5)
            have HF5 := hid (HF.out.then f5)
            clear hq f5
            go_wp2_with fail
            refine (cached_ok _ qb p w5 HQ.out).mono ?_
            rintro e w6 ⟨rfl, rfl⟩
            go_wp2_with fail
            refine (cached_ok T pb p w5 H5.out.ip).mono ?_
            rintro e w6 ⟨rfl, rfl⟩
            go_wp2_with fail
            refine (fail_ok T Nil pb p _ 0 [] rfl (by omega) w5 H5.out.ip (View.nil _ _ _)).mono ?_
            rintro e w6 ⟨rfl, p6, f6⟩
            obtain ⟨T6, P6, hT6⟩ := H5.out.stepP p6 f6
            have H6 := hid P6
            have HF6 := hid (HF5.out.trans f6 fun k hk => .inr (hA.out.2.2.2.2.1 k hk))
            have HT6 := hid (fun k hk => (hT6 k hk).elim (hA.out.2.2.2.2.1 k) (fun h => Nat.le_trans HF5.out.size h) : ∀ k, T6 k → w.heap.size ≤ k)
            clear p6 f6 P6 hT6
            go_wp2_with fail
            refine (m_fail TM Nil mb p _ 0 [] rfl (by omega) w6 H6.out.im (View.nil _ _ _)).mono ?_
            rintro e w7 ⟨rfl, p7, f7⟩
            obtain ⟨TM7, P7, hTM7⟩ := H6.out.stepM p7 f7
            have H7 := hid P7
            have HF7 := hid (HF6.out.trans f7 fun k hk => .inr (hA.out.2.2.2.2.2 k hk))
            have HTM7 := hid (fun k hk => (hTM7 k hk).elim (hA.out.2.2.2.2.2 k) (fun h => Nat.le_trans HF6.out.size h) : ∀ k, TM7 k → w.heap.size ≤ k)
            have Hok7 := hid (okm_fail (fa := []) (hA.out.2.1.mono (show 2 * i ≤ 300 by omega)) (by simp))
            have Hbl7 := hid (show (p.fail []).bl.length = B from hA.out.2.2.2.1)
            clear p7 f7 P7 hTM7 hA
            obtain ⟨q, hq⟩ : ∃ q, q = p.fail [] := ⟨_, rfl⟩
            rw [← hq] at H7 Hok7 Hbl7
            clear hq
            go_wp2_with fail
            go_loopw [11] (fun v11 ws => ∃ (j : Nat) (q : Pl) (T TM : Nat → Prop), v11 = .int .i64 j ∧ j ≤ 70 ∧ Hid (Pair2 ws T TM pb mb q q ∧ q.okm (300 + 2 * j) ∧ q.bl.length = B ∧ (∀ k, T k → w.heap.size ≤ k) ∧ (∀ k, TM k → w.heap.size ≤ k)) ∧ Fr Nil w ws) (fun v11 _ => 70 - (intOf v11).toNat)
            case atStart => exact ⟨0, q, T6, TM7, rfl, by omega, hid ⟨H7.out, Hok7.out, Hbl7.out, HT6.out, HTM7.out⟩, HF7.out⟩
            case round =>
              obtain ⟨j, q, T, TM, rfl, hj, hA, hfw⟩ := hrel
              have HF := hid hfw
              clear hfw
              obtain ⟨g0, vb, vc, vf, g1, ⟨bs, g2, -⟩, -, -⟩ := hA.out.1.im
              obtain ⟨Ab, cb, rfl⟩ := g2.slice
              have c0 : wr.cell? ⟨mb, 0, none⟩ = some (.slice Ab B cb) := by rw [← hA.out.2.2.1]; exact g1.cell 0
              clear g0 g1 g2
              by_cases hjB : j < B
              · by_cases hj7 : j < 70
                · go_wp2_with fail
                  refine (do_any T TM Nil pb mb q (300 + 2 * j) ⟨4, j, 0, 0, [], []⟩ none none 0 0 0 0 wr hA.out.1 hA.out.2.1 (by omega) ⟨by show _ ≤ (j : Int) ∧ (j : Int) < _; omega, by show 0 < 256; omega, by show 0 < 4294967296; omega, by omega, ⟨rfl, by omega⟩, View.nil _ _ _, View.nil _ _ _⟩ fun k hk => hk.elim).mono ?_
                  rintro e w5 ⟨rfl, ⟨T', TM', h5, hT5, hTM5⟩, f5⟩
                  have H5 := hid h5
                  have HF5 := hid (HF.out.trans f5 fun k hk => .inr (hk.elim (hA.out.2.2.2.1 k) (hA.out.2.2.2.2 k)))
                  have HT5 := hid (fun k hk => (hT5 k hk).elim (hA.out.2.2.2.1 k) (fun h => Nat.le_trans HF.out.size h) : ∀ k, T' k → w.heap.size ≤ k)
                  have HTM5 := hid (fun k hk => (hTM5 k hk).elim (hA.out.2.2.2.2 k) (fun h => Nat.le_trans HF.out.size h) : ∀ k, TM' k → w.heap.size ≤ k)
                  have Hok := hid (okm_do (d := ⟨4, j, 0, 0, [], []⟩) hA.out.2.1 (by simp))
                  have Hbl := hid ((bl_do (d := ⟨4, j, 0, 0, [], []⟩) (p := q)).trans hA.out.2.2.1)
                  clear h5 f5 hT5 hTM5 hA
                  go_wp2_with fail
                  go_roundw
                  case rel => exact ⟨j + 1, _, T', TM', by go_num, by omega, hid ⟨H5.out, Hok.out.mono (by omega), Hbl.out, HT5.out, HTM5.out⟩, HF5.out⟩
                  case measure => simp [intOf]; omega
                · go_wp2
                  go_ret
                  exact ⟨rfl, HF.out⟩
              · go_wp2
                go_ret
                exact ⟨rfl, HF.out⟩
end Go.Proofs.Ytidjmjfoheagmaa

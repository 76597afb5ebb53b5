/- The law BufferLast. -/
import Derived.Test.YtahedenbchgglaaBlT
import Derived.Deep.Cut
import Derived.Deep.CutRange
import Derived.Deep.QuietTactic
import Derived.BigQuiet
set_option linter.unusedSimpArgs false
set_option linter.unusedVariables false
namespace Go.Proofs.Ytahedenbchgglaa
open Go.RowKit
theorem intAt {k : IntKind} {w : World} {S : Nat → Prop} {A : Option Addr} {n c : Nat} {l : List Int} (h : View w S 1 (.slice A n c) n (ints k l)) {i : Nat} (hi : i < n) :
    ∃ b o, A = some ⟨b, o, none⟩ ∧ S b ∧ b < w.heap.size ∧ w.cell? ⟨b, o + i, none⟩ = some (.int k (l.getD i 0)) := by
  obtain ⟨hl, A', c', e, _, _, _, _, h5⟩ := h
  injection e with ea _ ec
  subst ea; subst ec
  obtain ⟨b, o, hA, hS, hb, hc⟩ := h5 (by omega)
  rw [ints_length, Nat.mul_one] at hl
  have hil : i < l.length := by omega
  refine ⟨b, o, hA, hS, hb, hc _ _ ?_⟩
  rw [ints_at k l i hil]
  simp [List.getD, List.getElem?_eq_getElem hil]
set_option maxRecDepth 20000 in
set_option maxHeartbeats 4000000 in
theorem last_law (A : Option Addr) (n c : Nat) (zs : List Int) (w : World) (hr : IsRow .u16 w A n c zs) :
    Calls Try.prog 5 #[.slice A n c] w fun e w' => e = .returned (.bool true) ∧ Fr Nil w w' := by
  obtain ⟨hv, hlen, hwf⟩ := hr.view
  have hnle := hv.le
  have Hv := hid hv
  have Hlen := hid hlen
  have Hwf := hid hwf
  clear hv hlen hwf hr
  generalize zs.take n = l at *
  go_enter Try.func5, Try.ntmps5
  go_wp2_with fail
  refine (awake_ok w).mono ?_
  rintro e w0 ⟨rfl, f0⟩
  have F0 := hid f0; clear f0
  by_cases hn : 100 < n
  · go_wp2
    go_ret
    exact ⟨rfl, F0.out⟩
  go_wp2_with fail
  refine (new_ok 64 (by omega) w0).mono ?_
  rintro e w1 ⟨pb, mb, rfl, hb1, f1⟩
  rw [show (min (max 64 0) 512 : Int).toNat = 64 by decide] at hb1
  have HB1 := hid (show IsB w1 (fun k => k = pb ∨ k = mb) pb mb 64 [] from ⟨.inl rfl, .inr rfl, hb1.2.2⟩)
  have Hpm := hid (show w0.heap.size ≤ pb ∧ w0.heap.size ≤ mb ∧ pb < w1.heap.size ∧ mb < w1.heap.size from ⟨hb1.1, hb1.2.1, hb1.2.2.1.lt, hb1.2.2.2.1.lt⟩)
  have F1 := hid (F0.out.then f1)
  have Hs0 := hid F0.out.size
  clear hb1 f1
  go_wp2_with fail
  have hb0 := Blk.new w1 (arr (List.replicate 32 0)) 35
  have f2 : Fr Nil w1 (w1.alloc (.cells (arr (List.replicate 32 0)) 35)) := (Fr.refl _ _).alloc _
  obtain ⟨w2, hw2⟩ : ∃ w2, w2 = w1.alloc (.cells (arr (List.replicate 32 0)) 35) := ⟨_, rfl⟩
  rw [← hw2] at hb0 f2
  rw [show arr (List.replicate 32 0) = #[.int .i64 0, .int .i64 0, .int .i64 0, .int .i64 0, .int .i64 0, .int .i64 0, .int .i64 0, .int .i64 0, .int .i64 0, .int .i64 0, .int .i64 0, .int .i64 0, .int .i64 0, .int .i64 0, .int .i64 0, .int .i64 0, .int .i64 0, .int .i64 0, .int .i64 0, .int .i64 0, .int .i64 0, .int .i64 0, .int .i64 0, .int .i64 0, .int .i64 0, .int .i64 0, .int .i64 0, .int .i64 0, .int .i64 0, .int .i64 0, .int .i64 0, .int .i64 0] from rfl] at hw2
  obtain ⟨tb, htb⟩ : ∃ tb, tb = w1.heap.size := ⟨_, rfl⟩
  have Htb := hid (show w1.heap.size ≤ tb by omega)
  have Htl := hid (show tb < w2.heap.size from by rw [htb]; exact hb0.lt)
  rw [← htb] at hb0 ⊢
  rw [← hw2]
  have HT2 := hid hb0
  have HB2 := hid (HB1.out.fr f2 fun _ _ h => h)
  have F2 := hid (F1.out.then f2)
  have Hs2 := hid f2.size
  clear hb0 f2 htb hw2 HB1 F1
  obtain ⟨Sd, hSd⟩ : ∃ Sd : Nat → Prop, Sd = fun k => w2.heap.size ≤ k := ⟨_, rfl⟩
  have HSd := hid (show ∀ k, Sd k → k ≠ pb ∧ k ≠ mb ∧ k ≠ tb from fun k hk => by
    rw [hSd] at hk
    have h1 : w2.heap.size ≤ k := hk
    have := Hpm.out; have := Htl.out; have := Hs2.out
    exact ⟨by omega, by omega, by omega⟩)
  have HSn := hid (show ∀ k, w2.heap.size ≤ k → Sd k from fun k hk => by rw [hSd]; exact hk)
  clear hSd
  have hpp : pb ≠ mb ∧ w.heap.size ≤ mb ∧ tb ≠ pb ∧ tb ≠ mb ∧ w.heap.size ≤ tb := by
    have := Hpm.out; have := Htb.out; have := Hs0.out
    exact ⟨HB2.out.ne, by omega, by omega, by omega, by omega⟩
  have Hp := hid hpp
  clear hpp
  go_loopw [5, 6] (fun v5 v6 wr => ∃ (i : Nat) (m : List (Int × Value)) (la : List Int), v5 = .int .i64 (cntN la : Nat) ∧ v6 = .int .i64 i ∧ i ≤ n ∧ Hid (IsB wr (fun k => k = pb ∨ k = mb) pb mb 64 m ∧ Lst wr Sd m la ∧ Blk wr tb (arr la) 35 ∧ w2.heap.size ≤ wr.heap.size) ∧ Fr Nil w wr) (fun _ v6 _ => n - (intOf v6).toNat)
  case atStart => exact ⟨0, [], List.replicate 32 0, rfl, rfl, by omega, hid ⟨HB2.out, Lst.start _ _, HT2.out, Nat.le_refl _⟩, F2.out⟩
  case round =>
    clear HB2 HT2 F2
    obtain ⟨i, m, la, rfl, rfl, hi, hA, hfw⟩ := hrel
    have hc32 : cntN la ≤ 32 := by have := cntN_le la; rw [hA.out.2.1.len] at this; exact this
    have HF := hid hfw
    clear hfw
    by_cases hlt : i < n
    · obtain ⟨b, o, rfl, -, hbl, q0⟩ := intAt (Hv.out.fr HF.out fun _ _ _ h => h) hlt
      have hz : 0 ≤ l.getD i 0 ∧ l.getD i 0 < 65536 := bounds_u16 (Hwf.out _ (by
        simp [List.getD, List.getElem?_eq_getElem (show i < l.length by rw [Hlen.out]; exact hlt)]))
      obtain ⟨z, hz2⟩ : ∃ z : Nat, l.getD i 0 = z := ⟨(l.getD i 0).toNat, by omega⟩
      rw [hz2] at q0 hz
      clear hz2
      have hz16 : z < 65536 := by omega
      clear hz
      have ha31 := and31 z hz16
      have ha1 := and1s z hz16
      obtain ⟨s, hs⟩ : ∃ s, s = z % 32 := ⟨_, rfl⟩
      have hs32 : s < 32 := by omega
      rw [← hs] at ha31
      have hs32i : (s : Int) < 32 := by omega
      have p0 := hA.out.2.2.1.cell s
      rw [arr_at (by rw [hA.out.2.1.len]; exact hs32)] at p0
      have z0 := hA.out.2.2.1.frozen s
      have htl := hA.out.2.2.1.lt
      have Hws := hid (show (Lit.int .i64 (s : Int)).wf = true from by simp [Lit.wf, IntKind.min, IntKind.max, IntKind.signed, IntKind.bits]; omega)
      have Hin := hid (hA.out.2.1.in_iff hs32)
      clear hs
      obtain ⟨y, hy⟩ : ∃ y, y = la.getD s 0 := ⟨_, rfl⟩
      rw [← hy] at p0
      have Hy := hid hy
      clear hy
      go_upto_if 35 with (fail)
      go_cut [5] from 35 to 37 (fun v wx => v = .int .i64 ((cntN la + if y = 0 then 1 else 0 : Nat)) ∧ wx = wr)
      case first =>
        by_cases hy0 : y = 0
        · have hyb : (y == 0) = true := by rw [hy0]; rfl
          have E := hid (show (cntN la + if y = 0 then 1 else 0) = cntN la + 1 by rw [if_pos hy0])
          clear hy0
          go_wp2_with fail
          go_meet
          case rel => exact ⟨by rw [E.out]; go_num, rfl⟩
        · have hyb : (y == 0) = false := by simpa using hy0
          have E := hid (show (cntN la + if y = 0 then 1 else 0) = cntN la by rw [if_neg hy0]; rfl)
          clear hy0
          go_wp2_with fail
          go_meet
          case rel => exact ⟨by rw [E.out], rfl⟩
      case rest =>
        obtain ⟨rfl, rfl⟩ := hcut
        obtain ⟨w3, rfl⟩ : ∃ w3 : World, w3 = wc := ⟨_, rfl⟩
        obtain ⟨cn, hcn⟩ : ∃ cn, cn = (cntN la + if y = 0 then 1 else 0) := ⟨_, rfl⟩
        rw [← hcn]
        have Hcn := hid hcn
        clear hcn
        by_cases hb1 : z / 32 % 2 = 1
        · have hB : (bits .and .u16 ((z : Int) / 32) 1 == 1) = true := by
            rw [show ((z : Int) / 32) = (z : Int) / 2 ^ 5 from rfl, ha1, hb1]; rfl
          clear hb1 ha1
          go_wp2_with fail
          refine (trim_any _ pb mb 64 m s 1 (by omega) w3 hA.out.1).mono ?_
          rintro e w4 (⟨rfl, -, hb4, f4⟩ | ⟨rfl, hno, -⟩)
          · have e4 : trimmed m (secs s 1) = mput m (s : Int) (.slice none 0 0) := rfl
            rw [e4] at hb4
            have ht4 := hA.out.2.2.1.fr f4 Hp.out.2.2.2.1
            have hl4 := hA.out.2.1.fr f4 fun k hk => (HSd.out k hk).2.1
            have z4 := ht4.frozen s
            have c4 := ht4.cell s
            rw [arr_at (by rw [hA.out.2.1.len]; exact hs32)] at c4
            have htl4 := ht4.lt
            have F4 := hid f4
            have B4 := hid hb4
            have T4 := hid ht4
            have L4 := hid hl4
            clear f4 hb4 ht4 hl4
            go_wp2_with fail
            go_roundw
            case rel =>
              have hcn2 : cntN (la.set s (-1)) = cn := by
                rw [cntN_set (by rw [hA.out.2.1.len]; exact hs32) (by omega), Hcn.out, Hy.out]
              have f5 : Fr (fun k => k = tb) w4 (w4.setCell ⟨tb, s, none⟩ (.int .i64 (-1))) := Fr.setCell (S := fun k => k = tb) (a := ⟨tb, s, none⟩) (Fr.refl _ _) (.inl rfl) _
              refine ⟨i + 1, mput m (s : Int) (.slice none 0 0), la.set s (-1), by rw [hcn2], by go_num, by omega, hid ⟨?_, ?_, ?_, ?_⟩, ?_⟩
              · exact B4.out.fr f5 fun k hk h => hk.elim (fun h' => Hp.out.2.2.1 (h.symm.trans h')) (fun h' => Hp.out.2.2.2.1 (h.symm.trans h'))
              · exact (L4.out.fr f5 fun k hk => (HSd.out k hk).2.2).put hs32 (by omega) (.inr (.inl ⟨rfl, rfl⟩))
              · have := T4.out.set s (.int .i64 (-1))
                rw [arr_set] at this
                exact this
              · exact Nat.le_trans (Nat.le_trans hA.out.2.2.2 F4.out.size) f5.size
              · exact (HF.out.trans F4.out fun k hk => .inr (by rw [hk]; exact Hp.out.2.1)).trans f5 fun k hk => .inr (by rw [hk]; exact Hp.out.2.2.2.2)
            case measure => simp [intOf]; omega
          · exact absurd (hA.out.2.1.room hs32) hno
        · have hb0 : z / 32 % 2 = 0 := by omega
          have hB : (bits .and .u16 ((z : Int) / 32) 1 == 1) = false := by
            rw [show ((z : Int) / 32) = (z : Int) / 2 ^ 5 from rfl, ha1, hb0]; rfl
          clear hb1 hb0 ha1
          go_upto_region 21 with (fail)
          obtain ⟨W0, hW0⟩ : ∃ W0, W0 = w3.alloc (.cells (madeCells #[.int .u8 0] 128) 5) := ⟨_, rfl⟩
          have hR0 : Row W0 (New w3) 5 1 (.slice (some ⟨w3.heap.size, 0, none⟩) 128 128) 128 (bys (List.replicate 128 0)) := by
            rw [hW0]; exact zeros_row 128 (by omega) w3
          have f40 : Fr Nil w3 W0 := by rw [hW0]; exact (Fr.refl _ _).alloc _
          rw [← hW0]
          clear hW0
          have x0 : W0.cell? ⟨w3.heap.size, 5, none⟩ = some (.int .u8 0) := hR0.cell (j := 5) rfl
          have y0 := hR0.frozen 5
          have l0 := hR0.lt _ rfl
          have hR1 := hR0.store 5 (.int .u8 (i : Int))
          have g1 : Fr (New w3) w3 (W0.setCell ⟨w3.heap.size, 5, none⟩ (.int .u8 (i : Int))) := f40.nil.setCell (a := ⟨w3.heap.size, 5, none⟩) (.inr (Nat.le_refl _)) _
          obtain ⟨xb, hxb⟩ : ∃ xb, xb = w3.heap.size := ⟨_, rfl⟩
          have G1 := hid g1
          have HR1 := hid hR1
          have F40 := hid f40
          clear g1 hR1 f40 hR0
          rw [← hxb] at x0 y0 l0 G1 HR1 ⊢
          have Hxb := hid hxb
          clear hxb
          go_wp2_with fail
          obtain ⟨W, hW⟩ : ∃ W, W = W0.setCell ⟨xb, 5, none⟩ (.int .u8 (i : Int)) := ⟨_, rfl⟩
          have hR : Row W (New w3) 5 1 (.slice (some ⟨xb, 0, none⟩) 128 128) 128 (bys ((List.replicate 128 0).set 5 i)) := by
            rw [show bys ((List.replicate 128 0).set 5 i) = (bys (List.replicate 128 0)).set 5 (.int .u8 (i : Int)) from by simp only [bys, List.map_set], hW]
            exact HR1.out
          have f4 : Fr Nil w3 W := by
            rw [hW]
            have := G1.out
            exact ⟨this.os, this.tape, this.output, this.size, fun k hk _ => this.block k hk (fun h => absurd h (by unfold New; omega))⟩
          rw [← hW]
          clear hW x0 y0 l0
          refine (put_ok _ (New w3) pb mb 64 m s _ _ (by omega) Hws.out (hA.out.2.1.room hs32) W (hA.out.1.fr f4 fun _ _ h => h) hR.view).mono ?_
          rintro e w5 ⟨rfl, u, hb5, hv5, f5⟩
          have f45 : Fr (fun k => k = mb) w3 w5 := f4.nil.then f5
          have ht5 := hA.out.2.2.1.fr f45 Hp.out.2.2.2.1
          have hl5 := hA.out.2.1.fr f45 fun k hk => (HSd.out k hk).2.1
          have z5 := ht5.frozen s
          have c5 := ht5.cell s
          rw [arr_at (by rw [hA.out.2.1.len]; exact hs32)] at c5
          have htl5 := ht5.lt
          have V5 := hid (hv5.mono fun k (hk : W.heap.size ≤ k) => HSn.out k (Nat.le_trans hA.out.2.2.2 (Nat.le_trans f4.size hk)))
          have F5 := hid f45
          have B5 := hid hb5
          have T5 := hid ht5
          have L5 := hid hl5
          clear hv5 f45 hb5 ht5 hl5 f4 f5 hR
          go_wp2_with fail
          go_roundw
          case rel =>
            have hcn2 : cntN (la.set s ((i : Int) + 1)) = cn := by
              rw [cntN_set (by rw [hA.out.2.1.len]; exact hs32) (by omega), Hcn.out, Hy.out]
            have f6 : Fr (fun k => k = tb) w5 (w5.setCell ⟨tb, s, none⟩ (.int .i64 ((i : Int) + 1))) := Fr.setCell (S := fun k => k = tb) (a := ⟨tb, s, none⟩) (Fr.refl _ _) (.inl rfl) _
            refine ⟨i + 1, mput m (s : Int) u, la.set s ((i : Int) + 1), by rw [hcn2], by go_num, by omega, hid ⟨?_, ?_, ?_, ?_⟩, ?_⟩
            · exact B5.out.fr f6 fun k hk h => hk.elim (fun h' => Hp.out.2.2.1 (h.symm.trans h')) (fun h' => Hp.out.2.2.2.1 (h.symm.trans h'))
            · refine (L5.out.fr f6 fun k hk => (HSd.out k hk).2.2).put hs32 (by omega) (.inr (.inr ⟨i, u, _, by omega, rfl, rfl, V5.out.fr f6 fun k hk _ => (HSd.out k hk).2.2, ?_⟩))
              simp
            · have := T5.out.set s (.int .i64 ((i : Int) + 1))
              rw [arr_set] at this
              exact this
            · exact Nat.le_trans (Nat.le_trans hA.out.2.2.2 F5.out.size) f6.size
            · exact (HF.out.trans F5.out fun k hk => .inr (by rw [hk]; exact Hp.out.2.1)).trans f6 fun k hk => .inr (by rw [hk]; exact Hp.out.2.2.2.2)
          case measure => simp [intOf]; omega
    · go_wp2_with fail
      refine (len_ok _ pb mb 64 m wr hA.out.1).mono ?_
      rintro e w4 ⟨rfl, rfl⟩
      have hcm : m.length = cntN la := hA.out.2.1.cnt
      rw [hcm]
      clear hcm
      have hc64 : (((cntN la : Nat) : Int) != ((cntN la : Nat) : Int)) = false := by simp
      go_wp2_with fail
      clear hc64 hlt
      go_loopw [9] (fun v9 wq => ∃ s : Nat, v9 = .int .i64 s ∧ s ≤ 32 ∧ Hid (IsB wq (fun k => k = pb ∨ k = mb) pb mb 64 m ∧ Lst wq Sd m la ∧ Blk wq tb (arr la) 35 ∧ Fr Nil w wq)) (fun v9 _ => 32 - (intOf v9).toNat)
      case atStart => exact ⟨0, rfl, by omega, hid ⟨hA.out.1, hA.out.2.1, hA.out.2.2.1, HF.out⟩⟩
      case round =>
        obtain ⟨s, rfl, hs, hQ⟩ := hrel
        obtain ⟨wq, rfl⟩ : ∃ wq : World, wq = wr := ⟨_, rfl⟩
        clear hA HF
        have keep := hid (show ∀ wx, Fr Nil wq wx → Hid (IsB wx (fun k => k = pb ∨ k = mb) pb mb 64 m ∧ Lst wx Sd m la ∧ Blk wx tb (arr la) 35 ∧ Fr Nil w wx) from fun wx f6 =>
          hid ⟨hQ.out.1.fr f6 fun _ _ h => h, hQ.out.2.1.fr f6 fun _ _ h => h, hQ.out.2.2.1.fr f6 (fun h => h), hQ.out.2.2.2.then f6⟩)
        by_cases hlt2 : s < 32
        · have hlt3 : (s : Int) < 32 := by omega
          have Hws := hid (show (Lit.int .i64 (s : Int)).wf = true from by simp [Lit.wf, IntKind.min, IntKind.max, IntKind.signed, IntKind.bits]; omega)
          rcases hQ.out.2.1.rel s hlt2 with ⟨hz, hg⟩ | ⟨hz, hg⟩ | ⟨j, v, xs, hj, hz, hg, hv, h5⟩
          · go_wp2_with fail
            refine (get_none _ pb mb 64 m s Hws.out wq hQ.out.1 hg).mono ?_
            rintro e w5 ⟨rfl, f5⟩
            have t5 := hQ.out.2.2.1.fr f5 (fun h => h)
            have c5 := t5.cell s
            rw [arr_at (by rw [hQ.out.2.1.len]; exact hlt2), hz] at c5
            have F5 := hid f5
            clear f5 hz hg t5
            go_wp2_with fail
            go_quiet (fail)
            go_wp2_with fail
            go_roundw
            case rel => exact ⟨s + 1, by go_num, by omega, keep.out _ (F5.out.drewN _)⟩
            case measure => simp [intOf]; omega
          · go_wp2_with fail
            refine (get_some _ Nil pb mb 64 m s _ 0 [] (by omega) Hws.out wq hQ.out.1 hg (View.nil _ _ _)).mono ?_
            rintro e w5 ⟨A5, q5, rfl, -, f5⟩
            have t5 := hQ.out.2.2.1.fr f5 (fun h => h)
            have c5 := t5.cell s
            rw [arr_at (by rw [hQ.out.2.1.len]; exact hlt2), hz] at c5
            have F5 := hid f5
            clear f5 hz hg t5
            go_wp2_with fail
            go_quiet (fail)
            go_wp2_with fail
            go_roundw
            case rel => exact ⟨s + 1, by go_num, by omega, keep.out _ (F5.out.drewN _)⟩
            case measure => simp [intOf]; omega
          · go_wp2_with fail
            refine (get_some _ Sd pb mb 64 m s _ 128 xs (by omega) Hws.out wq hQ.out.1 hg hv).mono ?_
            rintro e w5 ⟨A5, q5, rfl, R5, f5⟩
            have t5 := hQ.out.2.2.1.fr f5 (fun h => h)
            have c5 := t5.cell s
            rw [arr_at (by rw [hQ.out.2.1.len]; exact hlt2), hz] at c5
            have F5 := hid f5
            obtain ⟨g, cap, e5, -, hgl⟩ := R5.form (by omega)
            injection e5 with ea _ ec
            subst ea
            have x5 : w5.cell? ⟨g, 5, none⟩ = some (.int .u8 (j : Int)) := R5.cell (j := 5) (by simp [bys, h5])
            have hj1 : (j : Int) < 100 := by omega
            have hj0 : (0 : Int) ≤ (j : Int) := by omega
            have b1 : (((j : Int) + 1) != 0) = true := by simp; omega
            have b2 : decide (((j : Int) + 1) ≤ 0) = false := by simp <;> omega
            have b3 : decide ((0 : Int) < (j : Int) + 1) = true := by simp <;> omega
            have b4 : wrap64 ((j : Int) + 1 - 1) = (j : Int) := by rw [wrap64_fit _ (by omega)]; omega
            have b5 : ((j : Int) != (j : Int)) = false := by simp
            clear f5 hz hg t5 hv h5 R5 hj
            go_wp2_with fail
            go_quiet (fail)
            go_wp2_with fail
            go_roundw
            case rel => exact ⟨s + 1, by go_num, by omega, keep.out _ (F5.out.drewN _)⟩
            case measure => simp [intOf]; omega
        · go_wp2_with fail
          refine (clear_ok _ pb mb 64 m wq hQ.out.1).mono ?_
          rintro e w5 ⟨rfl, hb5, f5⟩
          have B5 := hid hb5
          have F5 := hid (hQ.out.2.2.2.trans f5 fun k hk => .inr (by rw [hk]; exact Hp.out.2.1))
          clear hb5 f5
          go_wp2_with fail
          refine (len_ok _ pb mb 64 [] w5 B5.out).mono ?_
          rintro e w6 ⟨rfl, rfl⟩
          go_wp2_with fail
          refine (list_none _ pb mb 64 w5 B5.out).mono ?_
          rintro e w7 ⟨rfl, f7⟩
          have F7 := hid f7
          clear f7
          go_wp2_with fail
          go_ret
          exact ⟨rfl, F5.out.then F7.out⟩
end Go.Proofs.Ytahedenbchgglaa

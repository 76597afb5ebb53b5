/- The texts VRnG of this proof, one behind the other. Conditions: those of each. -/
import Derived.Deep.Cut
import Derived.Deep.CutRange
import Derived.Deep.QuietTactic
import Derived.BigQuiet
import Derived.Test.YtgoghmblfdlnbaaGreatGR8
section
/- Runs: Give. -/
set_option linter.unusedSimpArgs false
set_option linter.unusedVariables false
namespace Go.Proofs.YtgoghmblfdlnbaaGreat
open Go.RowKit
def giveI (l : List Rn) (a : Int) : Nat := l.findIdx (fun r => decide (a ≤ (r.a : Int)))
def touchP (l : List Rn) (i : Nat) (a : Nat) : Bool := decide (0 < i ∧ (rn l (i - 1)).a + (rn l (i - 1)).n = a)
def touchN (l : List Rn) (i : Nat) (a n : Nat) : Bool := decide (i < l.length ∧ a + n = (rn l i).a)
def clash (l : List Rn) (i : Nat) (a n : Nat) : Bool := decide (0 < i ∧ a < (rn l (i - 1)).a + (rn l (i - 1)).n ∨ i < l.length ∧ (rn l i).a < a + n)
def giveR (bl : Nat) (l : List Rn) (a n : Int) : Bool := knownB bl a n && !(clash l (giveI l a) a.toNat n.toNat)
def giveF (l : List Rn) (i a : Nat) : Nat := if touchP l i a = true then i - 1 else i
def giveT (l : List Rn) (i a n : Nat) : Nat := if touchN l i a n = true then i + 1 else i
def giveX (l : List Rn) (i a n : Nat) : Rn := if touchP l i a = true then ⟨(rn l (i - 1)).a, (rn l (i - 1)).n + n⟩ else ⟨a, n⟩
def giveY (l : List Rn) (i a n : Nat) : Rn := if touchN l i a n = true then ⟨(giveX l i a n).a, (giveX l i a n).n + (rn l i).n⟩ else giveX l i a n
def giveL (bl : Nat) (l : List Rn) (a n : Int) : List Rn := if giveR bl l a n = true then l.take (giveF l (giveI l a) a.toNat) ++ [giveY l (giveI l a) a.toNat n.toNat] ++ l.drop (giveT l (giveI l a) a.toNat n.toNat) else l
/-- An element is read, the slice's address being known. -/
theorem rn_at2 {w : World} {S : Nat → Prop} {b o n c : Nat} {l : List Rn} (h : View w S 2 (.slice (some ⟨b, o, none⟩) n c) n (dbl l)) {i : Nat} (hi : i < n) :
    w.cell? ⟨b, o + i * 2, none⟩ = some (.int .i64 ((rn l i).a : Nat)) ∧ w.cell? ⟨b, o + i * 2 + 1, none⟩ = some (.int .i64 ((rn l i).n : Nat)) := by
  obtain ⟨b', o', e, _, _, h1, h2⟩ := rn_at h hi
  injection e with e
  injection e with e1 e2 _
  subst e1; subst e2
  exact ⟨h1, h2⟩
set_option maxRecDepth 20000 in
set_option maxHeartbeats 2000000 in
theorem give_ok (T : Nat → Prop) (pb bl : Nat) (l : List Rn) (a n : Int) (w : World) (h : Rs w T pb bl l) (hl : Lok bl l) (hT : ∀ k, T k → k < w.heap.size) :
    Calls Tryz.prog 36 #[.pointer (some ⟨pb, 0, none⟩), .int .i64 a, .int .i64 n] w fun e w' =>
      e = .returned (.bool (giveR bl l a n)) ∧ Rs w' (fun j => T j ∨ w.heap.size ≤ j) pb bl (giveL bl l a n) ∧ Fr T w w' := by
  have HL := hid hl; clear hl
  have HT := hid hT; clear hT
  have hkn := known_ok T pb bl l a n w h (Nat.le_trans HL.out.1 (by decide))
  by_cases hk : knownB bl a n = false
  · have H1 := hid (show giveR bl l a n = false from by unfold giveR; rw [hk]; rfl)
    have H2 := hid (show giveL bl l a n = l from by unfold giveL; rw [H1.out, if_neg (by decide)])
    have Hh := hid h; clear h
    rw [hk] at hkn
    have Hkn := hid hkn
    clear hkn hk
    go_enter Tryz.func36, Tryz.ntmps36
    go_wp2_with fail
    refine Hkn.out.mono ?_
    rintro e w1 ⟨rfl, rfl⟩
    go_wp2
    go_ret
    rw [H1.out, H2.out]
    exact ⟨rfl, Hh.out.mono fun _ h => .inl h, Fr.refl _ _⟩
  · have hk2 : knownB bl a n = true := by simpa using hk
    rw [hk2] at hkn
    have hkk : 0 ≤ a ∧ 1 ≤ n ∧ n ≤ bl ∧ a ≤ bl - n := by unfold knownB at hk2; simpa using hk2
    have Hk := hid hk2
    have Hkn := hid hkn
    clear hkn hk hk2
    obtain ⟨k1, k2, k3, k4⟩ := hkk
    obtain ⟨N, rfl⟩ : ∃ N : Nat, n = N := ⟨n.toNat, by omega⟩
    obtain ⟨X, rfl⟩ : ∃ X : Nat, a = X := ⟨a.toNat, by omega⟩
    have hbl8 := HL.out.1
    have hXN : X + N ≤ 8192 := by omega
    have hN1 : 1 ≤ N := by omega
    clear k1 k2 k3 k4
    have h0 := h
    obtain ⟨hT1, sv, hb, hr⟩ := h
    obtain ⟨A, c, hsv⟩ := hr.slice
    subst hsv
    have c1 := hb.cell 1
    obtain ⟨L, hL⟩ : ∃ L, L = l.length := ⟨_, rfl⟩
    have HLl := hid hL
    have hv := hr.view
    rw [← hL] at hv c1
    have hL9 : L ≤ 8192 := by rw [hL]; exact HL.out.2.1
    have Hb := hid hb
    rw [← hL] at Hb
    clear hL hb hr
    have Hv := hid hv; clear hv
    have Hh := hid h0; clear h0
    go_enter Tryz.func36, Tryz.ntmps36
    go_wp2_with fail
    refine Hkn.out.mono ?_
    rintro e w1 ⟨rfl, rfl⟩
    go_wp2_with fail
    go_loopw [7] (fun v7 wr => ∃ i : Nat, v7 = .int .i64 i ∧ i ≤ L ∧ Fr Nil w wr ∧ Hid (∀ j, j < i → (rn l j).a < X)) (fun v7 _ => L - (intOf v7).toNat)
    case atStart => exact ⟨0, rfl, by omega, Fr.refl _ _, hid fun j hj => absurd hj (by omega)⟩
    case round =>
      obtain ⟨i, rfl, hi, hfw, hok⟩ := hrel
      have hbr := Hb.out.fr hfw (fun h => h)
      have r1 := hbr.cell 1
      clear hbr
      have hvr := Hv.out.fr hfw fun _ _ _ h => h
      have Hvr := hid hvr; clear hvr
      go_upto_region 4 with (fail)
      go_cut [34] from 16 to 36 (fun v wx => v = .bool (decide (i < L ∧ (rn l i).a < X)) ∧ wx = wr)
      case first =>
        by_cases hlt : i < L
        · obtain ⟨b, o, rfl, -, hbl, q0, q1⟩ := rn_at Hvr.out hlt
          by_cases hz : (rn l i).a < X
          · have hv := hid (show decide (i < L ∧ (rn l i).a < X) = true from decide_eq_true ⟨hlt, hz⟩)
            go_wp2_with fail
            go_meet
            case rel => exact ⟨by rw [hv.out], rfl⟩
          · have hv := hid (show decide (i < L ∧ (rn l i).a < X) = false from decide_eq_false fun h => hz h.2)
            go_wp2_with fail
            go_meet
            case rel => exact ⟨by rw [hv.out], rfl⟩
        · have hv := hid (show decide (i < L ∧ (rn l i).a < X) = false from decide_eq_false fun h => hlt h.1)
          go_wp2_with fail
          go_meet
          case rel => exact ⟨by rw [hv.out], rfl⟩
      case rest =>
        obtain ⟨rfl, hwc⟩ := hcut
        subst hwc
        by_cases hgo : i < L ∧ (rn l i).a < X
        · have hd : decide (i < L ∧ (rn l i).a < X) = true := decide_eq_true hgo
          have Hgo := hid hgo
          obtain ⟨hlt, -⟩ := hgo
          go_wp2_with fail
          go_roundw
          case rel =>
            refine ⟨i + 1, by go_num, by omega, hfw, hid fun j hj => ?_⟩
            rcases Nat.lt_or_ge j i with h | h
            · exact hok.out j h
            · obtain rfl : j = i := by omega
              exact Hgo.out.2
          case measure => simp [intOf]; omega
        · have hd : decide (i < L ∧ (rn l i).a < X) = false := decide_eq_false hgo
          have hI := hid (show giveI l X = i from by
            unfold giveI
            refine findIdx_is (by have := HLl.out; omega) (fun j hj => by have := hok.out j hj; simp; omega) (fun h => ?_)
            simp only [decide_eq_true_eq]
            have := HLl.out
            rcases Nat.lt_or_ge (rn l i).a X with h2 | h2
            · exact absurd ⟨by omega, h2⟩ hgo
            · omega)
          have Hgo := hid hgo
          clear hgo
          go_wp2_with fail
          obtain ⟨w4, rfl⟩ : ∃ w4 : World, w4 = wc := ⟨_, rfl⟩
          go_cut [84] from 37 to 84 (fun v wx => v = .bool (clash l i X N) ∧ Fr Nil w4 wx)
          case first =>
            by_cases h0 : 0 < i
            · obtain ⟨b, o, rfl, -, hbl, q0, q1⟩ := rn_at Hvr.out (show i - 1 < L by omega)
              have hdi : decide ((0 : Int) < (i : Int)) = true := decide_eq_true (by omega)
              have hj1 : IntKind.i64.wrap ((i : Int) - 1) = (i : Int) - 1 := by rw [IntKind.wrap_i64]; omega
              have hj2 : ((i : Int) - 1).toNat = i - 1 := by omega
              have hj3 : (0 : Int) ≤ (i : Int) - 1 := by omega
              have hj4 : (i : Int) - 1 < (L : Int) := by omega
              have hjb := hid (HL.out.2.2 (i - 1) (by rw [← HLl.out]; omega))
              have hjb2 : (rn l (i - 1)).a + (rn l (i - 1)).n ≤ 8192 := Nat.le_trans hjb.out HL.out.1
              by_cases h1 : X < (rn l (i - 1)).a + (rn l (i - 1)).n
              · have hd1 : decide ((X : Int) < ((rn l (i - 1)).a : Int) + ((rn l (i - 1)).n : Int)) = true := decide_eq_true (by omega)
                have hv := hid (show clash l i X N = true from decide_eq_true (.inl ⟨h0, h1⟩))
                go_quiet (fail)
                go_wp2
                go_meet
                case rel => exact ⟨by rw [hv.out], (Fr.refl _ _).drewN _⟩
              · have hd1 : decide ((X : Int) < ((rn l (i - 1)).a : Int) + ((rn l (i - 1)).n : Int)) = false := decide_eq_false (by omega)
                have Hp := hid (show ¬ (0 < i ∧ X < (rn l (i - 1)).a + (rn l (i - 1)).n) from fun h => h1 h.2)
                by_cases h2 : i < L
                · obtain ⟨q2, q3⟩ := rn_at2 Hvr.out h2
                  have hd2 : decide (i < L) = true := decide_eq_true (by omega)
                  have hnb := hid (HL.out.2.2 i (by rw [← HLl.out]; exact h2))
                  have hnb2 : (rn l i).a + (rn l i).n ≤ 8192 := Nat.le_trans hnb.out HL.out.1
                  by_cases h3 : (rn l i).a < X + N
                  · have hd3 : decide (((rn l i).a : Int) < (X : Int) + (N : Int)) = true := decide_eq_true (by omega)
                    have hv := hid (show clash l i X N = true from decide_eq_true (.inr ⟨by rw [← HLl.out]; exact h2, h3⟩))
                    go_quiet (fail)
                    go_wp2
                    go_meet
                    case rel => exact ⟨by rw [hv.out], (Fr.refl _ _).drewN _⟩
                  · have hd3 : decide (((rn l i).a : Int) < (X : Int) + (N : Int)) = false := decide_eq_false (by omega)
                    have hv := hid (show clash l i X N = false from decide_eq_false (fun h => h.elim Hp.out fun h => h3 h.2))
                    go_quiet (fail)
                    go_wp2
                    go_meet
                    case rel => exact ⟨by rw [hv.out], (Fr.refl _ _).drewN _⟩
                · skip
                  have hd2 : decide (i < L) = false := decide_eq_false (by omega)
                  have hv := hid (show clash l i X N = false from decide_eq_false (fun h => h.elim Hp.out fun h => h2 (by rw [HLl.out]; exact h.1)))
                  go_quiet (fail)
                  go_wp2
                  go_meet
                  case rel => exact ⟨by rw [hv.out], (Fr.refl _ _).drewN _⟩
            · have hdi : decide ((0 : Int) < (i : Int)) = false := decide_eq_false (by omega)
              have Hp := hid (show ¬ (0 < i ∧ X < (rn l (i - 1)).a + (rn l (i - 1)).n) from fun h => h0 h.1)
              by_cases h2 : i < L
              · obtain ⟨b, o, rfl, -, hbl, q2, q3⟩ := rn_at Hvr.out h2
                have hd2 : decide (i < L) = true := decide_eq_true (by omega)
                have hnb := hid (HL.out.2.2 i (by rw [← HLl.out]; exact h2))
                have hnb2 : (rn l i).a + (rn l i).n ≤ 8192 := Nat.le_trans hnb.out HL.out.1
                by_cases h3 : (rn l i).a < X + N
                · have hd3 : decide (((rn l i).a : Int) < (X : Int) + (N : Int)) = true := decide_eq_true (by omega)
                  have hv := hid (show clash l i X N = true from decide_eq_true (.inr ⟨by rw [← HLl.out]; exact h2, h3⟩))
                  go_quiet (fail)
                  go_wp2
                  go_meet
                  case rel => exact ⟨by rw [hv.out], (Fr.refl _ _).drewN _⟩
                · have hd3 : decide (((rn l i).a : Int) < (X : Int) + (N : Int)) = false := decide_eq_false (by omega)
                  have hv := hid (show clash l i X N = false from decide_eq_false (fun h => h.elim Hp.out fun h => h3 h.2))
                  go_quiet (fail)
                  go_wp2
                  go_meet
                  case rel => exact ⟨by rw [hv.out], (Fr.refl _ _).drewN _⟩
              · skip
                have hd2 : decide (i < L) = false := decide_eq_false (by omega)
                have hv := hid (show clash l i X N = false from decide_eq_false (fun h => h.elim Hp.out fun h => h2 (by rw [HLl.out]; exact h.1)))
                go_quiet (fail)
                go_wp2
                go_meet
                case rel => exact ⟨by rw [hv.out], (Fr.refl _ _).drewN _⟩
          case rest =>
            obtain ⟨rfl, hfc⟩ := hcut
            obtain ⟨w5, rfl⟩ : ∃ w5 : World, w5 = wc := ⟨_, rfl⟩
            have hf5 := hfw.then hfc
            clear hfc Hvr hfw r1
            by_cases hcl : clash l i X N = true
            · have H1 := hid (show giveR bl l X N = false from by unfold giveR; rw [hI.out]; show (_ && !(clash l i X N)) = false; rw [hcl]; simp)
              have H2 := hid (show giveL bl l X N = l from by unfold giveL; rw [H1.out, if_neg (by decide)])
              rw [hcl]
              clear hcl
              go_wp2_with fail
              go_ret
              rw [H1.out, H2.out]
              exact ⟨rfl, (Hh.out.fr hf5 fun _ _ _ h => h).mono fun _ h => .inl h, hf5.nil⟩
            · have hcl2 : clash l i X N = false := by simpa using hcl
              have Hcl := hid hcl2
              rw [hcl2]
              clear hcl hcl2
              have HR := hid (show giveR bl l X N = true from by unfold giveR; rw [hI.out, Hk.out]; show (true && !(clash l i X N)) = true; rw [Hcl.out]; rfl)
              go_wp2_with fail
              have hal := hf5.alloc (.cells #[.int .i64 (X : Nat), .int .i64 (N : Nat)] 39)
              have hbx : Blk (w5.alloc (.cells #[.int .i64 (X : Nat), .int .i64 (N : Nat)] 39)) w5.heap.size #[.int .i64 (X : Nat), .int .i64 (N : Nat)] 39 := Blk.new _ _ _
              obtain ⟨w6, hw6⟩ : ∃ w6, w6 = w5.alloc (.cells #[.int .i64 (X : Nat), .int .i64 (N : Nat)] 39) := ⟨_, rfl⟩
              obtain ⟨xb, hxb⟩ : ∃ xb, xb = w5.heap.size := ⟨_, rfl⟩
              have hxw : w.heap.size ≤ xb := by rw [hxb]; exact hf5.size
              rw [← hw6] at hal hbx ⊢
              rw [← hxb] at hbx ⊢
              clear hw6 hxb hf5
              have hv6 := Hv.out.fr hal fun _ _ _ h => h
              have hb6 := Hb.out.fr hal fun h => h
              have s1 := hb6.cell 1
              have Hv6 := hid hv6; clear hv6 hb6
              go_cut [114] from 90 to 114 (fun v wx => v = .bool (touchP l i X) ∧ Fr Nil w6 wx)
              case first =>
                by_cases h0 : 0 < i
                · obtain ⟨b, o, rfl, -, hbl, q0, q1⟩ := rn_at Hv6.out (show i - 1 < L by omega)
                  have hdi : decide ((0 : Int) < (i : Int)) = true := decide_eq_true (by omega)
                  have hj1 : IntKind.i64.wrap ((i : Int) - 1) = (i : Int) - 1 := by rw [IntKind.wrap_i64]; omega
                  have hj2 : ((i : Int) - 1).toNat = i - 1 := by omega
                  have hj3 : (0 : Int) ≤ (i : Int) - 1 := by omega
                  have hj4 : (i : Int) - 1 < (L : Int) := by omega
                  have hjb := hid (HL.out.2.2 (i - 1) (by rw [← HLl.out]; omega))
                  have hjb2 : (rn l (i - 1)).a + (rn l (i - 1)).n ≤ 8192 := Nat.le_trans hjb.out HL.out.1
                  by_cases h1 : (rn l (i - 1)).a + (rn l (i - 1)).n = X
                  · have hd1 : (((rn l (i - 1)).a : Int) + ((rn l (i - 1)).n : Int) == (X : Int)) = true := by simp; omega
                    have hv := hid (show touchP l i X = true from decide_eq_true ⟨h0, h1⟩)
                    have H1 := hid h1; clear h1
                    go_quiet (fail)
                    go_wp2
                    go_meet
                    case rel => exact ⟨by rw [hv.out], (Fr.refl _ _).drewN _⟩
                  · have hd1 : (((rn l (i - 1)).a : Int) + ((rn l (i - 1)).n : Int) == (X : Int)) = false := by simp; omega
                    have hv := hid (show touchP l i X = false from decide_eq_false (fun h => h1 h.2))
                    go_quiet (fail)
                    go_wp2
                    go_meet
                    case rel => exact ⟨by rw [hv.out], (Fr.refl _ _).drewN _⟩
                · have hdi : decide ((0 : Int) < (i : Int)) = false := decide_eq_false (by omega)
                  have hv := hid (show touchP l i X = false from decide_eq_false (fun h => h0 h.1))
                  go_quiet (fail)
                  go_wp2
                  go_meet
                  case rel => exact ⟨by rw [hv.out], (Fr.refl _ _).drewN _⟩
              case rest =>
                obtain ⟨rfl, hfc⟩ := hcut
                obtain ⟨w7, rfl⟩ : ∃ w7 : World, w7 = wc := ⟨_, rfl⟩
                go_upto_if 114 with (fail)
                have hf7 := hal.then hfc
                have hb7 := hbx.fr hfc fun h => h
                have s7 := (Hb.out.fr hf7 fun h => h).cell 1
                have Hv7 := hid (Hv.out.fr hf7 fun _ _ _ h => h)
                have x0 := hb7.cell 0
                have x1 := hb7.cell 1
                have xf0 := hb7.frozen 0
                have xf1 := hb7.frozen 1
                have hxl := hb7.lt
                go_cut [9] from 90 to 135 (fun v wx => v = .int .i64 (giveF l i X : Nat) ∧ Blk wx xb #[.int .i64 ((giveX l i X N).a : Nat), .int .i64 ((giveX l i X N).n : Nat)] 39 ∧ Fr (fun k => k = xb) w7 wx)
                case first =>
                  by_cases htp : touchP l i X = true
                  · have hF := hid (show giveF l i X = i - 1 from if_pos htp)
                    have hX := hid (show giveX l i X N = ⟨(rn l (i - 1)).a, (rn l (i - 1)).n + N⟩ from if_pos htp)
                    rw [htp]
                    obtain ⟨h0, h1⟩ := of_decide_eq_true htp
                    clear htp
                    obtain ⟨b, o, rfl, -, hbl, q0, q1⟩ := rn_at Hv7.out (show i - 1 < L by omega)
                    have hj1 : IntKind.i64.wrap ((i : Int) - 1) = (i : Int) - 1 := by rw [IntKind.wrap_i64]; omega
                    have hj2 : ((i : Int) - 1).toNat = i - 1 := by omega
                    have hj3 : (0 : Int) ≤ (i : Int) - 1 := by omega
                    have hj4 : (i : Int) - 1 < (L : Int) := by omega
                    have hjb := hid (HL.out.2.2 (i - 1) (by rw [← HLl.out]; omega))
                    have hjb2 : (rn l (i - 1)).a + (rn l (i - 1)).n ≤ 8192 := Nat.le_trans hjb.out HL.out.1
                    have H1 := hid h1; clear h1
                    go_wp2_with fail
                    go_region
                    go_wp2
                    go_meet
                    case rel =>
                      rw [hF.out, hX.out]
                      have e1 : ((i - 1 : Nat) : Int) = (i : Int) - 1 := by omega
                      have e2 : (((rn l (i - 1)).n + N : Nat) : Int) = ((rn l (i - 1)).n : Int) + (N : Int) := by omega
                      dsimp only
                      rw [e1, e2]
                      exact ⟨rfl, ((hb7.set 0 _).set 1 _).drew, (((Fr.refl (fun k => k = xb) _).setCell (a := ⟨xb, 0, none⟩) (.inl rfl) _).setCell (a := ⟨xb, 1, none⟩) (.inl rfl) _).drew⟩
                  · have htp2 : touchP l i X = false := by simpa using htp
                    have hF := hid (show giveF l i X = i from if_neg htp)
                    have hX := hid (show giveX l i X N = ⟨X, N⟩ from if_neg htp)
                    rw [htp2]
                    clear htp htp2
                    go_wp2_with fail
                    go_meet
                    case rel => exact ⟨by rw [hF.out], by rw [hX.out]; exact hb7, Fr.refl _ _⟩
                case rest =>
                  obtain ⟨rfl, hb8, hfc8⟩ := hcut
                  obtain ⟨w8, rfl⟩ : ∃ w8 : World, w8 = wc := ⟨_, rfl⟩
                  go_upto_region 13 with (fail)
                  have hf8 : Fr Nil w w8 := hf7.trans hfc8 (fun j hj => .inr (by omega))
                  have s8 := (Hb.out.fr hf8 fun h => h).cell 1
                  have Hv8 := hid (Hv.out.fr hf8 fun _ _ _ h => h)
                  have hF8 := hid hfc8
                  clear hb7 s7 x0 x1 xf0 xf1 hfc8 s1 hbx
                  go_cut [156] from 136 to 156 (fun v wx => v = .bool (touchN l i X N) ∧ Fr Nil w8 wx)
                  case first =>
                    by_cases h2 : i < L
                    · obtain ⟨b, o, rfl, -, hbl, q2, q3⟩ := rn_at Hv8.out h2
                      have hd2 : decide (i < L) = true := decide_eq_true (by omega)
                      by_cases h3 : X + N = (rn l i).a
                      · have hd3 : ((X : Int) + (N : Int) == ((rn l i).a : Int)) = true := by simp; omega
                        have hv := hid (show touchN l i X N = true from decide_eq_true ⟨by rw [← HLl.out]; exact h2, h3⟩)
                        have H1 := hid h3; clear h3
                        go_wp2
                        go_meet
                        case rel => exact ⟨by rw [hv.out], Fr.refl _ _⟩
                      · have hd3 : ((X : Int) + (N : Int) == ((rn l i).a : Int)) = false := by simp; omega
                        have hv := hid (show touchN l i X N = false from decide_eq_false (fun h => h3 h.2))
                        go_wp2
                        go_meet
                        case rel => exact ⟨by rw [hv.out], Fr.refl _ _⟩
                    · have hd2 : decide (i < L) = false := decide_eq_false (by omega)
                      have hv := hid (show touchN l i X N = false from decide_eq_false (fun h => h2 (by rw [HLl.out]; exact h.1)))
                      go_wp2
                      go_meet
                      case rel => exact ⟨by rw [hv.out], Fr.refl _ _⟩
                  case rest =>
                    obtain ⟨rfl, hfc9⟩ := hcut
                    obtain ⟨w9, rfl⟩ : ∃ w9 : World, w9 = wc := ⟨_, rfl⟩
                    go_upto_if 156 with (fail)
                    have hf9 := hf8.then hfc9
                    have hb9 := hb8.fr hfc9 fun h => h
                    have s9 := (Hb.out.fr hf9 fun h => h).cell 1
                    have Hv9 := hid (Hv.out.fr hf9 fun _ _ _ h => h)
                    have x0 := hb9.cell 0
                    have x1 := hb9.cell 1
                    have xf0 := hb9.frozen 0
                    have xf1 := hb9.frozen 1
                    have hxl9 := hb9.lt
                    clear s8 hfc9
                    go_cut [10] from 136 to 170 (fun v wx => v = .int .i64 (giveT l i X N : Nat) ∧ Blk wx xb #[.int .i64 ((giveY l i X N).a : Nat), .int .i64 ((giveY l i X N).n : Nat)] 39 ∧ Fr (fun k => k = xb) w9 wx)
                    case first =>
                      by_cases htp : touchN l i X N = true
                      · have hF := hid (show giveT l i X N = i + 1 from if_pos htp)
                        have hX := hid (show giveY l i X N = ⟨(giveX l i X N).a, (giveX l i X N).n + (rn l i).n⟩ from if_pos htp)
                        rw [htp]
                        obtain ⟨h0, h1⟩ := of_decide_eq_true htp
                        clear htp
                        obtain ⟨b, o, rfl, -, hbl, q2, q3⟩ := rn_at Hv9.out (show i < L by rw [HLl.out]; exact h0)
                        have hjb := hid (HL.out.2.2 i h0)
                        have hjb2 : (rn l i).a + (rn l i).n ≤ 8192 := Nat.le_trans hjb.out HL.out.1
                        have hi9 : i < L := by rw [HLl.out]; exact h0
                        have H1 := hid h1; clear h1 h0
                        have hgx : (giveX l i X N).n ≤ 20000 := by
                          unfold giveX touchP
                          split
                          · rename_i h
                            have h5 := of_decide_eq_true h
                            have h6 := HL.out.2.2 (i - 1) (by rw [← HLl.out]; omega)
                            dsimp only; omega
                          · dsimp only; omega
                        generalize hgX : giveX l i X N = gx at *
                        have HgX := hid hgX
                        clear hgX
                        go_wp2_with fail
                        go_region
                        go_wp2
                        go_meet
                        case rel =>
                          rw [hF.out, hX.out]
                          have e2 : ((gx.n + (rn l i).n : Nat) : Int) = (gx.n : Int) + ((rn l i).n : Int) := by omega
                          have e1 : ((i + 1 : Nat) : Int) = (i : Int) + 1 := by omega
                          dsimp only
                          rw [e1, e2]
                          exact ⟨rfl, (hb9.set 1 _).drew, ((Fr.refl (fun k => k = xb) _).setCell (a := ⟨xb, 1, none⟩) (.inl rfl) _).drew⟩
                      · have htp2 : touchN l i X N = false := by simpa using htp
                        have hF := hid (show giveT l i X N = i from if_neg htp)
                        have hX := hid (show giveY l i X N = giveX l i X N from if_neg htp)
                        rw [htp2]
                        clear htp htp2
                        go_wp2_with fail
                        go_meet
                        case rel => exact ⟨by rw [hF.out], by rw [hX.out]; exact hb9, Fr.refl _ _⟩
                    case rest =>
                      obtain ⟨rfl, hb10, hfc10⟩ := hcut
                      obtain ⟨w10, rfl⟩ : ∃ w10 : World, w10 = wc := ⟨_, rfl⟩
                      have hf10 : Fr Nil w w10 := hf9.trans hfc10 (fun j hj => .inr (by omega))
                      have hb10p := Hb.out.fr hf10 fun h => h
                      have s10 := hb10p.cell 1
                      have z10 := hb10p.frozen 1
                      have x10 := hb10.cell 0
                      have x11 := hb10.cell 1
                      have hr10 := Hh.out.fr hf10 fun _ _ _ h => h
                      have hFT := hid (show giveF l i X ≤ i ∧ i ≤ giveT l i X N ∧ giveT l i X N ≤ L from by
                        unfold giveF giveT touchN
                        rw [← HLl.out]
                        refine ⟨by split <;> omega, by split <;> omega, ?_⟩
                        split
                        · rename_i h; have := (of_decide_eq_true h).1; omega
                        · omega)
                      have hGL := hid (show giveL bl l X N = l.take (giveF l i X) ++ [giveY l i X N] ++ l.drop (giveT l i X N) from by
                        unfold giveL; rw [HR.out, if_pos rfl, hI.out]; rfl)
                      have HR2 := HR
                      clear Hcl HR hb9 hb8 s9 Hv9 x0 x1 xf0 xf1 hxl9 hf9 hf8 hF8 Hv8 hf7 Hv7 hxl Hv6 hal Hv
                      generalize giveF l i X = f at *
                      generalize giveT l i X N = t at *
                      generalize giveY l i X N = y at *
                      go_upto_region 16 with (fail)
                      have hown := hid (show ∀ k, (Value.slice A L c).ownBlock = some k → T k ∧ k < w.heap.size ∧ k ≠ pb from fun k hk => by
                        obtain ⟨_, sv, e1, e2⟩ := Hh.out
                        have e3 := Hb.out
                        unfold Blk at e1 e3
                        have e4 := e1.symm.trans e3
                        simp at e4
                        rw [e4] at e2
                        exact ⟨e2.2 k hk, e2.lt k hk, fun e5 => (e2.apart_blk Hb.out (by decide)) (e5 ▸ hk)⟩)
                      have hpbw := Hb.out.lt
                      have hS : (fun w' : World => w'.cell? ⟨pb, 1, none⟩ = some (.slice A L c) ∧ w'.cell? ⟨xb, 0, none⟩ = some (.int .i64 (y.a : Nat)) ∧ w'.cell? ⟨xb, 1, none⟩ = some (.int .i64 (y.n : Nat))) w10.drew := ⟨s10, x10, x11⟩
                      clear s10 x10 x11
                      refine wpU_region (k := 12) (S := (fun w' : World => w'.cell? ⟨pb, 1, none⟩ = some (.slice A L c) ∧ w'.cell? ⟨xb, 0, none⟩ = some (.int .i64 (y.a : Nat)) ∧ w'.cell? ⟨xb, 1, none⟩ = some (.int .i64 (y.n : Nat)))) (by kernel_rfl) ?_
                      refine wpU_take (i := 0) (v := ?_) rfl (by kernel_rfl) (by kernel_rfl) (fun _ _ _ h => h) _ _ _ _ (by kernel_rfl) (by kernel_rfl) (by kernel_rfl) (Or.inl ⟨by kernel_rfl, ?_⟩) hS ?_
                      rotate_left
                      · (intro w9 hS9; obtain ⟨s0, s1, s2⟩ := hS9; go_simp); (try with_reducible rfl)
                      try simp only [Act.put, List.getElem_toArray, List.getElem_cons_succ, List.getElem_cons_zero, List.setIfInBounds_toArray, List.set_cons_zero, List.set_cons_succ]
                      refine wpU_take (i := 1) (v := ?_) rfl (by kernel_rfl) (by kernel_rfl) (fun _ _ _ h => h) _ _ _ _ (by kernel_rfl) (by kernel_rfl) (by kernel_rfl) (Or.inl ⟨by kernel_rfl, ?_⟩) hS ?_
                      rotate_left
                      · (intro w9 hS9; obtain ⟨s0, s1, s2⟩ := hS9; go_simp); (try with_reducible rfl)
                      try simp only [Act.put, List.getElem_toArray, List.getElem_cons_succ, List.getElem_cons_zero, List.setIfInBounds_toArray, List.set_cons_zero, List.set_cons_succ]
                      refine wpU_take (i := 2) (v := ?_) rfl (by kernel_rfl) (by kernel_rfl) (fun _ _ _ h => h) _ _ _ _ (by kernel_rfl) (by kernel_rfl) (by kernel_rfl) (Or.inl ⟨by kernel_rfl, ?_⟩) hS ?_
                      rotate_left
                      · (intro w9 hS9; obtain ⟨s0, s1, s2⟩ := hS9; go_simp); (try with_reducible rfl)
                      try simp only [Act.put, List.getElem_toArray, List.getElem_cons_succ, List.getElem_cons_zero, List.setIfInBounds_toArray, List.set_cons_zero, List.set_cons_succ]
                      refine wpU_take (i := 3) (v := ?_) rfl (by kernel_rfl) (by kernel_rfl) (fun _ _ _ h => h) _ _ _ _ (by kernel_rfl) (by kernel_rfl) (by kernel_rfl) (Or.inl ⟨by kernel_rfl, ?_⟩) hS ?_
                      rotate_left
                      · (intro w9 hS9; obtain ⟨s0, s1, s2⟩ := hS9; go_simp); (try with_reducible rfl)
                      try simp only [Act.put, List.getElem_toArray, List.getElem_cons_succ, List.getElem_cons_zero, List.setIfInBounds_toArray, List.set_cons_zero, List.set_cons_succ]
                      refine wpU_take (i := 4) (v := ?_) rfl (by kernel_rfl) (by kernel_rfl) (fun _ _ _ h => h) _ _ _ _ (by kernel_rfl) (by kernel_rfl) (by kernel_rfl) (Or.inl ⟨by kernel_rfl, ?_⟩) hS ?_
                      rotate_left
                      · (intro w9 hS9; obtain ⟨s0, s1, s2⟩ := hS9; go_simp); (try with_reducible rfl)
                      try simp only [Act.put, List.getElem_toArray, List.getElem_cons_succ, List.getElem_cons_zero, List.setIfInBounds_toArray, List.set_cons_zero, List.set_cons_succ]
                      refine wpU_take (i := 5) (v := ?_) rfl (by kernel_rfl) (by kernel_rfl) (fun _ _ _ h => h) _ _ _ _ (by kernel_rfl) (by kernel_rfl) (by kernel_rfl) (Or.inl ⟨by kernel_rfl, ?_⟩) hS ?_
                      rotate_left
                      · (intro w9 hS9; obtain ⟨s0, s1, s2⟩ := hS9; go_simp); (try with_reducible rfl)
                      try simp only [Act.put, List.getElem_toArray, List.getElem_cons_succ, List.getElem_cons_zero, List.setIfInBounds_toArray, List.set_cons_zero, List.set_cons_succ]
                      refine wpU_take (i := 6) (v := ?_) rfl (by kernel_rfl) (by kernel_rfl) (fun _ _ _ h => h) _ _ _ _ (by kernel_rfl) (by kernel_rfl) (by kernel_rfl) (Or.inl ⟨by kernel_rfl, ?_⟩) hS ?_
                      rotate_left
                      · (intro w9 hS9; obtain ⟨s0, s1, s2⟩ := hS9; go_simp); (try with_reducible rfl)
                      try simp only [Act.put, List.getElem_toArray, List.getElem_cons_succ, List.getElem_cons_zero, List.setIfInBounds_toArray, List.set_cons_zero, List.set_cons_succ]
                      refine wpU_take (i := 7) (v := ?_) rfl (by kernel_rfl) (by kernel_rfl) (fun _ _ _ h => h) _ _ _ _ (by kernel_rfl) (by kernel_rfl) (by kernel_rfl) (Or.inl ⟨by kernel_rfl, ?_⟩) hS ?_
                      rotate_left
                      · (intro w9 hS9; obtain ⟨s0, s1, s2⟩ := hS9; go_simp); (try with_reducible rfl)
                      try simp only [Act.put, List.getElem_toArray, List.getElem_cons_succ, List.getElem_cons_zero, List.setIfInBounds_toArray, List.set_cons_zero, List.set_cons_succ]
                      refine wpU_next (i := 8) rfl (by kernel_rfl) (fun K hK => ?_)
                      go_simp
                      have hal11 : Fr Nil w10.drew (w10.drew.alloc (.cells #[.int .i64 (y.a : Nat), .int .i64 (y.n : Nat)] 39)) := (Fr.refl _ _).alloc _
                      have hrow : Row (w10.drew.alloc (.cells #[.int .i64 (y.a : Nat), .int .i64 (y.n : Nat)] 39)) (New w10) 39 2 (.slice (some ⟨w10.heap.size, 0, none⟩) 1 1) 1 (dbl [y]) := Row.made w10.drew #[.int .i64 (y.a : Nat), .int .i64 (y.n : Nat)] 39 2 1 1 rfl (by decide) (by decide)
                      have hS1 : (fun w' : World => w'.cell? ⟨pb, 1, none⟩ = some (.slice A L c) ∧ w'.cell? ⟨xb, 0, none⟩ = some (.int .i64 (y.a : Nat)) ∧ w'.cell? ⟨xb, 1, none⟩ = some (.int .i64 (y.n : Nat))) (w10.drew.alloc (.cells #[.int .i64 (y.a : Nat), .int .i64 (y.n : Nat)] 39)) := ⟨hal11.cell hS.1 fun h => h, hal11.cell hS.2.1 fun h => h, hal11.cell hS.2.2 fun h => h⟩
                      refine hK.out _ _ (fun _ => hS1) ?_
                      clear hK K
                      try simp only [Act.put, List.getElem_toArray, List.getElem_cons_succ, List.getElem_cons_zero, List.setIfInBounds_toArray, List.set_cons_zero, List.set_cons_succ]
                      refine wpU_next (i := 9) rfl (by kernel_rfl) (fun K hK => ?_)
                      go_simp
                      have hf11 := hf10.drew.then hal11
                      have hr11 := Hh.out.fr hf11 fun _ _ _ h => h
                      obtain ⟨w11, hw11⟩ : ∃ w11, w11 = (w10.alloc (.cells #[.int .i64 (y.a : Nat), .int .i64 (y.n : Nat)] 39)).drew := ⟨_, rfl⟩
                      have ed : w10.drew.alloc (.cells #[.int .i64 (y.a : Nat), .int .i64 (y.n : Nat)] 39) = (w10.alloc (.cells #[.int .i64 (y.a : Nat), .int .i64 (y.n : Nat)] 39)).drew := rfl
                      rw [ed] at hrow hS1 hf11 hr11
                      rw [← hw11] at hrow hS1 hf11 hr11 ⊢
                      have hw10 := hf10.size
                      clear hw11 hal11 ed
                      obtain ⟨hT2, sv2, hb11, hr11⟩ := hr11
                      have hsv : sv2 = .slice A L c := by
                        have e1 := Hb.out.fr hf11 (fun h => h)
                        unfold Blk at e1 hb11
                        have e4 := hb11.symm.trans e1
                        simp at e4
                        exact e4
                      subst hsv
                      rw [← HLl.out] at hr11
                      obtain ⟨ft1, ft2, ft3⟩ := hFT.out
                      refine (replace_ok T (New w10) (.slice A L c) L 1 l [y] f t w10.heap.size 1 w11 hr11 hrow (fun e => by have := (hown.out _ e).2.1; omega) (by omega) (by decide) (by omega) (by omega)).mono ?_
                      rintro e w12 ⟨A12, c12, rfl, hr12, hf12, -⟩
                      have hS2 : (fun w' : World => w'.cell? ⟨pb, 1, none⟩ = some (.slice A L c) ∧ w'.cell? ⟨xb, 0, none⟩ = some (.int .i64 (y.a : Nat)) ∧ w'.cell? ⟨xb, 1, none⟩ = some (.int .i64 (y.n : Nat))) w12 := ⟨hf12.cell hS1.1 fun h => (hown.out _ h).2.2 rfl, hf12.cell hS1.2.1 fun h => by have h9 : xb < w.heap.size := (hown.out _ h).2.1; omega, hf12.cell hS1.2.2 fun h => by have h9 : xb < w.heap.size := (hown.out _ h).2.1; omega⟩
                      have z12 : w12.frozen? ⟨pb, 1, none⟩ = false := (hb11.fr hf12 fun h => (hown.out _ h).2.2 rfl).frozen 1
                      have hb12 := hb11.fr hf12 fun h => (hown.out _ h).2.2 rfl
                      refine hK.out _ _ (fun _ => hS2) ?_
                      clear hK K
                      try simp only [Act.put, List.getElem_toArray, List.getElem_cons_succ, List.getElem_cons_zero, List.setIfInBounds_toArray, List.set_cons_zero, List.set_cons_succ]
                      refine wpU_next (i := 10) rfl (by kernel_rfl) (fun K hK => ?_)
                      go_simp
                      refine hK.out _ _ (fun _ => hS2) ?_
                      clear hK K
                      try simp only [Act.put, List.getElem_toArray, List.getElem_cons_succ, List.getElem_cons_zero, List.setIfInBounds_toArray, List.set_cons_zero, List.set_cons_succ]
                      refine wpU_next (i := 11) rfl (by kernel_rfl) (fun K hK => ?_)
                      go_simp
                      refine hK.out _ _ (fun _ => hS2) ?_
                      clear hK K
                      try simp only [Act.put, List.getElem_toArray, List.getElem_cons_succ, List.getElem_cons_zero, List.setIfInBounds_toArray, List.set_cons_zero, List.set_cons_succ]
                      refine wpU_next (i := 12) rfl (by kernel_rfl) (fun K hK => ?_)
                      go_simp
                      refine hK.out _ _ (fun h => absurd rfl h.1) ?_
                      refine wpU_done (by kernel_rfl) ?_ _
                      clear hK K
                      have hlen : (l.take f ++ [y] ++ l.drop t).length = f + 1 + (L - t) := by
                        have := HLl.out
                        simp; omega
                      have hap := hr12.apart_blk hb12 (by decide)
                      have hfin : Rs (w12.setCell ⟨pb, 1, none⟩ (.slice A12 (f + 1 + (L - t)) c12)) (fun j => T j ∨ w.heap.size ≤ j) pb bl (giveL bl l X N) ∧ Fr T w (w12.setCell ⟨pb, 1, none⟩ (.slice A12 (f + 1 + (L - t)) c12)) := by
                        rw [hGL.out]
                        refine ⟨⟨.inl hT2, _, hb12.set 1 _, ?_⟩, ((hf11.nil (S := T)).trans hf12 (fun j hj => .inl (hown.out j hj).1)).setCell (.inl hT2) _⟩
                        rw [hlen]
                        refine Row.setCell (Row.mono hr12 fun j hj => ?_) hap _
                        rcases hj with hj | hj
                        · exact .inl (hown.out j hj).1
                        · exact .inr (Nat.le_trans hf11.size hj)
                      have Hfin := hid hfin
                      clear hfin hap hb12 hr12 hf12 hS2 hS1 hS hr11 hb11 hrow hf11
                      go_wp2
                      go_ret
                      rw [HR2.out]
                      exact ⟨rfl, Hfin.out⟩
end Go.Proofs.YtgoghmblfdlnbaaGreat
end

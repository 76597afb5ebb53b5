/- The texts VRnT of this proof, one behind the other. Conditions: those of each. -/
import Derived.Test.YtgoghmblfdlnbaaGW8
section
/- Runs: Take, Mark. -/
set_option linter.unusedSimpArgs false
set_option linter.unusedVariables false
namespace Go.Proofs.Ytgoghmblfdlnbaa
open Go.RowKit
theorem findIdx_is {p : Rn → Bool} {l : List Rn} {i : Nat} (hi : i ≤ l.length) (h : ∀ j, j < i → p (rn l j) = false) (h2 : i < l.length → p (rn l i) = true) : l.findIdx p = i := by
  induction l generalizing i with
  | nil => simp at hi; subst hi; rfl
  | cons r l ih =>
    rw [List.findIdx_cons]
    cases i with
    | zero => have : p r = true := h2 (by simp)
              rw [this]; rfl
    | succ i =>
      have h0 : p r = false := h 0 (by omega)
      rw [h0, ih (i := i) (by simpa using hi) (fun j hj => h (j + 1) (by omega)) (fun hl => h2 (by simpa using hl))]
      rfl
/-- The runs that a list may be of. -/
def Lok (bl : Nat) (l : List Rn) : Prop := bl ≤ 8192 ∧ l.length ≤ 8192 ∧ ∀ i, i < l.length → (rn l i).a + (rn l i).n ≤ bl
def fits (n : Int) (r : Rn) : Bool := decide (n ≤ (r.n : Int))
def takeI (l : List Rn) (n : Int) : Nat := if 1 ≤ n then l.findIdx (fits n) else l.length
def takeR (l : List Rn) (n : Int) : Int × Bool := if takeI l n < l.length then ((rn l (takeI l n)).a, true) else (0, false)
def takeL (l : List Rn) (n : Int) : List Rn := if takeI l n < l.length then putl l (takeI l n) [⟨(rn l (takeI l n)).a + n.toNat, (rn l (takeI l n)).n - n.toNat⟩] else l
theorem take_ok (T : Nat → Prop) (pb bl : Nat) (l : List Rn) (n : Int) (w : World) (h : Rs w T pb bl l) (hl : Lok bl l) (hT : ∀ k, T k → k < w.heap.size) :
    Calls Try.prog 26 #[.pointer (some ⟨pb, 0, none⟩), .int .i64 n] w fun e w' =>
      e = .returned (.tuple #[.int .i64 (takeR l n).1, .bool (takeR l n).2]) ∧ Rs w' (fun j => T j ∨ w.heap.size ≤ j) pb bl (takeL l n) ∧ Fr T w w' := by
  have HL := hid hl; clear hl
  have HT := hid hT; clear hT
  by_cases hn : n < 1
  · have Hi := hid (show takeI l n = l.length from by unfold takeI; rw [if_neg (by omega)])
    have H1 := hid (show takeR l n = (0, false) from by unfold takeR; rw [Hi.out, if_neg (by omega)])
    have H2 := hid (show takeL l n = l from by unfold takeL; rw [Hi.out, if_neg (by omega)])
    have Hh := hid h; clear h
    go_enter Try.func26, Try.ntmps26
    go_wp2
    go_ret2
    rw [H1.out, H2.out]
    exact ⟨rfl, Hh.out.mono fun _ h => .inl h, Fr.refl _ _⟩
  · obtain ⟨N, rfl⟩ : ∃ N : Nat, n = N := ⟨n.toNat, by omega⟩
    have hN : 1 ≤ N := by omega
    have h0 := h
    obtain ⟨hT1, sv, hb, hr⟩ := h
    obtain ⟨A, c, hsv⟩ := hr.slice
    subst hsv
    have c1 := hb.cell 1
    have hll := hid (Nat.le_refl l.length)
    obtain ⟨L, hL⟩ : ∃ L, L = l.length := ⟨_, rfl⟩
    have HLl := hid hL
    have hv := hr.view
    rw [← hL] at hv c1
    have hL9 : L ≤ 8192 := by rw [hL]; exact HL.out.2.1
    clear hL hb hr
    have Hv := hid hv; clear hv
    have Hh := hid h0; clear h0
    go_enter Try.func26, Try.ntmps26
    go_wp2_with fail
    go_loopw [19] (fun v19 wr => ∃ i : Nat, v19 = .int .i64 i ∧ i ≤ L ∧ Fr Nil w wr ∧ Hid (∀ j, j < i → fits N (rn l j) = false)) (fun v19 _ => L - (intOf v19).toNat)
    case atStart => exact ⟨0, rfl, by omega, Fr.refl _ _, hid fun j hj => absurd hj (by omega)⟩
    case round =>
      obtain ⟨i, rfl, hi, hfw, hok⟩ := hrel
      by_cases hlt : i < L
      · have hvr := Hv.out.fr hfw fun _ _ _ h => h
        obtain ⟨b, o, rfl, -, hbl, k0, k1⟩ := rn_at hvr hlt
        clear hvr
        have hal : Fr Nil wr (wr.alloc (.cells #[.int .i64 ((rn l i).a : Nat), .int .i64 ((rn l i).n : Nat)] 33)) := (Fr.refl _ _).alloc _
        have hbo := hid (HL.out.2.2 i (by rw [← HLl.out]; exact hlt))
        have hbl2 : (rn l i).a + (rn l i).n ≤ 8192 := Nat.le_trans hbo.out HL.out.1
        by_cases hz : N ≤ (rn l i).n
        · have Hz := hid hz
          have hI := hid (show takeI l N = i from by
            unfold takeI; rw [if_pos (by omega)]
            exact findIdx_is (by rw [← HLl.out]; omega) hok.out (fun _ => by unfold fits; simp; exact Hz.out))
          have hgo : N ≤ (rn l i).n := hz
          go_wp2_with fail
          have e1 : (((rn l i).a : Int) + (N : Int)) = (((rn l i).a + N : Nat) : Int) := by omega
          have e2 : (((rn l i).n : Int) - (N : Int)) = (((rn l i).n - N : Nat) : Int) := by omega
          rw [e1, e2]
          clear e1 e2
          have hrow : Row ((wr.alloc (.cells #[.int .i64 ((rn l i).a : Nat), .int .i64 ((rn l i).n : Nat)] 33)).alloc (.cells #[.int .i64 ((rn l i).a + N : Nat), .int .i64 ((rn l i).n - N : Nat)] 33)) (New w) 33 2 (.slice (some ⟨wr.heap.size + 1, 0, none⟩) 1 1) 1 (dbl [⟨(rn l i).a + N, (rn l i).n - N⟩]) := by
            have h1 := Row.made (wr.alloc (.cells #[.int .i64 ((rn l i).a : Nat), .int .i64 ((rn l i).n : Nat)] 33)) #[.int .i64 ((rn l i).a + N : Nat), .int .i64 ((rn l i).n - N : Nat)] 33 2 1 1 rfl (by decide) (by decide)
            rw [show (wr.alloc (.cells #[.int .i64 ((rn l i).a : Nat), .int .i64 ((rn l i).n : Nat)] 33)).heap.size = wr.heap.size + 1 by simp] at h1
            exact h1.mono fun k hk => Nat.le_trans (Nat.le_trans hfw.size (by simp)) hk
          have hbx : Blk ((wr.alloc (.cells #[.int .i64 ((rn l i).a : Nat), .int .i64 ((rn l i).n : Nat)] 33)).alloc (.cells #[.int .i64 ((rn l i).a + N : Nat), .int .i64 ((rn l i).n - N : Nat)] 33)) wr.heap.size #[.int .i64 ((rn l i).a : Nat), .int .i64 ((rn l i).n : Nat)] 33 := (Blk.new _ _ _).alloc _
          have hfa := hfw.then (hal.alloc (.cells #[.int .i64 ((rn l i).a + N : Nat), .int .i64 ((rn l i).n - N : Nat)] 33))
          have hwr := hfw.size
          obtain ⟨W2, hW2⟩ : ∃ W2, W2 = (wr.alloc (.cells #[.int .i64 ((rn l i).a : Nat), .int .i64 ((rn l i).n : Nat)] 33)).alloc (.cells #[.int .i64 ((rn l i).a + N : Nat), .int .i64 ((rn l i).n - N : Nat)] 33) := ⟨_, rfl⟩
          rw [← hW2] at hrow hbx hfa ⊢
          clear hW2
          refine (put_ok T (New w) pb bl l [⟨(rn l i).a + N, (rn l i).n - N⟩] i 1 (wr.heap.size + 1) 1 W2 (Hh.out.fr hfa fun _ _ _ h => h) (by rw [← HLl.out]; exact hlt) (Nat.le_trans HL.out.2.1 (by decide)) hrow (by decide) (fun h => by have := HT.out _ h; omega)).mono ?_
          rintro e w3 ⟨rfl, hR3, hf3⟩
          have hb3 := hbx.fr hf3 (fun h => by
            rcases h with h | h
            · have := HT.out _ h; omega
            · omega)
          have x0 := hb3.cell 0
          have Hfin := hid (show Rs w3 (fun j => T j ∨ w.heap.size ≤ j) pb bl (takeL l N) ∧ Fr T w w3 from ⟨by
              unfold takeL; rw [hI.out, if_pos (by rw [← HLl.out]; exact hlt)]
              exact hR3.mono fun j hj => hj.imp id (fun hj => Nat.le_trans hfa.size hj), (hfa.nil (S := T)).trans hf3 (fun j hj => by
              rcases hj with hj | hj
              · exact .inl hj
              · exact .inr (by omega))⟩)
          have H1 := hid (show takeR l N = (((rn l i).a : Int), true) from by unfold takeR; rw [hI.out, if_pos (by rw [← HLl.out]; exact hlt)])
          clear hR3 hf3 hb3 hbx hrow hfa hal
          go_wp2
          go_ret2
          rw [H1.out]
          exact ⟨rfl, Hfin.out⟩
        · have Hz := hid hz
          go_wp2_with fail
          go_roundw
          case rel =>
            refine ⟨i + 1, by go_num, by omega, hfw.then hal, hid fun j hj => ?_⟩
            rcases Nat.lt_or_ge j i with h | h
            · exact hok.out j h
            · obtain rfl : j = i := by omega
              unfold fits; simp; have := Hz.out; omega
          case measure => simp [intOf]; omega
      · have hI := hid (show takeI l N = l.length from by
          unfold takeI; rw [if_pos (by omega)]
          exact findIdx_is (Nat.le_refl _) (fun j hj => hok.out j (by have := HLl.out; omega)) (fun h => absurd h (by omega)))
        have H1 := hid (show takeR l N = (0, false) from by unfold takeR; rw [hI.out, if_neg (by omega)])
        have H2 := hid (show takeL l N = l from by unfold takeL; rw [hI.out, if_neg (by omega)])
        go_wp2
        go_ret2
        rw [H1.out, H2.out]
        exact ⟨rfl, (Hh.out.fr hfw fun _ _ _ h => h).mono fun _ h => .inl h, hfw.nil⟩
/-- Mark. -/
def holds (a n : Int) (r : Rn) : Bool := decide ((r.a : Int) ≤ a ∧ a + n ≤ (r.a : Int) + r.n)
def markI (l : List Rn) (a n : Int) : Nat := l.findIdx (holds a n)
def markR (bl : Nat) (l : List Rn) (a n : Int) : Bool := knownB bl a n && decide (markI l a n < l.length)
def markY (r : Rn) (a n : Nat) : List Rn := [⟨r.a, a - r.a⟩, ⟨a + n, r.a + r.n - a - n⟩]
def markL (bl : Nat) (l : List Rn) (a n : Int) : List Rn := if markR bl l a n = true then putl l (markI l a n) (markY (rn l (markI l a n)) a.toNat n.toNat) else l
theorem mark_ok (T : Nat → Prop) (pb bl : Nat) (l : List Rn) (a n : Int) (w : World) (h : Rs w T pb bl l) (hl : Lok bl l) (hT : ∀ k, T k → k < w.heap.size) :
    Calls Try.prog 22 #[.pointer (some ⟨pb, 0, none⟩), .int .i64 a, .int .i64 n] w fun e w' =>
      e = .returned (.bool (markR bl l a n)) ∧ Rs w' (fun j => T j ∨ w.heap.size ≤ j) pb bl (markL bl l a n) ∧ Fr T w w' := by
  have HL := hid hl; clear hl
  have HT := hid hT; clear hT
  have hkn := known_ok T pb bl l a n w h (Nat.le_trans HL.out.1 (by decide))
  by_cases hk : knownB bl a n = false
  · have H1 := hid (show markR bl l a n = false from by unfold markR; rw [hk]; rfl)
    have H2 := hid (show markL bl l a n = l from by unfold markL; rw [H1.out, if_neg (by decide)])
    have Hh := hid h; clear h
    rw [hk] at hkn
    have Hkn := hid hkn
    clear hkn hk
    go_enter Try.func22, Try.ntmps22
    go_wp2_with fail
    refine Hkn.out.mono ?_
    rintro e w1 ⟨rfl, rfl⟩
    go_wp2
    go_ret
    rw [H1.out, H2.out]
    exact ⟨rfl, Hh.out.mono fun _ h => .inl h, Fr.refl _ _⟩
  · have hk2 : knownB bl a n = true := by simpa using hk
    rw [hk2] at hkn
    have hkk : 0 ≤ a ∧ 1 ≤ n ∧ n ≤ bl ∧ a ≤ bl - n := by unfold knownB at hk2; simpa using hk2
    have Hk := hid hk2
    have Hkn := hid hkn
    clear hkn hk hk2
    obtain ⟨k1, k2, k3, k4⟩ := hkk
    obtain ⟨N, rfl⟩ : ∃ N : Nat, n = N := ⟨n.toNat, by omega⟩
    obtain ⟨X, rfl⟩ : ∃ X : Nat, a = X := ⟨a.toNat, by omega⟩
    have hbl8 := HL.out.1
    have h0 := h
    obtain ⟨hT1, sv, hb, hr⟩ := h
    obtain ⟨A, c, hsv⟩ := hr.slice
    subst hsv
    have c1 := hb.cell 1
    obtain ⟨L, hL⟩ : ∃ L, L = l.length := ⟨_, rfl⟩
    have HLl := hid hL
    have hv := hr.view
    rw [← hL] at hv c1
    have hL9 : L ≤ 8192 := by rw [hL]; exact HL.out.2.1
    clear hL hb hr
    have Hv := hid hv; clear hv
    have Hh := hid h0; clear h0
    go_enter Try.func22, Try.ntmps22
    go_wp2_with fail
    refine Hkn.out.mono ?_
    rintro e w1 ⟨rfl, rfl⟩
    go_wp2_with fail
    go_loopw [19] (fun v19 wr => ∃ i : Nat, v19 = .int .i64 i ∧ i ≤ L ∧ Fr Nil w wr ∧ Hid (∀ j, j < i → holds X N (rn l j) = false)) (fun v19 _ => L - (intOf v19).toNat)
    case atStart => exact ⟨0, rfl, by omega, Fr.refl _ _, hid fun j hj => absurd hj (by omega)⟩
    case round =>
      obtain ⟨i, rfl, hi, hfw, hok⟩ := hrel
      by_cases hlt : i < L
      · have hvr := Hv.out.fr hfw fun _ _ _ h => h
        obtain ⟨b, o, rfl, -, hbl, q0, q1⟩ := rn_at hvr hlt
        clear hvr
        have hal : Fr Nil wr (wr.alloc (.cells #[.int .i64 ((rn l i).a : Nat), .int .i64 ((rn l i).n : Nat)] 33)) := (Fr.refl _ _).alloc _
        have hbo := hid (HL.out.2.2 i (by rw [← HLl.out]; exact hlt))
        have hbl2 : (rn l i).a + (rn l i).n ≤ 8192 := Nat.le_trans hbo.out HL.out.1
        by_cases hz1 : (rn l i).a ≤ X
        · by_cases hz2 : X + N ≤ (rn l i).a + (rn l i).n
          · have Hz := hid (And.intro hz1 hz2)
            have hI := hid (show markI l X N = i from by
              unfold markI
              exact findIdx_is (by rw [← HLl.out]; omega) hok.out (fun _ => by unfold holds; have := Hz.out; simp; omega))
            have H1 := hid (show markR bl l X N = true from by unfold markR; rw [Hk.out, hI.out]; simp; rw [← HLl.out]; exact hlt)
            have hz3 : ((X : Int) + (N : Int)) ≤ ((rn l i).a : Int) + ((rn l i).n : Int) := by omega
            go_wp2_with fail
            have e1 : ((X : Int) - ((rn l i).a : Int)) = ((X - (rn l i).a : Nat) : Int) := by omega
            have e2 : (((rn l i).a : Int) + ((rn l i).n : Int) - (X : Int) - (N : Int)) = (((rn l i).a + (rn l i).n - X - N : Nat) : Int) := by omega
            have e3 : ((X : Int) + (N : Int)) = ((X + N : Nat) : Int) := by omega
            rw [e1, e2, e3]
            clear e1 e2 e3
            have hrow : Row ((wr.alloc (.cells #[.int .i64 ((rn l i).a : Nat), .int .i64 ((rn l i).n : Nat)] 33)).alloc (.cells #[.int .i64 ((rn l i).a : Nat), .int .i64 (X - (rn l i).a : Nat), .int .i64 (X + N : Nat), .int .i64 ((rn l i).a + (rn l i).n - X - N : Nat)] 33)) (New w) 33 2 (.slice (some ⟨wr.heap.size + 1, 0, none⟩) 2 2) 2 (dbl (markY (rn l i) X N)) := by
              have h1 := Row.made (wr.alloc (.cells #[.int .i64 ((rn l i).a : Nat), .int .i64 ((rn l i).n : Nat)] 33)) #[.int .i64 ((rn l i).a : Nat), .int .i64 (X - (rn l i).a : Nat), .int .i64 (X + N : Nat), .int .i64 ((rn l i).a + (rn l i).n - X - N : Nat)] 33 2 2 2 rfl (by decide) (by decide)
              rw [show (wr.alloc (.cells #[.int .i64 ((rn l i).a : Nat), .int .i64 ((rn l i).n : Nat)] 33)).heap.size = wr.heap.size + 1 by simp] at h1
              exact h1.mono fun k hk => Nat.le_trans (Nat.le_trans hfw.size (by simp)) hk
            have hbx : Blk ((wr.alloc (.cells #[.int .i64 ((rn l i).a : Nat), .int .i64 ((rn l i).n : Nat)] 33)).alloc (.cells #[.int .i64 ((rn l i).a : Nat), .int .i64 (X - (rn l i).a : Nat), .int .i64 (X + N : Nat), .int .i64 ((rn l i).a + (rn l i).n - X - N : Nat)] 33)) wr.heap.size #[.int .i64 ((rn l i).a : Nat), .int .i64 ((rn l i).n : Nat)] 33 := (Blk.new _ _ _).alloc _
            have hfa := hfw.then (hal.alloc (.cells #[.int .i64 ((rn l i).a : Nat), .int .i64 (X - (rn l i).a : Nat), .int .i64 (X + N : Nat), .int .i64 ((rn l i).a + (rn l i).n - X - N : Nat)] 33))
            have hwr := hfw.size
            obtain ⟨W2, hW2⟩ : ∃ W2, W2 = (wr.alloc (.cells #[.int .i64 ((rn l i).a : Nat), .int .i64 ((rn l i).n : Nat)] 33)).alloc (.cells #[.int .i64 ((rn l i).a : Nat), .int .i64 (X - (rn l i).a : Nat), .int .i64 (X + N : Nat), .int .i64 ((rn l i).a + (rn l i).n - X - N : Nat)] 33) := ⟨_, rfl⟩
            rw [← hW2] at hrow hbx hfa ⊢
            clear hW2
            refine (put_ok T (New w) pb bl l (markY (rn l i) X N) i 2 (wr.heap.size + 1) 2 W2 (Hh.out.fr hfa fun _ _ _ h => h) (by rw [← HLl.out]; exact hlt) (Nat.le_trans HL.out.2.1 (by decide)) hrow (by decide) (fun h => by have := HT.out _ h; omega)).mono ?_
            rintro e w3 ⟨rfl, hR3, hf3⟩
            have hb3 := hbx.fr hf3 (fun h => by
              rcases h with h | h
              · have := HT.out _ h; omega
              · omega)
            have Hfin := hid (show Rs w3 (fun j => T j ∨ w.heap.size ≤ j) pb bl (markL bl l X N) ∧ Fr T w w3 from ⟨by
                unfold markL; rw [H1.out, if_pos rfl, hI.out]
                exact hR3.mono fun j hj => hj.imp id (fun hj => Nat.le_trans hfa.size hj), (hfa.nil (S := T)).trans hf3 (fun j hj => by
                rcases hj with hj | hj
                · exact .inl hj
                · exact .inr (by omega))⟩)
            clear hR3 hf3 hb3 hbx hrow hfa hal
            go_wp2
            go_ret
            rw [H1.out]
            exact ⟨rfl, Hfin.out⟩
          · have Hz := hid hz2
            have hz3 : ¬ ((X : Int) + (N : Int)) ≤ ((rn l i).a : Int) + ((rn l i).n : Int) := by omega
            go_wp2_with fail
            go_roundw
            case rel =>
              refine ⟨i + 1, by go_num, by omega, hfw.then hal, hid fun j hj => ?_⟩
              rcases Nat.lt_or_ge j i with h | h
              · exact hok.out j h
              · obtain rfl : j = i := by omega
                unfold holds; simp; have := Hz.out; omega
            case measure => simp [intOf]; omega
        · have Hz := hid hz1
          go_wp2_with fail
          go_roundw
          case rel =>
            refine ⟨i + 1, by go_num, by omega, hfw.then hal, hid fun j hj => ?_⟩
            rcases Nat.lt_or_ge j i with h | h
            · exact hok.out j h
            · obtain rfl : j = i := by omega
              unfold holds; simp; have := Hz.out; omega
          case measure => simp [intOf]; omega
      · have hI := hid (show markI l X N = l.length from by
          unfold markI
          exact findIdx_is (Nat.le_refl _) (fun j hj => hok.out j (by have := HLl.out; omega)) (fun h => absurd h (by omega)))
        have H1 := hid (show markR bl l X N = false from by unfold markR; rw [Hk.out, hI.out]; simp)
        have H2 := hid (show markL bl l X N = l from by unfold markL; rw [H1.out, if_neg (by decide)])
        go_wp2
        go_ret
        rw [H1.out, H2.out]
        exact ⟨rfl, (Hh.out.fr hfw fun _ _ _ h => h).mono fun _ h => .inl h, hfw.nil⟩
end Go.Proofs.Ytgoghmblfdlnbaa
end

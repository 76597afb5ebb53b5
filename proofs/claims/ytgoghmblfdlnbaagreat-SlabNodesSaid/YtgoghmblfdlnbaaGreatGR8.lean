/- The texts VRnP, VRnT of this proof, one behind the other. Conditions: those of each. -/
import Derived.Test.YtgoghmblfdlnbaaGreatGR7
section
/- Runs: put, known, New. -/
set_option linter.unusedSimpArgs false
set_option linter.unusedVariables false
namespace Go.Proofs.YtgoghmblfdlnbaaGreat
open Go.RowKit
/-- Runs: how many blocks there are, the runs; T: the blocks of memory that it may have. -/
def Rs (w : World) (T : Nat → Prop) (pb bl : Nat) (l : List Rn) : Prop :=
  T pb ∧ ∃ sv, Blk w pb #[.int .i64 (bl : Nat), sv] 121 ∧ Row w T 39 2 sv l.length (dbl l)
theorem Rs.mono {w : World} {T T' : Nat → Prop} {pb bl : Nat} {l : List Rn} (h : Rs w T pb bl l) (ht : ∀ k, T k → T' k) : Rs w T' pb bl l := by
  obtain ⟨h1, sv, h2, h3⟩ := h
  exact ⟨ht _ h1, sv, h2, h3.mono ht⟩
theorem Rs.fr {w w1 : World} {T S1 : Nat → Prop} {pb bl : Nat} {l : List Rn} (h : Rs w T pb bl l) (hf : Fr S1 w w1) (hn : ∀ k, T k → k < w.heap.size → ¬ S1 k) : Rs w1 T pb bl l := by
  obtain ⟨h1, sv, h2, h3⟩ := h
  exact ⟨h1, sv, h2.fr hf (hn _ h1 h2.lt), h3.fr hf (fun k hk => hn k (h3.2 k hk) (h3.lt k hk))⟩
theorem Rs.lt {w : World} {T : Nat → Prop} {pb bl : Nat} {l : List Rn} (h : Rs w T pb bl l) : pb < w.heap.size := by
  obtain ⟨h1, sv, h2, h3⟩ := h
  exact h2.lt
/-- Only what there is. -/
theorem Rs.bd {w : World} {T : Nat → Prop} {pb bl : Nat} {l : List Rn} (h : Rs w T pb bl l) : Rs w (fun k => T k ∧ k < w.heap.size) pb bl l := by
  obtain ⟨h1, sv, h2, h3⟩ := h
  exact ⟨⟨h1, h2.lt⟩, sv, h2, ⟨h3.1, fun k hk => ⟨h3.2 k hk, h3.lt k hk⟩⟩⟩
/-- What put makes of a list. -/
def putl (l : List Rn) (k : Nat) (ys : List Rn) : List Rn := l.take k ++ ys.filter nz ++ l.drop (k + 1)
theorem putl_length {l : List Rn} {k : Nat} (ys : List Rn) (h : k < l.length) : (putl l k ys).length = k + (ys.filter nz).length + (l.length - (k + 1)) := by
  unfold putl; simp; omega
theorem put_ok (T Sv : Nat → Prop) (pb bl : Nat) (l ys : List Rn) (k m : Nat) (vb vc : Nat) (w : World) (h : Rs w T pb bl l) (hk : k < l.length) (hl : l.length ≤ 100000)
    (hv : Row w Sv 39 2 (.slice (some ⟨vb, 0, none⟩) m vc) m (dbl ys)) (hm : m ≤ 4) (hT : ¬ T vb) :
    Calls Tryz.prog 61 #[.pointer (some ⟨pb, 0, none⟩), .int .i64 k, .slice (some ⟨vb, 0, none⟩) m vc] w fun e w' =>
      e = .returned (.tuple #[]) ∧ Rs w' (fun j => T j ∨ w.heap.size ≤ j) pb bl (putl l k ys) ∧ Fr (fun j => T j ∨ j = vb) w w' := by
  obtain ⟨hT1, sv, hb, hr⟩ := h
  have hym := hv.view.len2
  have hfm : (ys.filter nz).length ≤ m := by have := List.length_filter_le nz ys; omega
  have hpl := hid (putl_length ys hk)
  have hvp : pb ≠ vb := fun e => hT (e ▸ hT1)
  have hsv := hid (show sv.ownBlock ≠ some vb from fun e => hT (hr.2 vb e))
  have hap := hid (hr.apart_blk hb (by decide))
  have HT := hid hT; clear hT
  have Hm := hid hym; clear hym
  go_enter Tryz.func61, Tryz.ntmps61
  go_wp2_with fail
  refine (delete_ok Sv vb vc m ys (by omega) w hv).mono ?_
  rintro e w1 ⟨rfl, hv1, hf1⟩
  have hb1 := hb.fr hf1 hvp
  have hr1 := hr.fr hf1 (fun j hj hjv => hsv.out (hjv ▸ hj))
  have c0 := hb1.cell 0
  have c1 := hb1.cell 1
  have hkb : k + 1 ≤ 100000 := by omega
  clear hv hb hr
  go_wp2_with fail
  have hk2 : ((k : Int) + 1) = ((k + 1 : Nat) : Int) := by omega
  rw [hk2]
  clear hk2
  refine (replace_ok T Sv sv l.length (ys.filter nz).length l (ys.filter nz) k (k + 1) vb vc w1 hr1 hv1 hsv.out hl (by omega) (by omega) (by omega)).mono ?_
  rintro e w2 ⟨A, c, rfl, hr2, hf2, hn2⟩
  have hb2 := hb1.fr hf2 (fun e => hap.out e)
  have hap2 := hid (hr2.apart_blk hb2 (by decide))
  have d1 := hb2.cell 1
  have z1 := hb2.frozen 1
  have hlt := hb2.lt
  have hfin : Rs (w2.setCell ⟨pb, 1, none⟩ (.slice A (k + (ys.filter nz).length + (l.length - (k + 1))) c)) (fun j => T j ∨ w.heap.size ≤ j) pb bl (putl l k ys) := by
    refine ⟨.inl hT1, _, hb2.set 1 _, ?_⟩
    rw [hpl.out]
    refine Row.setCell (Row.mono hr2 fun j hj => ?_) ?_ _
    · rcases hj with hj | hj
      · exact .inl (hr1.2 j hj)
      · exact .inr (Nat.le_trans hf1.size hj)
    · exact hap2.out
  have hF : Fr (fun j => T j ∨ j = vb) w (w2.setCell ⟨pb, 1, none⟩ (.slice A (k + (ys.filter nz).length + (l.length - (k + 1))) c)) :=
    ((hf1.mono (S' := fun j => T j ∨ j = vb) fun j hj => .inr hj).trans hf2 (fun j hj => .inl (.inl (hr1.2 j hj)))).setCell (.inl (.inl hT1)) _
  have Hfin := hid (And.intro hfin hF)
  clear hfin hF hr2 hf2 hn2 hb2 hr1 hv1 hb1 hf1 c0 c1
  go_wp2
  go_end0
  exact ⟨rfl, Hfin.out.1, Hfin.out.2⟩
/-- Are there such blocks? -/
def knownB (bl : Nat) (a n : Int) : Bool := decide (0 ≤ a ∧ 1 ≤ n ∧ n ≤ bl ∧ a ≤ bl - n)
theorem known_ok (T : Nat → Prop) (pb bl : Nat) (l : List Rn) (a n : Int) (w : World) (h : Rs w T pb bl l) (hbl : bl ≤ 100000) :
    Calls Tryz.prog 60 #[.pointer (some ⟨pb, 0, none⟩), .int .i64 a, .int .i64 n] w fun e w' => e = .returned (.bool (knownB bl a n)) ∧ w = w' := by
  obtain ⟨hT1, sv, hb, hr⟩ := h
  have c0 := hb.cell 0
  clear hr
  by_cases h1 : 0 ≤ a
  · by_cases h2 : 1 ≤ n
    · by_cases h3 : n ≤ bl
      · by_cases h4 : a ≤ bl - n
        · have H := hid (show knownB bl a n = true from by unfold knownB; simp; omega)
          go_enter Tryz.func60, Tryz.ntmps60
          go_wp2
          go_ret
          rw [H.out]; exact ⟨rfl, rfl⟩
        · have H := hid (show knownB bl a n = false from by unfold knownB; simp; omega)
          go_enter Tryz.func60, Tryz.ntmps60
          go_wp2
          go_ret
          rw [H.out]; exact ⟨rfl, rfl⟩
      · have H := hid (show knownB bl a n = false from by unfold knownB; simp; omega)
        go_enter Tryz.func60, Tryz.ntmps60
        go_wp2
        go_ret
        rw [H.out]; exact ⟨rfl, rfl⟩
    · have H := hid (show knownB bl a n = false from by unfold knownB; simp; omega)
      go_enter Tryz.func60, Tryz.ntmps60
      go_wp2
      go_ret
      rw [H.out]; exact ⟨rfl, rfl⟩
  · have H := hid (show knownB bl a n = false from by unfold knownB; simp; omega)
    go_enter Tryz.func60, Tryz.ntmps60
    go_wp2
    go_ret
    rw [H.out]; exact ⟨rfl, rfl⟩
/-- New. -/
def newBl (b : Int) : Nat := if 1 ≤ b ∧ b ≤ 8192 then b.toNat else 0
def newL (b : Int) : List Rn := if 1 ≤ b ∧ b ≤ 8192 then [⟨0, b.toNat⟩] else []
theorem new_ok (b : Int) (w : World) :
    Calls Tryz.prog 27 #[.int .i64 b] w fun e w' => ∃ pb, e = .returned (.pointer (some ⟨pb, 0, none⟩)) ∧ Rs w' (New w) pb (newBl b) (newL b) ∧ Fr Nil w w' := by
  by_cases h : 1 ≤ b ∧ b ≤ 8192
  · obtain ⟨n, rfl⟩ : ∃ n : Nat, b = n := ⟨b.toNat, by omega⟩
    have H1 := hid (show newBl n = n from by unfold newBl; rw [if_pos h]; omega)
    have H2 := hid (show newL n = [⟨0, n⟩] from by unfold newL; rw [if_pos h]; rfl)
    obtain ⟨h1, h2⟩ := h
    go_enter Tryz.func27, Tryz.ntmps27
    go_wp2
    go_ret
    rw [H1.out, H2.out]
    have hR := (Row.made w #[.int .i64 0, .int .i64 n] 39 2 1 1 rfl (by decide) (by decide)).alloc (.cells #[.int .i64 n, .slice (some ⟨w.heap.size, 0, none⟩) 1 1] 121)
    have hB := Blk.new (w.alloc (.cells #[.int .i64 0, .int .i64 n] 39)) #[.int .i64 n, .slice (some ⟨w.heap.size, 0, none⟩) 1 1] 121
    rw [show (w.alloc (.cells #[.int .i64 0, .int .i64 n] 39)).heap.size = w.heap.size + 1 by simp] at hB
    exact ⟨w.heap.size + 1, rfl, ⟨Nat.le_succ _, _, hB, hR⟩, ((Fr.refl _ _).alloc _).alloc _⟩
  · have H1 := hid (show newBl b = 0 from by unfold newBl; rw [if_neg h])
    have H2 := hid (show newL b = [] from by unfold newL; rw [if_neg h])
    by_cases h1 : b < 1
    · clear h
      go_enter Tryz.func27, Tryz.ntmps27
      go_wp2
      go_ret
      rw [H1.out, H2.out]
      exact ⟨w.heap.size, rfl, ⟨Nat.le_refl _, _, Blk.new w _ _, Row.nil _ _ _ _⟩, (Fr.refl _ _).alloc _⟩
    · have h2 : (8192 : Int) < b := by omega
      clear h
      go_enter Tryz.func27, Tryz.ntmps27
      go_wp2
      go_ret
      rw [H1.out, H2.out]
      exact ⟨w.heap.size, rfl, ⟨Nat.le_refl _, _, Blk.new w _ _, Row.nil _ _ _ _⟩, (Fr.refl _ _).alloc _⟩
end Go.Proofs.YtgoghmblfdlnbaaGreat
end

section
/- Runs: Take, Mark. -/
set_option linter.unusedSimpArgs false
set_option linter.unusedVariables false
namespace Go.Proofs.YtgoghmblfdlnbaaGreat
open Go.RowKit
theorem findIdx_is {p : Rn → Bool} {l : List Rn} {i : Nat} (hi : i ≤ l.length) (h : ∀ j, j < i → p (rn l j) = false) (h2 : i < l.length → p (rn l i) = true) : l.findIdx p = i := by
  induction l generalizing i with
  | nil => simp at hi; subst hi; rfl
  | cons r l ih =>
    rw [List.findIdx_cons]
    cases i with
    | zero => have : p r = true := h2 (by simp)
              rw [this]; rfl
    | succ i =>
      have h0 : p r = false := h 0 (by omega)
      rw [h0, ih (i := i) (by simpa using hi) (fun j hj => h (j + 1) (by omega)) (fun hl => h2 (by simpa using hl))]
      rfl
/-- The runs that a list may be of. -/
def Lok (bl : Nat) (l : List Rn) : Prop := bl ≤ 8192 ∧ l.length ≤ 8192 ∧ ∀ i, i < l.length → (rn l i).a + (rn l i).n ≤ bl
def fits (n : Int) (r : Rn) : Bool := decide (n ≤ (r.n : Int))
def takeI (l : List Rn) (n : Int) : Nat := if 1 ≤ n then l.findIdx (fits n) else l.length
def takeR (l : List Rn) (n : Int) : Int × Bool := if takeI l n < l.length then ((rn l (takeI l n)).a, true) else (0, false)
def takeL (l : List Rn) (n : Int) : List Rn := if takeI l n < l.length then putl l (takeI l n) [⟨(rn l (takeI l n)).a + n.toNat, (rn l (takeI l n)).n - n.toNat⟩] else l
theorem take_ok (T : Nat → Prop) (pb bl : Nat) (l : List Rn) (n : Int) (w : World) (h : Rs w T pb bl l) (hl : Lok bl l) (hT : ∀ k, T k → k < w.heap.size) :
    Calls Tryz.prog 32 #[.pointer (some ⟨pb, 0, none⟩), .int .i64 n] w fun e w' =>
      e = .returned (.tuple #[.int .i64 (takeR l n).1, .bool (takeR l n).2]) ∧ Rs w' (fun j => T j ∨ w.heap.size ≤ j) pb bl (takeL l n) ∧ Fr T w w' := by
  have HL := hid hl; clear hl
  have HT := hid hT; clear hT
  by_cases hn : n < 1
  · have Hi := hid (show takeI l n = l.length from by unfold takeI; rw [if_neg (by omega)])
    have H1 := hid (show takeR l n = (0, false) from by unfold takeR; rw [Hi.out, if_neg (by omega)])
    have H2 := hid (show takeL l n = l from by unfold takeL; rw [Hi.out, if_neg (by omega)])
    have Hh := hid h; clear h
    go_enter Tryz.func32, Tryz.ntmps32
    go_wp2
    go_ret2
    rw [H1.out, H2.out]
    exact ⟨rfl, Hh.out.mono fun _ h => .inl h, Fr.refl _ _⟩
  · obtain ⟨N, rfl⟩ : ∃ N : Nat, n = N := ⟨n.toNat, by omega⟩
    have hN : 1 ≤ N := by omega
    have h0 := h
    obtain ⟨hT1, sv, hb, hr⟩ := h
    obtain ⟨A, c, hsv⟩ := hr.slice
    subst hsv
    have c1 := hb.cell 1
    have hll := hid (Nat.le_refl l.length)
    obtain ⟨L, hL⟩ : ∃ L, L = l.length := ⟨_, rfl⟩
    have HLl := hid hL
    have hv := hr.view
    rw [← hL] at hv c1
    have hL9 : L ≤ 8192 := by rw [hL]; exact HL.out.2.1
    clear hL hb hr
    have Hv := hid hv; clear hv
    have Hh := hid h0; clear h0
    go_enter Tryz.func32, Tryz.ntmps32
    go_wp2_with fail
    go_loopw [19] (fun v19 wr => ∃ i : Nat, v19 = .int .i64 i ∧ i ≤ L ∧ Fr Nil w wr ∧ Hid (∀ j, j < i → fits N (rn l j) = false)) (fun v19 _ => L - (intOf v19).toNat)
    case atStart => exact ⟨0, rfl, by omega, Fr.refl _ _, hid fun j hj => absurd hj (by omega)⟩
    case round =>
      obtain ⟨i, rfl, hi, hfw, hok⟩ := hrel
      by_cases hlt : i < L
      · have hvr := Hv.out.fr hfw fun _ _ _ h => h
        obtain ⟨b, o, rfl, -, hbl, k0, k1⟩ := rn_at hvr hlt
        clear hvr
        have hal : Fr Nil wr (wr.alloc (.cells #[.int .i64 ((rn l i).a : Nat), .int .i64 ((rn l i).n : Nat)] 39)) := (Fr.refl _ _).alloc _
        have hbo := hid (HL.out.2.2 i (by rw [← HLl.out]; exact hlt))
        have hbl2 : (rn l i).a + (rn l i).n ≤ 8192 := Nat.le_trans hbo.out HL.out.1
        by_cases hz : N ≤ (rn l i).n
        · have Hz := hid hz
          have hI := hid (show takeI l N = i from by
            unfold takeI; rw [if_pos (by omega)]
            exact findIdx_is (by rw [← HLl.out]; omega) hok.out (fun _ => by unfold fits; simp; exact Hz.out))
          have hgo : N ≤ (rn l i).n := hz
          go_wp2_with fail
          have e1 : (((rn l i).a : Int) + (N : Int)) = (((rn l i).a + N : Nat) : Int) := by omega
          have e2 : (((rn l i).n : Int) - (N : Int)) = (((rn l i).n - N : Nat) : Int) := by omega
          rw [e1, e2]
          clear e1 e2
          have hrow : Row ((wr.alloc (.cells #[.int .i64 ((rn l i).a : Nat), .int .i64 ((rn l i).n : Nat)] 39)).alloc (.cells #[.int .i64 ((rn l i).a + N : Nat), .int .i64 ((rn l i).n - N : Nat)] 39)) (New w) 39 2 (.slice (some ⟨wr.heap.size + 1, 0, none⟩) 1 1) 1 (dbl [⟨(rn l i).a + N, (rn l i).n - N⟩]) := by
            have h1 := Row.made (wr.alloc (.cells #[.int .i64 ((rn l i).a : Nat), .int .i64 ((rn l i).n : Nat)] 39)) #[.int .i64 ((rn l i).a + N : Nat), .int .i64 ((rn l i).n - N : Nat)] 39 2 1 1 rfl (by decide) (by decide)
            rw [show (wr.alloc (.cells #[.int .i64 ((rn l i).a : Nat), .int .i64 ((rn l i).n : Nat)] 39)).heap.size = wr.heap.size + 1 by simp] at h1
            exact h1.mono fun k hk => Nat.le_trans (Nat.le_trans hfw.size (by simp)) hk
          have hbx : Blk ((wr.alloc (.cells #[.int .i64 ((rn l i).a : Nat), .int .i64 ((rn l i).n : Nat)] 39)).alloc (.cells #[.int .i64 ((rn l i).a + N : Nat), .int .i64 ((rn l i).n - N : Nat)] 39)) wr.heap.size #[.int .i64 ((rn l i).a : Nat), .int .i64 ((rn l i).n : Nat)] 39 := (Blk.new _ _ _).alloc _
          have hfa := hfw.then (hal.alloc (.cells #[.int .i64 ((rn l i).a + N : Nat), .int .i64 ((rn l i).n - N : Nat)] 39))
          have hwr := hfw.size
          obtain ⟨W2, hW2⟩ : ∃ W2, W2 = (wr.alloc (.cells #[.int .i64 ((rn l i).a : Nat), .int .i64 ((rn l i).n : Nat)] 39)).alloc (.cells #[.int .i64 ((rn l i).a + N : Nat), .int .i64 ((rn l i).n - N : Nat)] 39) := ⟨_, rfl⟩
          rw [← hW2] at hrow hbx hfa ⊢
          clear hW2
          refine (put_ok T (New w) pb bl l [⟨(rn l i).a + N, (rn l i).n - N⟩] i 1 (wr.heap.size + 1) 1 W2 (Hh.out.fr hfa fun _ _ _ h => h) (by rw [← HLl.out]; exact hlt) (Nat.le_trans HL.out.2.1 (by decide)) hrow (by decide) (fun h => by have := HT.out _ h; omega)).mono ?_
          rintro e w3 ⟨rfl, hR3, hf3⟩
          have hb3 := hbx.fr hf3 (fun h => by
            rcases h with h | h
            · have := HT.out _ h; omega
            · omega)
          have x0 := hb3.cell 0
          have Hfin := hid (show Rs w3 (fun j => T j ∨ w.heap.size ≤ j) pb bl (takeL l N) ∧ Fr T w w3 from ⟨by
              unfold takeL; rw [hI.out, if_pos (by rw [← HLl.out]; exact hlt)]
              exact hR3.mono fun j hj => hj.imp id (fun hj => Nat.le_trans hfa.size hj), (hfa.nil (S := T)).trans hf3 (fun j hj => by
              rcases hj with hj | hj
              · exact .inl hj
              · exact .inr (by omega))⟩)
          have H1 := hid (show takeR l N = (((rn l i).a : Int), true) from by unfold takeR; rw [hI.out, if_pos (by rw [← HLl.out]; exact hlt)])
          clear hR3 hf3 hb3 hbx hrow hfa hal
          go_wp2
          go_ret2
          rw [H1.out]
          exact ⟨rfl, Hfin.out⟩
        · have Hz := hid hz
          go_wp2_with fail
          go_roundw
          case rel =>
            refine ⟨i + 1, by go_num, by omega, hfw.then hal, hid fun j hj => ?_⟩
            rcases Nat.lt_or_ge j i with h | h
            · exact hok.out j h
            · obtain rfl : j = i := by omega
              unfold fits; simp; have := Hz.out; omega
          case measure => simp [intOf]; omega
      · have hI := hid (show takeI l N = l.length from by
          unfold takeI; rw [if_pos (by omega)]
          exact findIdx_is (Nat.le_refl _) (fun j hj => hok.out j (by have := HLl.out; omega)) (fun h => absurd h (by omega)))
        have H1 := hid (show takeR l N = (0, false) from by unfold takeR; rw [hI.out, if_neg (by omega)])
        have H2 := hid (show takeL l N = l from by unfold takeL; rw [hI.out, if_neg (by omega)])
        go_wp2
        go_ret2
        rw [H1.out, H2.out]
        exact ⟨rfl, (Hh.out.fr hfw fun _ _ _ h => h).mono fun _ h => .inl h, hfw.nil⟩
/-- Mark. -/
def holds (a n : Int) (r : Rn) : Bool := decide ((r.a : Int) ≤ a ∧ a + n ≤ (r.a : Int) + r.n)
def markI (l : List Rn) (a n : Int) : Nat := l.findIdx (holds a n)
def markR (bl : Nat) (l : List Rn) (a n : Int) : Bool := knownB bl a n && decide (markI l a n < l.length)
def markY (r : Rn) (a n : Nat) : List Rn := [⟨r.a, a - r.a⟩, ⟨a + n, r.a + r.n - a - n⟩]
def markL (bl : Nat) (l : List Rn) (a n : Int) : List Rn := if markR bl l a n = true then putl l (markI l a n) (markY (rn l (markI l a n)) a.toNat n.toNat) else l
theorem mark_ok (T : Nat → Prop) (pb bl : Nat) (l : List Rn) (a n : Int) (w : World) (h : Rs w T pb bl l) (hl : Lok bl l) (hT : ∀ k, T k → k < w.heap.size) :
    Calls Tryz.prog 28 #[.pointer (some ⟨pb, 0, none⟩), .int .i64 a, .int .i64 n] w fun e w' =>
      e = .returned (.bool (markR bl l a n)) ∧ Rs w' (fun j => T j ∨ w.heap.size ≤ j) pb bl (markL bl l a n) ∧ Fr T w w' := by
  have HL := hid hl; clear hl
  have HT := hid hT; clear hT
  have hkn := known_ok T pb bl l a n w h (Nat.le_trans HL.out.1 (by decide))
  by_cases hk : knownB bl a n = false
  · have H1 := hid (show markR bl l a n = false from by unfold markR; rw [hk]; rfl)
    have H2 := hid (show markL bl l a n = l from by unfold markL; rw [H1.out, if_neg (by decide)])
    have Hh := hid h; clear h
    rw [hk] at hkn
    have Hkn := hid hkn
    clear hkn hk
    go_enter Tryz.func28, Tryz.ntmps28
    go_wp2_with fail
    refine Hkn.out.mono ?_
    rintro e w1 ⟨rfl, rfl⟩
    go_wp2
    go_ret
    rw [H1.out, H2.out]
    exact ⟨rfl, Hh.out.mono fun _ h => .inl h, Fr.refl _ _⟩
  · have hk2 : knownB bl a n = true := by simpa using hk
    rw [hk2] at hkn
    have hkk : 0 ≤ a ∧ 1 ≤ n ∧ n ≤ bl ∧ a ≤ bl - n := by unfold knownB at hk2; simpa using hk2
    have Hk := hid hk2
    have Hkn := hid hkn
    clear hkn hk hk2
    obtain ⟨k1, k2, k3, k4⟩ := hkk
    obtain ⟨N, rfl⟩ : ∃ N : Nat, n = N := ⟨n.toNat, by omega⟩
    obtain ⟨X, rfl⟩ : ∃ X : Nat, a = X := ⟨a.toNat, by omega⟩
    have hbl8 := HL.out.1
    have h0 := h
    obtain ⟨hT1, sv, hb, hr⟩ := h
    obtain ⟨A, c, hsv⟩ := hr.slice
    subst hsv
    have c1 := hb.cell 1
    obtain ⟨L, hL⟩ : ∃ L, L = l.length := ⟨_, rfl⟩
    have HLl := hid hL
    have hv := hr.view
    rw [← hL] at hv c1
    have hL9 : L ≤ 8192 := by rw [hL]; exact HL.out.2.1
    clear hL hb hr
    have Hv := hid hv; clear hv
    have Hh := hid h0; clear h0
    go_enter Tryz.func28, Tryz.ntmps28
    go_wp2_with fail
    refine Hkn.out.mono ?_
    rintro e w1 ⟨rfl, rfl⟩
    go_wp2_with fail
    go_loopw [19] (fun v19 wr => ∃ i : Nat, v19 = .int .i64 i ∧ i ≤ L ∧ Fr Nil w wr ∧ Hid (∀ j, j < i → holds X N (rn l j) = false)) (fun v19 _ => L - (intOf v19).toNat)
    case atStart => exact ⟨0, rfl, by omega, Fr.refl _ _, hid fun j hj => absurd hj (by omega)⟩
    case round =>
      obtain ⟨i, rfl, hi, hfw, hok⟩ := hrel
      by_cases hlt : i < L
      · have hvr := Hv.out.fr hfw fun _ _ _ h => h
        obtain ⟨b, o, rfl, -, hbl, q0, q1⟩ := rn_at hvr hlt
        clear hvr
        have hal : Fr Nil wr (wr.alloc (.cells #[.int .i64 ((rn l i).a : Nat), .int .i64 ((rn l i).n : Nat)] 39)) := (Fr.refl _ _).alloc _
        have hbo := hid (HL.out.2.2 i (by rw [← HLl.out]; exact hlt))
        have hbl2 : (rn l i).a + (rn l i).n ≤ 8192 := Nat.le_trans hbo.out HL.out.1
        by_cases hz1 : (rn l i).a ≤ X
        · by_cases hz2 : X + N ≤ (rn l i).a + (rn l i).n
          · have Hz := hid (And.intro hz1 hz2)
            have hI := hid (show markI l X N = i from by
              unfold markI
              exact findIdx_is (by rw [← HLl.out]; omega) hok.out (fun _ => by unfold holds; have := Hz.out; simp; omega))
            have H1 := hid (show markR bl l X N = true from by unfold markR; rw [Hk.out, hI.out]; simp; rw [← HLl.out]; exact hlt)
            have hz3 : ((X : Int) + (N : Int)) ≤ ((rn l i).a : Int) + ((rn l i).n : Int) := by omega
            go_wp2_with fail
            have e1 : ((X : Int) - ((rn l i).a : Int)) = ((X - (rn l i).a : Nat) : Int) := by omega
            have e2 : (((rn l i).a : Int) + ((rn l i).n : Int) - (X : Int) - (N : Int)) = (((rn l i).a + (rn l i).n - X - N : Nat) : Int) := by omega
            have e3 : ((X : Int) + (N : Int)) = ((X + N : Nat) : Int) := by omega
            rw [e1, e2, e3]
            clear e1 e2 e3
            have hrow : Row ((wr.alloc (.cells #[.int .i64 ((rn l i).a : Nat), .int .i64 ((rn l i).n : Nat)] 39)).alloc (.cells #[.int .i64 ((rn l i).a : Nat), .int .i64 (X - (rn l i).a : Nat), .int .i64 (X + N : Nat), .int .i64 ((rn l i).a + (rn l i).n - X - N : Nat)] 39)) (New w) 39 2 (.slice (some ⟨wr.heap.size + 1, 0, none⟩) 2 2) 2 (dbl (markY (rn l i) X N)) := by
              have h1 := Row.made (wr.alloc (.cells #[.int .i64 ((rn l i).a : Nat), .int .i64 ((rn l i).n : Nat)] 39)) #[.int .i64 ((rn l i).a : Nat), .int .i64 (X - (rn l i).a : Nat), .int .i64 (X + N : Nat), .int .i64 ((rn l i).a + (rn l i).n - X - N : Nat)] 39 2 2 2 rfl (by decide) (by decide)
              rw [show (wr.alloc (.cells #[.int .i64 ((rn l i).a : Nat), .int .i64 ((rn l i).n : Nat)] 39)).heap.size = wr.heap.size + 1 by simp] at h1
              exact h1.mono fun k hk => Nat.le_trans (Nat.le_trans hfw.size (by simp)) hk
            have hbx : Blk ((wr.alloc (.cells #[.int .i64 ((rn l i).a : Nat), .int .i64 ((rn l i).n : Nat)] 39)).alloc (.cells #[.int .i64 ((rn l i).a : Nat), .int .i64 (X - (rn l i).a : Nat), .int .i64 (X + N : Nat), .int .i64 ((rn l i).a + (rn l i).n - X - N : Nat)] 39)) wr.heap.size #[.int .i64 ((rn l i).a : Nat), .int .i64 ((rn l i).n : Nat)] 39 := (Blk.new _ _ _).alloc _
            have hfa := hfw.then (hal.alloc (.cells #[.int .i64 ((rn l i).a : Nat), .int .i64 (X - (rn l i).a : Nat), .int .i64 (X + N : Nat), .int .i64 ((rn l i).a + (rn l i).n - X - N : Nat)] 39))
            have hwr := hfw.size
            obtain ⟨W2, hW2⟩ : ∃ W2, W2 = (wr.alloc (.cells #[.int .i64 ((rn l i).a : Nat), .int .i64 ((rn l i).n : Nat)] 39)).alloc (.cells #[.int .i64 ((rn l i).a : Nat), .int .i64 (X - (rn l i).a : Nat), .int .i64 (X + N : Nat), .int .i64 ((rn l i).a + (rn l i).n - X - N : Nat)] 39) := ⟨_, rfl⟩
            rw [← hW2] at hrow hbx hfa ⊢
            clear hW2
            refine (put_ok T (New w) pb bl l (markY (rn l i) X N) i 2 (wr.heap.size + 1) 2 W2 (Hh.out.fr hfa fun _ _ _ h => h) (by rw [← HLl.out]; exact hlt) (Nat.le_trans HL.out.2.1 (by decide)) hrow (by decide) (fun h => by have := HT.out _ h; omega)).mono ?_
            rintro e w3 ⟨rfl, hR3, hf3⟩
            have hb3 := hbx.fr hf3 (fun h => by
              rcases h with h | h
              · have := HT.out _ h; omega
              · omega)
            have Hfin := hid (show Rs w3 (fun j => T j ∨ w.heap.size ≤ j) pb bl (markL bl l X N) ∧ Fr T w w3 from ⟨by
                unfold markL; rw [H1.out, if_pos rfl, hI.out]
                exact hR3.mono fun j hj => hj.imp id (fun hj => Nat.le_trans hfa.size hj), (hfa.nil (S := T)).trans hf3 (fun j hj => by
                rcases hj with hj | hj
                · exact .inl hj
                · exact .inr (by omega))⟩)
            clear hR3 hf3 hb3 hbx hrow hfa hal
            go_wp2
            go_ret
            rw [H1.out]
            exact ⟨rfl, Hfin.out⟩
          · have Hz := hid hz2
            have hz3 : ¬ ((X : Int) + (N : Int)) ≤ ((rn l i).a : Int) + ((rn l i).n : Int) := by omega
            go_wp2_with fail
            go_roundw
            case rel =>
              refine ⟨i + 1, by go_num, by omega, hfw.then hal, hid fun j hj => ?_⟩
              rcases Nat.lt_or_ge j i with h | h
              · exact hok.out j h
              · obtain rfl : j = i := by omega
                unfold holds; simp; have := Hz.out; omega
            case measure => simp [intOf]; omega
        · have Hz := hid hz1
          go_wp2_with fail
          go_roundw
          case rel =>
            refine ⟨i + 1, by go_num, by omega, hfw.then hal, hid fun j hj => ?_⟩
            rcases Nat.lt_or_ge j i with h | h
            · exact hok.out j h
            · obtain rfl : j = i := by omega
              unfold holds; simp; have := Hz.out; omega
          case measure => simp [intOf]; omega
      · have hI := hid (show markI l X N = l.length from by
          unfold markI
          exact findIdx_is (Nat.le_refl _) (fun j hj => hok.out j (by have := HLl.out; omega)) (fun h => absurd h (by omega)))
        have H1 := hid (show markR bl l X N = false from by unfold markR; rw [Hk.out, hI.out]; simp)
        have H2 := hid (show markL bl l X N = l from by unfold markL; rw [H1.out, if_neg (by decide)])
        go_wp2
        go_ret
        rw [H1.out, H2.out]
        exact ⟨rfl, (Hh.out.fr hfw fun _ _ _ h => h).mono fun _ h => .inl h, hfw.nil⟩
end Go.Proofs.YtgoghmblfdlnbaaGreat
end

/- Runs: put, known, New. -/
import Derived.Test.YtjieckaeplkafaaRnRf
set_option linter.unusedSimpArgs false
set_option linter.unusedVariables false
namespace Go.Proofs.Ytjieckaeplkafaa
open Go.RowKit
/-- Runs: how many blocks there are, the runs; T: the blocks of memory that it may have. -/
def Rs (w : World) (T : Nat → Prop) (pb bl : Nat) (l : List Rn) : Prop :=
  T pb ∧ ∃ sv, Blk w pb #[.int .i64 (bl : Nat), sv] 54 ∧ Row w T 33 2 sv l.length (dbl l)
theorem Rs.mono {w : World} {T T' : Nat → Prop} {pb bl : Nat} {l : List Rn} (h : Rs w T pb bl l) (ht : ∀ k, T k → T' k) : Rs w T' pb bl l := by
  obtain ⟨h1, sv, h2, h3⟩ := h
  exact ⟨ht _ h1, sv, h2, h3.mono ht⟩
theorem Rs.fr {w w1 : World} {T S1 : Nat → Prop} {pb bl : Nat} {l : List Rn} (h : Rs w T pb bl l) (hf : Fr S1 w w1) (hn : ∀ k, T k → k < w.heap.size → ¬ S1 k) : Rs w1 T pb bl l := by
  obtain ⟨h1, sv, h2, h3⟩ := h
  exact ⟨h1, sv, h2.fr hf (hn _ h1 h2.lt), h3.fr hf (fun k hk => hn k (h3.2 k hk) (h3.lt k hk))⟩
theorem Rs.lt {w : World} {T : Nat → Prop} {pb bl : Nat} {l : List Rn} (h : Rs w T pb bl l) : pb < w.heap.size := by
  obtain ⟨h1, sv, h2, h3⟩ := h
  exact h2.lt
/-- Only what there is. -/
theorem Rs.bd {w : World} {T : Nat → Prop} {pb bl : Nat} {l : List Rn} (h : Rs w T pb bl l) : Rs w (fun k => T k ∧ k < w.heap.size) pb bl l := by
  obtain ⟨h1, sv, h2, h3⟩ := h
  exact ⟨⟨h1, h2.lt⟩, sv, h2, ⟨h3.1, fun k hk => ⟨h3.2 k hk, h3.lt k hk⟩⟩⟩
/-- What put makes of a list. -/
def putl (l : List Rn) (k : Nat) (ys : List Rn) : List Rn := l.take k ++ ys.filter nz ++ l.drop (k + 1)
theorem putl_length {l : List Rn} {k : Nat} (ys : List Rn) (h : k < l.length) : (putl l k ys).length = k + (ys.filter nz).length + (l.length - (k + 1)) := by
  unfold putl; simp; omega
theorem put_ok (T Sv : Nat → Prop) (pb bl : Nat) (l ys : List Rn) (k m : Nat) (vb vc : Nat) (w : World) (h : Rs w T pb bl l) (hk : k < l.length) (hl : l.length ≤ 100000)
    (hv : Row w Sv 33 2 (.slice (some ⟨vb, 0, none⟩) m vc) m (dbl ys)) (hm : m ≤ 4) (hT : ¬ T vb) :
    Calls Try.prog 33 #[.pointer (some ⟨pb, 0, none⟩), .int .i64 k, .slice (some ⟨vb, 0, none⟩) m vc] w fun e w' =>
      e = .returned (.tuple #[]) ∧ Rs w' (fun j => T j ∨ w.heap.size ≤ j) pb bl (putl l k ys) ∧ Fr (fun j => T j ∨ j = vb) w w' := by
  obtain ⟨hT1, sv, hb, hr⟩ := h
  have hym := hv.view.len2
  have hfm : (ys.filter nz).length ≤ m := by have := List.length_filter_le nz ys; omega
  have hpl := hid (putl_length ys hk)
  have hvp : pb ≠ vb := fun e => hT (e ▸ hT1)
  have hsv := hid (show sv.ownBlock ≠ some vb from fun e => hT (hr.2 vb e))
  have hap := hid (hr.apart_blk hb (by decide))
  have HT := hid hT; clear hT
  have Hm := hid hym; clear hym
  go_enter Try.func33, Try.ntmps33
  go_wp2_with fail
  refine (delete_ok Sv vb vc m ys (by omega) w hv).mono ?_
  rintro e w1 ⟨rfl, hv1, hf1⟩
  have hb1 := hb.fr hf1 hvp
  have hr1 := hr.fr hf1 (fun j hj hjv => hsv.out (hjv ▸ hj))
  have c0 := hb1.cell 0
  have c1 := hb1.cell 1
  have hkb : k + 1 ≤ 100000 := by omega
  clear hv hb hr
  go_wp2_with fail
  have hk2 : ((k : Int) + 1) = ((k + 1 : Nat) : Int) := by omega
  rw [hk2]
  clear hk2
  refine (replace_ok T Sv sv l.length (ys.filter nz).length l (ys.filter nz) k (k + 1) vb vc w1 hr1 hv1 hsv.out hl (by omega) (by omega) (by omega)).mono ?_
  rintro e w2 ⟨A, c, rfl, hr2, hf2, hn2⟩
  have hb2 := hb1.fr hf2 (fun e => hap.out e)
  have hap2 := hid (hr2.apart_blk hb2 (by decide))
  have d1 := hb2.cell 1
  have z1 := hb2.frozen 1
  have hlt := hb2.lt
  have hfin : Rs (w2.setCell ⟨pb, 1, none⟩ (.slice A (k + (ys.filter nz).length + (l.length - (k + 1))) c)) (fun j => T j ∨ w.heap.size ≤ j) pb bl (putl l k ys) := by
    refine ⟨.inl hT1, _, hb2.set 1 _, ?_⟩
    rw [hpl.out]
    refine Row.setCell (Row.mono hr2 fun j hj => ?_) ?_ _
    · rcases hj with hj | hj
      · exact .inl (hr1.2 j hj)
      · exact .inr (Nat.le_trans hf1.size hj)
    · exact hap2.out
  have hF : Fr (fun j => T j ∨ j = vb) w (w2.setCell ⟨pb, 1, none⟩ (.slice A (k + (ys.filter nz).length + (l.length - (k + 1))) c)) :=
    ((hf1.mono (S' := fun j => T j ∨ j = vb) fun j hj => .inr hj).trans hf2 (fun j hj => .inl (.inl (hr1.2 j hj)))).setCell (.inl (.inl hT1)) _
  have Hfin := hid (And.intro hfin hF)
  clear hfin hF hr2 hf2 hn2 hb2 hr1 hv1 hb1 hf1 c0 c1
  go_wp2
  go_end0
  exact ⟨rfl, Hfin.out.1, Hfin.out.2⟩
/-- Are there such blocks? -/
def knownB (bl : Nat) (a n : Int) : Bool := decide (0 ≤ a ∧ 1 ≤ n ∧ n ≤ bl ∧ a ≤ bl - n)
theorem known_ok (T : Nat → Prop) (pb bl : Nat) (l : List Rn) (a n : Int) (w : World) (h : Rs w T pb bl l) (hbl : bl ≤ 100000) :
    Calls Try.prog 52 #[.pointer (some ⟨pb, 0, none⟩), .int .i64 a, .int .i64 n] w fun e w' => e = .returned (.bool (knownB bl a n)) ∧ w = w' := by
  obtain ⟨hT1, sv, hb, hr⟩ := h
  have c0 := hb.cell 0
  clear hr
  by_cases h1 : 0 ≤ a
  · by_cases h2 : 1 ≤ n
    · by_cases h3 : n ≤ bl
      · by_cases h4 : a ≤ bl - n
        · have H := hid (show knownB bl a n = true from by unfold knownB; simp; omega)
          go_enter Try.func52, Try.ntmps52
          go_wp2
          go_ret
          rw [H.out]; exact ⟨rfl, rfl⟩
        · have H := hid (show knownB bl a n = false from by unfold knownB; simp; omega)
          go_enter Try.func52, Try.ntmps52
          go_wp2
          go_ret
          rw [H.out]; exact ⟨rfl, rfl⟩
      · have H := hid (show knownB bl a n = false from by unfold knownB; simp; omega)
        go_enter Try.func52, Try.ntmps52
        go_wp2
        go_ret
        rw [H.out]; exact ⟨rfl, rfl⟩
    · have H := hid (show knownB bl a n = false from by unfold knownB; simp; omega)
      go_enter Try.func52, Try.ntmps52
      go_wp2
      go_ret
      rw [H.out]; exact ⟨rfl, rfl⟩
  · have H := hid (show knownB bl a n = false from by unfold knownB; simp; omega)
    go_enter Try.func52, Try.ntmps52
    go_wp2
    go_ret
    rw [H.out]; exact ⟨rfl, rfl⟩
/-- New. -/
def newBl (b : Int) : Nat := if 1 ≤ b ∧ b ≤ 8192 then b.toNat else 0
def newL (b : Int) : List Rn := if 1 ≤ b ∧ b ≤ 8192 then [⟨0, b.toNat⟩] else []
theorem new_ok (b : Int) (w : World) :
    Calls Try.prog 8 #[.int .i64 b] w fun e w' => ∃ pb, e = .returned (.pointer (some ⟨pb, 0, none⟩)) ∧ Rs w' (New w) pb (newBl b) (newL b) ∧ Fr Nil w w' := by
  by_cases h : 1 ≤ b ∧ b ≤ 8192
  · obtain ⟨n, rfl⟩ : ∃ n : Nat, b = n := ⟨b.toNat, by omega⟩
    have H1 := hid (show newBl n = n from by unfold newBl; rw [if_pos h]; omega)
    have H2 := hid (show newL n = [⟨0, n⟩] from by unfold newL; rw [if_pos h]; rfl)
    obtain ⟨h1, h2⟩ := h
    go_enter Try.func8, Try.ntmps8
    go_wp2
    go_ret
    rw [H1.out, H2.out]
    have hR := (Row.made w #[.int .i64 0, .int .i64 n] 33 2 1 1 rfl (by decide) (by decide)).alloc (.cells #[.int .i64 n, .slice (some ⟨w.heap.size, 0, none⟩) 1 1] 54)
    have hB := Blk.new (w.alloc (.cells #[.int .i64 0, .int .i64 n] 33)) #[.int .i64 n, .slice (some ⟨w.heap.size, 0, none⟩) 1 1] 54
    rw [show (w.alloc (.cells #[.int .i64 0, .int .i64 n] 33)).heap.size = w.heap.size + 1 by simp] at hB
    exact ⟨w.heap.size + 1, rfl, ⟨Nat.le_succ _, _, hB, hR⟩, ((Fr.refl _ _).alloc _).alloc _⟩
  · have H1 := hid (show newBl b = 0 from by unfold newBl; rw [if_neg h])
    have H2 := hid (show newL b = [] from by unfold newL; rw [if_neg h])
    by_cases h1 : b < 1
    · clear h
      go_enter Try.func8, Try.ntmps8
      go_wp2
      go_ret
      rw [H1.out, H2.out]
      exact ⟨w.heap.size, rfl, ⟨Nat.le_refl _, _, Blk.new w _ _, Row.nil _ _ _ _⟩, (Fr.refl _ _).alloc _⟩
    · have h2 : (8192 : Int) < b := by omega
      clear h
      go_enter Try.func8, Try.ntmps8
      go_wp2
      go_ret
      rw [H1.out, H2.out]
      exact ⟨w.heap.size, rfl, ⟨Nat.le_refl _, _, Blk.new w _ _, Row.nil _ _ _ _⟩, (Fr.refl _ _).alloc _⟩
end Go.Proofs.Ytjieckaeplkafaa

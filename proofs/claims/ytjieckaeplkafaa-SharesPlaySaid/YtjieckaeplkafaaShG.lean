/- Shares: contracts beside what a law owns itself (Q); list. Conditions: the bounds of its lists. -/
import Derived.Test.YtjieckaeplkafaaShE
import Derived.Test.YtjieckaeplkafaaShP
set_option linter.unusedSimpArgs false
set_option linter.unusedVariables false
namespace Go.Proofs.Ytjieckaeplkafaa
open Go.RowKit
/-- Shares and runs, new since w0, beside the blocks Q; their plain invariant. -/
def Sg (Q : Nat → Prop) (w0 w : World) (sb pb bl N : Nat) (U L H : List Us) (A l : List Rn) : Prop :=
  ∃ V, St w V sb pb bl U L H A l ∧ (∀ k, V k → w0.heap.size ≤ k ∧ ¬ Q k) ∧ Fr Nil w0 w ∧ (∀ k, Q k → k < w.heap.size) ∧ Inv bl N U L H A l
section
variable {Q : Nat → Prop} {w0 w : World} {sb pb bl N : Nat} {U L H : List Us} {A l : List Rn}
theorem Sg.inv (h : Sg Q w0 w sb pb bl N U L H A l) : Inv bl N U L H A l := by
  obtain ⟨V, h1, h2, h3, h4, h5⟩ := h
  exact h5
theorem Sg.le8 (h : Sg Q w0 w sb pb bl N U L H A l) : bl ≤ 8192 := h.inv.r.wf.1
theorem Sg.fr0 (h : Sg Q w0 w sb pb bl N U L H A l) : Fr Nil w0 w := by
  obtain ⟨V, h1, h2, h3, h4, h5⟩ := h
  exact h3
theorem Sg.mono {N' : Nat} (h : Sg Q w0 w sb pb bl N U L H A l) (hN : N ≤ N') : Sg Q w0 w sb pb bl N' U L H A l := by
  obtain ⟨V, h1, h2, h3, h4, h5⟩ := h
  exact ⟨V, h1, h2, h3, h4, h5.mono hN⟩
theorem Sg.of (h : Sw w0 w sb pb bl U L H A l) (hi : Inv bl N U L H A l) : Sg (fun _ => False) w0 w sb pb bl N U L H A l := by
  obtain ⟨V, h1, h2, h3⟩ := h
  exact ⟨V, h1, fun k hk => ⟨h2 k hk, fun h => h⟩, h3, fun k h => h.elim, hi⟩
/-- What the law writes itself, or makes anew. -/
theorem Sg.fr {Q' S : Nat → Prop} (h : Sg Q w0 w sb pb bl N U L H A l) {w' : World} (hf : Fr S w w') (hS : ∀ k, S k → Q k) (hS0 : ∀ k, S k → w0.heap.size ≤ k) (hQ : ∀ k, Q' k → (Q k ∨ w.heap.size ≤ k) ∧ k < w'.heap.size) : Sg Q' w0 w' sb pb bl N U L H A l := by
  obtain ⟨V, h1, h2, h3, h4, h5⟩ := h
  refine ⟨V, h1.fr hf fun k hk h => (h2 k hk).2 (hS k h), fun k hk => ⟨(h2 k hk).1, fun h => ?_⟩, h3.trans hf fun k hk => .inr (hS0 k hk), fun k hk => (hQ k hk).2, h5⟩
  rcases (hQ k h).1 with h | h
  · exact (h2 k hk).2 h
  · have := h1.lt k hk; omega
theorem Sg.nil (h : Sg Q w0 w sb pb bl N U L H A l) {w' : World} (hf : Fr Nil w w') : Sg Q w0 w' sb pb bl N U L H A l :=
  h.fr hf (fun k h => h.elim) (fun k h => h.elim) fun k hk => ⟨.inl hk, by obtain ⟨V, h1, h2, h3, h4, h5⟩ := h; exact Nat.lt_of_lt_of_le (h4 k hk) hf.size⟩
theorem Sg.next {N' : Nat} {U' L' H' : List Us} {A' l' : List Rn} {w' : World} {V : Nat → Prop} (h2 : ∀ k, V k → w0.heap.size ≤ k ∧ ¬ Q k) (h3 : Fr Nil w0 w) (hq : ∀ k, Q k → k < w.heap.size) (hi : Inv bl N' U' L' H' A' l')
    (hs : ∃ V', St w' V' sb pb bl U' L' H' A' l' ∧ ∀ k, V' k → V k ∨ w.heap.size ≤ k) (hf : Fr V w w') : Sg Q w0 w' sb pb bl N' U' L' H' A' l' ∧ Fr (fun k => ¬ Q k) w w' := by
  obtain ⟨V', r1, r2⟩ := hs
  refine ⟨⟨V', r1, fun k hk => ?_, fup (fun k hk => (h2 k hk).1) h3 hf, fun k hk => Nat.lt_of_lt_of_le (hq k hk) hf.size, hi⟩, hf.mono fun k hk => (h2 k hk).2⟩
  rcases r2 k hk with h | h
  · exact h2 k h
  · exact ⟨Nat.le_trans h3.size h, fun h' => by have := hq k h'; omega⟩
theorem takeL_no {l : List Rn} {n : Int} (h : ¬ takeI l n < l.length) : takeR l n = (0, false) ∧ takeL l n = l := by
  unfold takeR takeL
  rw [if_neg h, if_neg h]
  exact ⟨rfl, rfl⟩
theorem takeR_yes {l : List Rn} {n : Int} (h : takeI l n < l.length) : takeR l n = (((rn l (takeI l n)).a : Int), true) := by
  unfold takeR
  rw [if_pos h]
/-- Take: none, or a run is taken and then added. -/
theorem sg_takeno (h : Sg Q w0 w sb pb bl N U L H A l) (n : Int) (hi : ¬ takeI l n < l.length) : Calls Try.prog 10 #[.pointer (some ⟨pb, 0, none⟩), .int .i64 n] w fun e w' => e = .returned (.tuple #[.int .i64 0, .bool false]) ∧ Sg Q w0 w' sb pb bl N U L H A l ∧ Fr (fun k => ¬ Q k) w w' := by
  obtain ⟨V, h1, h2, h3, h4, h5⟩ := h
  obtain ⟨e1, e2⟩ := takeL_no hi
  refine (st_take h1 n).mono ?_
  rw [e1, e2]
  exact fun e w' ⟨r1, r2, r3⟩ => ⟨r1, Sg.next h2 h3 h4 h5 r2 r3⟩
/-- Between Take and Add: a run that nobody has yet. -/
structure Half (Q : Nat → Prop) (w0 w : World) (sb pb bl N : Nat) (U L H : List Us) (A l : List Rn) (a n : Nat) : Prop where
  ex : ∃ V, St w V sb pb bl U L H A (takeL l (n : Int)) ∧ (∀ k, V k → w0.heap.size ≤ k ∧ ¬ Q k) ∧ Fr Nil w0 w ∧ (∀ k, Q k → k < w.heap.size)
  inv : Inv bl N U L H A l
  hi : takeI l (n : Int) < l.length
  ha : a = (rn l (takeI l (n : Int))).a
  hn : 1 ≤ n
theorem sg_take (h : Sg Q w0 w sb pb bl N U L H A l) (n : Nat) (hn : 1 ≤ n) (hi : takeI l (n : Int) < l.length) : Calls Try.prog 10 #[.pointer (some ⟨pb, 0, none⟩), .int .i64 (n : Nat)] w fun e w' => ∃ a, e = .returned (.tuple #[.int .i64 (a : Nat), .bool true]) ∧ a < bl ∧ a = (rn l (takeI l (n : Int))).a ∧ Half Q w0 w' sb pb bl N U L H A l a n ∧ Fr (fun k => ¬ Q k) w w' := by
  obtain ⟨V, h1, h2, h3, h4, h5⟩ := h
  refine (st_take h1 (n : Int)).mono ?_
  rw [takeR_yes hi]
  rintro e w' ⟨rfl, ⟨V', r1, r2⟩, r3⟩
  have hf : has l (rn l (takeI l (n : Int))).a = true := (take_has h5.r.wf (n : Int) hi 0).2 _ (btw_iff.2 ⟨Nat.le_refl _, by simp; omega⟩)
  refine ⟨_, rfl, wf_lt h5.r.wf hf, rfl, ⟨⟨V', r1, fun k hk => ?_, fup (fun k hk => (h2 k hk).1) h3 r3, fun k hk => Nat.lt_of_lt_of_le (h4 k hk) r3.size⟩, h5, hi, rfl, hn⟩, r3.mono fun k hk => (h2 k hk).2⟩
  rcases r2 k hk with h | h
  · exact h2 k h
  · exact ⟨Nat.le_trans h3.size h, fun h' => by have := h4 k h'; omega⟩
theorem usesI_none {U : List Us} {i : Int} (h : uget U i = none) : usesI U i = 0 := by unfold usesI; rw [h]
theorem sg_add {a n : Nat} (h : Half Q w0 w sb pb bl N U L H A l a n) (hN : 1 ≤ N) :
    Calls Try.prog 11 #[.pointer (some ⟨sb, 0, none⟩), .agg #[.int .i64 (a : Nat), .int .i64 (n : Nat)]] w fun e w' =>
      e = .returned (.bool true) ∧ Sg Q w0 w' sb pb bl N (uput U ⟨a, n, 1⟩) L H (A ++ [⟨a, n⟩]) (takeL l (n : Int)) ∧ Fr (fun k => ¬ Q k) w w' := by
  obtain ⟨⟨V, h1, h2, h3, h4⟩, h5, hi, ha, hn⟩ := h
  obtain ⟨g1, g2⟩ := h5.add hN hn hi
  rw [← ha] at g1 g2
  obtain ⟨k1, k2⟩ := h5.no_key g1
  have hb := wf_lt h5.r.wf g1
  have hb2 := h5.r.wf.1
  have hl := h5.len
  exact (st_add h1 a n (wf_i64 (by omega)) hn (usesI_none k2) (usesI_none k1) (by omega) (by omega)).mono fun e w' ⟨r1, r2, r3⟩ => ⟨r1, Sg.next h2 h3 h4 g2 r2 r3⟩
theorem sg_addno (h : Sg Q w0 w sb pb bl N U L H A l) (a n : Int) (ha : (Lit.int .i64 a).wf = true) (hf : fineI U L a n = false) :
    Calls Try.prog 11 #[.pointer (some ⟨sb, 0, none⟩), .agg #[.int .i64 a, .int .i64 n]] w fun e w' => e = .returned (.bool false) ∧ Sg Q w0 w' sb pb bl N U L H A l ∧ Fr Nil w w' := by
  have h' := h
  obtain ⟨V, h1, h2, h3, h4, h5⟩ := h
  exact (st_addno h1 a n ha hf).mono fun e w' ⟨r1, r3⟩ => ⟨r1, h'.nil r3, r3⟩
theorem sg_more (h : Sg Q w0 w sb pb bl N U L H A l) (i : Int) (hi : (Lit.int .i64 i).wf = true) (hN : N ≤ 100000) :
    Calls Try.prog 12 #[.pointer (some ⟨sb, 0, none⟩), .int .i64 i] w fun e w' =>
      e = .returned (.bool (decide (usesI U i ≠ 0))) ∧ Sg Q w0 w' sb pb bl (N + 1) (moreU U i) L H A l ∧ Fr (fun k => ¬ Q k) w w' := by
  have hbl := h.le8
  obtain ⟨V, h1, h2, h3, h4, h5⟩ := h
  have hl := h5.len
  exact (st_more h1 i hi (by omega) fun u hu => by have := (h5.ku u hu).2; omega).mono fun e w' ⟨r1, r2, r3⟩ => ⟨r1, Sg.next h2 h3 h4 (h5.more i) r2 r3⟩
theorem sg_less (h : Sg Q w0 w sb pb bl N U L H A l) (i : Int) (hi : (Lit.int .i64 i).wf = true) (hN : N ≤ 100000) :
    Calls Try.prog 13 #[.pointer (some ⟨sb, 0, none⟩), .int .i64 i] w fun e w' =>
      e = .returned (.bool (decide (usesI U i ≠ 0))) ∧ Sg Q w0 w' sb pb bl N (lessU U i) (lessL U L i) H A l ∧ Fr (fun k => ¬ Q k) w w' := by
  have hbl := h.le8
  obtain ⟨V, h1, h2, h3, h4, h5⟩ := h
  have hl := h5.len
  exact (st_less h1 i hi (by omega) (by omega) fun u hu => by have := (h5.ku u hu).2; omega).mono fun e w' ⟨r1, r2, r3⟩ => ⟨r1, Sg.next h2 h3 h4 (h5.less i) r2 r3⟩
theorem sg_uses (h : Sg Q w0 w sb pb bl N U L H A l) (i : Int) (hi : (Lit.int .i64 i).wf = true) :
    Calls Try.prog 14 #[.pointer (some ⟨sb, 0, none⟩), .int .i64 i] w fun e w' => e = .returned (.int .i64 (usesI U i : Nat)) ∧ w = w' := by
  obtain ⟨V, h1, h2, h3, h4, h5⟩ := h
  exact st_uses h1 i hi
theorem sg_late (h : Sg Q w0 w sb pb bl N U L H A l) :
    Calls Try.prog 16 #[.pointer (some ⟨sb, 0, none⟩)] w fun e w' => ∃ B c, e = .returned (.slice B L.length c) ∧ Row w' (New w) 33 2 (.slice B L.length c) L.length (dbl (lst L)) ∧ Fr Nil w w' := by
  have hbl := h.le8
  obtain ⟨V, h1, h2, h3, h4, h5⟩ := h
  have hl := h5.len
  exact st_late h1 (by omega)
theorem sg_list (h : Sg Q w0 w sb pb bl N U L H A l) :
    Calls Try.prog 17 #[.pointer (some ⟨sb, 0, none⟩)] w fun e w' => ∃ B c, e = .returned (.slice B U.length c) ∧ Row w' (New w) 33 2 (.slice B U.length c) U.length (dbl (lst U)) ∧ Fr Nil w w' := by
  have hbl := h.le8
  obtain ⟨V, h1, h2, h3, h4, h5⟩ := h
  have hl := h5.len
  exact st_list h1 (by omega)
theorem sg_free (h : Sg Q w0 w sb pb bl N U L H A l) : Calls Try.prog 15 #[.pointer (some ⟨pb, 0, none⟩)] w fun e w' => e = .returned (.int .i64 (sumN l : Nat)) ∧ Fr Nil w w' := by
  obtain ⟨V, h1, h2, h3, h4, h5⟩ := h
  exact st_free h1
theorem sg_rlist (h : Sg Q w0 w sb pb bl N U L H A l) : Calls Try.prog 19 #[.pointer (some ⟨pb, 0, none⟩)] w fun e w' => ∃ B c, e = .returned (.slice B l.length c) ∧ Row w' (New w) 33 2 (.slice B l.length c) l.length (dbl l) ∧ Fr Nil w w' := by
  obtain ⟨V, h1, h2, h3, h4, h5⟩ := h
  exact st_rlist h1
theorem sg_settle (h : Sg Q w0 w sb pb bl N U L H A l) :
    Calls Try.prog 18 #[.pointer (some ⟨sb, 0, none⟩)] w fun e w' => e = .returned (.int .i64 (sumN (lst L) : Nat)) ∧ Sg Q w0 w' sb pb bl N U [] U [] (givs bl l (lst L)) ∧ Fr (fun k => ¬ Q k) w w' := by
  have hbl := h.le8
  obtain ⟨V, h1, h2, h3, h4, h5⟩ := h
  have hl := h5.len
  exact (st_settle h1 (by omega) (by omega) fun r hr => by have := h5.runs.2.1 r hr; omega).mono fun e w' ⟨r1, r2, r3⟩ => ⟨r1, Sg.next h2 h3 h4 h5.settle r2 r3⟩
theorem sg_back (h : Sg Q w0 w sb pb bl N U L H A l) :
    Calls Try.prog 20 #[.pointer (some ⟨sb, 0, none⟩)] w fun e w' => e = .returned (.tuple #[]) ∧ Sg Q w0 w' sb pb bl N H [] H [] (givs bl l A) ∧ Fr (fun k => ¬ Q k) w w' := by
  have hbl := h.le8
  obtain ⟨V, h1, h2, h3, h4, h5⟩ := h
  have hl := h5.len
  exact (st_back h1 (by omega) fun r hr => by have := h5.runs.2.2 r hr; omega).mono fun e w' ⟨r1, r2, r3⟩ => ⟨r1, Sg.next h2 h3 h4 h5.back r2 r3⟩
end
set_option maxRecDepth 20000 in
/-- Two equal rows of runs. -/
theorem list_same (S1 S2 : Nat → Prop) (A1 A2 : Option Addr) (n c1 c2 : Nat) (l : List Rn) (w : World) (h1 : View w S1 2 (.slice A1 n c1) n (dbl l)) (h2 : View w S2 2 (.slice A2 n c2) n (dbl l)) (hn : n ≤ 100000) :
    Calls Try.prog 21 #[.slice A1 n c1, .slice A2 n c2] w fun e w' => e = .returned (.bool true) ∧ Fr Nil w w' := by
  have H1 := hid h1
  have H2 := hid h2
  clear h1 h2
  go_enter Try.func21, Try.ntmps21
  go_wp2_with fail
  go_loopw [5] (fun v5 wr => ∃ i : Nat, v5 = .int .i64 i ∧ i ≤ n ∧ Fr Nil w wr) (fun v5 _ => n - (intOf v5).toNat)
  case atStart => exact ⟨0, rfl, by omega, Fr.refl _ _⟩
  case round =>
    obtain ⟨i, rfl, hi, hfw⟩ := hrel
    by_cases hlt : i < n
    · obtain ⟨b1, o1, rfl, -, hb1, p0, p1⟩ := rn_at (H1.out.fr hfw fun _ _ _ h => h) hlt
      obtain ⟨b2, o2, rfl, -, hb2, q0, q1⟩ := rn_at (H2.out.fr hfw fun _ _ _ h => h) hlt
      go_upto_region 6 with (fail)
      go_quiet (fail)
      go_wp2_with fail
      go_roundw
      case rel => exact ⟨i + 1, by go_num, by omega, (hfw).then ((Fr.refl _ _).drewN _)⟩
      case measure => simp [intOf]; omega
    · go_wp2
      go_ret
      exact ⟨rfl, hfw⟩
end Go.Proofs.Ytjieckaeplkafaa

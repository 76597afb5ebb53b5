/- Runs: contracts with an allowed set; the law's awake. -/
import Derived.Test.YtbfhoadhihlhjaaRnPM
set_option linter.unusedSimpArgs false
set_option linter.unusedVariables false
namespace Go.Proofs.Ytbfhoadhihlhjaa
open Go.RowKit
/-- Runs that lie in the set A. -/
def RsA (w : World) (A : Nat → Prop) (pb bl : Nat) (l : List Rn) : Prop := Rs w (fun k => A k ∧ k < w.heap.size) pb bl l ∧ Wf bl l
theorem RsA.mono {w : World} {A A' : Nat → Prop} {pb bl : Nat} {l : List Rn} (h : RsA w A pb bl l) (ha : ∀ k, A k → k < w.heap.size → A' k) : RsA w A' pb bl l :=
  ⟨h.1.mono fun k hk => ⟨ha k hk.1 hk.2, hk.2⟩, h.2⟩
theorem RsA.fr {w w1 : World} {A S1 : Nat → Prop} {pb bl : Nat} {l : List Rn} (h : RsA w A pb bl l) (hf : Fr S1 w w1) (hn : ∀ k, A k → k < w.heap.size → ¬ S1 k) : RsA w1 A pb bl l :=
  ⟨(h.1.fr hf fun k hk _ => hn k hk.1 hk.2).mono fun k hk => ⟨hk.1, Nat.lt_of_lt_of_le hk.2 hf.size⟩, h.2⟩
theorem RsA.nil {w w1 : World} {A : Nat → Prop} {pb bl : Nat} {l : List Rn} (h : RsA w A pb bl l) (hf : Fr Nil w w1) : RsA w1 A pb bl l := h.fr hf fun _ _ _ h => h
theorem RsA.of {w w1 : World} {A T : Nat → Prop} {pb bl : Nat} {l : List Rn} (h : Rs w1 T pb bl l) (hw : Wf bl l) (ha : ∀ k, T k → A k) : RsA w1 A pb bl l :=
  ⟨h.bd.mono fun k hk => ⟨ha k hk.1, hk.2⟩, hw⟩
/-- What an operation may change. -/
def Own (w : World) (A : Nat → Prop) : Nat → Prop := fun k => A k ∧ k < w.heap.size
theorem newL_wf (b : Int) : Wf (newBl b) (newL b) := by
  unfold newBl newL
  split
  · rename_i h
    exact ⟨by omega, ⟨Nat.le_refl _, by dsimp only; omega, trivial⟩, fun r hr => by rw [List.mem_singleton] at hr; subst hr; dsimp only; omega⟩
  · exact ⟨by omega, trivial, fun r hr => by simp at hr⟩
section
variable {w : World} {A : Nat → Prop} {pb bl : Nat} {l : List Rn}
theorem new_a (b : Int) (w : World) : Calls Try.prog 9 #[.int .i64 b] w fun e w' => ∃ pb, e = .returned (.pointer (some ⟨pb, 0, none⟩)) ∧ RsA w' (New w) pb (newBl b) (newL b) ∧ Fr Nil w w' :=
  (new_ok b w).mono fun e w' ⟨pb, h1, h2, h3⟩ => ⟨pb, h1, RsA.of h2 (newL_wf b) (w := w) fun _ h => h, h3⟩
theorem take_a (h : RsA w A pb bl l) (hA : ∀ k, w.heap.size ≤ k → A k) (n : Int) :
    Calls Try.prog 10 #[.pointer (some ⟨pb, 0, none⟩), .int .i64 n] w fun e w' => e = .returned (.tuple #[.int .i64 (takeR l n).1, .bool (takeR l n).2]) ∧ RsA w' A pb bl (takeL l n) ∧ Fr (Own w A) w w' :=
  (take_ok _ pb bl l n w h.1 h.2.lok fun k hk => hk.2).mono fun e w' ⟨h1, h2, h3⟩ => ⟨h1, RsA.of h2 (take_wf h.2 n) (w := w) fun k hk => hk.elim (fun h => h.1) (hA k), h3⟩
theorem mark_wf' (h : Wf bl l) (a n : Int) : Wf bl (markL bl l a n) := by
  cases hr : markR bl l a n with
  | false => unfold markL; rw [if_neg (by rw [hr]; decide)]; exact h
  | true =>
    have hk : knownB bl a n = true := by unfold markR at hr; rw [Bool.and_eq_true] at hr; exact hr.1
    have hk := known_iff.1 hk
    obtain ⟨X, rfl⟩ : ∃ X : Nat, a = X := ⟨a.toNat, by omega⟩
    obtain ⟨N, rfl⟩ : ∃ N : Nat, n = N := ⟨n.toNat, by omega⟩
    exact mark_wf h X N
theorem give_wf' (h : Wf bl l) (a n : Int) : Wf bl (giveL bl l a n) := by
  cases hr : giveR bl l a n with
  | false => unfold giveL; rw [if_neg (by rw [hr]; decide)]; exact h
  | true =>
    have hk : knownB bl a n = true := by unfold giveR at hr; rw [Bool.and_eq_true] at hr; exact hr.1
    have hk := known_iff.1 hk
    obtain ⟨X, rfl⟩ : ∃ X : Nat, a = X := ⟨a.toNat, by omega⟩
    obtain ⟨N, rfl⟩ : ∃ N : Nat, n = N := ⟨n.toNat, by omega⟩
    exact give_wf h X N
theorem mark_a (h : RsA w A pb bl l) (hA : ∀ k, w.heap.size ≤ k → A k) (a n : Int) :
    Calls Try.prog 15 #[.pointer (some ⟨pb, 0, none⟩), .int .i64 a, .int .i64 n] w fun e w' => e = .returned (.bool (markR bl l a n)) ∧ RsA w' A pb bl (markL bl l a n) ∧ Fr (Own w A) w w' :=
  (mark_ok _ pb bl l a n w h.1 h.2.lok fun k hk => hk.2).mono fun e w' ⟨h1, h2, h3⟩ => ⟨h1, RsA.of h2 (mark_wf' h.2 a n) (w := w) fun k hk => hk.elim (fun h => h.1) (hA k), h3⟩
theorem give_a (h : RsA w A pb bl l) (hA : ∀ k, w.heap.size ≤ k → A k) (a n : Int) :
    Calls Try.prog 13 #[.pointer (some ⟨pb, 0, none⟩), .int .i64 a, .int .i64 n] w fun e w' => e = .returned (.bool (giveR bl l a n)) ∧ RsA w' A pb bl (giveL bl l a n) ∧ Fr (Own w A) w w' :=
  (give_ok _ pb bl l a n w h.1 h.2.lok fun k hk => hk.2).mono fun e w' ⟨h1, h2, h3⟩ => ⟨h1, RsA.of h2 (give_wf' h.2 a n) (w := w) fun k hk => hk.elim (fun h => h.1) (hA k), h3⟩
theorem list_a (h : RsA w A pb bl l) : Calls Try.prog 14 #[.pointer (some ⟨pb, 0, none⟩)] w fun e w' => ∃ A c, e = .returned (.slice A l.length c) ∧ Row w' (New w) 30 2 (.slice A l.length c) l.length (dbl l) ∧ Fr Nil w w' :=
  list_ok _ pb bl l w h.1 (Nat.le_trans h.2.lok.2.1 (by decide))
theorem free_a (h : RsA w A pb bl l) : Calls Try.prog 12 #[.pointer (some ⟨pb, 0, none⟩)] w fun e w' => e = .returned (.int .i64 (sumN l : Nat)) ∧ Fr Nil w w' := free_ok _ pb bl l w h.1 h.2.lok
theorem greatest_a (h : RsA w A pb bl l) : Calls Try.prog 16 #[.pointer (some ⟨pb, 0, none⟩)] w fun e w' => e = .returned (.int .i64 (topN l : Nat)) ∧ Fr Nil w w' := greatest_ok _ pb bl l w h.1 h.2.lok
theorem copy_a (h : RsA w A pb bl l) : Calls Try.prog 11 #[.pointer (some ⟨pb, 0, none⟩)] w fun e w' => ∃ qb, e = .returned (.pointer (some ⟨qb, 0, none⟩)) ∧ RsA w' (New w) qb bl l ∧ Fr Nil w w' :=
  (copy_ok _ pb bl l w h.1 (Nat.le_trans h.2.lok.2.1 (by decide))).mono fun e w' ⟨qb, h1, h2, h3⟩ => ⟨qb, h1, RsA.of h2 h.2 (w := w) fun _ h => h, h3⟩
end
/-- From w on: what is new since w. -/
theorem Own.new {w w1 w2 : World} (h : Fr (Own w1 (New w)) w1 w2) (h1 : Fr Nil w w1) : Fr Nil w w2 := h1.trans h (fun k hk => .inr hk.1)
theorem New.up {w w1 : World} (h : Fr Nil w w1) : ∀ k, w1.heap.size ≤ k → New w k := fun k hk => Nat.le_trans h.size hk
theorem awake_ok (w : World) : Calls Try.prog 8 #[] w fun e w' => e = .returned (.bool true) ∧ Fr Nil w w' := by
  go_enter Try.func8, Try.ntmps8
  go_wp2_with fail
  refine (new_a 8 w).mono ?_
  rintro e w1 ⟨pb, rfl, h1, f1⟩
  rw [show newBl 8 = 8 by decide, show newL 8 = [⟨0, 8⟩] by decide] at h1
  have H1 := hid h1; clear h1
  go_wp2_with fail
  refine (take_a H1.out (New.up f1) 3).mono ?_
  rw [show takeR [⟨0, 8⟩] 3 = (0, true) by decide, show takeL [⟨0, 8⟩] 3 = [⟨3, 5⟩] by decide]
  rintro e w2 ⟨rfl, h2, f2⟩
  replace f2 := Own.new f2 f1
  have H2 := hid h2; clear h2 H1 f1
  go_wp2_with fail
  refine (take_a H2.out (New.up f2) 2).mono ?_
  rw [show takeR [⟨3, 5⟩] 2 = (3, true) by decide, show takeL [⟨3, 5⟩] 2 = [⟨5, 3⟩] by decide]
  rintro e w3 ⟨rfl, h3, f3⟩
  replace f3 := Own.new f3 f2
  have H3 := hid h3; clear h3 H2 f2
  go_wp2_with fail
  refine (give_a H3.out (New.up f3) 0 3).mono ?_
  rw [show giveR 8 [⟨5, 3⟩] 0 3 = true by decide, show giveL 8 [⟨5, 3⟩] 0 3 = [⟨0, 3⟩, ⟨5, 3⟩] by decide]
  rintro e w4 ⟨rfl, h4, f4⟩
  replace f4 := Own.new f4 f3
  have H4 := hid h4; clear h4 H3 f3
  go_wp2_with fail
  refine (list_a H4.out).mono ?_
  rintro e w5 ⟨A, c, rfl, h5, f5⟩
  have f6 := f4.then f5
  obtain ⟨b, o, hA, -, hbl, q0, q1⟩ := rn_at h5.view (show 0 < 2 by decide)
  subst hA
  obtain ⟨q2, q3⟩ := rn_at2 h5.view (show 1 < 2 by decide)
  have k0 : w5.cell? ⟨b, o, none⟩ = some (.int .i64 0) := q0
  have k1 : w5.cell? ⟨b, o + 1, none⟩ = some (.int .i64 3) := q1
  have k2 : w5.cell? ⟨b, o + 2, none⟩ = some (.int .i64 5) := q2
  have k3 : w5.cell? ⟨b, o + 2 + 1, none⟩ = some (.int .i64 3) := q3
  have k3' : w5.cell? ⟨b, o + 3, none⟩ = some (.int .i64 3) := q3
  clear q0 q1 q2 q3 h5 H4 f4 f5
  go_wp2
  go_ret
  exact ⟨rfl, f6⟩
/-- Runs that have just the blocks T (all of them are there). -/
structure RsT (w : World) (T : Nat → Prop) (pb bl : Nat) (l : List Rn) : Prop where
  rs : Rs w T pb bl l
  wf : Wf bl l
  lt : ∀ k, T k → k < w.heap.size
theorem RsT.fr {w w1 : World} {T S1 : Nat → Prop} {pb bl : Nat} {l : List Rn} (h : RsT w T pb bl l) (hf : Fr S1 w w1) (hn : ∀ k, T k → ¬ S1 k) : RsT w1 T pb bl l :=
  ⟨h.rs.fr hf fun k hk _ => hn k hk, h.wf, fun k hk => Nat.lt_of_lt_of_le (h.lt k hk) hf.size⟩
theorem RsT.nil {w w1 : World} {T : Nat → Prop} {pb bl : Nat} {l : List Rn} (h : RsT w T pb bl l) (hf : Fr Nil w w1) : RsT w1 T pb bl l := h.fr hf fun _ _ h => h
theorem RsT.of {w w1 : World} {T : Nat → Prop} {pb bl : Nat} {l : List Rn} (h : Rs w1 (fun j => T j ∨ w.heap.size ≤ j) pb bl l) (hw : Wf bl l) : ∃ T', RsT w1 T' pb bl l ∧ ∀ k, T' k → T k ∨ w.heap.size ≤ k :=
  ⟨_, ⟨h.bd, hw, fun k hk => hk.2⟩, fun k hk => hk.1⟩
theorem new_t (b : Int) (w : World) : Calls Try.prog 9 #[.int .i64 b] w fun e w' => ∃ pb T, e = .returned (.pointer (some ⟨pb, 0, none⟩)) ∧ RsT w' T pb (newBl b) (newL b) ∧ (∀ k, T k → w.heap.size ≤ k) ∧ Fr Nil w w' :=
  (new_ok b w).mono fun e w' ⟨pb, h1, h2, h3⟩ => ⟨pb, _, h1, ⟨h2.bd, newL_wf b, fun k hk => hk.2⟩, fun k hk => hk.1, h3⟩
section
variable {w : World} {T : Nat → Prop} {pb bl : Nat} {l : List Rn}
theorem take_t (h : RsT w T pb bl l) (n : Int) : Calls Try.prog 10 #[.pointer (some ⟨pb, 0, none⟩), .int .i64 n] w fun e w' =>
    e = .returned (.tuple #[.int .i64 (takeR l n).1, .bool (takeR l n).2]) ∧ (∃ T', RsT w' T' pb bl (takeL l n) ∧ ∀ k, T' k → T k ∨ w.heap.size ≤ k) ∧ Fr T w w' :=
  (take_ok T pb bl l n w h.rs h.wf.lok h.lt).mono fun e w' ⟨h1, h2, h3⟩ => ⟨h1, RsT.of h2 (take_wf h.wf n), h3⟩
theorem mark_t (h : RsT w T pb bl l) (a n : Int) : Calls Try.prog 15 #[.pointer (some ⟨pb, 0, none⟩), .int .i64 a, .int .i64 n] w fun e w' =>
    e = .returned (.bool (markR bl l a n)) ∧ (∃ T', RsT w' T' pb bl (markL bl l a n) ∧ ∀ k, T' k → T k ∨ w.heap.size ≤ k) ∧ Fr T w w' :=
  (mark_ok T pb bl l a n w h.rs h.wf.lok h.lt).mono fun e w' ⟨h1, h2, h3⟩ => ⟨h1, RsT.of h2 (mark_wf' h.wf a n), h3⟩
theorem give_t (h : RsT w T pb bl l) (a n : Int) : Calls Try.prog 13 #[.pointer (some ⟨pb, 0, none⟩), .int .i64 a, .int .i64 n] w fun e w' =>
    e = .returned (.bool (giveR bl l a n)) ∧ (∃ T', RsT w' T' pb bl (giveL bl l a n) ∧ ∀ k, T' k → T k ∨ w.heap.size ≤ k) ∧ Fr T w w' :=
  (give_ok T pb bl l a n w h.rs h.wf.lok h.lt).mono fun e w' ⟨h1, h2, h3⟩ => ⟨h1, RsT.of h2 (give_wf' h.wf a n), h3⟩
theorem list_t (h : RsT w T pb bl l) : Calls Try.prog 14 #[.pointer (some ⟨pb, 0, none⟩)] w fun e w' => ∃ A c, e = .returned (.slice A l.length c) ∧ Row w' (New w) 30 2 (.slice A l.length c) l.length (dbl l) ∧ Fr Nil w w' :=
  list_ok _ pb bl l w h.rs (Nat.le_trans h.wf.lok.2.1 (by decide))
theorem free_t (h : RsT w T pb bl l) : Calls Try.prog 12 #[.pointer (some ⟨pb, 0, none⟩)] w fun e w' => e = .returned (.int .i64 (sumN l : Nat)) ∧ Fr Nil w w' := free_ok _ pb bl l w h.rs h.wf.lok
theorem greatest_t (h : RsT w T pb bl l) : Calls Try.prog 16 #[.pointer (some ⟨pb, 0, none⟩)] w fun e w' => e = .returned (.int .i64 (topN l : Nat)) ∧ Fr Nil w w' := greatest_ok _ pb bl l w h.rs h.wf.lok
theorem copy_t (h : RsT w T pb bl l) : Calls Try.prog 11 #[.pointer (some ⟨pb, 0, none⟩)] w fun e w' => ∃ qb T', e = .returned (.pointer (some ⟨qb, 0, none⟩)) ∧ RsT w' T' qb bl l ∧ (∀ k, T' k → w.heap.size ≤ k) ∧ Fr Nil w w' :=
  (copy_ok _ pb bl l w h.rs (Nat.le_trans h.wf.lok.2.1 (by decide))).mono fun e w' ⟨qb, h1, h2, h3⟩ => ⟨qb, _, h1, ⟨h2.bd, h.wf, fun k hk => hk.2⟩, fun k hk => hk.1, h3⟩
end
end Go.Proofs.Ytbfhoadhihlhjaa

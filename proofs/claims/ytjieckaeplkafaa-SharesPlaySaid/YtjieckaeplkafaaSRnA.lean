/- Runs: contracts with an allowed set; the law's awake. -/
import Derived.Test.YtjieckaeplkafaaSRnPM
set_option linter.unusedSimpArgs false
set_option linter.unusedVariables false
namespace Go.Proofs.Ytjieckaeplkafaa
open Go.RowKit
/-- Runs that lie in the set A. -/
def RsA (w : World) (A : Nat → Prop) (pb bl : Nat) (l : List Rn) : Prop := Rs w (fun k => A k ∧ k < w.heap.size) pb bl l ∧ Wf bl l
theorem RsA.mono {w : World} {A A' : Nat → Prop} {pb bl : Nat} {l : List Rn} (h : RsA w A pb bl l) (ha : ∀ k, A k → k < w.heap.size → A' k) : RsA w A' pb bl l :=
  ⟨h.1.mono fun k hk => ⟨ha k hk.1 hk.2, hk.2⟩, h.2⟩
theorem RsA.fr {w w1 : World} {A S1 : Nat → Prop} {pb bl : Nat} {l : List Rn} (h : RsA w A pb bl l) (hf : Fr S1 w w1) (hn : ∀ k, A k → k < w.heap.size → ¬ S1 k) : RsA w1 A pb bl l :=
  ⟨(h.1.fr hf fun k hk _ => hn k hk.1 hk.2).mono fun k hk => ⟨hk.1, Nat.lt_of_lt_of_le hk.2 hf.size⟩, h.2⟩
theorem RsA.nil {w w1 : World} {A : Nat → Prop} {pb bl : Nat} {l : List Rn} (h : RsA w A pb bl l) (hf : Fr Nil w w1) : RsA w1 A pb bl l := h.fr hf fun _ _ _ h => h
theorem RsA.of {w w1 : World} {A T : Nat → Prop} {pb bl : Nat} {l : List Rn} (h : Rs w1 T pb bl l) (hw : Wf bl l) (ha : ∀ k, T k → A k) : RsA w1 A pb bl l :=
  ⟨h.bd.mono fun k hk => ⟨ha k hk.1, hk.2⟩, hw⟩
/-- What an operation may change. -/
def Own (w : World) (A : Nat → Prop) : Nat → Prop := fun k => A k ∧ k < w.heap.size
theorem newL_wf (b : Int) : Wf (newBl b) (newL b) := by
  unfold newBl newL
  split
  · rename_i h
    exact ⟨by omega, ⟨Nat.le_refl _, by dsimp only; omega, trivial⟩, fun r hr => by rw [List.mem_singleton] at hr; subst hr; dsimp only; omega⟩
  · exact ⟨by omega, trivial, fun r hr => by simp at hr⟩
section
variable {w : World} {A : Nat → Prop} {pb bl : Nat} {l : List Rn}
theorem new_a (b : Int) (w : World) : Calls Try.prog 8 #[.int .i64 b] w fun e w' => ∃ pb, e = .returned (.pointer (some ⟨pb, 0, none⟩)) ∧ RsA w' (New w) pb (newBl b) (newL b) ∧ Fr Nil w w' :=
  (new_ok b w).mono fun e w' ⟨pb, h1, h2, h3⟩ => ⟨pb, h1, RsA.of h2 (newL_wf b) (w := w) fun _ h => h, h3⟩
theorem take_a (h : RsA w A pb bl l) (hA : ∀ k, w.heap.size ≤ k → A k) (n : Int) :
    Calls Try.prog 10 #[.pointer (some ⟨pb, 0, none⟩), .int .i64 n] w fun e w' => e = .returned (.tuple #[.int .i64 (takeR l n).1, .bool (takeR l n).2]) ∧ RsA w' A pb bl (takeL l n) ∧ Fr (Own w A) w w' :=
  (take_ok _ pb bl l n w h.1 h.2.lok fun k hk => hk.2).mono fun e w' ⟨h1, h2, h3⟩ => ⟨h1, RsA.of h2 (take_wf h.2 n) (w := w) fun k hk => hk.elim (fun h => h.1) (hA k), h3⟩
theorem mark_wf' (h : Wf bl l) (a n : Int) : Wf bl (markL bl l a n) := by
  cases hr : markR bl l a n with
  | false => unfold markL; rw [if_neg (by rw [hr]; decide)]; exact h
  | true =>
    have hk : knownB bl a n = true := by unfold markR at hr; rw [Bool.and_eq_true] at hr; exact hr.1
    have hk := known_iff.1 hk
    obtain ⟨X, rfl⟩ : ∃ X : Nat, a = X := ⟨a.toNat, by omega⟩
    obtain ⟨N, rfl⟩ : ∃ N : Nat, n = N := ⟨n.toNat, by omega⟩
    exact mark_wf h X N
theorem give_wf' (h : Wf bl l) (a n : Int) : Wf bl (giveL bl l a n) := by
  cases hr : giveR bl l a n with
  | false => unfold giveL; rw [if_neg (by rw [hr]; decide)]; exact h
  | true =>
    have hk : knownB bl a n = true := by unfold giveR at hr; rw [Bool.and_eq_true] at hr; exact hr.1
    have hk := known_iff.1 hk
    obtain ⟨X, rfl⟩ : ∃ X : Nat, a = X := ⟨a.toNat, by omega⟩
    obtain ⟨N, rfl⟩ : ∃ N : Nat, n = N := ⟨n.toNat, by omega⟩
    exact give_wf h X N
theorem give_a (h : RsA w A pb bl l) (hA : ∀ k, w.heap.size ≤ k → A k) (a n : Int) :
    Calls Try.prog 36 #[.pointer (some ⟨pb, 0, none⟩), .int .i64 a, .int .i64 n] w fun e w' => e = .returned (.bool (giveR bl l a n)) ∧ RsA w' A pb bl (giveL bl l a n) ∧ Fr (Own w A) w w' :=
  (give_ok _ pb bl l a n w h.1 h.2.lok fun k hk => hk.2).mono fun e w' ⟨h1, h2, h3⟩ => ⟨h1, RsA.of h2 (give_wf' h.2 a n) (w := w) fun k hk => hk.elim (fun h => h.1) (hA k), h3⟩
theorem list_a (h : RsA w A pb bl l) : Calls Try.prog 19 #[.pointer (some ⟨pb, 0, none⟩)] w fun e w' => ∃ A c, e = .returned (.slice A l.length c) ∧ Row w' (New w) 33 2 (.slice A l.length c) l.length (dbl l) ∧ Fr Nil w w' :=
  list_ok _ pb bl l w h.1 (Nat.le_trans h.2.lok.2.1 (by decide))
theorem free_a (h : RsA w A pb bl l) : Calls Try.prog 15 #[.pointer (some ⟨pb, 0, none⟩)] w fun e w' => e = .returned (.int .i64 (sumN l : Nat)) ∧ Fr Nil w w' := free_ok _ pb bl l w h.1 h.2.lok
theorem greatest_a (h : RsA w A pb bl l) : Calls Try.prog 45 #[.pointer (some ⟨pb, 0, none⟩)] w fun e w' => e = .returned (.int .i64 (topN l : Nat)) ∧ Fr Nil w w' := greatest_ok _ pb bl l w h.1 h.2.lok
end
/-- From w on: what is new since w. -/
theorem Own.new {w w1 w2 : World} (h : Fr (Own w1 (New w)) w1 w2) (h1 : Fr Nil w w1) : Fr Nil w w2 := h1.trans h (fun k hk => .inr hk.1)
theorem New.up {w w1 : World} (h : Fr Nil w w1) : ∀ k, w1.heap.size ≤ k → New w k := fun k hk => Nat.le_trans h.size hk
/-- Runs that have just the blocks T (all of them are there). -/
structure RsT (w : World) (T : Nat → Prop) (pb bl : Nat) (l : List Rn) : Prop where
  rs : Rs w T pb bl l
  wf : Wf bl l
  lt : ∀ k, T k → k < w.heap.size
theorem RsT.fr {w w1 : World} {T S1 : Nat → Prop} {pb bl : Nat} {l : List Rn} (h : RsT w T pb bl l) (hf : Fr S1 w w1) (hn : ∀ k, T k → ¬ S1 k) : RsT w1 T pb bl l :=
  ⟨h.rs.fr hf fun k hk _ => hn k hk, h.wf, fun k hk => Nat.lt_of_lt_of_le (h.lt k hk) hf.size⟩
theorem RsT.nil {w w1 : World} {T : Nat → Prop} {pb bl : Nat} {l : List Rn} (h : RsT w T pb bl l) (hf : Fr Nil w w1) : RsT w1 T pb bl l := h.fr hf fun _ _ h => h
theorem RsT.of {w w1 : World} {T : Nat → Prop} {pb bl : Nat} {l : List Rn} (h : Rs w1 (fun j => T j ∨ w.heap.size ≤ j) pb bl l) (hw : Wf bl l) : ∃ T', RsT w1 T' pb bl l ∧ ∀ k, T' k → T k ∨ w.heap.size ≤ k :=
  ⟨_, ⟨h.bd, hw, fun k hk => hk.2⟩, fun k hk => hk.1⟩
theorem new_t (b : Int) (w : World) : Calls Try.prog 8 #[.int .i64 b] w fun e w' => ∃ pb T, e = .returned (.pointer (some ⟨pb, 0, none⟩)) ∧ RsT w' T pb (newBl b) (newL b) ∧ (∀ k, T k → w.heap.size ≤ k) ∧ Fr Nil w w' :=
  (new_ok b w).mono fun e w' ⟨pb, h1, h2, h3⟩ => ⟨pb, _, h1, ⟨h2.bd, newL_wf b, fun k hk => hk.2⟩, fun k hk => hk.1, h3⟩
section
variable {w : World} {T : Nat → Prop} {pb bl : Nat} {l : List Rn}
theorem take_t (h : RsT w T pb bl l) (n : Int) : Calls Try.prog 10 #[.pointer (some ⟨pb, 0, none⟩), .int .i64 n] w fun e w' =>
    e = .returned (.tuple #[.int .i64 (takeR l n).1, .bool (takeR l n).2]) ∧ (∃ T', RsT w' T' pb bl (takeL l n) ∧ ∀ k, T' k → T k ∨ w.heap.size ≤ k) ∧ Fr T w w' :=
  (take_ok T pb bl l n w h.rs h.wf.lok h.lt).mono fun e w' ⟨h1, h2, h3⟩ => ⟨h1, RsT.of h2 (take_wf h.wf n), h3⟩
theorem give_t (h : RsT w T pb bl l) (a n : Int) : Calls Try.prog 36 #[.pointer (some ⟨pb, 0, none⟩), .int .i64 a, .int .i64 n] w fun e w' =>
    e = .returned (.bool (giveR bl l a n)) ∧ (∃ T', RsT w' T' pb bl (giveL bl l a n) ∧ ∀ k, T' k → T k ∨ w.heap.size ≤ k) ∧ Fr T w w' :=
  (give_ok T pb bl l a n w h.rs h.wf.lok h.lt).mono fun e w' ⟨h1, h2, h3⟩ => ⟨h1, RsT.of h2 (give_wf' h.wf a n), h3⟩
theorem list_t (h : RsT w T pb bl l) : Calls Try.prog 19 #[.pointer (some ⟨pb, 0, none⟩)] w fun e w' => ∃ A c, e = .returned (.slice A l.length c) ∧ Row w' (New w) 33 2 (.slice A l.length c) l.length (dbl l) ∧ Fr Nil w w' :=
  list_ok _ pb bl l w h.rs (Nat.le_trans h.wf.lok.2.1 (by decide))
theorem free_t (h : RsT w T pb bl l) : Calls Try.prog 15 #[.pointer (some ⟨pb, 0, none⟩)] w fun e w' => e = .returned (.int .i64 (sumN l : Nat)) ∧ Fr Nil w w' := free_ok _ pb bl l w h.rs h.wf.lok
theorem greatest_t (h : RsT w T pb bl l) : Calls Try.prog 45 #[.pointer (some ⟨pb, 0, none⟩)] w fun e w' => e = .returned (.int .i64 (topN l : Nat)) ∧ Fr Nil w w' := greatest_ok _ pb bl l w h.rs h.wf.lok
end
end Go.Proofs.Ytjieckaeplkafaa

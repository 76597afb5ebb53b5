/- PlatterFails, the plain part: what a round leaves. Conditions: none. -/
import Derived.Test.YtidjmjfoheagmaaPlatF
set_option linter.unusedSimpArgs false
set_option linter.unusedVariables false
namespace Go.Proofs.Ytidjmjfoheagmaa
open Go.RowKit

/-- Ahead of round i: all before it were asked for once each; block i and those behind it are untouched. -/
def QI (q : Pl) (i k wn : Nat) : Prop :=
  (∀ op, op = 1 ∨ op = 2 ∨ op = 3 → q.co op + 1 = i ∧ q.si op + 1 = i) ∧ q.fa = [((k : Int), (wn : Int))] ∧ q.bl.length = 64 ∧ q.okm (4 * i) ∧ (∀ e ∈ q.ca, e.1 < i) ∧ (∀ j, i ≤ j → j < 64 → q.bl.getD j [] = rep 0) ∧ 1 ≤ i ∧ i ≤ 10

theorem lastC_other (ca : List (Nat × List Nat)) (n : Nat) (x : List Nat) (h : ∀ e ∈ ca, e.1 ≠ n) : lastC ca n x = x := by
  unfold lastC
  induction ca generalizing x with
  | nil => rfl
  | cons e ca ih =>
    rw [List.foldl_cons, if_neg (h e (by simp))]
    exact ih x fun e he => h e (List.mem_cons_of_mem _ he)
theorem setB_other (ca : List (Nat × List Nat)) (kept : Nat → Bool) (bl : List (List Nat)) (j : Nat) (h : ∀ e ∈ ca, e.1 ≠ j) (m : Nat) : (setB ca kept bl m).getD j [] = bl.getD j [] := by
  induction m with
  | zero => rfl
  | succ m ih =>
    rw [setB_succ, ← ih]
    unfold stepB
    cases hm : ca[m]? with
    | none => rfl
    | some q =>
      simp only
      split
      · unfold List.getD
        rw [List.getElem?_set, if_neg (h q (List.mem_of_getElem? hm))]
      · rfl

section
variable {q : Pl} {i k wn : Nat}
theorem QI.bad2 (h : QI q i k wn) : q.bad 2 ↔ k = 2 ∧ i = wn := by
  obtain ⟨h1, h2, -⟩ := h
  have := (h1 2 (by omega)).2
  unfold Pl.bad
  rw [h2, this]
  simp only [List.mem_singleton, Prod.mk.injEq]
  omega
theorem QI.bad1 (h : QI q i k wn) (b : Bool) : (wrote b q i (rep i)).bad 1 ↔ k = 1 ∧ i = wn := by
  obtain ⟨h1, h2, -⟩ := h
  have := (h1 1 (by omega)).2
  have e1 : (wrote b q i (rep i)).fa = q.fa := by cases b <;> rfl
  have e2 : (wrote b q i (rep i)).si 1 = q.si 1 := by cases b <;> rfl
  unfold Pl.bad
  rw [e1, e2, h2, this]
  simp only [List.mem_singleton, Prod.mk.injEq]
  omega
theorem QI.bad3 (h : QI q i k wn) (b : Bool) : ((wrote b q i (rep i)).ask 1).bad 3 ↔ k = 3 ∧ i = wn := by
  obtain ⟨h1, h2, -⟩ := h
  have := (h1 3 (by omega)).2
  have e1 : ((wrote b q i (rep i)).ask 1).fa = q.fa := by cases b <;> rfl
  have e2 : ((wrote b q i (rep i)).ask 1).si 3 = q.si 3 := by cases b <;> rfl
  unfold Pl.bad
  rw [e1, e2, h2, this]
  simp only [List.mem_singleton, Prod.mk.injEq]
  omega
theorem QI.okm6 (h : QI q i k wn) (hi : i ≤ 9) (b : Bool) : (wrote b q i (rep i)).okm (4 * i + 2) := by
  obtain ⟨_, _, h3, h4, -⟩ := h
  cases b with
  | true => exact (h4.ask 2).mono (by omega)
  | false => exact (h4.ask 2).put (rep i) (by show i < q.bl.length; omega)
theorem QI.len6 (h : QI q i k wn) (b : Bool) : (wrote b q i (rep i)).bl.length = 64 := by
  obtain ⟨_, _, h3, -⟩ := h
  cases b <;> exact h3
theorem QI.get6 (h : QI q i k wn) (hi : i ≤ 9) (b : Bool) : (wrote b q i (rep i)).get i = if b then rep 0 else rep i := by
  obtain ⟨_, _, h3, _, h5, h6, _⟩ := h
  have h7 := h6 i (Nat.le_refl _) (by omega)
  cases b with
  | true =>
    show lastC q.ca i (q.bl.getD i []) = rep 0
    rw [h7, lastC_other _ _ _ fun e he => Nat.ne_of_lt (h5 e he)]
  | false =>
    show lastC (q.ca ++ [(i, rep i)]) i _ = rep i
    unfold lastC
    rw [List.foldl_append]
    simp
theorem QI.ca6 (b : Bool) : (wrote b q i (rep i)).ca.length = if b then q.ca.length else q.ca.length + 1 := by
  cases b with
  | true => rfl
  | false =>
    show (q.ca ++ [(i, rep i)]).length = _
    simp
theorem QI.next (h : QI q i k wn) (hi : i ≤ 9) (b b3 : Bool) : QI (synced b3 ((wrote b q i (rep i)).ask 1)) (i + 1) k wn := by
  have hk := h.okm6 hi b
  have hl := h.len6 b
  obtain ⟨h1, h2, h3, h4, h5, h6, h7, h8⟩ := h
  have hca : ∀ e ∈ (wrote b q i (rep i)).ca, e.1 < i + 1 := by
    intro e he
    cases b with
    | true => have := h5 e he; omega
    | false =>
      rcases List.mem_append.1 (show e ∈ q.ca ++ [(i, rep i)] from he) with he | he
      · have := h5 e he; omega
      · rw [List.mem_singleton] at he; rw [he]; simp
  have hbl : ∀ j, i ≤ j → j < 64 → (wrote b q i (rep i)).bl.getD j [] = rep 0 := fun j a c => by cases b <;> exact h6 j a c
  refine ⟨fun op hop => ?_, by cases b <;> cases b3 <;> exact h2, ?_, ?_, ?_, fun j hj hj2 => ?_, by omega, by omega⟩
  · have := h1 op hop
    have e1 : (synced b3 ((wrote b q i (rep i)).ask 1)).co op = q.co op + 1 := by
      rcases hop with rfl | rfl | rfl <;> cases b <;> cases b3 <;> rfl
    have e2 : (synced b3 ((wrote b q i (rep i)).ask 1)).si op = q.si op + 1 := by
      rcases hop with rfl | rfl | rfl <;> cases b <;> cases b3 <;> rfl
    omega
  · cases b3 with
    | true => exact hl
    | false => exact (settle_bl _).trans hl
  · cases b3 with
    | true => exact ((hk.ask 1).ask 3).mono (by omega)
    | false => exact (((hk.ask 1).ask 3).settle _).mono (by omega)
  · cases b3 with
    | true => exact hca
    | false => intro e he; cases he
  · cases b3 with
    | true => exact hbl j (by omega) hj2
    | false =>
      refine (setB_other _ _ _ _ (fun e he => ?_) _).trans (hbl j (by omega) hj2)
      have := hca e he; omega
end
theorem QI_start (k wn : Nat) : QI ((fresh 64).fail [((k : Int), (wn : Int))]) 1 k wn := by
  have h := okm_fresh 64 (by omega)
  refine ⟨fun op _ => ⟨rfl, rfl⟩, rfl, by simp [fresh, Pl.fail], ?_, (fun e he => by cases he), fun j hj hj2 => ?_, by omega, by omega⟩
  · exact ⟨fun op => ⟨Nat.zero_le _, Nat.zero_le _⟩, by simp [Pl.fail], h.2.2.1, Nat.zero_le _, fun e he => by cases he⟩
  · rw [rep_eq]
    simp only [Pl.fail, fresh, List.getD, List.getElem?_replicate]
    rw [if_pos (by omega)]
    rfl
end Go.Proofs.Ytidjmjfoheagmaa

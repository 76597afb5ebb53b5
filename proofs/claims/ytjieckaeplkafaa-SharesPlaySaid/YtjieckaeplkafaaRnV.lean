/- Runs of blocks: their abstract shape (no program). -/
import Derived.Test.YtjieckaeplkafaaWide
set_option linter.unusedSimpArgs false
set_option linter.unusedVariables false
namespace Go.Proofs.Ytjieckaeplkafaa
open Go.RowKit

/-- A run: its first block, how many. -/
structure Rn where
  a : Nat
  n : Nat
deriving DecidableEq
def rcells (r : Rn) : List Value := [.int .i64 (r.a : Nat), .int .i64 (r.n : Nat)]
def dbl (l : List Rn) : List Value := l.flatMap rcells
def rn (l : List Rn) (i : Nat) : Rn := l.getD i ⟨0, 0⟩
theorem dbl_length (l : List Rn) : (dbl l).length = l.length * 2 := by
  induction l with
  | nil => rfl
  | cons k l ih => simp [dbl, rcells] at ih ⊢; omega
theorem dbl_append (a b : List Rn) : dbl (a ++ b) = dbl a ++ dbl b := by simp [dbl]
theorem dbl_one (a : Rn) : dbl [a] = rcells a := by simp [dbl]
theorem dbl_cell (l : List Rn) : ∀ u ∈ dbl l, u.oneCell' = true := by
  intro u hu
  obtain ⟨r, _, hr⟩ := List.mem_flatMap.1 hu
  simp [rcells] at hr
  rcases hr with rfl | rfl <;> rfl
theorem rcells_cell (r : Rn) : ∀ u ∈ rcells r, u.oneCell' = true := by
  intro u hu
  simp [rcells] at hu
  rcases hu with rfl | rfl <;> rfl
theorem dbl_take : ∀ (l : List Rn) (i : Nat), (dbl l).take (i * 2) = dbl (l.take i)
  | [], i => by simp [dbl]
  | k :: l, 0 => by simp [dbl]
  | k :: l, i + 1 => by
    have := dbl_take l i
    show (rcells k ++ dbl l).take ((i + 1) * 2) = rcells k ++ dbl (l.take i)
    rw [List.take_append, show (i + 1) * 2 - (rcells k).length = i * 2 by simp [rcells]; omega, this, List.take_of_length_le (by simp [rcells]; omega)]
theorem dbl_drop : ∀ (l : List Rn) (i : Nat), (dbl l).drop (i * 2) = dbl (l.drop i)
  | [], i => by simp [dbl]
  | k :: l, 0 => by simp [dbl]
  | k :: l, i + 1 => by
    have := dbl_drop l i
    show (rcells k ++ dbl l).drop ((i + 1) * 2) = dbl (l.drop i)
    rw [List.drop_append, show (i + 1) * 2 - (rcells k).length = i * 2 by simp [rcells]; omega, this, List.drop_of_length_le (by simp [rcells]; omega), List.nil_append]
theorem rn_eq {l : List Rn} {i : Nat} (h : i < l.length) : rn l i = l[i] := by simp [rn, List.getElem?_eq_getElem h]
theorem dbl_get {l : List Rn} {i : Nat} (h : i < l.length) : (dbl l)[i * 2]? = some (.int .i64 ((rn l i).a : Nat)) ∧ (dbl l)[i * 2 + 1]? = some (.int .i64 ((rn l i).n : Nat)) := by
  have hd := dbl_drop l i
  rw [List.drop_eq_getElem_cons h, ← rn_eq h] at hd
  have h0 : ((dbl l).drop (i * 2))[0]? = some (.int .i64 ((rn l i).a : Nat)) := by rw [hd]; rfl
  have h1 : ((dbl l).drop (i * 2))[1]? = some (.int .i64 ((rn l i).n : Nat)) := by rw [hd]; rfl
  rw [List.getElem?_drop] at h0 h1
  exact ⟨h0, h1⟩
theorem take_snoc {α : Type} [Inhabited α] {l : List α} {i : Nat} (h : i < l.length) : l.take (i + 1) = l.take i ++ [l[i]] := List.take_succ_eq_append_getElem h

/-- An element is read. -/
theorem rn_at {w : World} {S : Nat → Prop} {A : Option Addr} {n c : Nat} {l : List Rn} (h : View w S 2 (.slice A n c) n (dbl l)) {i : Nat} (hi : i < n) :
    ∃ b o, A = some ⟨b, o, none⟩ ∧ S b ∧ b < w.heap.size ∧ w.cell? ⟨b, o + i * 2, none⟩ = some (.int .i64 ((rn l i).a : Nat)) ∧ w.cell? ⟨b, o + i * 2 + 1, none⟩ = some (.int .i64 ((rn l i).n : Nat)) := by
  obtain ⟨hl, A', c', e, _, _, _, _, h5⟩ := h
  injection e with ea _ ec
  subst ea; subst ec
  obtain ⟨b, o, hA, hS, hb, hc⟩ := h5 (by omega)
  obtain ⟨g0, g1⟩ := dbl_get (l := l) (i := i) (by rw [dbl_length] at hl; omega)
  exact ⟨b, o, hA, hS, hb, hc _ _ g0, hc _ _ g1⟩
theorem View.len2 {w : World} {S : Nat → Prop} {v : Value} {n : Nat} {l : List Rn} (h : View w S 2 v n (dbl l)) : l.length = n := by
  have := h.length; rw [dbl_length] at this; omega
/-- Those that have blocks. -/
def nz (r : Rn) : Bool := r.n != 0
def zi (l : List Rn) : Nat := (l.takeWhile nz).length
theorem zi_le (l : List Rn) : zi l ≤ l.length := (List.takeWhile_sublist nz).length_le
theorem zi_unique {l : List Rn} {i : Nat} (hi : i ≤ l.length) (h : ∀ j, j < i → nz (rn l j) = true) (h2 : i < l.length → nz (rn l i) = false) : zi l = i := by
  induction l generalizing i with
  | nil => simp at hi; subst hi; rfl
  | cons r l ih =>
    unfold zi
    cases i with
    | zero =>
      have : nz r = false := h2 (by simp)
      simp [List.takeWhile_cons, this]
    | succ i =>
      have h0 : nz r = true := h 0 (by omega)
      have := ih (i := i) (by simpa using hi) (fun j hj => h (j + 1) (by omega)) (fun hl => h2 (by simpa using hl))
      rw [List.takeWhile_cons, if_pos h0, List.length_cons]
      unfold zi at this
      omega
theorem zi_filter (l : List Rn) : (l.take (zi l)).filter nz = l.take (zi l) ∧ (zi l < l.length → nz (rn l (zi l)) = false) ∧ (∀ j, j < zi l → nz (rn l j) = true) := by
  induction l with
  | nil => exact ⟨rfl, fun h => absurd h (by simp [zi]), fun j hj => absurd hj (by simp [zi])⟩
  | cons r l ih =>
    unfold zi at ih ⊢
    by_cases h : nz r = true
    · rw [List.takeWhile_cons, if_pos h, List.length_cons]
      refine ⟨?_, fun hl => ih.2.1 (by simpa using hl), fun j hj => ?_⟩
      · rw [List.take_succ_cons, List.filter_cons, if_pos h, ih.1]
      · cases j with
        | zero => exact h
        | succ j => exact ih.2.2 j (by omega)
    · rw [List.takeWhile_cons, if_neg h]
      exact ⟨rfl, fun _ => (by show nz r = false; simpa using h), fun j hj => absurd hj (by simp)⟩
end Go.Proofs.Ytjieckaeplkafaa

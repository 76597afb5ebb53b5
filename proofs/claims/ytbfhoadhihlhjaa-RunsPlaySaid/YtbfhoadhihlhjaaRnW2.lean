/- Runs: plain laws for RunsGrow, the third part: two runs of a row change places. -/
import Derived.Test.YtbfhoadhihlhjaaRnW
set_option linter.unusedSimpArgs false
set_option linter.unusedVariables false
namespace Go.Proofs.Ytbfhoadhihlhjaa
open Go.RowKit
theorem dbl_set : ∀ (l : List Rn) (j : Nat) (r : Rn), j < l.length → dbl (l.set j r) = ((dbl l).set (j * 2) (.int .i64 (r.a : Nat))).set (j * 2 + 1) (.int .i64 (r.n : Nat))
  | [], j, r, h => absurd h (by simp)
  | k :: l, 0, r, _ => rfl
  | k :: l, j + 1, r, h => by
    have ih := dbl_set l j r (by simpa using h)
    show rcells k ++ dbl (l.set j r) = _
    rw [ih, show (j + 1) * 2 = j * 2 + 1 + 1 by omega]
    rfl
theorem laid_set {cur : Array Value} {l : List Rn} {N j : Nat} {r : Rn} (hl : l.length = N) (hj : j < N) (h : cur.toList.take (N * 2) = dbl l) :
    ((cur.setIfInBounds (j * 2) (.int .i64 (r.a : Nat))).setIfInBounds (j * 2 + 1) (.int .i64 (r.n : Nat))).toList.take (N * 2) = dbl (l.set j r) := by
  rw [dbl_set l j r (by omega), ← h, Array.toList_setIfInBounds, Array.toList_setIfInBounds, List.take_set, List.take_set]
theorem laid_swp {cur : Array Value} {l : List Rn} {N i k : Nat} (hl : l.length = N) (hi : i < N) (hk : k < N) (h : cur.toList.take (N * 2) = dbl l) :
    ((((cur.setIfInBounds (i * 2) (.int .i64 ((rn l k).a : Nat))).setIfInBounds (i * 2 + 1) (.int .i64 ((rn l k).n : Nat))).setIfInBounds (k * 2) (.int .i64 ((rn l i).a : Nat))).setIfInBounds (k * 2 + 1) (.int .i64 ((rn l i).n : Nat))).toList.take (N * 2) = dbl (swp l i k) :=
  laid_set (by simp; exact hl) hk (laid_set hl hi h)
theorem swp_any {m : List Rn} {i k x : Nat} (hi : i < m.length) (hk : k < m.length) (hik : i ≤ k) : (List.range i).any (fun j => isin (rn (swp m i k) j) x) = (List.range i).any fun j => isin (rn m j) x := by
  apply Bool.eq_iff_iff.2
  rw [List.any_eq_true, List.any_eq_true]
  constructor
  · rintro ⟨j, hj, h⟩
    have hj2 := List.mem_range.1 hj
    rw [rn_swp hi hk, if_neg (by omega), if_neg (by omega)] at h
    exact ⟨j, hj, h⟩
  · rintro ⟨j, hj, h⟩
    have hj2 := List.mem_range.1 hj
    exact ⟨j, hj, by rw [rn_swp hi hk, if_neg (by omega), if_neg (by omega)]; exact h⟩
end Go.Proofs.Ytbfhoadhihlhjaa

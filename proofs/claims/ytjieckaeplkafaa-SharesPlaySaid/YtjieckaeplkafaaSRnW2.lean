/- Runs: plain laws for RunsGrow, the third part: two runs of a row change places. -/
import Derived.Test.YtjieckaeplkafaaSRnA
set_option linter.unusedSimpArgs false
set_option linter.unusedVariables false
namespace Go.Proofs.Ytjieckaeplkafaa
open Go.RowKit
theorem dbl_set : ∀ (l : List Rn) (j : Nat) (r : Rn), j < l.length → dbl (l.set j r) = ((dbl l).set (j * 2) (.int .i64 (r.a : Nat))).set (j * 2 + 1) (.int .i64 (r.n : Nat))
  | [], j, r, h => absurd h (by simp)
  | k :: l, 0, r, _ => rfl
  | k :: l, j + 1, r, h => by
    have ih := dbl_set l j r (by simpa using h)
    show rcells k ++ dbl (l.set j r) = _
    rw [ih, show (j + 1) * 2 = j * 2 + 1 + 1 by omega]
    rfl
theorem laid_set {cur : Array Value} {l : List Rn} {N j : Nat} {r : Rn} (hl : l.length = N) (hj : j < N) (h : cur.toList.take (N * 2) = dbl l) :
    ((cur.setIfInBounds (j * 2) (.int .i64 (r.a : Nat))).setIfInBounds (j * 2 + 1) (.int .i64 (r.n : Nat))).toList.take (N * 2) = dbl (l.set j r) := by
  rw [dbl_set l j r (by omega), ← h, Array.toList_setIfInBounds, Array.toList_setIfInBounds, List.take_set, List.take_set]
end Go.Proofs.Ytjieckaeplkafaa

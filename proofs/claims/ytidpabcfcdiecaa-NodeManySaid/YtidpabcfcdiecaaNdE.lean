/- node.Encode -/
import Derived.Test.YtidpabcfcdiecaaNdI
import Derived.Test.YtidpabcfcdiecaaCellP2
import Derived.Test.YtidpabcfcdiecaaStep
set_option linter.unusedSimpArgs false
set_option linter.unusedVariables false
namespace Go.Proofs.Ytidpabcfcdiecaa
open Go.RowKit

theorem info_int : (Try.prog.info? 3).map (fun i => (i.zero, i.size, i.bytes)) = some (some (.int .i64 0), 1, 8) := by kernel_rfl

/-- The numbers of an entry. -/
def entZ (x : Nd) (i : Nat) : List Int := if x.h = 0 then [(kd x.ps i).a, (kd x.ps i).n, (kd x.ps i).g, kz x.gs i] else [(kd x.ds i).a, (kd x.ds i).n, (kd x.ds i).g]
def ent (x : Nd) (i : Nat) : List Nat := (kz x.ks i).toNat :: (entZ x i).map Int.toNat
/-- The numbers of a node, as far as entry i. -/
def pre (x : Nd) (i : Nat) : List Nat := x.h.toNat :: x.ks.length :: (List.range i).flatMap (ent x)
theorem pre_succ (x : Nd) (i : Nat) : pre x (i + 1) = pre x i ++ ent x i := by
  simp [pre, List.range_succ, List.flatMap_append]
/-- What may stand in a field. -/
def Nm (z : Int) : Prop := 0 ≤ z ∧ z < 268435456
theorem may_key {x : Nd} (h : MayNd x) {i : Nat} (hi : i < x.ks.length) : Nm (kz x.ks i) := by
  have := (h.2.1.2 i hi).1
  exact ⟨this.1, by omega⟩
theorem may_leaf {x : Nd} (h : MayNd x) (h0 : x.h = 0) {i : Nat} (hi : i < x.ks.length) : x.ps.length = x.ks.length ∧ x.gs.length = x.ks.length ∧ ∀ z ∈ [(kd x.ps i).a, (kd x.ps i).n, (kd x.ps i).g, kz x.gs i], Nm z := by
  obtain ⟨a, b, _, c⟩ := h.2.2.1 h0
  obtain ⟨⟨c1, c2, _, c3⟩, c4⟩ := c i hi
  refine ⟨a, b, ?_⟩
  simp only [List.mem_cons, List.not_mem_nil, or_false]
  rintro z (rfl | rfl | rfl | rfl) <;> constructor <;> omega
theorem may_inner {x : Nd} (h : MayNd x) (h0 : x.h ≠ 0) {i : Nat} (hi : i < x.ks.length) : x.ds.length = x.ks.length ∧ ∀ z ∈ [(kd x.ds i).a, (kd x.ds i).n, (kd x.ds i).g], Nm z := by
  obtain ⟨_, a, _, _, c⟩ := h.2.2.2 h0
  obtain ⟨c1, c2, _, c3⟩ := c i hi
  refine ⟨a, ?_⟩
  simp only [List.mem_cons, List.not_mem_nil, or_false]
  rintro z (rfl | rfl | rfl) <;> constructor <;> omega
theorem entZ_nm {x : Nd} (h : MayNd x) {i : Nat} (hi : i < x.ks.length) : ∀ z ∈ entZ x i, Nm z := by
  unfold entZ
  split
  · rename_i h0; exact (may_leaf h h0 hi).2.2
  · rename_i h0; exact (may_inner h h0 hi).2
theorem entZ_len (x : Nd) (i : Nat) : (entZ x i).length ≤ 4 := by unfold entZ; split <;> simp
theorem ent_lt {x : Nd} (h : MayNd x) {i : Nat} (hi : i < x.ks.length) : ∀ n ∈ ent x i, n < 268435456 := by
  unfold ent
  intro n hn
  rcases List.mem_cons.1 hn with rfl | hn
  · have := may_key h hi; unfold Nm at this; omega
  · obtain ⟨z, hz, rfl⟩ := List.mem_map.1 hn
    have := entZ_nm h hi z hz; unfold Nm at this; omega
theorem pre_lt {x : Nd} (h : MayNd x) : ∀ i, i ≤ x.ks.length → ∀ n ∈ pre x i, n < 268435456
  | 0, _ => by
    intro n hn
    simp [pre] at hn
    have h1 := h.1
    have h2 := h.2.1.1
    rcases hn with rfl | rfl <;> omega
  | i + 1, hi => by
    rw [pre_succ]
    intro n hn
    rcases List.mem_append.1 hn with hn | hn
    · exact pre_lt h i (by omega) n hn
    · exact ent_lt h (by omega) n hn
theorem pre_len (x : Nd) : ∀ i, (pre x i).length ≤ 2 + 5 * i
  | 0 => by simp [pre]
  | i + 1 => by
    rw [pre_succ, List.length_append]
    have h1 := pre_len x i
    have h2 := entZ_len x i
    simp [ent]; omega
theorem pre_encs_len {x : Nd} (h : MayNd x) {i : Nat} (hi : i ≤ x.ks.length) : (encs (pre x i)).length ≤ 8 + 20 * i := by
  have h1 := encs_len _ (pre_lt h i hi)
  have h2 := pre_len x i
  omega
/-- A row of whole numbers as cells. -/
theorem ints_cell (l : List Int) : ∀ u ∈ ints .i64 l, u.oneCell' = true := by
  intro u hu
  obtain ⟨_, _, rfl⟩ := List.mem_map.1 hu
  rfl
end Go.Proofs.Ytidpabcfcdiecaa

/- Append of a slice read anywhere, at a step of a region that draws its order. -/
import Derived.Test.YtjieckaeplkafaaBase
import Derived.Deep.AppendLies
set_option linter.unusedSimpArgs false
set_option linter.unusedVariables false
namespace Go.Proofs.Ytjieckaeplkafaa
open Go.RowKit
section
variable {P : Program} {ops : Array Oper} {rest : List Oper} {o : Oper} {a : Act} {K : Act → World → Prop} {Q : Exit → Act → World → Prop} {E : Prop} {e : TypeId} {s n m : Nat} {v y : Value} {xs ys : List Value} {w : World} {S S1 : Nat → Prop}
theorem step_app_view (hgd : o.guard = none) (x z : Operand) (t : TypeId)
    (ho : o.op = .call { callee := .builtin .append, args := #[x, z], argTypes := #[t, t] })
    (zero : Value) (bytes : Nat) (ht : P.underlying t = some (.slice e)) (hi : (P.info? e).map (fun i => (i.zero, i.size, i.bytes)) = some (some zero, s, bytes))
    (hzs : zero.cells.size = s) (hsz : 0 < s) (hrow : Row w S e s v n xs) (hs : a.eval x = v) (hy : View w S1 s y m ys) (hx : a.eval z = y) (h1 : ∀ u ∈ ys, u.oneCell' = true)
    (hbytes : (n + m) * bytes ≤ 140737488355328) (hb0 : 0 < bytes)
    (h : Stop (∀ A cap w', Row w' (fun k => v.ownBlock = some k ∨ w.heap.size ≤ k) e s (.slice A (n + m) cap) (n + m) (xs ++ ys) → Fr (fun k => v.ownBlock = some k) w w' →
      K (a.put o.dst (.slice A (n + m) cap)) w') .mk) : if Region.wanted o (yielded ops a.tmps) = true then Oper.wp P o a w K Q else E := by
  have hw : Region.wanted o (yielded ops a.tmps) = true := by simp [Region.wanted, hgd]
  rw [if_pos hw]
  obtain ⟨i, hi1, hi2, hi3, hi4⟩ := info_parts hi
  have hle : n + m ≤ 140737488355328 := Nat.le_trans (Nat.le_mul_of_pos_right _ hb0) hbytes
  obtain ⟨hl, A, c, rfl, e1, e2, e3, e4, e5⟩ := hy
  cases A with
  | none =>
    obtain rfl := e3 rfl
    obtain rfl : m = 0 := by omega
    have hys : ys = [] := List.eq_nil_of_length_eq_zero (by simpa using hl)
    subst hys
    have hrun := run_append_owned_none (P := P) w 0 t o.type e i s ht hi1 _ n xs hrow.1
    obtain ⟨A, cap, rfl⟩ := hrow.slice
    unfold Oper.wp
    simp [execOp, ho, resolve, invoke, builtin, hs, hx, hrun, Result.andThen]
    refine h A cap w ?_ (Fr.refl _ _)
    rw [List.append_nil]; exact ⟨hrow.1, fun k hk => .inl hk⟩
  | some ad =>
    have hcells : ∀ j u, ys[j]? = some u → w.cell? (ad.add j) = some u := by
      intro j u hu
      have hj := (List.getElem?_eq_some_iff.1 hu).1
      have hm : 0 < m := Nat.pos_of_ne_zero (fun h0 => by rw [h0] at hl; simp at hl; rw [hl] at hj; simp at hj)
      obtain ⟨b, o', ha, _, _, q⟩ := e5 hm
      injection ha with ha
      rw [ha, Addr.add_lit]
      exact q j u hu
    obtain ⟨v', w', hr, hown, hg, _, hat⟩ := run_append_own_at (P := P) w 0 t o.type e i zero s bytes ht hi1 hi2 hi3 hi4 hzs hsz v n xs hrow.1 ad m c ys hl hcells h1 (by unfold maxLen; omega) hbytes (Nat.zero_le _)
    have hr2 : Row w' (fun k => v.ownBlock = some k ∨ w.heap.size ≤ k) e s v' (n + m) (xs ++ ys) := by
      refine ⟨hown, fun k hk => ?_⟩
      rcases hat with hat | hat
      · exact .inl (by rw [← hat]; exact hk)
      · rw [hat] at hk; injection hk with hk; exact .inr (by omega)
    obtain ⟨A, cap, rfl⟩ := hr2.slice
    unfold Oper.wp execOp
    simp only [ho, resolve, invoke, builtin, Sem.run_bind, Sem.run_pure, Result.andThen_ok, List.map_toArray, List.map_cons, List.map_nil, hs, hx, hr]
    exact h A cap w' hr2 (Fr.of_grown hg)
end
end Go.Proofs.Ytjieckaeplkafaa

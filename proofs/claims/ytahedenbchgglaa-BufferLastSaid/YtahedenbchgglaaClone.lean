/- bytes.Clone: a copy of its own. Conditions: the slice can be read. -/
import Derived.Test.YtahedenbchgglaaProg
import Derived.Test.YtahedenbchgglaaBase
set_option linter.unusedSimpArgs false
set_option linter.unusedVariables false
namespace Go.Proofs.Ytahedenbchgglaa
open Go.RowKit

theorem info_u8 : (Try.prog.info? 5).map (fun i => (i.zero, i.size, i.bytes)) = some (some (.int .u8 0), 1, 1) := by kernel_rfl

/-- bytes.Clone: a copy of its own; nil stays nil. -/
theorem clone_ok (S : Nat → Prop) (v : Value) (n : Nat) (xs : List Nat) (hn : n < 1000000000) (w : World) (hv : View w S 1 v n (bys xs)) :
    Calls Try.prog 16 #[v] w fun e w' => ∃ A c, e = .returned (.slice A n c) ∧ Row w' (New w) 5 1 (.slice A n c) n (bys xs) ∧ Fr Nil w w' ∧ (A = none ↔ v = .slice none 0 0) := by
  have hv0 := hv
  obtain ⟨hl, A, c, rfl, e1, e2, e3, e4, e5⟩ := hv
  cases A with
  | none =>
    obtain rfl := e3 rfl
    obtain rfl : n = 0 := by omega
    have hx : bys xs = [] := List.eq_nil_of_length_eq_zero (by simpa using hl)
    go_enter Try.func16, Try.ntmps16
    go_wp2
    go_ret
    exact ⟨none, 0, rfl, Row.nil _ _ _ _, Fr.refl _ _, by simp⟩
  | some ad =>
    go_enter Try.func16, Try.ntmps16
    go_wp2_with (at_builtin; refine wp_app_view rfl _ _ 25 rfl (.int .u8 0) 1 Try.underlying25 info_u8 rfl (by decide) (Row.made w #[] 5 1 0 0 rfl (Nat.le_refl _) (by decide)) rfl (hv0.alloc _) rfl (bys_cell _) (by omega) (by decide) ?_)
    intro A cap w' r1 r2 r3
    have r4 : Row w' (New w) 5 1 (.slice A (0 + n) cap) (0 + n) (bys xs) := by
      refine Row.mono (by simpa using r1) fun k hk => ?_
      rcases hk with hk | hk
      · simp [Value.ownBlock] at hk
        unfold New; omega
      · unfold New; omega
    have r5 : Fr Nil w w' := ((Fr.refl Nil w).alloc _).trans r2 (fun k hk => by simp [Value.ownBlock] at hk; exact .inr (by omega))
    have r6 : A = none ↔ Value.slice (some ad) n c = .slice none 0 0 := by
      constructor
      · intro hA; exact absurd (r3.1 hA).1 (by simp)
      · intro hA; simp at hA
    clear r1 r2 r3
    rw [Nat.zero_add] at r4 ⊢
    have R6 := hid r6; clear r6
    go_wp2
    go_ret
    exact ⟨A, cap, rfl, r4, r5, R6.out⟩
end Go.Proofs.Ytahedenbchgglaa

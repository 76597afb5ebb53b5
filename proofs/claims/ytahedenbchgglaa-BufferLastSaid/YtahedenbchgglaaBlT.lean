/- List of a Buffer in which nothing waits; what the law reads of a number. -/
import Derived.Test.YtahedenbchgglaaBlS
set_option linter.unusedSimpArgs false
set_option linter.unusedVariables false
namespace Go.Proofs.Ytahedenbchgglaa
open Go.RowKit
theorem list_none (S : Nat → Prop) (pb mb most : Nat) (w : World) (h : IsB w S pb mb most []) :
    Calls Try.prog 14 #[.pointer (some ⟨pb, 0, none⟩)] w fun e w' => e = .returned (.slice none 0 0) ∧ Fr Nil w w' := by
  have hc : w.cell? ⟨pb, 1, none⟩ = some (.map (some mb)) := h.2.2.1.cell 1
  have H := hid h
  clear h
  go_enter Try.func14, Try.ntmps14
  go_wp2_with fail
  refine (made_ok S pb mb most [] w H.out).mono ?_
  rintro e w1 ⟨rfl, rfl⟩
  go_wp2_with fail
  refine (keys_ok (some mb) w).mono ?_
  rintro e w2 ⟨rfl, rfl⟩
  go_wp2_with fail
  refine (sorted_none mb w H.out.2.2.2.1).mono ?_
  rintro e w3 ⟨rfl, f3⟩
  have F3 := hid f3
  clear f3 hc
  go_wp2_with fail
  go_loopw [3, 16] (fun v3 v16 wr => v3 = .slice none 0 0 ∧ v16 = .int .i64 0 ∧ wr = w3) (fun _ _ _ => 0)
  case atStart => exact ⟨rfl, rfl, rfl⟩
  case round =>
    obtain ⟨rfl, rfl, rfl⟩ := hrel
    go_wp2
    go_ret
    exact ⟨rfl, F3.out⟩
theorem and31 (z : Nat) (h : z < 65536) : bits .and .u16 (z : Int) 31 = ((z % 32 : Nat) : Int) := by
  have h1 := u16_and_nat z 31 h (by omega)
  rw [show z &&& 31 = z % 32 from Nat.and_two_pow_sub_one_eq_mod z 5] at h1
  exact h1
theorem and1s (z : Nat) (h : z < 65536) : bits .and .u16 ((z : Int) / 2 ^ 5) 1 = ((z / 32 % 2 : Nat) : Int) := by
  have e : ((z : Int) / 2 ^ 5) = ((z / 32 : Nat) : Int) := by simp
  have h1 := u16_and_nat (z / 32) 1 (by omega) (by omega)
  rw [Nat.and_one_is_mod] at h1
  rw [e]
  exact h1
end Go.Proofs.Ytahedenbchgglaa

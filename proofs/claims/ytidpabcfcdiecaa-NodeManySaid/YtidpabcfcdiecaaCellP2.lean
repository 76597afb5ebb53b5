/- Plain words on numbers that are written and read back (no program). -/
import Derived.Test.YtidpabcfcdiecaaCellP
set_option linter.unusedSimpArgs false
set_option linter.unusedVariables false
namespace Go.Proofs.Ytidpabcfcdiecaa

theorem enc_byt (x : Nat) : Byt (enc x) := by
  induction x using Nat.strongRecOn with
  | ind x ih =>
    by_cases h : x < 128
    · rw [enc_lo h]; intro c hc; simp at hc; omega
    · rw [enc_hi h]
      intro c hc
      rcases List.mem_cons.1 hc with rfl | hc
      · omega
      · exact ih (x / 128) (by omega) c hc
/-- Written numbers are read. -/
theorem numF_enc : ∀ (f i x y : Nat) (rest : List Nat), (enc y).length ≤ f → (0 < y ∨ i = 0) → numF f i x (enc y ++ rest) = .ok (x + y * 128 ^ i) rest
  | 0, i, x, y, rest, hf, hy => by
    by_cases h : y < 128
    · rw [enc_lo h] at hf; simp at hf
    · rw [enc_hi h] at hf; simp at hf
  | f + 1, i, x, y, rest, hf, hy => by
    by_cases h : y < 128
    · rw [enc_lo h]
      simp only [List.singleton_append, numF]
      rw [if_pos h, if_neg (by omega), Nat.mod_eq_of_lt h]
    · rw [enc_hi h] at hf ⊢
      simp only [List.cons_append, numF]
      rw [if_neg (by omega), numF_enc f (i + 1) _ (y / 128) rest (by simpa using hf) (by omega), Nat.add_assoc]
      congr 2
      rw [Nat.pow_succ, show (y % 128 + 128) % 128 = y % 128 by omega, ← Nat.mul_assoc, Nat.mul_comm (y / 128 * 128 ^ i), ← Nat.mul_assoc, Nat.mul_comm 128, ← Nat.add_mul]
      congr 1; omega
theorem num_enc (y : Nat) (h : y < 268435456) (rest : List Nat) : num (enc y ++ rest) = .ok y rest := by
  have := numF_enc 4 0 0 y rest (enc_len y h).1 (.inr rfl)
  simpa [num] using this
theorem byt_enc (most : Int) (l : List Nat) (h : (l.length : Int) ≤ most) (h2 : l.length < 268435456) (rest : List Nat) : byt most (enc l.length ++ (l ++ rest)) = .ok l rest := by
  unfold byt
  rw [num_enc l.length h2]
  simp only
  rw [if_neg (by omega), if_neg (by rw [List.length_append]; omega)]
  simp
/-- Many numbers. -/
def encs (ns : List Nat) : List Nat := ns.flatMap enc
theorem encs_nil : encs [] = [] := rfl
theorem encs_cons (n : Nat) (ns : List Nat) : encs (n :: ns) = enc n ++ encs ns := rfl
theorem encs_snoc (ns : List Nat) (n : Nat) : encs (ns ++ [n]) = encs ns ++ enc n := by simp [encs]
theorem encs_byt (ns : List Nat) : Byt (encs ns) := by
  intro c hc
  obtain ⟨n, _, h⟩ := List.mem_flatMap.1 hc
  exact enc_byt n c h
theorem encs_len (ns : List Nat) (h : ∀ n ∈ ns, n < 268435456) : (encs ns).length ≤ 4 * ns.length := by
  induction ns with
  | nil => simp [encs]
  | cons n ns ih =>
    rw [encs_cons, List.length_append, List.length_cons]
    have := (enc_len n (h n (by simp))).1
    have := ih (fun m hm => h m (List.mem_cons_of_mem _ hm))
    omega
/-- How many groups stand behind the first. -/
def more (k : Nat) : Nat := if k = 0 then 0 else (enc k).length
theorem more_zero : more 0 = 0 := rfl
theorem enc_more (x : Nat) : (enc x).length = 1 + more (x / 128) := by
  by_cases h : x < 128
  · rw [enc_lo h, show x / 128 = 0 by omega]; rfl
  · rw [enc_hi h, more, if_neg (by omega), List.length_cons]; omega
theorem more_step {k : Nat} (h : 0 < k) : more k = 1 + more (k / 128) := by
  rw [more, if_neg (by omega), enc_more]
/-- A number of 28 bits out of 32. -/
theorem and28 (z : Int) (h0 : 0 ≤ z) (h1 : z < 4294967296) : bits .and .u32 z 268435455 = z % 268435456 :=
  bits_mask .u32 32 (by decide) (fun n h1 h2 => by rw [IntKind.wrap_u32]; omega) 28 (by decide) z h0 (by omega)
open Go.RowKit
/-- 28 bits of a number. -/
def val (z : Int) : Nat := (z % 268435456).toNat
theorem val_lt (z : Int) : val z < 268435456 := by unfold val; omega
theorem val_eq (z : Int) (h0 : 0 ≤ z) (h1 : z < 4294967296) : wrap64 (bits .and .u32 z 268435455) = ((val z : Nat) : Int) := by
  rw [and28 z h0 h1]; unfold val wrap64; omega
end Go.Proofs.Ytidpabcfcdiecaa

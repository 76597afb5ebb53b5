/- Plain words on parts that are written and read back (no program). -/
import Derived.Test.YtidpabcfcdiecaaCellP2
set_option linter.unusedSimpArgs false
set_option linter.unusedVariables false
namespace Go.Proofs.Ytidpabcfcdiecaa
open Go.RowKit

/-- A part: what it is, its number, its bytes. -/
structure Prt where
  d : Int
  n : Int
  b : List Nat
deriving Inhabited

/-- 28 bits of an int. -/
theorem i64_and28 (n : Int) : bits .and .i64 n 268435455 = n % 268435456 := by
  have h28 : (BitVec.ofInt 64 268435455).toNat = 2 ^ 28 - 1 := by decide
  have key : (BitVec.ofInt 64 n &&& BitVec.ofInt 64 268435455).toNat = (n % ((2 ^ 64 : Nat) : Int)).toNat % 2 ^ 28 := by
    rw [BitVec.toNat_and, BitVec.toNat_ofInt, h28, Nat.and_two_pow_sub_one_eq_mod]
  show IntKind.i64.wrap ((BitVec.ofInt 64 n &&& BitVec.ofInt 64 268435455).toNat : Nat) = n % 268435456
  rw [key, IntKind.wrap_i64]
  omega
theorem val_i64 (n : Int) : bits .and .i64 n 268435455 = ((val n : Nat) : Int) := by rw [i64_and28]; unfold val; omega

/-- A part's bytes. -/
def encP (p : Prt) : List Nat := if p.d = 2 then enc p.b.length ++ p.b else enc (val p.n)
def encsP (ps : List Prt) : List Nat := ps.flatMap encP
theorem encsP_nil : encsP [] = [] := rfl
theorem encsP_cons (p : Prt) (ps : List Prt) : encsP (p :: ps) = encP p ++ encsP ps := rfl
theorem encsP_snoc (ps : List Prt) (p : Prt) : encsP (ps ++ [p]) = encsP ps ++ encP p := by simp [encsP]
theorem encP_byt (p : Prt) (h : Byt p.b) : Byt (encP p) := by
  unfold encP; split
  · exact (enc_byt _).append h
  · exact enc_byt _
theorem encsP_byt (ps : List Prt) (h : ∀ p ∈ ps, Byt p.b) : Byt (encsP ps) := by
  intro c hc
  obtain ⟨p, hp, hm⟩ := List.mem_flatMap.1 hc
  exact encP_byt p (h p hp) c hm
theorem encP_len (p : Prt) (h : p.b.length ≤ 500) : (encP p).length ≤ 504 ∧ 0 < (encP p).length := by
  unfold encP; split
  · have := enc_len p.b.length (by omega); rw [List.length_append]; omega
  · have := enc_len (val p.n) (val_lt _); omega
theorem encsP_len (ps : List Prt) (h : ∀ p ∈ ps, p.b.length ≤ 500) : (encsP ps).length ≤ 504 * ps.length := by
  induction ps with
  | nil => simp [encsP]
  | cons p ps ih =>
    rw [encsP_cons, List.length_append, List.length_cons]
    have := (encP_len p (h p (by simp))).1
    have := ih (fun m hm => h m (List.mem_cons_of_mem _ hm))
    omega

/-- How a reading of parts goes: each is read as it was written, or the bytes end. -/
inductive Rd : List Prt → List Nat → Got Unit → Prop where
  | nil (bs : List Nat) : Rd [] bs (.ok () bs)
  | num (p : Prt) (ps : List Prt) (bs t : List Nat) (out : Got Unit) : p.d ≠ 2 → num bs = .ok (val p.n) t → Rd ps t out → Rd (p :: ps) bs out
  | byt (p : Prt) (ps : List Prt) (bs t : List Nat) (out : Got Unit) : p.d = 2 → byt 500 bs = .ok p.b t → Rd ps t out → Rd (p :: ps) bs out
  | numBad (p : Prt) (ps : List Prt) (bs : List Nat) (e : Int) : p.d ≠ 2 → num bs = .bad e → Rd (p :: ps) bs (.bad e)
  | bytBad (p : Prt) (ps : List Prt) (bs : List Nat) (e : Int) : p.d = 2 → byt 500 bs = .bad e → Rd (p :: ps) bs (.bad e)

/-- All of it. -/
theorem Rd.all (ps : List Prt) (h : ∀ p ∈ ps, p.b.length ≤ 500) (rest : List Nat) : Rd ps (encsP ps ++ rest) (.ok () rest) := by
  induction ps with
  | nil => exact .nil rest
  | cons p ps ih =>
    have h1 := ih (fun m hm => h m (List.mem_cons_of_mem _ hm))
    have hp := h p (by simp)
    rw [encsP_cons, List.append_assoc]
    unfold encP
    by_cases h2 : p.d = 2
    · rw [if_pos h2, List.append_assoc]
      exact .byt p ps _ _ _ h2 (byt_enc 500 p.b (by omega) (by omega) _) h1
    · rw [if_neg h2]
      exact .num p ps _ _ _ h2 (num_enc _ (val_lt _) _) h1

theorem numF_short : ∀ (f i x y k : Nat), (enc y).length ≤ f → k < (enc y).length → numF f i x ((enc y).take k) = .bad 2
  | 0, i, x, y, k, hf, hk => by omega
  | f + 1, i, x, y, 0, hf, hk => by simp [numF]
  | f + 1, i, x, y, k + 1, hf, hk => by
    by_cases h : y < 128
    · rw [enc_lo h] at hk; simp at hk
    · rw [enc_hi h] at hf hk ⊢
      simp only [List.take_succ_cons, numF]
      rw [if_neg (by omega)]
      exact numF_short f (i + 1) _ (y / 128) k (by simpa using hf) (by simpa using hk)
theorem num_short (y k : Nat) (h : y < 268435456) (hk : k < (enc y).length) : num ((enc y).take k) = .bad 2 := numF_short 4 0 0 y k (enc_len y h).1 hk
theorem byt_short (most : Int) (l : List Nat) (k : Nat) (h : (l.length : Int) ≤ most) (h2 : l.length < 268435456) (hk : k < (enc l.length ++ l).length) : byt most ((enc l.length ++ l).take k) = .bad 2 := by
  unfold byt
  by_cases h1 : k < (enc l.length).length
  · rw [List.take_append_of_le_length (by omega), num_short _ _ h2 h1]
  · rw [List.length_append] at hk
    rw [List.take_append, List.take_of_length_le (by omega), num_enc _ h2]
    simp only
    rw [if_neg (by omega), if_pos (by rw [List.length_take]; omega)]
/-- Cut anywhere. -/
theorem Rd.cut (ps : List Prt) (h : ∀ p ∈ ps, p.b.length ≤ 500) (k : Nat) (hk : k < (encsP ps).length) : Rd ps ((encsP ps).take k) (.bad 2) := by
  induction ps generalizing k with
  | nil => simp [encsP] at hk
  | cons p ps ih =>
    have hp := h p (by simp)
    rw [encsP_cons] at hk ⊢
    by_cases h1 : k < (encP p).length
    · rw [List.take_append_of_le_length (by omega)]
      unfold encP at h1 ⊢
      by_cases h2 : p.d = 2
      · rw [if_pos h2] at h1 ⊢
        exact .bytBad p ps _ _ h2 (byt_short 500 p.b k (by omega) (by omega) h1)
      · rw [if_neg h2] at h1 ⊢
        exact .numBad p ps _ _ h2 (num_short _ k (val_lt _) h1)
    · rw [List.length_append] at hk
      rw [List.take_append, List.take_of_length_le (by omega)]
      have h3 := ih (fun m hm => h m (List.mem_cons_of_mem _ hm)) (k - (encP p).length) (by omega)
      unfold encP
      by_cases h2 : p.d = 2
      · simp only [if_pos h2]
        rw [List.append_assoc]
        unfold encP at h3
        simp only [if_pos h2] at h3
        exact .byt p ps _ _ _ h2 (byt_enc 500 p.b (by omega) (by omega) _) h3
      · simp only [if_neg h2]
        unfold encP at h3
        simp only [if_neg h2] at h3
        exact .num p ps _ _ _ h2 (num_enc _ (val_lt _) _) h3
end Go.Proofs.Ytidpabcfcdiecaa

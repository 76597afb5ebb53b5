/- Plain words on the encoding of numbers in groups of seven bits (no program). -/
import Derived.Test.YtidpabcfcdiecaaBase
set_option linter.unusedSimpArgs false
set_option linter.unusedVariables false
namespace Go.Proofs.Ytidpabcfcdiecaa

/-- The groups of a number, the lowest first. -/
def enc (x : Nat) : List Nat := if x < 128 then [x] else (x % 128 + 128) :: enc (x / 128)
termination_by x

theorem enc_lo {x : Nat} (h : x < 128) : enc x = [x] := by rw [enc, if_pos h]
theorem enc_hi {x : Nat} (h : ¬ x < 128) : enc x = (x % 128 + 128) :: enc (x / 128) := by rw [enc, if_neg h]
theorem enc_step (xs : List Nat) {x : Nat} (h : ¬ x < 128) : (xs ++ [x % 128 + 128]) ++ enc (x / 128) = xs ++ enc x := by rw [enc_hi h, List.append_assoc, List.singleton_append]
theorem enc_len (x : Nat) (h : x < 268435456) : (enc x).length ≤ 4 ∧ 0 < (enc x).length := by
  by_cases h1 : x < 128
  · rw [enc_lo h1]; simp
  rw [enc_hi h1]
  by_cases h2 : x / 128 < 128
  · rw [enc_lo h2]; simp
  rw [enc_hi h2]
  by_cases h3 : x / 128 / 128 < 128
  · rw [enc_lo h3]; simp
  rw [enc_hi h3, enc_lo (by omega)]; simp
theorem or128_nat : ∀ a, a < 256 → a ||| 128 = a % 128 + 128 := by decide +kernel
theorem or128 (x : Nat) : bits .or .u8 ((x : Int) % 256) 128 = ((x % 128 + 128 : Nat) : Int) := by
  have h := u8_or ((x : Int) % 256) 128 (by omega) (by omega) (by omega) (by omega)
  rw [h, show ((x : Int) % 256).toNat = x % 256 by omega, show (128 : Int).toNat = 128 from rfl, or128_nat _ (by omega)]
  omega

/-! ### reading -/
/-- What a reading comes to: a value and what is left, or an error. -/
inductive Got (α : Type) where
  | ok (x : α) (rest : List Nat)
  | bad (e : Int)
deriving DecidableEq

/-- The groups from the i-th on, x being what the first ones say. -/
def numF : Nat → Nat → Nat → List Nat → Got Nat
  | 0, _, _, _ => .bad 4
  | _ + 1, _, _, [] => .bad 2
  | f + 1, i, x, c :: t =>
    if c < 128 then (if c = 0 ∧ 0 < i then .bad 4 else .ok (x + c % 128 * 128 ^ i) t)
    else numF f (i + 1) (x + c % 128 * 128 ^ i) t
/-- A number read. -/
def num (bs : List Nat) : Got Nat := numF 4 0 0 bs
/-- Bytes read, at most 'most'. -/
def byt (most : Int) (bs : List Nat) : Got (List Nat) :=
  match num bs with
  | .bad e => .bad e
  | .ok n t => if most < n then .bad 3 else if t.length < n then .bad 2 else .ok (t.take n) (t.drop n)
theorem or_shift (x c i : Nat) (hx : x < 128 ^ i) : x ||| (c <<< (7 * i)) = x + c * 128 ^ i := by
  have h : (128 : Nat) ^ i = 2 ^ (7 * i) := by rw [Nat.pow_mul]
  rw [h] at hx ⊢
  rw [Nat.or_comm, ← Nat.shiftLeft_add_eq_or_of_lt hx, Nat.shiftLeft_eq, Nat.add_comm]
theorem and127_nat : ∀ a, a < 256 → a &&& 127 = a % 128 := by decide +kernel
theorem i64_or_nat (a b : Nat) (ha : a < 1099511627776) (hb : b < 1099511627776) : bits .or .i64 (a : Int) (b : Int) = ((a ||| b : Nat) : Int) :=
  (bits_nat .i64 40 (by decide) (fun n h1 h2 => by rw [IntKind.wrap_i64]; omega) a b (by omega) (by omega)).2
theorem i64_and_nat (a b : Nat) (ha : a < 1099511627776) (hb : b < 1099511627776) : bits .and .i64 (a : Int) (b : Int) = ((a &&& b : Nat) : Int) :=
  (bits_nat .i64 40 (by decide) (fun n h1 h2 => by rw [IntKind.wrap_i64]; omega) a b (by omega) (by omega)).1
open Go.RowKit in
theorem or_wrap (x q : Nat) (hx : x < 2097152) (h6 : q ≤ 127 * 2097152) (h8 : x ||| q = x + q) : bits .or .i64 (x : Int) (wrap64 (q : Int)) = ((x + q : Nat) : Int) := by
  have h7 : wrap64 (q : Int) = (q : Int) := by unfold wrap64; omega
  rw [h7, i64_or_nat x q (by omega) (by omega), h8]
open Go.RowKit in
theorem grp (x c i : Nat) (hx : x < 128 ^ i) (hc : c < 256) (hi : i < 4) : bits .or .i64 (x : Int) (wrap64 (wrap64 (bits .and .u8 (c : Int) 127) * 2 ^ (7 * i))) = ((x + c % 128 * 128 ^ i : Nat) : Int) := by
  have h1 : bits .and .u8 (c : Int) 127 = ((c % 128 : Nat) : Int) := by
    rw [u8_and (c : Int) 127 (by omega) (by omega) (by omega) (by omega), show (c : Int).toNat = c by omega, show (127 : Int).toNat = 127 from rfl, and127_nat _ hc]
  have h2 : wrap64 ((c % 128 : Nat) : Int) = ((c % 128 : Nat) : Int) := by unfold wrap64; omega
  have h4 : (128 : Nat) ^ i = 2 ^ (7 * i) := by rw [Nat.pow_mul]
  have h5 : (128 : Nat) ^ i ≤ 2097152 := by
    have : i = 0 ∨ i = 1 ∨ i = 2 ∨ i = 3 := by omega
    rcases this with rfl | rfl | rfl | rfl <;> decide
  have h6 : c % 128 * 128 ^ i ≤ 127 * 2097152 := Nat.mul_le_mul (by omega) h5
  have h3 : ((c % 128 : Nat) : Int) * 2 ^ (7 * i) = ((c % 128 * 128 ^ i : Nat) : Int) := by rw [h4]; simp
  have h8 := or_shift x (c % 128) i hx
  rw [Nat.shiftLeft_eq, ← h4] at h8
  rw [h1, h2, h3]
  have hx2 : x < 2097152 := Nat.lt_of_lt_of_le hx h5
  exact or_wrap x _ hx2 h6 h8
theorem numF_lt (x c i : Nat) (hx : x < 128 ^ i) : x + c % 128 * 128 ^ i < 128 ^ (i + 1) := by
  have : c % 128 ≤ 127 := by omega
  have h := Nat.mul_le_mul_right (128 ^ i) this
  rw [Nat.pow_succ]; omega

theorem numF_rest : ∀ (f i x : Nat) (bs : List Nat) (y : Nat) (t : List Nat), numF f i x bs = .ok y t → ∃ pre, bs = pre ++ t ∧ 0 < pre.length ∧ pre.length ≤ f
  | 0, i, x, bs, y, t, h => by simp [numF] at h
  | f + 1, i, x, [], y, t, h => by simp [numF] at h
  | f + 1, i, x, c :: l, y, t, h => by
    rw [numF] at h
    by_cases h1 : c < 128
    · rw [if_pos h1] at h
      by_cases h2 : c = 0 ∧ 0 < i
      · rw [if_pos h2] at h; cases h
      · rw [if_neg h2] at h
        injection h with _ h
        exact ⟨[c], by rw [h]; rfl, by simp, by simp⟩
    · rw [if_neg h1] at h
      obtain ⟨pre, e, hp, hq⟩ := numF_rest f (i + 1) _ l y t h
      exact ⟨c :: pre, by rw [e]; rfl, by simp, by simp; omega⟩
theorem num_rest {bs : List Nat} {y : Nat} {t : List Nat} (h : num bs = .ok y t) : ∃ pre, bs = pre ++ t ∧ 0 < pre.length ∧ pre.length ≤ 4 := numF_rest 4 0 0 bs y t h
theorem num_le {bs : List Nat} {y : Nat} {t : List Nat} (h : num bs = .ok y t) : t.length < bs.length := by
  obtain ⟨pre, rfl, hp, _⟩ := num_rest h
  rw [List.length_append]; omega
theorem num_byt {bs : List Nat} {y : Nat} {t : List Nat} (h : num bs = .ok y t) (hb : Byt bs) : Byt t := by
  obtain ⟨pre, rfl, hp, _⟩ := num_rest h
  exact fun c hc => hb c (List.mem_append_right _ hc)
theorem byt_ok {most : Int} {bs l t : List Nat} (h : byt most bs = .ok l t) : ∃ n r, num bs = .ok n r ∧ (n : Int) ≤ most ∧ n ≤ r.length ∧ l = r.take n ∧ t = r.drop n := by
  unfold byt at h
  cases hn : num bs with
  | bad e => rw [hn] at h; cases h
  | ok n r =>
    rw [hn] at h
    by_cases h1 : most < n
    · simp only [if_pos h1] at h; cases h
    · simp only [if_neg h1] at h
      by_cases h2 : r.length < n
      · simp only [if_pos h2] at h; cases h
      · simp only [if_neg h2] at h
        injection h with ha hb
        exact ⟨n, r, rfl, by omega, by omega, ha.symm, hb.symm⟩
theorem byt_le {most : Int} {bs l t : List Nat} (h : byt most bs = .ok l t) : t.length < bs.length := by
  obtain ⟨n, r, hn, _, _, _, rfl⟩ := byt_ok h
  have := num_le hn
  rw [List.length_drop]; omega
theorem byt_byt {most : Int} {bs l t : List Nat} (h : byt most bs = .ok l t) (hb : Byt bs) : Byt t ∧ Byt l := by
  obtain ⟨n, r, hn, _, _, rfl, rfl⟩ := byt_ok h
  have := num_byt hn hb
  exact ⟨fun c hc => this c (List.mem_of_mem_drop hc), fun c hc => this c (List.mem_of_mem_take hc)⟩
end Go.Proofs.Ytidpabcfcdiecaa

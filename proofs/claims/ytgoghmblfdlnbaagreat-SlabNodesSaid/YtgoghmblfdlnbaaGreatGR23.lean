/- The texts SlV, VCellP, VNdV of this proof, one behind the other. Conditions: those of each. -/
import Derived.Test.YtgoghmblfdlnbaaGreatGR1
import Derived.Test.YtgoghmblfdlnbaaGreatGR22
section
/- Slab: Write that is refused. Conditions: the bounds of its lists. -/
set_option linter.unusedSimpArgs false
set_option linter.unusedVariables false
namespace Go.Proofs.YtgoghmblfdlnbaaGreat
open Go.RowKit
theorem Sl.drop {Q2 Q TP : Nat → Prop} {w0 w w' : World} {lb plb sb pb bl N gen m : Nat} {p : Pl} {U L H : List Us} {A l : List Rn} (h : Sl Q2 TP w0 w lb plb sb pb bl N gen m p U L H A l) (hf : Fr Nil w w') (hQ : ∀ k, Q k → Q2 k ∨ w.heap.size ≤ k) (hlt : ∀ k, Q k → k < w'.heap.size) : Sl Q TP w0 w' lb plb sb pb bl N gen m p U L H A l :=
  h.app hf (fun _ h => h.elim) (fun _ h => h.elim) fun k hk => ⟨hQ k hk, hlt k hk⟩
theorem Sl.sub {Q2 Q TP : Nat → Prop} {w0 w : World} {lb plb sb pb bl N gen m : Nat} {p : Pl} {U L H : List Us} {A l : List Rn} (h : Sl Q2 TP w0 w lb plb sb pb bl N gen m p U L H A l) (hQ : ∀ k, Q k → Q2 k) : Sl Q TP w0 w lb plb sb pb bl N gen m p U L H A l :=
  h.drop (Fr.refl _ _) (fun k hk => .inl (hQ k hk)) fun k hk => h.tlt k (.inl (hQ k hk))
set_option maxRecDepth 20000 in
set_option maxHeartbeats 1000000 in
theorem swrite_bad {Q TP : Nat → Prop} {w0 w : World} {lb plb sb pb bl N gen m : Nat} {p : Pl} {U L H : List Us} {A l : List Rn} (h : Sl Q TP w0 w lb plb sb pb bl N gen m p U L H A l) (D : Option Addr) (c len : Nat) (hll : len ≤ 100000) (hbad : len = 0 ∨ len % 64 ≠ 0) :
    Calls Tryz.prog 8 #[.pointer (some ⟨lb, 0, none⟩), .slice D len c] w fun e w' => e = .returned (.tuple #[.agg #[.int .i64 0, .int .i64 0], .int .i64 1]) ∧ Fr Nil w w' := by
  have HS0 := hid h
  clear h
  have hfin : ∀ (wr W9 : World) (rb : Nat), Fr Nil w wr → w.heap.size ≤ rb → Fr (fun k => k = rb) wr W9 → Fr Nil w W9 := fun _ _ _ f1 h2 f2 => f1.trans f2 fun k hk => .inr (by omega)
  have Hfin := hid hfin
  clear hfin
  by_cases hl0 : len = 0
  · have hb1 : ((len : Int) == 0) = true := by simp; omega
    go_enter Tryz.func8, Tryz.ntmps8
    go_wp2_with fail
    obtain ⟨W1, hW1⟩ : ∃ W1, W1 = w.alloc (.cells #[.int .i64 0, .int .i64 0] 39) := ⟨_, rfl⟩
    obtain ⟨rb, hrb⟩ : ∃ rb, rb = w.heap.size := ⟨_, rfl⟩
    have f1 : Fr Nil w W1 := by rw [hW1]; exact (Fr.refl _ _).alloc _
    have hR1 : Blk W1 rb #[.int .i64 0, .int .i64 0] 39 := by rw [hW1, hrb]; exact Blk.new _ _ _
    rw [← hW1, ← hrb]
    have H1 := hid (HS0.out.drop (Q := fun k => Q k ∨ k = rb) f1 (fun k hk => hk.imp id fun e => by omega) fun k hk => by
      rcases hk with hk | hk
      · exact Nat.lt_of_lt_of_le (HS0.out.tlt k (.inl hk)) f1.size
      · have := hR1.lt; omega)
    have HR1 := hid hR1
    have F1 := hid f1
    have Hrb := hid hrb
    clear hW1 hrb f1 hR1
    refine (smade_ok H1.out).mono ?_
    rintro e w2 ⟨rfl, rfl⟩
    have hr7 := HR1.out
    have k0 := hr7.cell 0
    have k1 := hr7.cell 1
    have z0 := hr7.frozen 0
    have z1 := hr7.frozen 1
    have hrl := hr7.lt
    have HR7 := hid hr7
    clear hr7
    go_wp2
    have hfs : Fr (fun k => k = rb) W1 ((W1.setCell ⟨rb, 0, none⟩ (.int .i64 0)).setCell ⟨rb, 1, none⟩ (.int .i64 0)) := ((Fr.refl (fun k => k = rb) W1).setCell (a := ⟨rb, 0, none⟩) (.inl rfl) _).setCell (a := ⟨rb, 1, none⟩) (.inl rfl) _
    have hb9 := (HR7.out.set 0 (.int .i64 0)).set 1 (.int .i64 0)
    generalize (W1.setCell ⟨rb, 0, none⟩ (.int .i64 0)).setCell ⟨rb, 1, none⟩ (.int .i64 0) = W9 at *
    have r0 : W9.cell? ⟨rb, 0, none⟩ = some (.int .i64 0) := hb9.cell 0
    have r1 : W9.cell? ⟨rb, 1, none⟩ = some (.int .i64 0) := hb9.cell 1
    have HFS := hid hfs
    clear hfs hb9
    simp [bodyPost, results, Tryz.results8, go_sem, r0, r1]
    exact Hfin.out _ _ _ F1.out (Nat.le_of_eq Hrb.out.symm) HFS.out
  · have hb1 : ((len : Int) == 0) = false := by simp; omega
    have hr2 : Int.tmod (len : Int) 64 = ((len % 64 : Nat) : Int) := by rw [Int.tmod_eq_emod_of_nonneg (by omega)]; omega
    have hb2 : (((len % 64 : Nat) : Int) == 0) = false := by simp; omega
    go_enter Tryz.func8, Tryz.ntmps8
    go_wp2_with fail
    obtain ⟨W1, hW1⟩ : ∃ W1, W1 = w.alloc (.cells #[.int .i64 0, .int .i64 0] 39) := ⟨_, rfl⟩
    obtain ⟨rb, hrb⟩ : ∃ rb, rb = w.heap.size := ⟨_, rfl⟩
    have f1 : Fr Nil w W1 := by rw [hW1]; exact (Fr.refl _ _).alloc _
    have hR1 : Blk W1 rb #[.int .i64 0, .int .i64 0] 39 := by rw [hW1, hrb]; exact Blk.new _ _ _
    rw [← hW1, ← hrb]
    have H1 := hid (HS0.out.drop (Q := fun k => Q k ∨ k = rb) f1 (fun k hk => hk.imp id fun e => by omega) fun k hk => by
      rcases hk with hk | hk
      · exact Nat.lt_of_lt_of_le (HS0.out.tlt k (.inl hk)) f1.size
      · have := hR1.lt; omega)
    have HR1 := hid hR1
    have F1 := hid f1
    have Hrb := hid hrb
    clear hW1 hrb f1 hR1
    refine (smade_ok H1.out).mono ?_
    rintro e w2 ⟨rfl, rfl⟩
    have hr7 := HR1.out
    have k0 := hr7.cell 0
    have k1 := hr7.cell 1
    have z0 := hr7.frozen 0
    have z1 := hr7.frozen 1
    have hrl := hr7.lt
    have HR7 := hid hr7
    clear hr7
    go_wp2
    have hfs : Fr (fun k => k = rb) W1 ((W1.setCell ⟨rb, 0, none⟩ (.int .i64 0)).setCell ⟨rb, 1, none⟩ (.int .i64 0)) := ((Fr.refl (fun k => k = rb) W1).setCell (a := ⟨rb, 0, none⟩) (.inl rfl) _).setCell (a := ⟨rb, 1, none⟩) (.inl rfl) _
    have hb9 := (HR7.out.set 0 (.int .i64 0)).set 1 (.int .i64 0)
    generalize (W1.setCell ⟨rb, 0, none⟩ (.int .i64 0)).setCell ⟨rb, 1, none⟩ (.int .i64 0) = W9 at *
    have r0 : W9.cell? ⟨rb, 0, none⟩ = some (.int .i64 0) := hb9.cell 0
    have r1 : W9.cell? ⟨rb, 1, none⟩ = some (.int .i64 0) := hb9.cell 1
    have HFS := hid hfs
    clear hfs hb9
    simp [bodyPost, results, Tryz.results8, go_sem, r0, r1]
    exact Hfin.out _ _ _ F1.out (Nat.le_of_eq Hrb.out.symm) HFS.out
set_option maxRecDepth 20000 in
set_option maxHeartbeats 1000000 in
theorem swrite_full {Q TP : Nat → Prop} {w0 w : World} {lb plb sb pb bl N gen m : Nat} {p : Pl} {U L H : List Us} {A l : List Rn} (h : Sl Q TP w0 w lb plb sb pb bl N gen m p U L H A l) (D : Option Addr) (c len n : Nat) (hn : 1 ≤ n) (hn9 : n ≤ 1000) (hlen : len = 64 * n) (hti : ¬ takeI l (n : Int) < l.length) :
    Calls Tryz.prog 8 #[.pointer (some ⟨lb, 0, none⟩), .slice D len c] w fun e w' => e = .returned (.tuple #[.agg #[.int .i64 0, .int .i64 0], .int .i64 7]) ∧ Sl Q TP w0 w' lb plb sb pb bl N gen m p U L H A l ∧ Fr (fun k => ¬ Q k) w w' := by
  have hr1 : (len : Int) % 64 = 0 := by omega
  have hr2 : Int.tmod (len : Int) 64 = 0 := by rw [Int.tmod_eq_emod_of_nonneg (by omega)]; exact hr1
  have hd1 : (len : Int) / 64 = (n : Int) := by omega
  have hd2 : Int.tdiv (len : Int) 64 = (n : Int) := by rw [Int.tdiv_eq_ediv_of_nonneg (by omega)]; exact hd1
  have hl0 : ((len : Int) == 0) = false := by simp; omega
  have hll : len ≤ 100000 := by omega
  have HS0 := hid h
  have Hti := hid hti
  clear h hti
  go_enter Tryz.func8, Tryz.ntmps8
  go_wp2_with fail
  obtain ⟨W1, hW1⟩ : ∃ W1, W1 = w.alloc (.cells #[.int .i64 0, .int .i64 0] 39) := ⟨_, rfl⟩
  obtain ⟨rb, hrb⟩ : ∃ rb, rb = w.heap.size := ⟨_, rfl⟩
  have f1 : Fr Nil w W1 := by rw [hW1]; exact (Fr.refl _ _).alloc _
  have hR1 : Blk W1 rb #[.int .i64 0, .int .i64 0] 39 := by rw [hW1, hrb]; exact Blk.new _ _ _
  rw [← hW1, ← hrb]
  have H1 := hid (HS0.out.drop (Q := fun k => Q k ∨ k = rb) f1 (fun k hk => hk.imp id fun e => by omega) fun k hk => by
    rcases hk with hk | hk
    · exact Nat.lt_of_lt_of_le (HS0.out.tlt k (.inl hk)) f1.size
    · have := hR1.lt; omega)
  have HR1 := hid hR1
  have F1 := hid f1
  have Hrb := hid hrb
  clear hW1 hrb f1 hR1
  refine (smade_ok H1.out).mono ?_
  rintro e w2 ⟨rfl, rfl⟩
  have c2 : W1.cell? ⟨lb, 2, none⟩ = some (.pointer (some ⟨pb, 0, none⟩)) := H1.out.b.cell 2
  go_wp2_with fail
  refine (sg_takeno H1.out.g (n : Int) Hti.out).mono ?_
  rintro e w4 ⟨rfl, hg4, hf4⟩
  have H4 := hid (H1.out.runs hg4 hf4)
  have F4 := hid (show Fr (fun k => ¬ Q k) w w4 from (F1.out.nil (S := fun k => ¬ Q k)).then (hf4.mono fun k hk hq => hk (.inl (.inl hq))))
  have hr7 := HR1.out.fr hf4 fun hn => hn (.inl (.inr rfl))
  have k0 := hr7.cell 0
  have k1 := hr7.cell 1
  have z0 := hr7.frozen 0
  have z1 := hr7.frozen 1
  have hrl := hr7.lt
  have HR7 := hid hr7
  clear hr7
  clear c2 hg4 hf4
  go_wp2
  have hfs : Fr (fun k => k = rb) w4 ((w4.setCell ⟨rb, 0, none⟩ (.int .i64 0)).setCell ⟨rb, 1, none⟩ (.int .i64 0)) := ((Fr.refl (fun k => k = rb) w4).setCell (a := ⟨rb, 0, none⟩) (.inl rfl) _).setCell (a := ⟨rb, 1, none⟩) (.inl rfl) _
  have hb9 := (HR7.out.set 0 (.int .i64 0)).set 1 (.int .i64 0)
  generalize (w4.setCell ⟨rb, 0, none⟩ (.int .i64 0)).setCell ⟨rb, 1, none⟩ (.int .i64 0) = W9 at *
  have r0 : W9.cell? ⟨rb, 0, none⟩ = some (.int .i64 0) := hb9.cell 0
  have r1 : W9.cell? ⟨rb, 1, none⟩ = some (.int .i64 0) := hb9.cell 1
  have HFS := hid hfs
  clear hfs hb9
  simp [bodyPost, results, Tryz.results8, go_sem, r0, r1]
  have hw : w0.heap.size ≤ rb := by have := HS0.out.g.fr0.size; have := Hrb.out; omega
  have hq : ¬ Q rb := fun hq => by have := HS0.out.tlt rb (.inl hq); have := Hrb.out; omega
  exact ⟨H4.out.own HFS.out (fun k hk => .inr hk) (fun k hk => by rw [hk]; exact hw) (fun k hk => .inl hk), F4.out.then (HFS.out.mono fun k hk => by rw [hk]; exact hq)⟩
end Go.Proofs.YtgoghmblfdlnbaaGreat
end

section
/- Plain words on the encoding of numbers in groups of seven bits (no program). -/
set_option linter.unusedSimpArgs false
set_option linter.unusedVariables false
namespace Go.Proofs.YtgoghmblfdlnbaaGreat

/-- The groups of a number, the lowest first. -/
def enc (x : Nat) : List Nat := if x < 128 then [x] else (x % 128 + 128) :: enc (x / 128)
termination_by x

theorem enc_lo {x : Nat} (h : x < 128) : enc x = [x] := by rw [enc, if_pos h]
theorem enc_hi {x : Nat} (h : ¬ x < 128) : enc x = (x % 128 + 128) :: enc (x / 128) := by rw [enc, if_neg h]
theorem enc_step (xs : List Nat) {x : Nat} (h : ¬ x < 128) : (xs ++ [x % 128 + 128]) ++ enc (x / 128) = xs ++ enc x := by rw [enc_hi h, List.append_assoc, List.singleton_append]
theorem enc_len (x : Nat) (h : x < 268435456) : (enc x).length ≤ 4 ∧ 0 < (enc x).length := by
  by_cases h1 : x < 128
  · rw [enc_lo h1]; simp
  rw [enc_hi h1]
  by_cases h2 : x / 128 < 128
  · rw [enc_lo h2]; simp
  rw [enc_hi h2]
  by_cases h3 : x / 128 / 128 < 128
  · rw [enc_lo h3]; simp
  rw [enc_hi h3, enc_lo (by omega)]; simp
theorem or128_nat : ∀ a, a < 256 → a ||| 128 = a % 128 + 128 := by decide +kernel
theorem or128 (x : Nat) : bits .or .u8 ((x : Int) % 256) 128 = ((x % 128 + 128 : Nat) : Int) := by
  have h := u8_or ((x : Int) % 256) 128 (by omega) (by omega) (by omega) (by omega)
  rw [h, show ((x : Int) % 256).toNat = x % 256 by omega, show (128 : Int).toNat = 128 from rfl, or128_nat _ (by omega)]
  omega

/-! ### reading -/
/-- What a reading comes to: a value and what is left, or an error. -/
inductive Got (α : Type) where
  | ok (x : α) (rest : List Nat)
  | bad (e : Int)
deriving DecidableEq

/-- The groups from the i-th on, x being what the first ones say. -/
def numF : Nat → Nat → Nat → List Nat → Got Nat
  | 0, _, _, _ => .bad 4
  | _ + 1, _, _, [] => .bad 2
  | f + 1, i, x, c :: t =>
    if c < 128 then (if c = 0 ∧ 0 < i then .bad 4 else .ok (x + c % 128 * 128 ^ i) t)
    else numF f (i + 1) (x + c % 128 * 128 ^ i) t
/-- A number read. -/
def num (bs : List Nat) : Got Nat := numF 4 0 0 bs
/-- Bytes read, at most 'most'. -/
def byt (most : Int) (bs : List Nat) : Got (List Nat) :=
  match num bs with
  | .bad e => .bad e
  | .ok n t => if most < n then .bad 3 else if t.length < n then .bad 2 else .ok (t.take n) (t.drop n)
theorem or_shift (x c i : Nat) (hx : x < 128 ^ i) : x ||| (c <<< (7 * i)) = x + c * 128 ^ i := by
  have h : (128 : Nat) ^ i = 2 ^ (7 * i) := by rw [Nat.pow_mul]
  rw [h] at hx ⊢
  rw [Nat.or_comm, ← Nat.shiftLeft_add_eq_or_of_lt hx, Nat.shiftLeft_eq, Nat.add_comm]
theorem and127_nat : ∀ a, a < 256 → a &&& 127 = a % 128 := by decide +kernel
theorem i64_or_nat (a b : Nat) (ha : a < 1099511627776) (hb : b < 1099511627776) : bits .or .i64 (a : Int) (b : Int) = ((a ||| b : Nat) : Int) :=
  (bits_nat .i64 40 (by decide) (fun n h1 h2 => by rw [IntKind.wrap_i64]; omega) a b (by omega) (by omega)).2
theorem i64_and_nat (a b : Nat) (ha : a < 1099511627776) (hb : b < 1099511627776) : bits .and .i64 (a : Int) (b : Int) = ((a &&& b : Nat) : Int) :=
  (bits_nat .i64 40 (by decide) (fun n h1 h2 => by rw [IntKind.wrap_i64]; omega) a b (by omega) (by omega)).1
open Go.RowKit in
theorem or_wrap (x q : Nat) (hx : x < 2097152) (h6 : q ≤ 127 * 2097152) (h8 : x ||| q = x + q) : bits .or .i64 (x : Int) (wrap64 (q : Int)) = ((x + q : Nat) : Int) := by
  have h7 : wrap64 (q : Int) = (q : Int) := by unfold wrap64; omega
  rw [h7, i64_or_nat x q (by omega) (by omega), h8]
open Go.RowKit in
theorem grp (x c i : Nat) (hx : x < 128 ^ i) (hc : c < 256) (hi : i < 4) : bits .or .i64 (x : Int) (wrap64 (wrap64 (bits .and .u8 (c : Int) 127) * 2 ^ (7 * i))) = ((x + c % 128 * 128 ^ i : Nat) : Int) := by
  have h1 : bits .and .u8 (c : Int) 127 = ((c % 128 : Nat) : Int) := by
    rw [u8_and (c : Int) 127 (by omega) (by omega) (by omega) (by omega), show (c : Int).toNat = c by omega, show (127 : Int).toNat = 127 from rfl, and127_nat _ hc]
  have h2 : wrap64 ((c % 128 : Nat) : Int) = ((c % 128 : Nat) : Int) := by unfold wrap64; omega
  have h4 : (128 : Nat) ^ i = 2 ^ (7 * i) := by rw [Nat.pow_mul]
  have h5 : (128 : Nat) ^ i ≤ 2097152 := by
    have : i = 0 ∨ i = 1 ∨ i = 2 ∨ i = 3 := by omega
    rcases this with rfl | rfl | rfl | rfl <;> decide
  have h6 : c % 128 * 128 ^ i ≤ 127 * 2097152 := Nat.mul_le_mul (by omega) h5
  have h3 : ((c % 128 : Nat) : Int) * 2 ^ (7 * i) = ((c % 128 * 128 ^ i : Nat) : Int) := by rw [h4]; simp
  have h8 := or_shift x (c % 128) i hx
  rw [Nat.shiftLeft_eq, ← h4] at h8
  rw [h1, h2, h3]
  have hx2 : x < 2097152 := Nat.lt_of_lt_of_le hx h5
  exact or_wrap x _ hx2 h6 h8
theorem numF_lt (x c i : Nat) (hx : x < 128 ^ i) : x + c % 128 * 128 ^ i < 128 ^ (i + 1) := by
  have : c % 128 ≤ 127 := by omega
  have h := Nat.mul_le_mul_right (128 ^ i) this
  rw [Nat.pow_succ]; omega

theorem numF_rest : ∀ (f i x : Nat) (bs : List Nat) (y : Nat) (t : List Nat), numF f i x bs = .ok y t → ∃ pre, bs = pre ++ t ∧ 0 < pre.length ∧ pre.length ≤ f
  | 0, i, x, bs, y, t, h => by simp [numF] at h
  | f + 1, i, x, [], y, t, h => by simp [numF] at h
  | f + 1, i, x, c :: l, y, t, h => by
    rw [numF] at h
    by_cases h1 : c < 128
    · rw [if_pos h1] at h
      by_cases h2 : c = 0 ∧ 0 < i
      · rw [if_pos h2] at h; cases h
      · rw [if_neg h2] at h
        injection h with _ h
        exact ⟨[c], by rw [h]; rfl, by simp, by simp⟩
    · rw [if_neg h1] at h
      obtain ⟨pre, e, hp, hq⟩ := numF_rest f (i + 1) _ l y t h
      exact ⟨c :: pre, by rw [e]; rfl, by simp, by simp; omega⟩
theorem num_rest {bs : List Nat} {y : Nat} {t : List Nat} (h : num bs = .ok y t) : ∃ pre, bs = pre ++ t ∧ 0 < pre.length ∧ pre.length ≤ 4 := numF_rest 4 0 0 bs y t h
theorem num_le {bs : List Nat} {y : Nat} {t : List Nat} (h : num bs = .ok y t) : t.length < bs.length := by
  obtain ⟨pre, rfl, hp, _⟩ := num_rest h
  rw [List.length_append]; omega
theorem num_byt {bs : List Nat} {y : Nat} {t : List Nat} (h : num bs = .ok y t) (hb : Byt bs) : Byt t := by
  obtain ⟨pre, rfl, hp, _⟩ := num_rest h
  exact fun c hc => hb c (List.mem_append_right _ hc)
theorem byt_ok {most : Int} {bs l t : List Nat} (h : byt most bs = .ok l t) : ∃ n r, num bs = .ok n r ∧ (n : Int) ≤ most ∧ n ≤ r.length ∧ l = r.take n ∧ t = r.drop n := by
  unfold byt at h
  cases hn : num bs with
  | bad e => rw [hn] at h; cases h
  | ok n r =>
    rw [hn] at h
    by_cases h1 : most < n
    · simp only [if_pos h1] at h; cases h
    · simp only [if_neg h1] at h
      by_cases h2 : r.length < n
      · simp only [if_pos h2] at h; cases h
      · simp only [if_neg h2] at h
        injection h with ha hb
        exact ⟨n, r, rfl, by omega, by omega, ha.symm, hb.symm⟩
theorem byt_le {most : Int} {bs l t : List Nat} (h : byt most bs = .ok l t) : t.length < bs.length := by
  obtain ⟨n, r, hn, _, _, _, rfl⟩ := byt_ok h
  have := num_le hn
  rw [List.length_drop]; omega
theorem byt_byt {most : Int} {bs l t : List Nat} (h : byt most bs = .ok l t) (hb : Byt bs) : Byt t ∧ Byt l := by
  obtain ⟨n, r, hn, _, _, rfl, rfl⟩ := byt_ok h
  have := num_byt hn hb
  exact ⟨fun c hc => this c (List.mem_of_mem_drop hc), fun c hc => this c (List.mem_of_mem_take hc)⟩
end Go.Proofs.YtgoghmblfdlnbaaGreat
end

section
/- Nodes: their abstract shape, and what may be (no program). -/
set_option linter.unusedSimpArgs false
set_option linter.unusedVariables false
namespace Go.Proofs.YtgoghmblfdlnbaaGreat.nd
open Go.RowKit

/-- A place (at, blocks, slot) or a kid (at, blocks, generation). -/
structure Kd where
  a : Int
  n : Int
  g : Int
/-- A node. -/
structure Nd where
  h : Int
  ks : List Int
  ps : List Kd
  gs : List Int
  ds : List Kd
/-- Where its lists lie. -/
structure Ptr where
  A1 : Option Addr
  c1 : Nat
  A2 : Option Addr
  c2 : Nat
  A3 : Option Addr
  c3 : Nat
  A4 : Option Addr
  c4 : Nat

def kcells (k : Kd) : List Value := [.int .i64 k.a, .int .i64 k.n, .int .i64 k.g]
def tri (l : List Kd) : List Value := l.flatMap kcells
def kz (l : List Int) (i : Nat) : Int := l.getD i 0
def kd (l : List Kd) (i : Nat) : Kd := l.getD i ⟨0, 0, 0⟩
theorem tri_length (l : List Kd) : (tri l).length = l.length * 3 := by
  induction l with
  | nil => rfl
  | cons k l ih => simp [tri, kcells] at ih ⊢; omega
theorem tri_append (a b : List Kd) : tri (a ++ b) = tri a ++ tri b := by simp [tri]
theorem tri_get : ∀ (l : List Kd) (i : Nat), i < l.length → (tri l)[i * 3]? = some (.int .i64 (kd l i).a) ∧ (tri l)[i * 3 + 1]? = some (.int .i64 (kd l i).n) ∧ (tri l)[i * 3 + 2]? = some (.int .i64 (kd l i).g)
  | [], i, h => by simp at h
  | k :: l, 0, h => ⟨rfl, rfl, rfl⟩
  | k :: l, i + 1, h => by
    have := tri_get l i (by simpa using h)
    have e : ∀ j, (tri (k :: l))[3 + j]? = (tri l)[j]? := fun j => by
      show (kcells k ++ tri l)[3 + j]? = _
      rw [List.getElem?_append_right (by simp [kcells])]
      simp [kcells]
    have e0 : kd (k :: l) (i + 1) = kd l i := by simp [kd]
    rw [show (i + 1) * 3 = 3 + i * 3 by omega, show 3 + i * 3 + 1 = 3 + (i * 3 + 1) by omega, show 3 + i * 3 + 2 = 3 + (i * 3 + 2) by omega, e, e, e, e0]
    exact this
theorem ints_get (l : List Int) (i : Nat) (h : i < l.length) : (ints .i64 l)[i]? = some (.int .i64 (kz l i)) := by
  rw [ints_at _ _ _ h]; simp [kz, List.getElem?_eq_getElem h]
theorem ints_append (a b : List Int) : ints .i64 (a ++ b) = ints .i64 a ++ ints .i64 b := by simp [ints]
theorem kz_eq {l : List Int} {i : Nat} (h : i < l.length) : kz l i = l[i] := by simp [kz, List.getElem?_eq_getElem h]
theorem kd_eq {l : List Kd} {i : Nat} (h : i < l.length) : kd l i = l[i] := by simp [kd, List.getElem?_eq_getElem h]

/-- Its lists are read. -/
structure Vs (w : World) (S : Nat → Prop) (q : Ptr) (x : Nd) : Prop where
  k : View w S 1 (.slice q.A1 x.ks.length q.c1) x.ks.length (ints .i64 x.ks)
  p : View w S 3 (.slice q.A2 x.ps.length q.c2) x.ps.length (tri x.ps)
  g : View w S 1 (.slice q.A3 x.gs.length q.c3) x.gs.length (ints .i64 x.gs)
  d : View w S 3 (.slice q.A4 x.ds.length q.c4) x.ds.length (tri x.ds)
theorem Vs.mono {w : World} {S S' : Nat → Prop} {q : Ptr} {x : Nd} (h : Vs w S q x) (hs : ∀ k, S k → S' k) : Vs w S' q x := ⟨h.k.mono hs, h.p.mono hs, h.g.mono hs, h.d.mono hs⟩
theorem Vs.bd {w : World} {S : Nat → Prop} {q : Ptr} {x : Nd} (h : Vs w S q x) : Vs w (fun k => S k ∧ k < w.heap.size) q x := ⟨h.k.bd, h.p.bd, h.g.bd, h.d.bd⟩
theorem Vs.fr {w w1 : World} {S S1 : Nat → Prop} {q : Ptr} {x : Nd} (h : Vs w S q x) (hf : Fr S1 w w1) (hn : ∀ k, S k → k < w.heap.size → ¬ S1 k) : Vs w1 S q x := ⟨h.k.fr hf hn, h.p.fr hf hn, h.g.fr hf hn, h.d.fr hf hn⟩
theorem Vs.nil {w w1 : World} {S : Nat → Prop} {q : Ptr} {x : Nd} (h : Vs w S q x) (hf : Fr Nil w w1) : Vs w1 S q x := h.fr hf fun _ _ _ h => h

/-- An element of a list of numbers is read. -/
theorem int_at {w : World} {S : Nat → Prop} {A : Option Addr} {n c : Nat} {l : List Int} (h : View w S 1 (.slice A n c) n (ints .i64 l)) {i : Nat} (hi : i < n) :
    ∃ b o, A = some ⟨b, o, none⟩ ∧ S b ∧ b < w.heap.size ∧ w.cell? ⟨b, o + i, none⟩ = some (.int .i64 (kz l i)) := by
  obtain ⟨hl, A', c', e, _, _, _, _, h5⟩ := h
  injection e with ea _ ec
  subst ea; subst ec
  obtain ⟨b, o, hA, hS, hb, hc⟩ := h5 (by omega)
  exact ⟨b, o, hA, hS, hb, hc i _ (ints_get l i (by rw [ints_length] at hl; omega))⟩
theorem kd_at {w : World} {S : Nat → Prop} {A : Option Addr} {n c : Nat} {l : List Kd} (h : View w S 3 (.slice A n c) n (tri l)) {i : Nat} (hi : i < n) :
    ∃ b o, A = some ⟨b, o, none⟩ ∧ S b ∧ b < w.heap.size ∧ w.cell? ⟨b, o + i * 3, none⟩ = some (.int .i64 (kd l i).a) ∧ w.cell? ⟨b, o + i * 3 + 1, none⟩ = some (.int .i64 (kd l i).n) ∧ w.cell? ⟨b, o + i * 3 + 2, none⟩ = some (.int .i64 (kd l i).g) := by
  obtain ⟨hl, A', c', e, _, _, _, _, h5⟩ := h
  injection e with ea _ ec
  subst ea; subst ec
  obtain ⟨b, o, hA, hS, hb, hc⟩ := h5 (by omega)
  have hl2 : i < l.length := by rw [tri_length] at hl; omega
  obtain ⟨g0, g1, g2⟩ := tri_get l i hl2
  exact ⟨b, o, hA, hS, hb, hc _ _ g0, hc _ _ g1, hc _ _ g2⟩

theorem ints_cells {w : World} {S : Nat → Prop} {A : Option Addr} {n c : Nat} {l : List Int} (h : View w S 1 (.slice A n c) n (ints .i64 l)) (h0 : 0 < n) :
    ∃ b o, A = some ⟨b, o, none⟩ ∧ S b ∧ b < w.heap.size ∧ ∀ i, i < n → w.cell? ⟨b, o + i, none⟩ = some (.int .i64 (kz l i)) := by
  obtain ⟨b, o, hA, hS, hb, _⟩ := int_at h h0
  refine ⟨b, o, hA, hS, hb, fun i hi => ?_⟩
  obtain ⟨b', o', hA', _, _, hc⟩ := int_at h hi
  rw [hA] at hA'
  injection hA' with hA'
  injection hA' with h1 h2
  rw [h1, h2]; exact hc
/-! ### what may be -/
def lOk (a n g : Int) : Prop := (0 ≤ a ∧ a ≤ 8191) ∧ (1 ≤ n ∧ n ≤ 128) ∧ a + n ≤ 8192 ∧ (0 ≤ g ∧ g ≤ 268435455)
def eOk (k : Kd) (g : Int) : Prop := lOk k.a k.n g ∧ (0 ≤ k.g ∧ k.g ≤ 7)
def kOk (ks : List Int) (i : Nat) : Prop := (0 ≤ kz ks i ∧ kz ks i ≤ 511) ∧ (0 < i → kz ks (i - 1) < kz ks i)
def keysOk (ks : List Int) : Prop := ks.length ≤ 8 ∧ ∀ i, i < ks.length → kOk ks i
def leafOk (x : Nd) : Prop := x.ps.length = x.ks.length ∧ x.gs.length = x.ks.length ∧ x.ds.length = 0 ∧ ∀ i, i < x.ks.length → eOk (kd x.ps i) (kz x.gs i)
def innerOk (x : Nd) : Prop := 0 < x.ks.length ∧ x.ds.length = x.ks.length ∧ x.ps.length = 0 ∧ x.gs.length = 0 ∧ ∀ i, i < x.ks.length → lOk (kd x.ds i).a (kd x.ds i).n (kd x.ds i).g
def MayNd (x : Nd) : Prop := (0 ≤ x.h ∧ x.h ≤ 5) ∧ keysOk x.ks ∧ (x.h = 0 → leafOk x) ∧ (x.h ≠ 0 → innerOk x)
instance (a n g : Int) : Decidable (lOk a n g) := by unfold lOk; infer_instance
instance (k : Kd) (g : Int) : Decidable (eOk k g) := by unfold eOk; infer_instance
instance (ks : List Int) (i : Nat) : Decidable (kOk ks i) := by unfold kOk; infer_instance
instance (ks : List Int) : Decidable (keysOk ks) := by unfold keysOk; infer_instance
instance (x : Nd) : Decidable (leafOk x) := by unfold leafOk; infer_instance
instance (x : Nd) : Decidable (innerOk x) := by unfold innerOk; infer_instance
instance (x : Nd) : Decidable (MayNd x) := by unfold MayNd; infer_instance
end Go.Proofs.YtgoghmblfdlnbaaGreat.nd
end

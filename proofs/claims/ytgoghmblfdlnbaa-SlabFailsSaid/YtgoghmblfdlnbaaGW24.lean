/- The texts VCellP, VNdV, VNdW of this proof, one behind the other. Conditions: those of each. -/
import Derived.Test.YtgoghmblfdlnbaaProg
import Derived.Test.YtgoghmblfdlnbaaGW1
section
/- Plain words on the encoding of numbers in groups of seven bits (no program). -/
set_option linter.unusedSimpArgs false
set_option linter.unusedVariables false
namespace Go.Proofs.Ytgoghmblfdlnbaa

/-- The groups of a number, the lowest first. -/
def enc (x : Nat) : List Nat := if x < 128 then [x] else (x % 128 + 128) :: enc (x / 128)
termination_by x

theorem enc_lo {x : Nat} (h : x < 128) : enc x = [x] := by rw [enc, if_pos h]
theorem enc_hi {x : Nat} (h : ¬ x < 128) : enc x = (x % 128 + 128) :: enc (x / 128) := by rw [enc, if_neg h]
theorem enc_step (xs : List Nat) {x : Nat} (h : ¬ x < 128) : (xs ++ [x % 128 + 128]) ++ enc (x / 128) = xs ++ enc x := by rw [enc_hi h, List.append_assoc, List.singleton_append]
theorem enc_len (x : Nat) (h : x < 268435456) : (enc x).length ≤ 4 ∧ 0 < (enc x).length := by
  by_cases h1 : x < 128
  · rw [enc_lo h1]; simp
  rw [enc_hi h1]
  by_cases h2 : x / 128 < 128
  · rw [enc_lo h2]; simp
  rw [enc_hi h2]
  by_cases h3 : x / 128 / 128 < 128
  · rw [enc_lo h3]; simp
  rw [enc_hi h3, enc_lo (by omega)]; simp
theorem or128_nat : ∀ a, a < 256 → a ||| 128 = a % 128 + 128 := by decide +kernel
theorem or128 (x : Nat) : bits .or .u8 ((x : Int) % 256) 128 = ((x % 128 + 128 : Nat) : Int) := by
  have h := u8_or ((x : Int) % 256) 128 (by omega) (by omega) (by omega) (by omega)
  rw [h, show ((x : Int) % 256).toNat = x % 256 by omega, show (128 : Int).toNat = 128 from rfl, or128_nat _ (by omega)]
  omega

/-! ### reading -/
/-- What a reading comes to: a value and what is left, or an error. -/
inductive Got (α : Type) where
  | ok (x : α) (rest : List Nat)
  | bad (e : Int)
deriving DecidableEq

/-- The groups from the i-th on, x being what the first ones say. -/
def numF : Nat → Nat → Nat → List Nat → Got Nat
  | 0, _, _, _ => .bad 4
  | _ + 1, _, _, [] => .bad 2
  | f + 1, i, x, c :: t =>
    if c < 128 then (if c = 0 ∧ 0 < i then .bad 4 else .ok (x + c % 128 * 128 ^ i) t)
    else numF f (i + 1) (x + c % 128 * 128 ^ i) t
/-- A number read. -/
def num (bs : List Nat) : Got Nat := numF 4 0 0 bs
/-- Bytes read, at most 'most'. -/
def byt (most : Int) (bs : List Nat) : Got (List Nat) :=
  match num bs with
  | .bad e => .bad e
  | .ok n t => if most < n then .bad 3 else if t.length < n then .bad 2 else .ok (t.take n) (t.drop n)
theorem or_shift (x c i : Nat) (hx : x < 128 ^ i) : x ||| (c <<< (7 * i)) = x + c * 128 ^ i := by
  have h : (128 : Nat) ^ i = 2 ^ (7 * i) := by rw [Nat.pow_mul]
  rw [h] at hx ⊢
  rw [Nat.or_comm, ← Nat.shiftLeft_add_eq_or_of_lt hx, Nat.shiftLeft_eq, Nat.add_comm]
theorem and127_nat : ∀ a, a < 256 → a &&& 127 = a % 128 := by decide +kernel
theorem i64_or_nat (a b : Nat) (ha : a < 1099511627776) (hb : b < 1099511627776) : bits .or .i64 (a : Int) (b : Int) = ((a ||| b : Nat) : Int) :=
  (bits_nat .i64 40 (by decide) (fun n h1 h2 => by rw [IntKind.wrap_i64]; omega) a b (by omega) (by omega)).2
theorem i64_and_nat (a b : Nat) (ha : a < 1099511627776) (hb : b < 1099511627776) : bits .and .i64 (a : Int) (b : Int) = ((a &&& b : Nat) : Int) :=
  (bits_nat .i64 40 (by decide) (fun n h1 h2 => by rw [IntKind.wrap_i64]; omega) a b (by omega) (by omega)).1
open Go.RowKit in
theorem or_wrap (x q : Nat) (hx : x < 2097152) (h6 : q ≤ 127 * 2097152) (h8 : x ||| q = x + q) : bits .or .i64 (x : Int) (wrap64 (q : Int)) = ((x + q : Nat) : Int) := by
  have h7 : wrap64 (q : Int) = (q : Int) := by unfold wrap64; omega
  rw [h7, i64_or_nat x q (by omega) (by omega), h8]
open Go.RowKit in
theorem grp (x c i : Nat) (hx : x < 128 ^ i) (hc : c < 256) (hi : i < 4) : bits .or .i64 (x : Int) (wrap64 (wrap64 (bits .and .u8 (c : Int) 127) * 2 ^ (7 * i))) = ((x + c % 128 * 128 ^ i : Nat) : Int) := by
  have h1 : bits .and .u8 (c : Int) 127 = ((c % 128 : Nat) : Int) := by
    rw [u8_and (c : Int) 127 (by omega) (by omega) (by omega) (by omega), show (c : Int).toNat = c by omega, show (127 : Int).toNat = 127 from rfl, and127_nat _ hc]
  have h2 : wrap64 ((c % 128 : Nat) : Int) = ((c % 128 : Nat) : Int) := by unfold wrap64; omega
  have h4 : (128 : Nat) ^ i = 2 ^ (7 * i) := by rw [Nat.pow_mul]
  have h5 : (128 : Nat) ^ i ≤ 2097152 := by
    have : i = 0 ∨ i = 1 ∨ i = 2 ∨ i = 3 := by omega
    rcases this with rfl | rfl | rfl | rfl <;> decide
  have h6 : c % 128 * 128 ^ i ≤ 127 * 2097152 := Nat.mul_le_mul (by omega) h5
  have h3 : ((c % 128 : Nat) : Int) * 2 ^ (7 * i) = ((c % 128 * 128 ^ i : Nat) : Int) := by rw [h4]; simp
  have h8 := or_shift x (c % 128) i hx
  rw [Nat.shiftLeft_eq, ← h4] at h8
  rw [h1, h2, h3]
  have hx2 : x < 2097152 := Nat.lt_of_lt_of_le hx h5
  exact or_wrap x _ hx2 h6 h8
theorem numF_lt (x c i : Nat) (hx : x < 128 ^ i) : x + c % 128 * 128 ^ i < 128 ^ (i + 1) := by
  have : c % 128 ≤ 127 := by omega
  have h := Nat.mul_le_mul_right (128 ^ i) this
  rw [Nat.pow_succ]; omega

theorem numF_rest : ∀ (f i x : Nat) (bs : List Nat) (y : Nat) (t : List Nat), numF f i x bs = .ok y t → ∃ pre, bs = pre ++ t ∧ 0 < pre.length ∧ pre.length ≤ f
  | 0, i, x, bs, y, t, h => by simp [numF] at h
  | f + 1, i, x, [], y, t, h => by simp [numF] at h
  | f + 1, i, x, c :: l, y, t, h => by
    rw [numF] at h
    by_cases h1 : c < 128
    · rw [if_pos h1] at h
      by_cases h2 : c = 0 ∧ 0 < i
      · rw [if_pos h2] at h; cases h
      · rw [if_neg h2] at h
        injection h with _ h
        exact ⟨[c], by rw [h]; rfl, by simp, by simp⟩
    · rw [if_neg h1] at h
      obtain ⟨pre, e, hp, hq⟩ := numF_rest f (i + 1) _ l y t h
      exact ⟨c :: pre, by rw [e]; rfl, by simp, by simp; omega⟩
theorem num_rest {bs : List Nat} {y : Nat} {t : List Nat} (h : num bs = .ok y t) : ∃ pre, bs = pre ++ t ∧ 0 < pre.length ∧ pre.length ≤ 4 := numF_rest 4 0 0 bs y t h
theorem num_le {bs : List Nat} {y : Nat} {t : List Nat} (h : num bs = .ok y t) : t.length < bs.length := by
  obtain ⟨pre, rfl, hp, _⟩ := num_rest h
  rw [List.length_append]; omega
theorem num_byt {bs : List Nat} {y : Nat} {t : List Nat} (h : num bs = .ok y t) (hb : Byt bs) : Byt t := by
  obtain ⟨pre, rfl, hp, _⟩ := num_rest h
  exact fun c hc => hb c (List.mem_append_right _ hc)
theorem byt_ok {most : Int} {bs l t : List Nat} (h : byt most bs = .ok l t) : ∃ n r, num bs = .ok n r ∧ (n : Int) ≤ most ∧ n ≤ r.length ∧ l = r.take n ∧ t = r.drop n := by
  unfold byt at h
  cases hn : num bs with
  | bad e => rw [hn] at h; cases h
  | ok n r =>
    rw [hn] at h
    by_cases h1 : most < n
    · simp only [if_pos h1] at h; cases h
    · simp only [if_neg h1] at h
      by_cases h2 : r.length < n
      · simp only [if_pos h2] at h; cases h
      · simp only [if_neg h2] at h
        injection h with ha hb
        exact ⟨n, r, rfl, by omega, by omega, ha.symm, hb.symm⟩
theorem byt_le {most : Int} {bs l t : List Nat} (h : byt most bs = .ok l t) : t.length < bs.length := by
  obtain ⟨n, r, hn, _, _, _, rfl⟩ := byt_ok h
  have := num_le hn
  rw [List.length_drop]; omega
theorem byt_byt {most : Int} {bs l t : List Nat} (h : byt most bs = .ok l t) (hb : Byt bs) : Byt t ∧ Byt l := by
  obtain ⟨n, r, hn, _, _, rfl, rfl⟩ := byt_ok h
  have := num_byt hn hb
  exact ⟨fun c hc => this c (List.mem_of_mem_drop hc), fun c hc => this c (List.mem_of_mem_take hc)⟩
end Go.Proofs.Ytgoghmblfdlnbaa
end

section
/- Nodes: their abstract shape, and what may be (no program). -/
set_option linter.unusedSimpArgs false
set_option linter.unusedVariables false
namespace Go.Proofs.Ytgoghmblfdlnbaa.nd
open Go.RowKit

/-- A place (at, blocks, slot) or a kid (at, blocks, generation). -/
structure Kd where
  a : Int
  n : Int
  g : Int
/-- A node. -/
structure Nd where
  h : Int
  ks : List Int
  ps : List Kd
  gs : List Int
  ds : List Kd
/-- Where its lists lie. -/
structure Ptr where
  A1 : Option Addr
  c1 : Nat
  A2 : Option Addr
  c2 : Nat
  A3 : Option Addr
  c3 : Nat
  A4 : Option Addr
  c4 : Nat

def kcells (k : Kd) : List Value := [.int .i64 k.a, .int .i64 k.n, .int .i64 k.g]
def tri (l : List Kd) : List Value := l.flatMap kcells
def kz (l : List Int) (i : Nat) : Int := l.getD i 0
def kd (l : List Kd) (i : Nat) : Kd := l.getD i ⟨0, 0, 0⟩
theorem tri_length (l : List Kd) : (tri l).length = l.length * 3 := by
  induction l with
  | nil => rfl
  | cons k l ih => simp [tri, kcells] at ih ⊢; omega
theorem tri_append (a b : List Kd) : tri (a ++ b) = tri a ++ tri b := by simp [tri]
theorem tri_get : ∀ (l : List Kd) (i : Nat), i < l.length → (tri l)[i * 3]? = some (.int .i64 (kd l i).a) ∧ (tri l)[i * 3 + 1]? = some (.int .i64 (kd l i).n) ∧ (tri l)[i * 3 + 2]? = some (.int .i64 (kd l i).g)
  | [], i, h => by simp at h
  | k :: l, 0, h => ⟨rfl, rfl, rfl⟩
  | k :: l, i + 1, h => by
    have := tri_get l i (by simpa using h)
    have e : ∀ j, (tri (k :: l))[3 + j]? = (tri l)[j]? := fun j => by
      show (kcells k ++ tri l)[3 + j]? = _
      rw [List.getElem?_append_right (by simp [kcells])]
      simp [kcells]
    have e0 : kd (k :: l) (i + 1) = kd l i := by simp [kd]
    rw [show (i + 1) * 3 = 3 + i * 3 by omega, show 3 + i * 3 + 1 = 3 + (i * 3 + 1) by omega, show 3 + i * 3 + 2 = 3 + (i * 3 + 2) by omega, e, e, e, e0]
    exact this
theorem ints_get (l : List Int) (i : Nat) (h : i < l.length) : (ints .i64 l)[i]? = some (.int .i64 (kz l i)) := by
  rw [ints_at _ _ _ h]; simp [kz, List.getElem?_eq_getElem h]
theorem ints_append (a b : List Int) : ints .i64 (a ++ b) = ints .i64 a ++ ints .i64 b := by simp [ints]
theorem kz_eq {l : List Int} {i : Nat} (h : i < l.length) : kz l i = l[i] := by simp [kz, List.getElem?_eq_getElem h]
theorem kd_eq {l : List Kd} {i : Nat} (h : i < l.length) : kd l i = l[i] := by simp [kd, List.getElem?_eq_getElem h]

/-- Its lists are read. -/
structure Vs (w : World) (S : Nat → Prop) (q : Ptr) (x : Nd) : Prop where
  k : View w S 1 (.slice q.A1 x.ks.length q.c1) x.ks.length (ints .i64 x.ks)
  p : View w S 3 (.slice q.A2 x.ps.length q.c2) x.ps.length (tri x.ps)
  g : View w S 1 (.slice q.A3 x.gs.length q.c3) x.gs.length (ints .i64 x.gs)
  d : View w S 3 (.slice q.A4 x.ds.length q.c4) x.ds.length (tri x.ds)
theorem Vs.mono {w : World} {S S' : Nat → Prop} {q : Ptr} {x : Nd} (h : Vs w S q x) (hs : ∀ k, S k → S' k) : Vs w S' q x := ⟨h.k.mono hs, h.p.mono hs, h.g.mono hs, h.d.mono hs⟩
theorem Vs.bd {w : World} {S : Nat → Prop} {q : Ptr} {x : Nd} (h : Vs w S q x) : Vs w (fun k => S k ∧ k < w.heap.size) q x := ⟨h.k.bd, h.p.bd, h.g.bd, h.d.bd⟩
theorem Vs.fr {w w1 : World} {S S1 : Nat → Prop} {q : Ptr} {x : Nd} (h : Vs w S q x) (hf : Fr S1 w w1) (hn : ∀ k, S k → k < w.heap.size → ¬ S1 k) : Vs w1 S q x := ⟨h.k.fr hf hn, h.p.fr hf hn, h.g.fr hf hn, h.d.fr hf hn⟩
theorem Vs.nil {w w1 : World} {S : Nat → Prop} {q : Ptr} {x : Nd} (h : Vs w S q x) (hf : Fr Nil w w1) : Vs w1 S q x := h.fr hf fun _ _ _ h => h

/-- An element of a list of numbers is read. -/
theorem int_at {w : World} {S : Nat → Prop} {A : Option Addr} {n c : Nat} {l : List Int} (h : View w S 1 (.slice A n c) n (ints .i64 l)) {i : Nat} (hi : i < n) :
    ∃ b o, A = some ⟨b, o, none⟩ ∧ S b ∧ b < w.heap.size ∧ w.cell? ⟨b, o + i, none⟩ = some (.int .i64 (kz l i)) := by
  obtain ⟨hl, A', c', e, _, _, _, _, h5⟩ := h
  injection e with ea _ ec
  subst ea; subst ec
  obtain ⟨b, o, hA, hS, hb, hc⟩ := h5 (by omega)
  exact ⟨b, o, hA, hS, hb, hc i _ (ints_get l i (by rw [ints_length] at hl; omega))⟩
theorem kd_at {w : World} {S : Nat → Prop} {A : Option Addr} {n c : Nat} {l : List Kd} (h : View w S 3 (.slice A n c) n (tri l)) {i : Nat} (hi : i < n) :
    ∃ b o, A = some ⟨b, o, none⟩ ∧ S b ∧ b < w.heap.size ∧ w.cell? ⟨b, o + i * 3, none⟩ = some (.int .i64 (kd l i).a) ∧ w.cell? ⟨b, o + i * 3 + 1, none⟩ = some (.int .i64 (kd l i).n) ∧ w.cell? ⟨b, o + i * 3 + 2, none⟩ = some (.int .i64 (kd l i).g) := by
  obtain ⟨hl, A', c', e, _, _, _, _, h5⟩ := h
  injection e with ea _ ec
  subst ea; subst ec
  obtain ⟨b, o, hA, hS, hb, hc⟩ := h5 (by omega)
  have hl2 : i < l.length := by rw [tri_length] at hl; omega
  obtain ⟨g0, g1, g2⟩ := tri_get l i hl2
  exact ⟨b, o, hA, hS, hb, hc _ _ g0, hc _ _ g1, hc _ _ g2⟩

theorem ints_cells {w : World} {S : Nat → Prop} {A : Option Addr} {n c : Nat} {l : List Int} (h : View w S 1 (.slice A n c) n (ints .i64 l)) (h0 : 0 < n) :
    ∃ b o, A = some ⟨b, o, none⟩ ∧ S b ∧ b < w.heap.size ∧ ∀ i, i < n → w.cell? ⟨b, o + i, none⟩ = some (.int .i64 (kz l i)) := by
  obtain ⟨b, o, hA, hS, hb, _⟩ := int_at h h0
  refine ⟨b, o, hA, hS, hb, fun i hi => ?_⟩
  obtain ⟨b', o', hA', _, _, hc⟩ := int_at h hi
  rw [hA] at hA'
  injection hA' with hA'
  injection hA' with h1 h2
  rw [h1, h2]; exact hc
/-! ### what may be -/
def lOk (a n g : Int) : Prop := (0 ≤ a ∧ a ≤ 8191) ∧ (1 ≤ n ∧ n ≤ 128) ∧ a + n ≤ 8192 ∧ (0 ≤ g ∧ g ≤ 268435455)
def eOk (k : Kd) (g : Int) : Prop := lOk k.a k.n g ∧ (0 ≤ k.g ∧ k.g ≤ 7)
def kOk (ks : List Int) (i : Nat) : Prop := (0 ≤ kz ks i ∧ kz ks i ≤ 511) ∧ (0 < i → kz ks (i - 1) < kz ks i)
def keysOk (ks : List Int) : Prop := ks.length ≤ 8 ∧ ∀ i, i < ks.length → kOk ks i
def leafOk (x : Nd) : Prop := x.ps.length = x.ks.length ∧ x.gs.length = x.ks.length ∧ x.ds.length = 0 ∧ ∀ i, i < x.ks.length → eOk (kd x.ps i) (kz x.gs i)
def innerOk (x : Nd) : Prop := 0 < x.ks.length ∧ x.ds.length = x.ks.length ∧ x.ps.length = 0 ∧ x.gs.length = 0 ∧ ∀ i, i < x.ks.length → lOk (kd x.ds i).a (kd x.ds i).n (kd x.ds i).g
def MayNd (x : Nd) : Prop := (0 ≤ x.h ∧ x.h ≤ 5) ∧ keysOk x.ks ∧ (x.h = 0 → leafOk x) ∧ (x.h ≠ 0 → innerOk x)
instance (a n g : Int) : Decidable (lOk a n g) := by unfold lOk; infer_instance
instance (k : Kd) (g : Int) : Decidable (eOk k g) := by unfold eOk; infer_instance
instance (ks : List Int) (i : Nat) : Decidable (kOk ks i) := by unfold kOk; infer_instance
instance (ks : List Int) : Decidable (keysOk ks) := by unfold keysOk; infer_instance
instance (x : Nd) : Decidable (leafOk x) := by unfold leafOk; infer_instance
instance (x : Nd) : Decidable (innerOk x) := by unfold innerOk; infer_instance
instance (x : Nd) : Decidable (MayNd x) := by unfold MayNd; infer_instance
end Go.Proofs.Ytgoghmblfdlnbaa.nd
end

section
/- The contracts of cell.Writer: Num, Bytes, Out. Conditions: the writer is a block of the program's own. -/
set_option linter.unusedSimpArgs false
set_option linter.unusedVariables false
namespace Go.Proofs.Ytgoghmblfdlnbaa.nd
open Go.RowKit

theorem info_u8 : (Try.prog.info? 5).map (fun i => (i.zero, i.size, i.bytes)) = some (some (.int .u8 0), 1, 1) := by kernel_rfl

@[go_sem] theorem conv_str (w : World) (s : ByteArray) : (convert 9 22 (.string s)).run Try.prog w = .ok (.slice (some ⟨w.heap.size, 0, none⟩) s.size (grownCap w s.size 0 5)) (strW w 5 s) :=
  run_str_bytes w s Try.underlying9 Try.underlying22 Try.underlying5

/-- A Writer at block pb that has written xs; its blocks are among S. -/
def IsW (w : World) (S : Nat → Prop) (pb : Nat) (xs : List Nat) : Prop :=
  S pb ∧ ∃ v, Blk w pb #[v] 115 ∧ Row w S 5 1 v xs.length (bys xs)

/-- x = append(x, u) of a byte, its cell just made. -/
theorem app_u8 {ops : Array Oper} {rest : List Oper} {o : Oper} {a : Act} {Q : Exit → Act → World → Prop} {w : World} {S : Nat → Prop} {v : Value} {xs : List Nat} (hgd : o.guard = none) (x y : Operand)
    (ho : o.op = .call { callee := .builtin .append, args := #[x, y], argTypes := #[22, 22] }) (u : Int) (n : Nat) (hu : u = n)
    (hrow : Row w S 5 1 v xs.length (bys xs)) (hs : a.eval x = v) (hx : a.eval y = .slice (some ⟨w.heap.size, 0, none⟩) 1 1) (hb : xs.length < 1000000000)
    (h : Stop (∀ g cap w', Row w' (fun k => k = g) 5 1 (.slice (some ⟨g, 0, none⟩) (xs.length + 1) cap) (xs.length + 1) (bys (xs ++ [n])) → (v.ownBlock = some g ∨ w.heap.size ≤ g) → Fr (fun k => v.ownBlock = some k) w w' → g < w'.heap.size →
      wpList Try.prog ops Q rest (a.put o.dst (.slice (some ⟨g, 0, none⟩) (xs.length + 1) cap)) w') .mk) : wpList Try.prog ops Q (o :: rest) a (w.alloc (.cells #[.int .u8 u] 5)) := by
  subst hu
  refine wp_app hgd x y 22 ho (.int .u8 0) 1 Try.underlying22 info_u8 rfl (by decide) (hrow.alloc _) hs _ 1 1 [.int .u8 n] hx (by decide) rfl (cell_one_new _ _ _) (by simp [Value.oneCell']) (by omega) (by decide) ?_
  intro g cap w' h1 h2 h3 h4 _
  rw [← bys_one] at h1
  refine h g cap w' h1 (h2.imp id fun h => by simp at h; omega) ?_ h4
  exact ((Fr.refl _ w).alloc _).trans h3 (fun _ h => .inl h)

theorem IsW.mono {w : World} {S S' : Nat → Prop} {pb : Nat} {xs : List Nat} (h : IsW w S pb xs) (hs : ∀ k, S k → S' k) : IsW w S' pb xs :=
  ⟨hs _ h.1, h.2.elim fun v h => ⟨v, h.1, h.2.mono hs⟩⟩
theorem IsW.fr {w w1 : World} {S S1 : Nat → Prop} {pb : Nat} {xs : List Nat} (h : IsW w S pb xs) (hf : Fr S1 w w1) (hn : ∀ k, S k → ¬ S1 k) : IsW w1 S pb xs :=
  ⟨h.1, h.2.elim fun v h' => ⟨v, h'.1.fr hf (hn _ h.1), h'.2.frS hf hn⟩⟩

/-- Its blocks are there. -/
theorem IsW.bd {w : World} {S : Nat → Prop} {pb : Nat} {xs : List Nat} (h : IsW w S pb xs) : IsW w (fun k => S k ∧ k < w.heap.size) pb xs :=
  ⟨⟨h.1, h.2.elim fun v h' => h'.1.lt⟩, h.2.elim fun v h' => ⟨v, h'.1, h'.2.1, fun k hk => ⟨h'.2.2 k hk, h'.2.lt k hk⟩⟩⟩
/-- A row that was appended to is stored back. -/
theorem stored_view {w w1 w2 : World} {S : Nat → Prop} {pb n' cap n : Nat} {A : Option Addr} {v : Value} {xs ys : List Nat} (hl : ys.length = n') (hfr : Fr S w w1) (hSp : Grow w S pb) (hb : Blk w1 pb #[v] 115) (hrow : Row w1 (Grow w S) 5 1 v n (bys xs))
    (h1 : Row w2 (fun k => v.ownBlock = some k ∨ w1.heap.size ≤ k) 5 1 (.slice A n' cap) n' (bys ys)) (h3 : Fr (fun k => v.ownBlock = some k) w1 w2) :
    w2.cell? ⟨pb, 0, none⟩ = some v ∧ w2.frozen? ⟨pb, 0, none⟩ = false ∧ IsW (w2.setCell ⟨pb, 0, none⟩ (.slice A n' cap)) (Grow w S) pb ys ∧ Fr S w (w2.setCell ⟨pb, 0, none⟩ (.slice A n' cap)) := by
  subst hl
  have hne := hrow.apart_blk hb (by decide)
  have hb2 := hb.fr h3 hne
  have hf : Fr S w w2 := hfr.trans h3 (fun k hk => hrow.2 k hk)
  refine ⟨hb2.cell 0, hb2.frozen 0, ⟨hSp, _, hb2.set 0 _, ?_⟩, hf.setCell (a := ⟨pb, 0, none⟩) hSp _⟩
  exact (h1.setCell (h1.apart_blk hb2 (by decide)) _).mono (fun k hk => hk.elim (fun h => hrow.2 k h) (fun h => .inr (Nat.le_trans hfr.size h)))
theorem stored_row {w w1 w2 : World} {S : Nat → Prop} {pb g n' cap n : Nat} {v : Value} {xs ys : List Nat} (hl : ys.length = n') (hfr : Fr S w w1) (hSp : Grow w S pb) (hb : Blk w1 pb #[v] 115) (hrow : Row w1 (Grow w S) 5 1 v n (bys xs))
    (h1 : Row w2 (fun k => k = g) 5 1 (.slice (some ⟨g, 0, none⟩) n' cap) n' (bys ys)) (h2 : v.ownBlock = some g ∨ w1.heap.size ≤ g) (h3 : Fr (fun k => v.ownBlock = some k) w1 w2) :
    w2.cell? ⟨pb, 0, none⟩ = some v ∧ w2.frozen? ⟨pb, 0, none⟩ = false ∧ IsW (w2.setCell ⟨pb, 0, none⟩ (.slice (some ⟨g, 0, none⟩) n' cap)) (Grow w S) pb ys ∧ Fr S w (w2.setCell ⟨pb, 0, none⟩ (.slice (some ⟨g, 0, none⟩) n' cap)) :=
  stored_view hl hfr hSp hb hrow (h1.mono fun k hk => by rw [hk]; exact h2) h3

set_option maxRecDepth 100000 in
set_option maxHeartbeats 800000 in
theorem num_ok (S : Nat → Prop) (pb : Nat) (xs : List Nat) (x : Nat) (h1 : x < 268435456) (hx : xs.length ≤ 1000000) (w : World) (hW : IsW w S pb xs) :
    Calls Try.prog 50 #[.pointer (some ⟨pb, 0, none⟩), .int .i64 x] w fun e w' => e = .returned (.tuple #[]) ∧ Fr S w w' ∧ IsW w' (Grow w S) pb (xs ++ enc x) := by
  have hA : decide ((268435456 : Int) ≤ (x : Int)) = false := by simp; omega
  have hB : decide ((x : Int) < 0) = false := by simp
  go_enter Try.func50, Try.ntmps50
  go_wp2_with fail
  go_loopw [1] (fun xv wr => ∃ (x' : Nat) (xs' : List Nat), xv = .int .i64 x' ∧ IsW wr (Grow w S) pb xs' ∧ Fr S w wr ∧ xs' ++ enc x' = xs ++ enc x ∧ xs'.length + x' ≤ xs.length + x) (fun xv _ => (intOf xv).toNat)
  case atStart => exact ⟨x, xs, rfl, ⟨.inl hW.1, hW.2.elim fun v h => ⟨v, h.1, h.2.mono fun _ h => .inl h⟩⟩, Fr.refl _ _, rfl, Nat.le_refl _⟩
  case round =>
    obtain ⟨x', xs', rfl, ⟨hSp, v, hb, hrow⟩, hfr, heq, hle⟩ := hrel
    have Heq := hid heq; clear heq
    have hc : wr.cell? ⟨pb, 0, none⟩ = some v := hb.cell 0
    have hf := hb.frozen 0
    by_cases hlt : x' < 128
    · go_wp2_with (at_builtin; refine app_u8 rfl _ _ rfl _ x' rfl hrow rfl rfl (by omega) ?_)
      intro g cap w' r1 r2 r3 _
      obtain ⟨c1, f1, i1, i2⟩ := stored_row (by simp) hfr hSp hb hrow r1 r2 r3
      go_wp2
      go_end0
      refine ⟨rfl, ?_, ?_⟩
      · exact i2
      · rw [← Heq.out, enc_lo hlt]; exact i1
    · go_wp2_with (at_builtin; refine app_u8 rfl _ _ rfl _ (x' % 128 + 128) (or128 x') hrow rfl rfl (by omega) ?_)
      intro g cap w' r1 r2 r3 _
      obtain ⟨c1, f1, i1, i2⟩ := stored_row (by simp) hfr hSp hb hrow r1 r2 r3
      go_wp2
      go_roundw
      case rel =>
        exact ⟨x' / 128, xs' ++ [x' % 128 + 128], by go_num, i1, i2, (enc_step xs' hlt).trans Heq.out, by simp; omega⟩
      case measure => simp [intOf]; omega

/-- A number that may not be: it panics, and nothing has turned. -/
theorem num_bad (p : Option Addr) (x : Int) (h1 : x < 0 ∨ 268435456 ≤ x) (w : World) :
    Calls Try.prog 50 #[.pointer p, .int .i64 x] w fun e w' => (∃ v, e = .panicked [{ v := .iface 9 v, recovered := false }]) ∧ w = w' := by
  by_cases h0 : x < 0
  · go_enter Try.func50, Try.ntmps50
    go_wp2
    exact ⟨rfl, ⟨_, rfl⟩, rfl⟩
  · have h2 : 268435456 ≤ x := by omega
    go_enter Try.func50, Try.ntmps50
    go_wp2
    exact ⟨rfl, ⟨_, rfl⟩, rfl⟩

/-- bytes.Clone: a copy of its own; nil stays nil. -/
theorem clone_ok (S : Nat → Prop) (v : Value) (n : Nat) (xs : List Nat) (hn : n < 1000000000) (w : World) (hv : View w S 1 v n (bys xs)) :
    Calls Try.prog 44 #[v] w fun e w' => ∃ A c, e = .returned (.slice A n c) ∧ Row w' (New w) 5 1 (.slice A n c) n (bys xs) ∧ Fr Nil w w' ∧ (A = none ↔ v = .slice none 0 0) := by
  have hv0 := hv
  obtain ⟨hl, A, c, rfl, e1, e2, e3, e4, e5⟩ := hv
  cases A with
  | none =>
    obtain rfl := e3 rfl
    obtain rfl : n = 0 := by omega
    have hx : bys xs = [] := List.eq_nil_of_length_eq_zero (by simpa using hl)
    go_enter Try.func44, Try.ntmps44
    go_wp2
    go_ret
    exact ⟨none, 0, rfl, Row.nil _ _ _ _, Fr.refl _ _, by simp⟩
  | some ad =>
    go_enter Try.func44, Try.ntmps44
    go_wp2_with (at_builtin; refine wp_app_view rfl _ _ 22 rfl (.int .u8 0) 1 Try.underlying22 info_u8 rfl (by decide) (Row.made w #[] 5 1 0 0 rfl (Nat.le_refl _) (by decide)) rfl (hv0.alloc _) rfl (bys_cell _) (by omega) (by decide) ?_)
    intro A cap w' r1 r2 r3
    have r4 : Row w' (New w) 5 1 (.slice A (0 + n) cap) (0 + n) (bys xs) := by
      refine Row.mono (by simpa using r1) fun k hk => ?_
      rcases hk with hk | hk
      · simp [Value.ownBlock] at hk
        unfold New; omega
      · unfold New; omega
    have r5 : Fr Nil w w' := ((Fr.refl Nil w).alloc _).trans r2 (fun k hk => by simp [Value.ownBlock] at hk; exact .inr (by omega))
    have r6 : A = none ↔ Value.slice (some ad) n c = .slice none 0 0 := by
      constructor
      · intro hA; exact absurd (r3.1 hA).1 (by simp)
      · intro hA; simp at hA
    clear r1 r2 r3
    rw [Nat.zero_add] at r4 ⊢
    have R6 := hid r6; clear r6
    go_wp2
    go_ret
    exact ⟨A, cap, rfl, r4, r5, R6.out⟩

/-- Writer.Out: a copy. -/
theorem out_ok (S : Nat → Prop) (pb : Nat) (xs : List Nat) (hx : xs.length ≤ 100000000) (w : World) (hW : IsW w S pb xs) :
    Calls Try.prog 51 #[.pointer (some ⟨pb, 0, none⟩)] w fun e w' => ∃ A c, e = .returned (.slice A xs.length c) ∧ Row w' (New w) 5 1 (.slice A xs.length c) xs.length (bys xs) ∧ Fr Nil w w' := by
  obtain ⟨hSp, v1, hb, hrow⟩ := hW
  have hc : w.cell? ⟨pb, 0, none⟩ = some v1 := hb.cell 0
  go_enter Try.func51, Try.ntmps51
  go_wp2_with fail
  refine (clone_ok S v1 xs.length xs (by omega) w hrow.view).mono ?_
  rintro e w1 ⟨A, c, rfl, r1, r2, r3⟩
  go_wp2
  go_ret
  exact ⟨A, c, rfl, r1, r2⟩
end Go.Proofs.Ytgoghmblfdlnbaa.nd
end

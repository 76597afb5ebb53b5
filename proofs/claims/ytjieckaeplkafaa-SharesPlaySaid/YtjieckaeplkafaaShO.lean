/- Shares: the argument []Deed opened; what the laws read of a number. -/
import Derived.Test.YtjieckaeplkafaaShG
import Derived.Test.YtjieckaeplkafaaOpen
import Derived.Laws.BitsAllLaws
set_option linter.unusedSimpArgs false
set_option linter.unusedVariables false
namespace Go.Proofs.Ytjieckaeplkafaa
open Go.RowKit Go.ChangeShapes Go.WideShapes Go.Deep
theorem u8_and3 (z : Nat) (h : z < 256) : bits .and .u8 (z : Int) 3 = ((z % 4 : Nat) : Int) := by
  have h1 := u8_and_nat z 3 h (by omega)
  rw [show z &&& 3 = z % 4 from Nat.and_two_pow_sub_one_eq_mod z 2] at h1
  exact h1
theorem i64_and3 (n : Int) : bits .and .i64 n 3 = n % 4 := by
  have h28 : (BitVec.ofInt 64 3).toNat = 2 ^ 2 - 1 := by decide
  have key : (BitVec.ofInt 64 n &&& BitVec.ofInt 64 3).toNat = (n % ((2 ^ 64 : Nat) : Int)).toNat % 2 ^ 2 := by
    rw [BitVec.toNat_and, BitVec.toNat_ofInt, h28, Nat.and_two_pow_sub_one_eq_mod]
  show IntKind.i64.wrap ((BitVec.ofInt 64 n &&& BitVec.ofInt 64 3).toNat : Nat) = n % 4
  rw [key, IntKind.wrap_i64]
  omega
theorem and3_nat (n : Int) : bits .and .i64 n 3 = (((n % 4).toNat : Nat) : Int) := by rw [i64_and3]; omega
theorem intK {k : IntKind} {w : World} {S : Nat → Prop} {A : Option Addr} {n c : Nat} {l : List Int} (h : View w S 1 (.slice A n c) n (ints k l)) {i : Nat} (hi : i < n) :
    ∃ b o, A = some ⟨b, o, none⟩ ∧ S b ∧ b < w.heap.size ∧ w.cell? ⟨b, o + i, none⟩ = some (.int k (l.getD i 0)) := by
  obtain ⟨hl, A', c', e, _, _, _, _, h5⟩ := h
  injection e with ea _ ec
  subst ea; subst ec
  obtain ⟨b, o, hA, hS, hb, hc⟩ := h5 (by omega)
  have hl' : i < l.length := by rw [ints_length] at hl; omega
  exact ⟨b, o, hA, hS, hb, hc _ _ (by rw [ints_at _ _ _ hl']; simp [List.getElem?_eq_getElem hl'])⟩
theorem Inv.usesLe {bl N : Nat} {U L H : List Us} {A l : List Rn} (h : Inv bl N U L H A l) (i : Int) : usesI U i ≤ N := by
  by_cases h0 : usesI U i = 0
  · omega
  · have := (h.ku _ (ux_pos h0).2.2).2
    rw [usesI_ux]; exact this
/-- A deed. -/
structure Ded where
  d : Int
  a : Int
  n : Int
def DedAt (w : World) (b o : Nat) (p : Ded) : Prop :=
  w.cell? ⟨b, o, none⟩ = some (.int .i64 p.d) ∧ w.cell? ⟨b, o + 1, none⟩ = some (.int .i64 p.a) ∧ w.cell? ⟨b, o + 2, none⟩ = some (.int .i64 p.n) ∧
    (-9223372036854775808 ≤ p.d ∧ p.d < 9223372036854775808) ∧ (-9223372036854775808 ≤ p.a ∧ p.a < 9223372036854775808) ∧ (-9223372036854775808 ≤ p.n ∧ p.n < 9223372036854775808)
def Deds (w : World) (S : Nat → Prop) (v : Value) (n : Nat) (ps : List Ded) : Prop :=
  ps.length = n ∧ ∃ A c, v = .slice A n c ∧ n ≤ 9223372036854775807 ∧ (0 < n → ∃ b o, A = some ⟨b, o, none⟩ ∧ S b ∧ b < w.heap.size ∧ ∀ i p, ps[i]? = some p → DedAt w b (o + i * 3) p)
theorem choose_lt {α : Type} [Inhabited α] {n : Nat} {p : Nat → α → Prop} (h : ∀ i, i < n → ∃ a, p i a) : ∃ f : Nat → α, ∀ i, i < n → p i (f i) :=
  ⟨fun i => if hi : i < n then Classical.choose (h i hi) else default, fun i hi => by dsimp only; rw [dif_pos hi]; exact Classical.choose_spec (h i hi)⟩
instance : Inhabited Ded := ⟨⟨0, 0, 0⟩⟩
set_option maxRecDepth 20000 in
theorem open_deeds {H : Type} {enc : TypeId × Value → H} {W : World} {base : Nat} {v : Value} {d : DataW H} {p : List MemPlace} (hv : Value.okWide Try.prog W .any base 41 v)
    (h : DataW.Trod enc Try.prog W 0 (fun _ => true) true 41 v d p) : ∃ n ps, Deds W (fun k => k < W.heap.size) v n ps := by
  obtain ⟨A, len, cap, rfl⟩ := okWide_slice Try.underlying41 hv
  obtain ⟨A', len', cap', e, cells, hview, hf⟩ := open_recs Try.underlying41 Try.underlying43 (by kernel_rfl) (by kernel_rfl) (by decide) ⟨A, len, cap, rfl⟩ h
  injection e with ea el ec
  subst ea; subst el; subst ec
  have hone : ∀ i, i < len → ∃ q : Ded, (cells[i * 3]? = some (.int .i64 q.d) ∧ cells[i * 3 + 1]? = some (.int .i64 q.a) ∧ cells[i * 3 + 2]? = some (.int .i64 q.n) ∧
      (-9223372036854775808 ≤ q.d ∧ q.d < 9223372036854775808) ∧ (-9223372036854775808 ≤ q.a ∧ q.a < 9223372036854775808) ∧ (-9223372036854775808 ≤ q.n ∧ q.n < 9223372036854775808)) := by
    intro i hi
    obtain ⟨u0, n0, y0, hu0, hy0⟩ := hf i hi 0 _ rfl
    obtain ⟨u1, n1, y1, hu1, hy1⟩ := hf i hi 1 _ rfl
    obtain ⟨u2, n2, y2, hu2, hy2⟩ := hf i hi 2 _ rfl
    obtain ⟨d0, e0, _, w0⟩ := DataW.trod_int Try.underlying3 hy0
    obtain ⟨d1, e1, _, w1⟩ := DataW.trod_int Try.underlying3 hy1
    obtain ⟨d2, e2, _, w2⟩ := DataW.trod_int Try.underlying3 hy2
    simp only [List.cons.injEq, and_true] at e0 e1 e2
    subst e0; subst e1; subst e2
    exact ⟨⟨d0, d1, d2⟩, hu0, hu1, hu2, bounds_i64 w0, bounds_i64 w1, bounds_i64 w2⟩
  obtain ⟨f, hfn⟩ := choose_lt hone
  refine ⟨len, (List.range len).map f, by simp, A, cap, rfl, hview.le, fun hn => ?_⟩
  obtain ⟨_, A3, c3, e3, _, _, _, _, h5⟩ := hview
  injection e3 with ea _ ec
  subst ea; subst ec
  obtain ⟨b, o, rfl, hb, _, hc⟩ := h5 hn
  refine ⟨b, o, rfl, hb, hb, fun i q hi => ?_⟩
  have hil : i < len := by
    have := (List.getElem?_eq_some_iff.1 hi).1
    simpa using this
  have hq : f i = q := by
    rw [List.getElem?_map, List.getElem?_range hil] at hi
    simpa using hi
  obtain ⟨g0, g1, g2, g3⟩ := hfn i hil
  rw [hq] at g0 g1 g2 g3
  exact ⟨hc _ _ g0, hc _ _ g1, hc _ _ g2, g3⟩
theorem ded_at {w : World} {S : Nat → Prop} {A : Option Addr} {n c : Nat} {ps : List Ded} (h : Deds w S (.slice A n c) n ps) {i : Nat} (hi : i < n) : ∃ b o, A = some ⟨b, o, none⟩ ∧ S b ∧ b < w.heap.size ∧ DedAt w b (o + i * 3) (ps.getD i ⟨0, 0, 0⟩) := by
  obtain ⟨hl, A', c', e, _, h5⟩ := h
  injection e with ea _ ec
  subst ea; subst ec
  obtain ⟨b, o, hA, hS, hb, hc⟩ := h5 (by omega)
  exact ⟨b, o, hA, hS, hb, hc i _ (by simp [List.getElem?_eq_getElem (show i < ps.length by omega)])⟩
theorem Deds.fr {w w1 : World} {S S1 : Nat → Prop} {v : Value} {n : Nat} {ps : List Ded} (h : Deds w S v n ps) (hf : Fr S1 w w1) (hn : ∀ k, S k → k < w.heap.size → ¬ S1 k) : Deds w1 S v n ps := by
  obtain ⟨hl, A, c, e, hle, h5⟩ := h
  refine ⟨hl, A, c, e, hle, fun h0 => ?_⟩
  obtain ⟨b, o, hA, hS, hb, hc⟩ := h5 h0
  refine ⟨b, o, hA, hS, Nat.lt_of_lt_of_le hb hf.size, fun i p hp => ?_⟩
  obtain ⟨g0, g1, g2, g3⟩ := hc i p hp
  exact ⟨hf.cell g0 (hn b hS hb), hf.cell g1 (hn b hS hb), hf.cell g2 (hn b hS hb), g3⟩
theorem Deds.slice {w : World} {S : Nat → Prop} {v : Value} {n : Nat} {ps : List Ded} (h : Deds w S v n ps) : ∃ A c, v = .slice A n c := by
  obtain ⟨hl, A, c, e, _⟩ := h
  exact ⟨A, c, e⟩
end Go.Proofs.Ytjieckaeplkafaa

/- The argument []Deed opened. -/
import Derived.Test.YtidjmjfoheagmaaQPdG
import Derived.Deep.Grids
import Derived.Test.YtidjmjfoheagmaaOpen
set_option linter.unusedSimpArgs false
set_option linter.unusedVariables false
namespace Go.Proofs.Ytidjmjfoheagmaa
open Go.RowKit Go.ChangeShapes Go.WideShapes Go.Deep
theorem choose_lt9 {α : Type} [Inhabited α] {n : Nat} {p : Nat → α → Prop} (h : ∀ i, i < n → ∃ a, p i a) : ∃ f : Nat → α, ∀ i, i < n → p i (f i) :=
  ⟨fun i => if hi : i < n then Classical.choose (h i hi) else default, fun i hi => by dsimp only; rw [dif_pos hi]; exact Classical.choose_spec (h i hi)⟩
section
variable {H : Type} {enc : TypeId × Value → H} {W : World}
/-- A []bool in a field. -/
theorem open_flag {u : Value} {n : Nat} {y : DataW H × List MemPlace} (h : DataW.trod enc Try.prog W 0 (fun _ => true) true n 23 [u] = some y) :
    ∃ A m c ks, u = .slice A m c ∧ View W (fun k => k < W.heap.size) 1 (.slice A m c) m (bools ks) := by
  rcases Go.Deep.open_bools Try.underlying23 Try.underlying4 (by kernel_rfl) h with ⟨hcs, _⟩ | ⟨a, l, c, B, hcs, _, hl, hm, _, hcell⟩
  · simp at hcs
    subst hcs
    exact ⟨none, 0, 0, [], rfl, View.nil _ _ _⟩
  · simp at hcs
    subst hcs
    have hsp : 0 < c → a.spot = none := fun hc => by
      have := hcell 0 hc
      unfold World.cell? at this
      split at this
      · cases hs : a.spot with
        | none => rfl
        | some s => simp [Addr.add, hs] at this
      · cases this
    refine ⟨some a, l, c, (List.range l).map B, rfl, by simp [bools], _, _, rfl, hl, hm, fun h => (by cases h), fun ad had hc => (by injection had with had; rw [← had]; exact hsp hc), fun hn => ?_⟩
    obtain ⟨b, o, sp⟩ := a
    obtain rfl : sp = none := hsp (by omega)
    refine ⟨b, o, rfl, ?_, ?_, fun j u hu => ?_⟩
    · exact World.block_lt_of_cell? W _ (by have := hcell 0 (by omega); rw [Addr.add_lit] at this; exact this)
    · exact World.block_lt_of_cell? W _ (by have := hcell 0 (by omega); rw [Addr.add_lit] at this; exact this)
    · have hj := (List.getElem?_eq_some_iff.1 hu).1
      simp only [bools, List.length_map, List.length_range] at hj
      have := hcell j (by omega)
      rw [Addr.add_lit] at this
      rw [this, ← hu]
      simp [bools, hj]
/-- A list of faults in a field. -/
theorem open_faults {u : Value} {n : Nat} {y : DataW H × List MemPlace} (h : DataW.trod enc Try.prog W 0 (fun _ => true) true n 53 [u] = some y) :
    ∃ A m c fl, u = .slice A m c ∧ m = fl.length ∧ View W (fun k => k < W.heap.size) 2 (.slice A m c) m (flatF fl) := by
  have hsl : ∃ A len cap, u = .slice A len cap := by
    rcases open_slice Try.underlying53 h with ⟨hcs, _⟩ | ⟨a, len', cap', m, n, D, Pl, hcs, _⟩
    · simp at hcs; exact ⟨none, 0, 0, hcs⟩
    · simp at hcs; exact ⟨_, _, _, hcs⟩
  obtain ⟨A, len, cap, rfl⟩ := hsl
  obtain ⟨A', len', cap', e, cells, hview, hf⟩ := open_recs Try.underlying53 Try.underlying89 (by kernel_rfl) (by kernel_rfl) (by decide) ⟨A, len, cap, rfl⟩ ⟨n, h⟩
  injection e with ea el ec
  subst ea; subst el; subst ec
  have hone : ∀ i, i < len → ∃ q : Int × Int, cells[i * 2]? = some (.int .i64 q.1) ∧ cells[i * 2 + 1]? = some (.int .i64 q.2) := by
    intro i hi
    obtain ⟨u0, n0, y0, hu0, hy0⟩ := hf i hi 0 _ rfl
    obtain ⟨u1, n1, y1, hu1, hy1⟩ := hf i hi 1 _ rfl
    obtain ⟨d0, e0, _, w0⟩ := DataW.trod_int Try.underlying3 hy0
    obtain ⟨d1, e1, _, w1⟩ := DataW.trod_int Try.underlying3 hy1
    simp only [List.cons.injEq, and_true] at e0 e1
    subst e0; subst e1
    exact ⟨(d0, d1), hu0, hu1⟩
  obtain ⟨f, hfn⟩ := choose_lt9 hone
  refine ⟨A, len, cap, (List.range len).map f, rfl, by simp, ?_⟩
  have hcl : cells.length = len * 2 := hview.length
  have he : cells = flatF ((List.range len).map f) := by
    have hfl : (flatF ((List.range len).map f)).length = len * 2 := by
      have : ∀ l : List (Int × Int), (flatF l).length = l.length * 2 := fun l => by
        induction l with
        | nil => rfl
        | cons q l ih =>
          show ([Value.int .i64 q.1, Value.int .i64 q.2] ++ flatF l).length = _
          rw [List.length_append, ih]; simp; omega
      rw [this]; simp
    refine List.ext_getElem? fun j => ?_
    by_cases hj : j < len * 2
    · obtain ⟨i, hij⟩ : ∃ i, i = j / 2 := ⟨_, rfl⟩
      have hil : i < len := by omega
      obtain ⟨g0, g1⟩ := hfn i hil
      obtain ⟨k0, k1⟩ := flatF_at ((List.range len).map f) i (f i).1 (f i).2 (by rw [List.getElem?_map, List.getElem?_range hil]; rfl)
      by_cases hev : j = i * 2
      · rw [hev, g0, show i * 2 = 2 * i by omega, k0]
      · rw [show j = i * 2 + 1 by omega, g1, show i * 2 + 1 = 2 * i + 1 by omega, k1]
    · rw [List.getElem?_eq_none (by omega), List.getElem?_eq_none (by omega)]
  rw [← he]; exact hview
end
/-- What lies behind a deed's slices. -/
structure Dx where
  d : Dd
  Ak : Option Addr
  kl : Nat
  ck : Nat
  Af : Option Addr
  cf : Nat
instance : Inhabited Dx := ⟨⟨⟨0, 0, 0, 0, [], []⟩, none, 0, 0, none, 0⟩⟩
def DxV (w : World) (S : Nat → Prop) (x : Dx) : Prop :=
  (-9223372036854775808 ≤ x.d.n ∧ x.d.n < 9223372036854775808) ∧ x.d.b < 256 ∧ x.d.mask < 4294967296 ∧ View w S 1 (.slice x.Ak x.kl x.ck) x.kl (bools x.d.keep) ∧ View w S 2 (.slice x.Af x.d.fa.length x.cf) x.d.fa.length (flatF x.d.fa)
def DxAt (w : World) (b o : Nat) (x : Dx) : Prop :=
  w.cell? ⟨b, o, none⟩ = some (.int .i64 x.d.d) ∧ w.cell? ⟨b, o + 1, none⟩ = some (.int .i64 x.d.n) ∧ w.cell? ⟨b, o + 2, none⟩ = some (.int .u8 (x.d.b : Int)) ∧ w.cell? ⟨b, o + 3, none⟩ = some (.int .u32 (x.d.mask : Int)) ∧
    w.cell? ⟨b, o + 4, none⟩ = some (.slice x.Ak x.kl x.ck) ∧ w.cell? ⟨b, o + 5, none⟩ = some (.slice x.Af x.d.fa.length x.cf)
def Dxs (w : World) (S : Nat → Prop) (v : Value) (n : Nat) (xs : List Dx) : Prop :=
  xs.length = n ∧ ∃ A c, v = .slice A n c ∧ n ≤ 9223372036854775807 ∧ (0 < n → ∃ b o, A = some ⟨b, o, none⟩ ∧ S b ∧ b < w.heap.size ∧ ∀ i x, xs[i]? = some x → DxAt w b (o + i * 6) x ∧ DxV w S x)
theorem open_dxs {H : Type} {enc : TypeId × Value → H} {W : World} {base : Nat} {v : Value} {d : DataW H} {p : List MemPlace} (hv : Value.okWide Try.prog W .any base 49 v)
    (h : DataW.Trod enc Try.prog W 0 (fun _ => true) true 49 v d p) : ∃ n xs, Dxs W (fun k => k < W.heap.size) v n xs := by
  obtain ⟨A, len, cap, rfl⟩ := okWide_slice Try.underlying49 hv
  obtain ⟨A', len', cap', e, cells, hview, hf⟩ := open_recs Try.underlying49 Try.underlying55 (by kernel_rfl) (by kernel_rfl) (by decide) ⟨A, len, cap, rfl⟩ h
  injection e with ea el ec
  subst ea; subst el; subst ec
  have hone : ∀ i, i < len → ∃ x : Dx, (cells[i * 6]? = some (.int .i64 x.d.d) ∧ cells[i * 6 + 1]? = some (.int .i64 x.d.n) ∧ cells[i * 6 + 2]? = some (.int .u8 (x.d.b : Int)) ∧ cells[i * 6 + 3]? = some (.int .u32 (x.d.mask : Int)) ∧ cells[i * 6 + 4]? = some (.slice x.Ak x.kl x.ck) ∧ cells[i * 6 + 5]? = some (.slice x.Af x.d.fa.length x.cf)) ∧ DxV W (fun k => k < W.heap.size) x := by
    intro i hi
    obtain ⟨u0, n0, y0, hu0, hy0⟩ := hf i hi 0 _ rfl
    obtain ⟨u1, n1, y1, hu1, hy1⟩ := hf i hi 1 _ rfl
    obtain ⟨u2, n2, y2, hu2, hy2⟩ := hf i hi 2 _ rfl
    obtain ⟨u3, n3, y3, hu3, hy3⟩ := hf i hi 3 _ rfl
    obtain ⟨u4, n4, y4, hu4, hy4⟩ := hf i hi 4 _ rfl
    obtain ⟨u5, n5, y5, hu5, hy5⟩ := hf i hi 5 _ rfl
    obtain ⟨d0, e0, _, w0⟩ := DataW.trod_int Try.underlying3 hy0
    obtain ⟨d1, e1, _, w1⟩ := DataW.trod_int Try.underlying3 hy1
    obtain ⟨d2, e2, _, w2⟩ := DataW.trod_int Try.underlying5 hy2
    obtain ⟨d3, e3, _, w3⟩ := DataW.trod_int Try.underlying38 hy3
    obtain ⟨Ak, kl, ck, ks, e4, v4⟩ := open_flag hy4
    obtain ⟨Af, fl, cf, fa, e5, hfl, v5⟩ := open_faults hy5
    simp only [List.cons.injEq, and_true] at e0 e1 e2 e3
    subst e0; subst e1; subst e2; subst e3; subst e4; subst e5; subst hfl
    have b2 := bounds_u8 w2
    have b3 := bounds_u32 w3
    obtain ⟨k2, rfl⟩ : ∃ k : Nat, d2 = k := ⟨d2.toNat, by omega⟩
    obtain ⟨k3, rfl⟩ : ∃ k : Nat, d3 = k := ⟨d3.toNat, by omega⟩
    exact ⟨⟨⟨d0, d1, k2, k3, ks, fa⟩, Ak, kl, ck, Af, cf⟩, ⟨hu0, hu1, hu2, hu3, hu4, hu5⟩, bounds_i64 w1, by show k2 < 256; omega, by show k3 < 4294967296; omega, v4, v5⟩
  obtain ⟨f, hfn⟩ := choose_lt9 hone
  refine ⟨len, (List.range len).map f, by simp, A, cap, rfl, hview.le, fun hn => ?_⟩
  obtain ⟨_, A3, c3, e3, _, _, _, _, h5⟩ := hview
  injection e3 with ea _ ec
  subst ea; subst ec
  obtain ⟨b, o, rfl, hb, _, hc⟩ := h5 hn
  refine ⟨b, o, rfl, hb, hb, fun i x hi => ?_⟩
  have hil : i < len := by
    have := (List.getElem?_eq_some_iff.1 hi).1
    simpa using this
  have hq : f i = x := by
    rw [List.getElem?_map, List.getElem?_range hil] at hi
    simpa using hi
  obtain ⟨⟨g0, g1, g2, g3, g4, g5⟩, g6⟩ := hfn i hil
  rw [hq] at g0 g1 g2 g3 g4 g5 g6
  exact ⟨⟨hc _ _ g0, hc _ _ g1, hc _ _ g2, hc _ _ g3, hc _ _ g4, hc _ _ g5⟩, g6⟩
end Go.Proofs.Ytidjmjfoheagmaa

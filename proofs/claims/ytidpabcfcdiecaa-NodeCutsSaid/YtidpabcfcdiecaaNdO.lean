/- An argument that is a node (chapter 13), opened. -/
import Derived.Test.YtidpabcfcdiecaaNdB
import Derived.Test.YtidpabcfcdiecaaOpen
set_option linter.unusedSimpArgs false
set_option linter.unusedVariables false
namespace Go.Proofs.Ytidpabcfcdiecaa
open Go.RowKit Go.ChangeShapes Go.WideShapes Go.Deep

section
variable {H : Type} {enc : TypeId × Value → H} {P : Program} {w : World} {held : Bool}
/-- A struct of five one-cell fields. -/
theorem open_five {base : Nat} {spare : Nat → Bool} {r : Reach} {b0 : Nat} {t : TypeId} {f0 f1 f2 f3 f4 : Field} {v : Value} {d : DataW H} {p : List MemPlace} (hs : P.underlying t = some (.struct #[f0, f1, f2, f3, f4])) (hone : oneCellFields P #[f0, f1, f2, f3, f4] = true) (hC : P.cellsOf t = 5)
    (hv : Value.okWide P w r b0 t v) (h : DataW.Trod enc P w base spare held t v d p) :
    ∃ (v0 v1 v2 v3 v4 : Value) (y0 y1 y2 y3 y4 : DataW H × List MemPlace) (n : Nat), v = .agg #[v0, v1, v2, v3, v4] ∧
      DataW.trod enc P w base spare held n f0.type [v0] = some y0 ∧ DataW.trod enc P w base spare held n f1.type [v1] = some y1 ∧ DataW.trod enc P w base spare held n f2.type [v2] = some y2 ∧ DataW.trod enc P w base spare held n f3.type [v3] = some y3 ∧ DataW.trod enc P w base spare held n f4.type [v4] = some y4 := by
  obtain ⟨cs, rfl, hsz⟩ := okWide_struct hs hv
  obtain ⟨l⟩ := cs
  match l, hsz.trans hC with
  | [c0, c1, c2, c3, c4], _ =>
    obtain ⟨fuel, hf⟩ := h
    obtain ⟨xs, n, _, hx, _, hlen, hg⟩ := DataW.trod_struct hs hf
    obtain ⟨o0, k0⟩ := hone_of hone 0 f0 rfl
    obtain ⟨o1, k1⟩ := hone_of hone 1 f1 rfl
    obtain ⟨o2, k2⟩ := hone_of hone 2 f2 rfl
    obtain ⟨o3, k3⟩ := hone_of hone 3 f3 rfl
    obtain ⟨o4, k4⟩ := hone_of hone 4 f4 rfl
    match xs, hlen with
    | [y0, y1, y2, y3, y4], _ =>
      exact ⟨c0, c1, c2, c3, c4, y0, y1, y2, y3, y4, n, rfl, by simpa [Value.cells, o0, k0] using hg 0 f0 rfl, by simpa [Value.cells, o1, k1] using hg 1 f1 rfl, by simpa [Value.cells, o2, k2] using hg 2 f2 rfl, by simpa [Value.cells, o3, k3] using hg 3 f3 rfl, by simpa [Value.cells, o4, k4] using hg 4 f4 rfl⟩
/-- A []int in a field. -/
theorem open_intl {t e : TypeId} {u : Value} {n : Nat} {y : DataW H × List MemPlace} (ht : P.underlying t = some (.slice e)) (he : P.underlying e = some (.int .i64)) (hC : P.cellsOf e = 1) (h : DataW.trod enc P w 0 (fun _ => true) held n t [u] = some y) :
    ∃ (l : List Int) (A : Option Addr) (c : Nat), u = .slice A l.length c ∧ View w (fun k => k < w.heap.size) 1 u l.length (ints .i64 l) := by
  rcases open_ints ht he hC h with ⟨hcs, _⟩ | ⟨x, l, c, zs, hcs, _, hl, hm, hz, _, hcell, hwz⟩
  · simp at hcs
    subst hcs
    exact ⟨[], none, 0, rfl, View.nil _ _ _⟩
  · simp at hcs
    subst hcs
    have hr : IsRow .i64 w (some x) l c zs := .inr ⟨x, rfl, hl, hm, by simpa using hz, hcell, hwz⟩
    obtain ⟨hv, hlen, hw⟩ := hr.view
    exact ⟨zs.take l, some x, c, by rw [hlen], by rw [hlen]; exact hv⟩
/-- A slice of structs in a field. -/
theorem open_recs1 {t e : TypeId} {fs : Array Field} {u : Value} {n : Nat} {y : DataW H × List MemPlace} (ht : P.underlying t = some (.slice e)) (he : P.underlying e = some (.struct fs)) (hone : oneCellFields P fs = true) (hC : P.cellsOf e = fs.size) (hfs : 0 < fs.size)
    (h : DataW.trod enc P w 0 (fun _ => true) held n t [u] = some y) :
    ∃ A len cap, u = .slice A len cap ∧ ∃ cells, View w (fun k => k < w.heap.size) fs.size u len cells ∧
      ∀ i, i < len → ∀ (j : Nat) (f : Field), fs[j]? = some f → ∃ u n y, cells[i * fs.size + j]? = some u ∧ DataW.trod enc P w 0 (fun _ => true) held n f.type [u] = some y := by
  have hu : ∃ A len cap, u = .slice A len cap := by
    rcases open_slice ht h with ⟨hcs, _⟩ | ⟨a, len', cap', m, n, D, Pl, hcs, _⟩
    · simp at hcs; exact ⟨none, 0, 0, hcs⟩
    · simp at hcs; exact ⟨_, _, _, hcs⟩
  obtain ⟨A, len, cap, rfl⟩ := hu
  exact open_recs (d := y.1) (p := y.2) ht he hone hC hfs ⟨A, len, cap, rfl⟩ ⟨n, h⟩
theorem choose_lt' {α : Type} [Inhabited α] {n : Nat} {p : Nat → α → Prop} (h : ∀ i, i < n → ∃ a, p i a) : ∃ f : Nat → α, ∀ i, i < n → p i (f i) := by
  refine ⟨fun i => if hi : i < n then Classical.choose (h i hi) else default, fun i hi => ?_⟩
  dsimp only
  rw [dif_pos hi]
  exact Classical.choose_spec (h i hi)
instance : Inhabited Kd := ⟨⟨0, 0, 0⟩⟩
theorem tri_eq {cells : List Value} {n : Nat} (hl : cells.length = n * 3) (f : Nat → Kd) (h : ∀ i, i < n → cells[i * 3]? = some (.int .i64 (f i).a) ∧ cells[i * 3 + 1]? = some (.int .i64 (f i).n) ∧ cells[i * 3 + 2]? = some (.int .i64 (f i).g)) : cells = tri ((List.range n).map f) := by
  refine List.ext_getElem? fun k => ?_
  by_cases hk : k < n * 3
  · have hq : k / 3 < n := by omega
    have hg := tri_get ((List.range n).map f) (k / 3) (by simpa using hq)
    have hkd : kd ((List.range n).map f) (k / 3) = f (k / 3) := by simp [kd, hq]
    rw [hkd] at hg
    have h3 := h _ hq
    have : k = k / 3 * 3 ∨ k = k / 3 * 3 + 1 ∨ k = k / 3 * 3 + 2 := by omega
    rcases this with e | e | e
    · rw [e, h3.1, hg.1]
    · rw [e, h3.2.1, hg.2.1]
    · rw [e, h3.2.2, hg.2.2]
  · rw [List.getElem?_eq_none (by omega), List.getElem?_eq_none (by rw [tri_length]; simp; omega)]
/-- A slice of structs of three ints. -/
theorem open_kds {t e ti : TypeId} {f0 f1 f2 : Field} {u : Value} {n : Nat} {y : DataW H × List MemPlace} (ht : P.underlying t = some (.slice e)) (he : P.underlying e = some (.struct #[f0, f1, f2])) (hone : oneCellFields P #[f0, f1, f2] = true) (hC : P.cellsOf e = 3)
    (h0 : P.underlying f0.type = some (.int .i64)) (h1 : P.underlying f1.type = some (.int .i64)) (h2 : P.underlying f2.type = some (.int .i64))
    (h : DataW.trod enc P w 0 (fun _ => true) held n t [u] = some y) :
    ∃ (l : List Kd) (A : Option Addr) (c : Nat), u = .slice A l.length c ∧ View w (fun k => k < w.heap.size) 3 u l.length (tri l) := by
  obtain ⟨A, len, cap, rfl, cells, hv, hf⟩ := open_recs1 ht he hone hC (Nat.succ_pos _) h
  have hone : ∀ i, i < len → ∃ q : Kd, cells[i * 3]? = some (.int .i64 q.a) ∧ cells[i * 3 + 1]? = some (.int .i64 q.n) ∧ cells[i * 3 + 2]? = some (.int .i64 q.g) := by
    intro i hi
    obtain ⟨u0, n0, y0, hu0, hy0⟩ := hf i hi 0 _ rfl
    obtain ⟨u1, n1, y1, hu1, hy1⟩ := hf i hi 1 _ rfl
    obtain ⟨u2, n2, y2, hu2, hy2⟩ := hf i hi 2 _ rfl
    obtain ⟨d0, e0, _, w0⟩ := DataW.trod_int h0 hy0
    obtain ⟨d1, e1, _, w1⟩ := DataW.trod_int h1 hy1
    obtain ⟨d2, e2, _, w2⟩ := DataW.trod_int h2 hy2
    simp only [List.cons.injEq, and_true] at e0 e1 e2
    subst e0; subst e1; subst e2
    exact ⟨⟨d0, d1, d2⟩, hu0, hu1, hu2⟩
  obtain ⟨f, hfn⟩ := choose_lt' hone
  have hl : cells.length = len * 3 := hv.length
  have he9 := tri_eq hl f hfn
  refine ⟨(List.range len).map f, A, cap, by simp, ?_⟩
  rw [← he9]
  simpa using hv
end
/-- A node that came in. -/
def NodeArg (w : World) (v : Value) : Prop := ∃ q x, v = .agg #[.int .i64 x.h, .slice q.A1 x.ks.length q.c1, .slice q.A2 x.ps.length q.c2, .slice q.A3 x.gs.length q.c3, .slice q.A4 x.ds.length q.c4] ∧ Vs w (fun k => k < w.heap.size) q x
theorem open_node {H : Type} {enc : TypeId × Value → H} {W : World} {base : Nat} {v : Value} {d : DataW H} {p : List MemPlace} (hv : Value.okWide Try.prog W .any base 26 v) (h : DataW.Trod enc Try.prog W 0 (fun _ => true) true 26 v d p) : NodeArg W v := by
  obtain ⟨v0, v1, v2, v3, v4, y0, y1, y2, y3, y4, n, rfl, g0, g1, g2, g3, g4⟩ := open_five Try.underlying26 (by kernel_rfl) (by kernel_rfl) hv h
  obtain ⟨h0, e0, _, w0⟩ := DataW.trod_int Try.underlying3 g0
  simp only [List.cons.injEq, and_true] at e0
  subst e0
  obtain ⟨ks, A1, c1, rfl, k1⟩ := open_intl Try.underlying22 Try.underlying3 (by kernel_rfl) g1
  obtain ⟨ps, A2, c2, rfl, k2⟩ := open_kds (ti := 3) Try.underlying23 Try.underlying54 (by kernel_rfl) (by kernel_rfl) Try.underlying3 Try.underlying3 Try.underlying3 g2
  obtain ⟨gs, A3, c3, rfl, k3⟩ := open_intl Try.underlying22 Try.underlying3 (by kernel_rfl) g3
  obtain ⟨ds, A4, c4, rfl, k4⟩ := open_kds (ti := 3) Try.underlying24 Try.underlying56 (by kernel_rfl) (by kernel_rfl) Try.underlying3 Try.underlying3 Try.underlying3 g4
  exact ⟨⟨A1, c1, A2, c2, A3, c3, A4, c4⟩, ⟨h0, ks, ps, gs, ds⟩, rfl, k1, k2, k3, k4⟩
end Go.Proofs.Ytidpabcfcdiecaa

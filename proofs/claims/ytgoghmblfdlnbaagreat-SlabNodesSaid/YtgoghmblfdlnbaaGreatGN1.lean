/- The texts VOpen, VNdO, SlK, SlY, SlN, VPlatRot of this proof, one behind the other. Conditions: those of each. -/
import Derived.Test.YtgoghmblfdlnbaaGreatGR1
import Derived.ProofKit
import Derived.Deep.Slices
import Derived.Deep.Fields
import Derived.ChangeSame
import Derived.Test.YtgoghmblfdlnbaaGreatGR33
import Derived.Test.YtgoghmblfdlnbaaGreatGR4
import Derived.Test.YtgoghmblfdlnbaaGreatGR36
import Derived.Test.YtgoghmblfdlnbaaGreatGR21
section
/- Arguments that are slices of structs of one-cell fields, opened to cells (any program). -/
set_option linter.unusedSimpArgs false
set_option linter.unusedVariables false
namespace Go.Proofs.YtgoghmblfdlnbaaGreat
open Go.RowKit Go.ChangeShapes Go.WideShapes Go.Deep

section
variable {H : Type} {enc : TypeId × Value → H} {P : Program} {w : World} {held : Bool}
/-- The cells of a slice that came in. -/
def cellsAt (w : World) (a : Addr) (n : Nat) : List Value := (List.range n).map fun k => (w.cell? (a.add k)).getD undef
theorem cellsAt_get (w : World) (a : Addr) (n k : Nat) (h : k < n) : (cellsAt w a n)[k]? = some ((w.cell? (a.add k)).getD undef) := by simp [cellsAt, h]

theorem open_recs {t e : TypeId} {fs : Array Field} {v : Value} {d : DataW H} {p : List MemPlace} (ht : P.underlying t = some (.slice e)) (he : P.underlying e = some (.struct fs)) (hone : oneCellFields P fs = true) (hC : P.cellsOf e = fs.size) (hfs : 0 < fs.size)
    (hv : ∃ A len cap, v = .slice A len cap) (h : DataW.Trod enc P w 0 (fun _ => true) held t v d p) :
    ∃ A len cap, v = .slice A len cap ∧ ∃ cells, View w (fun k => k < w.heap.size) fs.size v len cells ∧
      ∀ i, i < len → ∀ (j : Nat) (f : Field), fs[j]? = some f → ∃ u n y, cells[i * fs.size + j]? = some u ∧ DataW.trod enc P w 0 (fun _ => true) held n f.type [u] = some y := by
  obtain ⟨A, len, cap, rfl⟩ := hv
  refine ⟨A, len, cap, rfl, ?_⟩
  obtain ⟨fuel, hf⟩ := h
  rcases open_slice ht hf with ⟨hcs, _⟩ | ⟨a, len', cap', m, n, D, Pl, hcs, _, hl, hm, hmm, _, hi⟩
  · simp [Value.cells] at hcs
    obtain ⟨rfl, rfl, rfl⟩ := hcs
    exact ⟨[], View.nil _ _ _, fun i hi => absurd hi (by omega)⟩
  · simp [Value.cells] at hcs
    obtain ⟨rfl, rfl, rfl⟩ := hcs
    have hmc : m = cap := by simpa using hmm
    subst hmc
    -- each cell is there
    have hall : ∀ i, i < m → ∀ (j : Nat) (f : Field), fs[j]? = some f → ∃ u n y, w.cell? (a.add (i * fs.size + j)) = some u ∧ DataW.trod enc P w 0 (fun _ => true) held n f.type [u] = some y := by
      intro i him j f hj
      obtain ⟨cs', hc, ht'⟩ := hi i him
      rw [hC] at hc
      obtain ⟨ys, n', hn', hy, hlen, hyl, hf'⟩ := DataW.trod_struct he ht'
      obtain ⟨_, hcl, hat⟩ := World.cells?_some hc
      obtain ⟨ho, hk⟩ := hone_of hone j f hj
      have hjl : j < fs.size := (Array.getElem?_eq_some_iff.1 hj).1
      have hcell := hat j hjl
      have h1 := hf' j f hj
      rw [ho, hk] at h1
      have hone' : (cs'.drop j).take 1 = [cs'[j]'(by omega)] := by
        rw [List.drop_eq_getElem_cons (by omega)]
        rfl
      rw [hone'] at h1
      refine ⟨_, _, _, ?_, h1.trans (List.getElem?_eq_getElem (by omega))⟩
      rw [← Go.Deep.add_add, hcell, List.getElem?_eq_getElem (by omega)]
    have hcell : ∀ k, k < m * fs.size → ∃ u, w.cell? (a.add k) = some u := by
      intro k hk
      have hj : k % fs.size < fs.size := Nat.mod_lt _ hfs
      have hq : k / fs.size < m := (Nat.div_lt_iff_lt_mul hfs).2 hk
      obtain ⟨u, _, _, hu, _⟩ := hall (k / fs.size) hq (k % fs.size) (fs[k % fs.size]) (Array.getElem?_eq_getElem hj)
      refine ⟨u, ?_⟩
      rw [← hu]; congr 2
      have := Nat.div_add_mod k fs.size
      rw [Nat.mul_comm] at this; exact this.symm
    have hsp : 0 < m → a.spot = none := fun hc => by
      obtain ⟨u, this⟩ := hcell 0 (Nat.mul_pos hc hfs)
      unfold World.cell? at this
      split at this
      · cases hs : a.spot with
        | none => rfl
        | some s => simp [Addr.add, hs] at this
      · cases this
    refine ⟨cellsAt w a (len * fs.size), ⟨by simp [cellsAt], _, _, rfl, hl, hm, fun h => (by cases h), fun ad had hc => (by injection had with had; rw [← had]; exact hsp hc), fun hn => ?_⟩, ?_⟩
    · obtain ⟨b, o, sp⟩ := a
      obtain rfl : sp = none := hsp (by omega)
      have hb : b < w.heap.size := by
        obtain ⟨u, hu⟩ := hcell 0 (Nat.mul_pos (by omega) hfs)
        rw [Addr.add_lit] at hu
        exact World.block_lt_of_cell? w _ hu
      refine ⟨b, o, rfl, hb, hb, fun j u hu => ?_⟩
      have hj := (List.getElem?_eq_some_iff.1 hu).1
      simp only [cellsAt, List.length_map, List.length_range] at hj
      rw [cellsAt_get w _ _ j hj] at hu
      obtain ⟨u', hu'⟩ := hcell j (Nat.lt_of_lt_of_le hj (Nat.mul_le_mul_right _ hl))
      rw [hu', Option.getD_some] at hu
      rw [Addr.add_lit] at hu'
      rw [hu', hu]
    · intro i hi j f hj
      obtain ⟨u, n, y, hu, hy⟩ := hall i (by omega) j f hj
      have hjl : j < fs.size := (Array.getElem?_eq_some_iff.1 hj).1
      refine ⟨u, n, y, ?_, hy⟩
      rw [cellsAt_get w _ _ _ (by have := Nat.mul_le_mul_right fs.size (show i + 1 ≤ len by omega); rw [Nat.add_mul] at this; omega), hu, Option.getD_some]

/-- A []byte in a field. -/
theorem open_bytes {t e : TypeId} {u : Value} {n : Nat} {y : DataW H × List MemPlace} (ht : P.underlying t = some (.slice e)) (he : P.underlying e = some (.int .u8)) (hC : P.cellsOf e = 1) (h : DataW.trod enc P w 0 (fun _ => true) held n t [u] = some y) :
    ∃ bs : List Nat, View w (fun k => k < w.heap.size) 1 u bs.length (bys bs) ∧ Byt bs ∧ ∃ A c, u = .slice A bs.length c := by
  rcases open_ints ht he hC h with ⟨hcs, _⟩ | ⟨x, l, c, zs, hcs, _, hl, hm, hz, _, hcell, hwz⟩
  · simp at hcs
    subst hcs
    exact ⟨[], View.nil _ _ _, fun c hc => (by simp at hc), none, 0, rfl⟩
  · simp at hcs
    subst hcs
    have hr : IsRow .u8 w (some x) l c zs := .inr ⟨x, rfl, hl, hm, by simpa using hz, hcell, hwz⟩
    obtain ⟨hv, hlen, hw⟩ := hr.view
    have hb : ∀ z ∈ zs.take l, 0 ≤ z ∧ z < 256 := fun z hz => bounds_u8 (hw z hz)
    have e1 : ints .u8 (zs.take l) = bys ((zs.take l).map Int.toNat) := by
      unfold ints bys
      rw [List.map_map]
      exact List.map_congr_left fun z hz => by have := hb z hz; simp; omega
    have e2 : ((zs.take l).map Int.toNat).length = l := by rw [List.length_map, hlen]
    refine ⟨(zs.take l).map Int.toNat, ?_, fun c hc => ?_, some x, c, by rw [e2]⟩
    · rw [e2, ← e1]; exact hv
    · obtain ⟨z, hz, rfl⟩ := List.mem_map.1 hc
      have := hb z hz; omega
end
end Go.Proofs.YtgoghmblfdlnbaaGreat
end

section
/- An argument that is a node (chapter 13), opened. -/
set_option linter.unusedSimpArgs false
set_option linter.unusedVariables false
namespace Go.Proofs.YtgoghmblfdlnbaaGreat.nd
open Go.RowKit Go.ChangeShapes Go.WideShapes Go.Deep

section
variable {H : Type} {enc : TypeId × Value → H} {P : Program} {w : World} {held : Bool}
/-- A struct of five one-cell fields. -/
theorem open_five {base : Nat} {spare : Nat → Bool} {r : Reach} {b0 : Nat} {t : TypeId} {f0 f1 f2 f3 f4 : Field} {v : Value} {d : DataW H} {p : List MemPlace} (hs : P.underlying t = some (.struct #[f0, f1, f2, f3, f4])) (hone : oneCellFields P #[f0, f1, f2, f3, f4] = true) (hC : P.cellsOf t = 5)
    (hv : Value.okWide P w r b0 t v) (h : DataW.Trod enc P w base spare held t v d p) :
    ∃ (v0 v1 v2 v3 v4 : Value) (y0 y1 y2 y3 y4 : DataW H × List MemPlace) (n : Nat), v = .agg #[v0, v1, v2, v3, v4] ∧
      DataW.trod enc P w base spare held n f0.type [v0] = some y0 ∧ DataW.trod enc P w base spare held n f1.type [v1] = some y1 ∧ DataW.trod enc P w base spare held n f2.type [v2] = some y2 ∧ DataW.trod enc P w base spare held n f3.type [v3] = some y3 ∧ DataW.trod enc P w base spare held n f4.type [v4] = some y4 := by
  obtain ⟨cs, rfl, hsz⟩ := okWide_struct hs hv
  obtain ⟨l⟩ := cs
  match l, hsz.trans hC with
  | [c0, c1, c2, c3, c4], _ =>
    obtain ⟨fuel, hf⟩ := h
    obtain ⟨xs, n, _, hx, _, hlen, hg⟩ := DataW.trod_struct hs hf
    obtain ⟨o0, k0⟩ := hone_of hone 0 f0 rfl
    obtain ⟨o1, k1⟩ := hone_of hone 1 f1 rfl
    obtain ⟨o2, k2⟩ := hone_of hone 2 f2 rfl
    obtain ⟨o3, k3⟩ := hone_of hone 3 f3 rfl
    obtain ⟨o4, k4⟩ := hone_of hone 4 f4 rfl
    match xs, hlen with
    | [y0, y1, y2, y3, y4], _ =>
      exact ⟨c0, c1, c2, c3, c4, y0, y1, y2, y3, y4, n, rfl, by simpa [Value.cells, o0, k0] using hg 0 f0 rfl, by simpa [Value.cells, o1, k1] using hg 1 f1 rfl, by simpa [Value.cells, o2, k2] using hg 2 f2 rfl, by simpa [Value.cells, o3, k3] using hg 3 f3 rfl, by simpa [Value.cells, o4, k4] using hg 4 f4 rfl⟩
/-- A []int in a field. -/
theorem open_intl {t e : TypeId} {u : Value} {n : Nat} {y : DataW H × List MemPlace} (ht : P.underlying t = some (.slice e)) (he : P.underlying e = some (.int .i64)) (hC : P.cellsOf e = 1) (h : DataW.trod enc P w 0 (fun _ => true) held n t [u] = some y) :
    ∃ (l : List Int) (A : Option Addr) (c : Nat), u = .slice A l.length c ∧ View w (fun k => k < w.heap.size) 1 u l.length (ints .i64 l) := by
  rcases open_ints ht he hC h with ⟨hcs, _⟩ | ⟨x, l, c, zs, hcs, _, hl, hm, hz, _, hcell, hwz⟩
  · simp at hcs
    subst hcs
    exact ⟨[], none, 0, rfl, View.nil _ _ _⟩
  · simp at hcs
    subst hcs
    have hr : IsRow .i64 w (some x) l c zs := .inr ⟨x, rfl, hl, hm, by simpa using hz, hcell, hwz⟩
    obtain ⟨hv, hlen, hw⟩ := hr.view
    exact ⟨zs.take l, some x, c, by rw [hlen], by rw [hlen]; exact hv⟩
/-- A slice of structs in a field. -/
theorem open_recs1 {t e : TypeId} {fs : Array Field} {u : Value} {n : Nat} {y : DataW H × List MemPlace} (ht : P.underlying t = some (.slice e)) (he : P.underlying e = some (.struct fs)) (hone : oneCellFields P fs = true) (hC : P.cellsOf e = fs.size) (hfs : 0 < fs.size)
    (h : DataW.trod enc P w 0 (fun _ => true) held n t [u] = some y) :
    ∃ A len cap, u = .slice A len cap ∧ ∃ cells, View w (fun k => k < w.heap.size) fs.size u len cells ∧
      ∀ i, i < len → ∀ (j : Nat) (f : Field), fs[j]? = some f → ∃ u n y, cells[i * fs.size + j]? = some u ∧ DataW.trod enc P w 0 (fun _ => true) held n f.type [u] = some y := by
  have hu : ∃ A len cap, u = .slice A len cap := by
    rcases open_slice ht h with ⟨hcs, _⟩ | ⟨a, len', cap', m, n, D, Pl, hcs, _⟩
    · simp at hcs; exact ⟨none, 0, 0, hcs⟩
    · simp at hcs; exact ⟨_, _, _, hcs⟩
  obtain ⟨A, len, cap, rfl⟩ := hu
  exact open_recs (d := y.1) (p := y.2) ht he hone hC hfs ⟨A, len, cap, rfl⟩ ⟨n, h⟩
theorem choose_lt' {α : Type} [Inhabited α] {n : Nat} {p : Nat → α → Prop} (h : ∀ i, i < n → ∃ a, p i a) : ∃ f : Nat → α, ∀ i, i < n → p i (f i) := by
  refine ⟨fun i => if hi : i < n then Classical.choose (h i hi) else default, fun i hi => ?_⟩
  dsimp only
  rw [dif_pos hi]
  exact Classical.choose_spec (h i hi)
instance : Inhabited Kd := ⟨⟨0, 0, 0⟩⟩
theorem tri_eq {cells : List Value} {n : Nat} (hl : cells.length = n * 3) (f : Nat → Kd) (h : ∀ i, i < n → cells[i * 3]? = some (.int .i64 (f i).a) ∧ cells[i * 3 + 1]? = some (.int .i64 (f i).n) ∧ cells[i * 3 + 2]? = some (.int .i64 (f i).g)) : cells = tri ((List.range n).map f) := by
  refine List.ext_getElem? fun k => ?_
  by_cases hk : k < n * 3
  · have hq : k / 3 < n := by omega
    have hg := tri_get ((List.range n).map f) (k / 3) (by simpa using hq)
    have hkd : kd ((List.range n).map f) (k / 3) = f (k / 3) := by simp [kd, hq]
    rw [hkd] at hg
    have h3 := h _ hq
    have : k = k / 3 * 3 ∨ k = k / 3 * 3 + 1 ∨ k = k / 3 * 3 + 2 := by omega
    rcases this with e | e | e
    · rw [e, h3.1, hg.1]
    · rw [e, h3.2.1, hg.2.1]
    · rw [e, h3.2.2, hg.2.2]
  · rw [List.getElem?_eq_none (by omega), List.getElem?_eq_none (by rw [tri_length]; simp; omega)]
/-- A slice of structs of three ints. -/
theorem open_kds {t e ti : TypeId} {f0 f1 f2 : Field} {u : Value} {n : Nat} {y : DataW H × List MemPlace} (ht : P.underlying t = some (.slice e)) (he : P.underlying e = some (.struct #[f0, f1, f2])) (hone : oneCellFields P #[f0, f1, f2] = true) (hC : P.cellsOf e = 3)
    (h0 : P.underlying f0.type = some (.int .i64)) (h1 : P.underlying f1.type = some (.int .i64)) (h2 : P.underlying f2.type = some (.int .i64))
    (h : DataW.trod enc P w 0 (fun _ => true) held n t [u] = some y) :
    ∃ (l : List Kd) (A : Option Addr) (c : Nat), u = .slice A l.length c ∧ View w (fun k => k < w.heap.size) 3 u l.length (tri l) := by
  obtain ⟨A, len, cap, rfl, cells, hv, hf⟩ := open_recs1 ht he hone hC (Nat.succ_pos _) h
  have hone : ∀ i, i < len → ∃ q : Kd, cells[i * 3]? = some (.int .i64 q.a) ∧ cells[i * 3 + 1]? = some (.int .i64 q.n) ∧ cells[i * 3 + 2]? = some (.int .i64 q.g) := by
    intro i hi
    obtain ⟨u0, n0, y0, hu0, hy0⟩ := hf i hi 0 _ rfl
    obtain ⟨u1, n1, y1, hu1, hy1⟩ := hf i hi 1 _ rfl
    obtain ⟨u2, n2, y2, hu2, hy2⟩ := hf i hi 2 _ rfl
    obtain ⟨d0, e0, _, w0⟩ := DataW.trod_int h0 hy0
    obtain ⟨d1, e1, _, w1⟩ := DataW.trod_int h1 hy1
    obtain ⟨d2, e2, _, w2⟩ := DataW.trod_int h2 hy2
    simp only [List.cons.injEq, and_true] at e0 e1 e2
    subst e0; subst e1; subst e2
    exact ⟨⟨d0, d1, d2⟩, hu0, hu1, hu2⟩
  obtain ⟨f, hfn⟩ := choose_lt' hone
  have hl : cells.length = len * 3 := hv.length
  have he9 := tri_eq hl f hfn
  refine ⟨(List.range len).map f, A, cap, by simp, ?_⟩
  rw [← he9]
  simpa using hv
end
/-- A node that came in. -/
def NodeArg (w : World) (v : Value) : Prop := ∃ q x, v = .agg #[.int .i64 x.h, .slice q.A1 x.ks.length q.c1, .slice q.A2 x.ps.length q.c2, .slice q.A3 x.gs.length q.c3, .slice q.A4 x.ds.length q.c4] ∧ Vs w (fun k => k < w.heap.size) q x
set_option maxRecDepth 100000 in
theorem open_node {H : Type} {enc : TypeId × Value → H} {W : World} {base : Nat} {v : Value} {d : DataW H} {p : List MemPlace} (hv : Value.okWide Tryz.prog W .any base 55 v) (h : DataW.Trod enc Tryz.prog W 0 (fun _ => true) true 55 v d p) : NodeArg W v := by
  obtain ⟨v0, v1, v2, v3, v4, y0, y1, y2, y3, y4, n, rfl, g0, g1, g2, g3, g4⟩ := open_five Tryz.underlying55 (by kernel_rfl) (by kernel_rfl) hv h
  obtain ⟨h0, e0, _, w0⟩ := DataW.trod_int Tryz.underlying3 g0
  simp only [List.cons.injEq, and_true] at e0
  subst e0
  obtain ⟨ks, A1, c1, rfl, k1⟩ := open_intl Tryz.underlying49 Tryz.underlying3 (by kernel_rfl) g1
  obtain ⟨ps, A2, c2, rfl, k2⟩ := open_kds (ti := 3) Tryz.underlying52 Tryz.underlying51 (by kernel_rfl) (by kernel_rfl) Tryz.underlying3 Tryz.underlying3 Tryz.underlying3 g2
  obtain ⟨gs, A3, c3, rfl, k3⟩ := open_intl Tryz.underlying49 Tryz.underlying3 (by kernel_rfl) g3
  obtain ⟨ds, A4, c4, rfl, k4⟩ := open_kds (ti := 3) Tryz.underlying53 Tryz.underlying100 (by kernel_rfl) (by kernel_rfl) Tryz.underlying3 Tryz.underlying3 Tryz.underlying3 g4
  exact ⟨⟨A1, c1, A2, c2, A3, c3, A4, c4⟩, ⟨h0, ks, ps, gs, ds⟩, rfl, k1, k2, k3, k4⟩
end Go.Proofs.YtgoghmblfdlnbaaGreat.nd
end

section
/- leaf.Open of any bytes. Conditions: they are as many as a head has, at least. -/
set_option linter.unusedSimpArgs false
set_option linter.unusedVariables false
namespace Go.Proofs.YtgoghmblfdlnbaaGreat
open Go.RowKit
structure Hok (xs : List Nat) : Prop where
  h0 : xs.getD 0 0 = 197
  h1 : xs.getD 1 0 = 126
  h3 : xs.getD 3 0 = 0
  n : num4 (xs.drop 8) ≤ 4096
  g : num4 (xs.drop 4) ≤ 2147483647
instance (xs : List Nat) : Decidable (Hok xs) :=
  decidable_of_iff (xs.getD 0 0 = 197 ∧ xs.getD 1 0 = 126 ∧ xs.getD 3 0 = 0 ∧ num4 (xs.drop 8) ≤ 4096 ∧ num4 (xs.drop 4) ≤ 2147483647) ⟨fun ⟨a, b, c, d, e⟩ => ⟨a, b, c, d, e⟩, fun ⟨a, b, c, d, e⟩ => ⟨a, b, c, d, e⟩⟩
theorem num4_lt {xs : List Nat} (h : Byt xs) : num4 xs < 4294967296 := by
  have hg : ∀ i, xs.getD i 0 < 256 := fun i => by
    rw [List.getD_eq_getElem?_getD]
    cases hx : xs[i]? with
    | none => decide
    | some x => exact h x (List.mem_of_getElem? hx)
  have h0 := hg 0; have h1 := hg 1; have h2 := hg 2; have h3 := hg 3
  unfold num4
  omega
set_option maxRecDepth 20000 in
theorem head_bad (S : Nat → Prop) (b o m c : Nat) (xs : List Nat) (hm : 16 ≤ m) (hmx : m ≤ 100000) (w : World) (hv : View w S 1 (.slice (some ⟨b, o, none⟩) m c) m (bys xs)) (hB : Byt xs) (hno : ¬ Hok xs) :
    Calls Tryz.prog 73 #[.slice (some ⟨b, o, none⟩) m c] w fun e w' => e = .returned (.tuple #[.int .i64 0, .int .i64 4]) ∧ Fr Nil w w' := by
  have hmc : m ≤ c := by obtain ⟨_, _, _, e, h, _⟩ := hv; injection e with _ _ e; omega
  have H8 := hid (fun w' (hf : Fr Nil w w') => number_ok S _ (m - 8) (xs.drop 8) (by omega) w' ((tail_view hv (l := 8) (by omega) (by omega)).fr hf fun _ _ _ h => h) (hB.drop 8))
  have H4 := hid (fun w' (hf : Fr Nil w w') => number_ok S _ (m - 4) (xs.drop 4) (by omega) w' ((tail_view hv (l := 4) (by omega) (by omega)).fr hf fun _ _ _ h => h) (hB.drop 4))
  obtain ⟨b, o, e0, -, hbl, q0⟩ := by_at hv (i := 0) (by omega)
  obtain ⟨b1, o1, e1, -, -, q1⟩ := by_at hv (i := 1) (by omega)
  obtain ⟨b3, o3, e3, -, -, q3⟩ := by_at hv (i := 3) (by omega)
  injection e0 with e0; injection e0 with e0 f0; subst e0; subst f0
  injection e1 with e1; injection e1 with e1 f1; subst e1; subst f1
  injection e3 with e3; injection e3 with e3 f3; subst e3; subst f3
  have hbad : xs.getD 0 0 ≠ 197 ∨ xs.getD 0 0 = 197 ∧ xs.getD 1 0 ≠ 126 ∨ xs.getD 0 0 = 197 ∧ xs.getD 1 0 = 126 ∧ xs.getD 3 0 ≠ 0 ∨ xs.getD 0 0 = 197 ∧ xs.getD 1 0 = 126 ∧ xs.getD 3 0 = 0 ∧ 4096 < num4 (xs.drop 8) ∨ xs.getD 0 0 = 197 ∧ xs.getD 1 0 = 126 ∧ xs.getD 3 0 = 0 ∧ num4 (xs.drop 8) ≤ 4096 ∧ 2147483647 < num4 (xs.drop 4) := by
    by_cases h0 : xs.getD 0 0 = 197
    · by_cases h1 : xs.getD 1 0 = 126
      · by_cases h3 : xs.getD 3 0 = 0
        · by_cases hn : num4 (xs.drop 8) ≤ 4096
          · by_cases hg : num4 (xs.drop 4) ≤ 2147483647
            · exact absurd ⟨h0, h1, h3, hn, hg⟩ hno
            · exact .inr (.inr (.inr (.inr ⟨h0, h1, h3, hn, by omega⟩)))
          · exact .inr (.inr (.inr (.inl ⟨h0, h1, h3, by omega⟩)))
        · exact .inr (.inr (.inl ⟨h0, h1, h3⟩))
      · exact .inr (.inl ⟨h0, h1⟩)
    · exact .inl h0
  have hn9 := num4_lt (hB.drop 8)
  have hg9 := num4_lt (hB.drop 4)
  generalize num4 (xs.drop 8) = n at *
  generalize num4 (xs.drop 4) = g at *
  generalize xs.getD 0 0 = x0 at *
  generalize xs.getD 1 0 = x1 at *
  generalize xs.getD 3 0 = x3 at *
  rw [Nat.add_zero] at q0
  have Q0 := hid q0; have Q1 := hid q1; have Q3 := hid q3
  have hc8 : c ≠ 8 := by omega
  have hc4 : c ≠ 4 := by omega
  have h8m : (8 : Int) ≤ (m : Int) := by omega
  have h4m : (4 : Int) ≤ (m : Int) := by omega
  have hmc2 : (m : Int) ≤ (c : Int) := by omega
  have i0 : (0 : Int) < (m : Int) := by omega
  have i1 : (1 : Int) < (m : Int) := by omega
  have i3 : (3 : Int) < (m : Int) := by omega
  clear hv hB q0 q1 q3 hno
  rcases hbad with h0 | ⟨rfl, h1⟩ | ⟨rfl, rfl, h3⟩ | ⟨rfl, rfl, rfl, h4⟩ | ⟨rfl, rfl, rfl, h4, h5⟩
  · have j0 : ¬ (x0 : Int) = 197 := by omega
    clear h0
    go_enter Tryz.func73, Tryz.ntmps73
    go_wp2_with fail
    refine (H8.out w (Fr.refl _ _)).mono ?_
    rintro e w1 ⟨rfl, f1⟩
    have F1 := hid f1
    have p0 := f1.cell Q0.out fun h => h
    have p1 := f1.cell Q1.out fun h => h
    have p3 := f1.cell Q3.out fun h => h
    have hbl1 := Nat.lt_of_lt_of_le hbl f1.size
    clear f1
    go_wp2
    go_ret2
    exact ⟨rfl, F1.out⟩
  · have j0 : ¬ (x1 : Int) = 126 := by omega
    clear h1
    go_enter Tryz.func73, Tryz.ntmps73
    go_wp2_with fail
    refine (H8.out w (Fr.refl _ _)).mono ?_
    rintro e w1 ⟨rfl, f1⟩
    have F1 := hid f1
    have p0 := f1.cell Q0.out fun h => h
    have p1 := f1.cell Q1.out fun h => h
    have p3 := f1.cell Q3.out fun h => h
    have hbl1 := Nat.lt_of_lt_of_le hbl f1.size
    clear f1
    go_wp2
    go_ret2
    exact ⟨rfl, F1.out⟩
  · have j0 : ¬ (x3 : Int) = 0 := by omega
    clear h3
    go_enter Tryz.func73, Tryz.ntmps73
    go_wp2_with fail
    refine (H8.out w (Fr.refl _ _)).mono ?_
    rintro e w1 ⟨rfl, f1⟩
    have F1 := hid f1
    have p0 := f1.cell Q0.out fun h => h
    have p1 := f1.cell Q1.out fun h => h
    have p3 := f1.cell Q3.out fun h => h
    have hbl1 := Nat.lt_of_lt_of_le hbl f1.size
    clear f1
    go_wp2
    go_ret2
    exact ⟨rfl, F1.out⟩
  · have j0 : (4096 : Int) < (n : Int) := by omega
    clear h4
    go_enter Tryz.func73, Tryz.ntmps73
    go_wp2_with fail
    refine (H8.out w (Fr.refl _ _)).mono ?_
    rintro e w1 ⟨rfl, f1⟩
    have F1 := hid f1
    have p0 := f1.cell Q0.out fun h => h
    have p1 := f1.cell Q1.out fun h => h
    have p3 := f1.cell Q3.out fun h => h
    have hbl1 := Nat.lt_of_lt_of_le hbl f1.size
    clear f1
    go_wp2
    go_ret2
    exact ⟨rfl, F1.out⟩
  · have j0 : (n : Int) ≤ 4096 := by omega
    have j1 : (2147483647 : Int) < (g : Int) := by omega
    clear h4 h5
    go_enter Tryz.func73, Tryz.ntmps73
    go_wp2_with fail
    refine (H8.out w (Fr.refl _ _)).mono ?_
    rintro e w1 ⟨rfl, f1⟩
    have F1 := hid f1
    have p0 := f1.cell Q0.out fun h => h
    have p1 := f1.cell Q1.out fun h => h
    have p3 := f1.cell Q3.out fun h => h
    have hbl1 := Nat.lt_of_lt_of_le hbl f1.size
    clear f1
    go_wp2_with fail
    refine (H4.out w1 F1.out).mono ?_
    rintro e w2 ⟨rfl, f2⟩
    have F2 := hid (F1.out.then f2)
    clear f2 p0 p1 p3
    go_wp2
    go_ret2
    exact ⟨rfl, F2.out⟩
/-- Two slices of other bytes are not equal. -/
theorem bequal_no (S S1 : Nat → Prop) (v u : Value) (n : Nat) (xs ys : List Nat) (w : World) (h1 : View w S 1 v n (bys xs)) (h2 : View w S1 1 u n (bys ys)) (hx : Byt xs) (hy : Byt ys) (hne : xs ≠ ys) :
    Calls Tryz.prog 75 #[v, u] w fun e w' => e = .returned (.bool false) ∧ Fr Nil w w' := by
  have c1 := View.str (P := Tryz.prog) (src := 30) (dst := 9) (xs := xs) h1 Tryz.underlying30 Tryz.underlying5 Tryz.underlying9
  have c2 := View.str (P := Tryz.prog) (src := 30) (dst := 9) (xs := ys) h2 Tryz.underlying30 Tryz.underlying5 Tryz.underlying9
  have hq : ((str xs).toList == (str ys).toList) = false := by rw [str_eq hx hy]; exact decide_eq_false hne
  generalize str xs = sx at *
  generalize str ys = sy at *
  clear h1 h2 hx hy hne
  go_enter Tryz.func75, Tryz.ntmps75
  go_wp2
  go_ret
  trace_state
  exact ⟨rfl, Fr.refl _ _⟩
end Go.Proofs.YtgoghmblfdlnbaaGreat
end

section
/- leaf.Open of any bytes: its answer. Conditions: they are as many as a head has, at least. -/
set_option linter.unusedSimpArgs false
set_option linter.unusedVariables false
namespace Go.Proofs.YtgoghmblfdlnbaaGreat
open Go.RowKit
def dataO (xs : List Nat) : List Nat := (xs.drop 16).take (num4 (xs.drop 8))
def sumO (xs : List Nat) : Int := moreF (moreF 0 (xs.take 12)) (dataO xs)
def openF (k : Nat) (xs : List Nat) : Nat :=
  if Hok xs then
    if 64 * blkN (num4 (xs.drop 8)) < xs.length then 3
    else if xs.length < 64 * blkN (num4 (xs.drop 8)) then 2
    else if ((num4 (xs.drop 12) : Nat) : Int) ≠ sumO xs then 5
    else if xs.drop (16 + num4 (xs.drop 8)) ≠ List.replicate (xs.length - (16 + num4 (xs.drop 8))) 0 then 5
    else if xs.getD 2 0 ≠ k then 4 else 0
  else 4
set_option maxRecDepth 20000 in
set_option maxHeartbeats 2000000 in
theorem lopen_gen (S : Nat → Prop) (k : Nat) (hk : k < 256) (b o m c : Nat) (xs : List Nat) (hm : 16 ≤ m) (hmx : m ≤ 100000) (w : World) (hv : View w S 1 (.slice (some ⟨b, o, none⟩) m c) m (bys xs)) (hB : Byt xs) :
    Calls Tryz.prog 43 #[.slice (some ⟨b, o, none⟩) m c, .int .u8 (k : Nat)] w fun e w' =>
      (openF k xs ≠ 0 ∧ e = .returned (.tuple #[.int .i64 0, .slice none 0 0, .int .i64 (openF k xs : Nat)]) ∨
        openF k xs = 0 ∧ ∃ A' c', e = .returned (.tuple #[.int .i64 (num4 (xs.drop 4) : Nat), .slice A' (num4 (xs.drop 8)) c', .int .i64 0]) ∧ Row w' (New w) 5 1 (.slice A' (num4 (xs.drop 8)) c') (num4 (xs.drop 8)) (bys (dataO xs))) ∧ Fr Nil w w' := by
  have hmc : m ≤ c := by obtain ⟨_, _, _, e, h, _⟩ := hv; injection e with _ _ e; omega
  have hlm : xs.length = m := hv.lenb
  by_cases hok : Hok xs
  · obtain ⟨n, hn⟩ : ∃ n, n = num4 (xs.drop 8) := ⟨_, rfl⟩
    obtain ⟨g, hg⟩ : ∃ g, g = num4 (xs.drop 4) := ⟨_, rfl⟩
    obtain ⟨x2, hx2⟩ : ∃ x2, x2 = xs.getD 2 0 := ⟨_, rfl⟩
    have hn4 : n ≤ 4096 := by rw [hn]; exact hok.n
    have hg4 : g ≤ 2147483647 := by rw [hg]; exact hok.g
    have Hh := hid (head_ok S b o m c _ hm hmx w hv hB hok.h0 hok.h1 hok.h3 hok.n hok.g)
    have HBl := hid (fun w' => lblocks_ok n hn4 w')
    obtain ⟨q, hq⟩ : ∃ q, q = blkN n := ⟨_, rfl⟩
    rw [← hq] at HBl
    have hq70 : q ≤ 70 := by rw [hq]; unfold blkN; omega
    have Hn := hid hn
    have Hg := hid hg
    have Hq := hid hq
    have Hx2 := hid hx2
    rw [← hn] at Hh
    rw [← hn, ← hg]
    clear hn hg
    rcases Nat.lt_trichotomy (64 * q) m with hlt | heq | hgt
    · have HO := hid (show openF k xs = 3 from by unfold openF; rw [if_pos hok, if_pos (by rw [← Hn.out, ← Hq.out, hlm]; exact hlt)])
      have hlt2 : 64 * (q : Int) < (m : Int) := by omega
      clear hq hx2 hv hB hok
      go_enter Tryz.func43, Tryz.ntmps43
      go_wp2_with fail
      refine Hh.out.mono ?_
      rintro e w1 ⟨rfl, f1⟩
      have F1 := hid f1
      clear f1
      go_wp2_with fail
      refine (HBl.out w1).mono ?_
      rintro e w2 ⟨rfl, rfl⟩
      go_wp2
      go_ret3
      exact ⟨.inl ⟨by rw [HO.out]; decide, by rw [HO.out]; rfl⟩, F1.out⟩
    · have hbq : 64 * (q : Int) = (m : Int) := by omega
      have hmn : 16 + n ≤ m := by rw [← heq, hq]; unfold blkN; omega
      have hm5 : m ≤ 5000 := by omega
      have hnq : 64 * blkN n = xs.length := by rw [← hq, heq, hlm]
      have HB := hid hB
      have V12 := hid (tail_view hv (l := 12) (by omega) (by omega))
      have V4 := hid (tail_view hv (l := 4) (by omega) (by omega))
      have N12 := hid (fun w' (hf : Fr Nil w w') => number_ok S _ (m - 12) _ (by omega) w' (V12.out.fr hf fun _ _ _ h => h) (hB.drop 12))
      have N4 := hid (fun w' (hf : Fr Nil w w') => number_ok S _ (m - 4) _ (by omega) w' (V4.out.fr hf fun _ _ _ h => h) (hB.drop 4))
      rw [← Hg.out] at N4
      have hmk := fun w' => mk_u8 (m - (16 + n)) (by omega) w'
      obtain ⟨b2, o2, e2, -, hbl, q2⟩ := by_at hv (i := 2) (by omega)
      injection e2 with e2; injection e2 with e2 f2; subst e2; subst f2
      rw [← hx2] at q2
      have Q2 := hid q2
      have hm64 : 64 ≤ m := by rw [← heq, hq]; unfold blkN; omega
      have VD := hid (show View w S 1 (.slice (some ⟨b, o + 16, none⟩) n (c - 16)) n (bys (dataO xs)) from by
        have h := (tail_view hv (l := 16) (by omega) (by omega)).pre (m := n) (by omega)
        have e : (bys (xs.drop 16)).take (n * 1) = bys (dataO xs) := by
          rw [Nat.mul_one]; unfold bys dataO; rw [← Hn.out, List.map_take]
        rwa [e] at h)
      have HS := hid (fun w' (hf : Fr Nil w w') => lsum_ok S S ⟨b, o, none⟩ m c xs (dataO xs) _ n (by omega) w' (hv.fr hf fun _ _ _ h => h) (VD.out.fr hf fun _ _ _ h => h))
      rw [show moreF (moreF 0 (xs.take 12)) (dataO xs) = sumO xs from rfl] at HS
      have hlen := hid (show (dataO xs).length = n from by unfold dataO; rw [← Hn.out, List.length_take, List.length_drop]; omega)
      have hVe := hid (fun (h : c = 16 + n) => show View w S 1 (.slice (some ⟨b, o, none⟩) (m - (16 + n)) (c - (16 + n))) (m - (16 + n)) (bys (xs.drop (16 + n))) from by
        have h2 := hv.drop hmn
        rw [Nat.mul_one, show sliced (some ⟨b, o, none⟩) (16 + n) m c 1 = .slice (some ⟨b, o, none⟩) (m - (16 + n)) (c - (16 + n)) from by simp [sliced, h]] at h2
        simpa [bys, List.map_drop] using h2)
      have hVn := hid (fun (h : c ≠ 16 + n) => tail_view hv (l := 16 + n) hmn h)
      have Hq2 := hid heq
      have hs9 := hid (show 0 ≤ sumO xs ∧ sumO xs < 4294967296 from by
        have h := moreF_wf (moreF 0 (xs.take 12)) (dataO xs)
        unfold sumO; omega)
      clear hq hx2 q2 hv hB heq
      go_enter Tryz.func43, Tryz.ntmps43
      go_wp2_with fail
      refine Hh.out.mono ?_
      rintro e w1 ⟨rfl, f1⟩
      have F1 := hid f1
      clear f1
      go_wp2_with fail
      refine (HBl.out w1).mono ?_
      rintro e w2 ⟨rfl, rfl⟩
      go_upto_region 9 with (fail)
      have hc16 : ¬ c = 16 := by omega
      have h16m : (16 : Int) + (n : Int) ≤ (m : Int) := by omega
      have hmc2 : (m : Int) ≤ (c : Int) := by omega
      have hw1 : IntKind.i64.wrap (16 + (n : Int)) = 16 + (n : Int) := by rw [IntKind.wrap_i64]; omega
      by_cases hne : c = 16 + n
      · have VR := hid (hVe.out hne)
        go_quiet (fail)
        rw [show 16 + n - 16 = n from by omega]
        (rw [show c - 16 = n by omega] at VD HS; rw [show c - (16 + n) = 0 by omega] at VR; clear hne)
        obtain ⟨w2, hw2⟩ : ∃ w2, w2 = w1.drewN nq := ⟨_, rfl⟩
        rw [← hw2]
        have F2 := hid (show Fr Nil w w2 from by rw [hw2]; exact F1.out.drewN _)
        have hc12 : ¬ c = 12 := by omega
        have hc4 : ¬ c = 4 := by omega
        have h12m : (12 : Int) ≤ (m : Int) := by omega
        have h4m : (4 : Int) ≤ (m : Int) := by omega
        clear hw2 hw1 h16m
        by_cases hse : ((num4 (xs.drop 12) : Nat) : Int) = sumO xs
        · have hse9 := hse
          have N12' := N12
          rw [hse] at N12'
          by_cases hre : xs.drop (16 + n) = List.replicate (xs.length - (16 + n)) 0
          · have hre9 := hre
            go_wp2_with fail
            refine (N12'.out w2 F2.out).mono ?_
            rintro e w3 ⟨rfl, f3⟩
            have F3 := hid (F2.out.then f3)
            clear f3
            go_wp2_with fail
            refine (HS.out w3 F3.out).mono ?_
            rintro e w4 ⟨rfl, rfl⟩
            have hmk2 := hmk w3
            obtain ⟨R, hR⟩ : ∃ R, R = m - (16 + n) := ⟨_, rfl⟩
            rw [← hR] at hmk2
            have hR0 : R ≤ 5000 := by omega
            rw [← hR]
            go_wp2_with fail
            rw [← hR]
            obtain ⟨W5, hW5⟩ : ∃ W5, W5 = w3.alloc (.cells (madeCells #[.int .u8 0] R) 5) := ⟨_, rfl⟩
            have hz := zeros_row R (by omega) w3
            rw [← hW5] at hz ⊢
            have F5 := hid (show Fr Nil w W5 from by rw [hW5]; exact F3.out.alloc _)
            have HZ := hid hz
            clear hW5 hz hmk2
            refine (bequal_ok S (New w3) _ _ R (List.replicate R 0) W5 (by have h := (VR.out.fr F5.out fun _ _ _ h => h); rw [hre, hlm] at h; rw [hR]; exact h) HZ.out.view).mono ?_
            rintro e w6 ⟨rfl, f6⟩
            have F6 := hid (F5.out.then f6)
            have hl6 := Nat.lt_of_lt_of_le hbl F6.out.size
            have p2 : w6.cell? ⟨b, o + 2, none⟩ = some (.int .u8 (x2 : Nat)) := F6.out.cell Q2.out fun h => h
            clear f6
            by_cases hk2 : x2 = k
            · subst hk2
              have HO := hid (show openF x2 xs = 0 from by unfold openF; rw [if_pos hok, if_neg (by rw [← Hn.out, ← Hq.out, hlm]; have := Hq2.out; omega), if_neg (by rw [← Hn.out, ← Hq.out, hlm]; have := Hq2.out; omega), if_neg (fun h => h hse9), if_neg (fun h => h (by rw [← Hn.out]; exact hre)), if_neg (fun h => h Hx2.out.symm)])
              clear hse9 hre
              go_wp2_with fail
              refine (N4.out w6 F6.out).mono ?_
              rintro e w7 ⟨rfl, f7⟩
              have F7 := hid (F6.out.then f7)
              clear f7 p2
              go_wp2_with fail
              refine (bclone_ok S _ n (dataO xs) (by omega) w7 (VD.out.fr F7.out fun _ _ _ h => h)).mono ?_
              rintro e w8 ⟨A8, c8, rfl, r8, f8, -⟩
              have F8 := hid (F7.out.then f8)
              have R8 := hid (r8.mono (S' := New w) fun j hj => Nat.le_trans F7.out.size hj)
              clear r8 f8
              go_wp2
              go_ret3
              exact ⟨.inr ⟨HO.out, A8, c8, rfl, R8.out⟩, F8.out⟩
            · have HO := hid (show openF k xs = 4 from by unfold openF; rw [if_pos hok, if_neg (by rw [← Hn.out, ← Hq.out, hlm]; have := Hq2.out; omega), if_neg (by rw [← Hn.out, ← Hq.out, hlm]; have := Hq2.out; omega), if_neg (fun h => h hse9), if_neg (fun h => h (by rw [← Hn.out]; exact hre)), if_pos (by rw [← Hx2.out]; exact hk2)])
              have hki : ¬ (x2 : Int) = (k : Int) := by omega
              clear hse9 hre
              go_wp2
              go_ret3
              exact ⟨.inl ⟨by rw [HO.out]; decide, by rw [HO.out]; rfl⟩, F6.out⟩
          · have HO := hid (show openF k xs = 5 from by unfold openF; rw [if_pos hok, if_neg (by rw [← Hn.out, ← Hq.out, hlm]; have := Hq2.out; omega), if_neg (by rw [← Hn.out, ← Hq.out, hlm]; have := Hq2.out; omega), if_neg (fun h => h hse9), if_pos (by rw [← Hn.out]; exact hre)])
            go_wp2_with fail
            refine (N12'.out w2 F2.out).mono ?_
            rintro e w3 ⟨rfl, f3⟩
            have F3 := hid (F2.out.then f3)
            clear f3
            go_wp2_with fail
            refine (HS.out w3 F3.out).mono ?_
            rintro e w4 ⟨rfl, rfl⟩
            have hmk2 := hmk w3
            obtain ⟨R, hR⟩ : ∃ R, R = m - (16 + n) := ⟨_, rfl⟩
            rw [← hR] at hmk2
            have hR0 : R ≤ 5000 := by omega
            rw [← hR]
            go_wp2_with fail
            rw [← hR]
            obtain ⟨W5, hW5⟩ : ∃ W5, W5 = w3.alloc (.cells (madeCells #[.int .u8 0] R) 5) := ⟨_, rfl⟩
            have hz := zeros_row R (by omega) w3
            rw [← hW5] at hz ⊢
            have F5 := hid (show Fr Nil w W5 from by rw [hW5]; exact F3.out.alloc _)
            have HZ := hid hz
            clear hW5 hz hmk2
            refine (bequal_no S (New w3) _ _ R _ (List.replicate R 0) W5 (by have h := (VR.out.fr F5.out fun _ _ _ h => h); rw [hR]; exact h) HZ.out.view (HB.out.drop _) (fun c hc => by rw [(List.mem_replicate.1 hc).2]; decide) (by rw [hR, ← hlm]; exact hre)).mono ?_
            rintro e w6 ⟨rfl, f6⟩
            have F6 := hid (F5.out.then f6)
            clear f6
            go_wp2
            go_ret3
            exact ⟨.inl ⟨by rw [HO.out]; decide, by rw [HO.out]; rfl⟩, F6.out⟩
        · have HO := hid (show openF k xs = 5 from by unfold openF; rw [if_pos hok, if_neg (by rw [← Hn.out, ← Hq.out, hlm]; have := Hq2.out; omega), if_neg (by rw [← Hn.out, ← Hq.out, hlm]; have := Hq2.out; omega), if_pos hse])
          go_wp2_with fail
          refine (N12.out w2 F2.out).mono ?_
          rintro e w3 ⟨rfl, f3⟩
          have F3 := hid (F2.out.then f3)
          clear f3
          go_wp2_with fail
          refine (HS.out w3 F3.out).mono ?_
          rintro e w4 ⟨rfl, rfl⟩
          go_wp2
          go_ret3
          exact ⟨.inl ⟨by rw [HO.out]; decide, by rw [HO.out]; rfl⟩, F3.out⟩
      · have VR := hid (hVn.out hne)
        go_quiet (fail)
        rw [show 16 + n - 16 = n from by omega]
        skip
        obtain ⟨w2, hw2⟩ : ∃ w2, w2 = w1.drewN nq := ⟨_, rfl⟩
        rw [← hw2]
        have F2 := hid (show Fr Nil w w2 from by rw [hw2]; exact F1.out.drewN _)
        have hc12 : ¬ c = 12 := by omega
        have hc4 : ¬ c = 4 := by omega
        have h12m : (12 : Int) ≤ (m : Int) := by omega
        have h4m : (4 : Int) ≤ (m : Int) := by omega
        clear hw2 hw1 h16m
        by_cases hse : ((num4 (xs.drop 12) : Nat) : Int) = sumO xs
        · have hse9 := hse
          have N12' := N12
          rw [hse] at N12'
          by_cases hre : xs.drop (16 + n) = List.replicate (xs.length - (16 + n)) 0
          · have hre9 := hre
            go_wp2_with fail
            refine (N12'.out w2 F2.out).mono ?_
            rintro e w3 ⟨rfl, f3⟩
            have F3 := hid (F2.out.then f3)
            clear f3
            go_wp2_with fail
            refine (HS.out w3 F3.out).mono ?_
            rintro e w4 ⟨rfl, rfl⟩
            have hmk2 := hmk w3
            obtain ⟨R, hR⟩ : ∃ R, R = m - (16 + n) := ⟨_, rfl⟩
            rw [← hR] at hmk2
            have hR0 : R ≤ 5000 := by omega
            rw [← hR]
            go_wp2_with fail
            rw [← hR]
            obtain ⟨W5, hW5⟩ : ∃ W5, W5 = w3.alloc (.cells (madeCells #[.int .u8 0] R) 5) := ⟨_, rfl⟩
            have hz := zeros_row R (by omega) w3
            rw [← hW5] at hz ⊢
            have F5 := hid (show Fr Nil w W5 from by rw [hW5]; exact F3.out.alloc _)
            have HZ := hid hz
            clear hW5 hz hmk2
            refine (bequal_ok S (New w3) _ _ R (List.replicate R 0) W5 (by have h := (VR.out.fr F5.out fun _ _ _ h => h); rw [hre, hlm] at h; rw [hR]; exact h) HZ.out.view).mono ?_
            rintro e w6 ⟨rfl, f6⟩
            have F6 := hid (F5.out.then f6)
            have hl6 := Nat.lt_of_lt_of_le hbl F6.out.size
            have p2 : w6.cell? ⟨b, o + 2, none⟩ = some (.int .u8 (x2 : Nat)) := F6.out.cell Q2.out fun h => h
            clear f6
            by_cases hk2 : x2 = k
            · subst hk2
              have HO := hid (show openF x2 xs = 0 from by unfold openF; rw [if_pos hok, if_neg (by rw [← Hn.out, ← Hq.out, hlm]; have := Hq2.out; omega), if_neg (by rw [← Hn.out, ← Hq.out, hlm]; have := Hq2.out; omega), if_neg (fun h => h hse9), if_neg (fun h => h (by rw [← Hn.out]; exact hre)), if_neg (fun h => h Hx2.out.symm)])
              clear hse9 hre
              go_wp2_with fail
              refine (N4.out w6 F6.out).mono ?_
              rintro e w7 ⟨rfl, f7⟩
              have F7 := hid (F6.out.then f7)
              clear f7 p2
              go_wp2_with fail
              refine (bclone_ok S _ n (dataO xs) (by omega) w7 (VD.out.fr F7.out fun _ _ _ h => h)).mono ?_
              rintro e w8 ⟨A8, c8, rfl, r8, f8, -⟩
              have F8 := hid (F7.out.then f8)
              have R8 := hid (r8.mono (S' := New w) fun j hj => Nat.le_trans F7.out.size hj)
              clear r8 f8
              go_wp2
              go_ret3
              exact ⟨.inr ⟨HO.out, A8, c8, rfl, R8.out⟩, F8.out⟩
            · have HO := hid (show openF k xs = 4 from by unfold openF; rw [if_pos hok, if_neg (by rw [← Hn.out, ← Hq.out, hlm]; have := Hq2.out; omega), if_neg (by rw [← Hn.out, ← Hq.out, hlm]; have := Hq2.out; omega), if_neg (fun h => h hse9), if_neg (fun h => h (by rw [← Hn.out]; exact hre)), if_pos (by rw [← Hx2.out]; exact hk2)])
              have hki : ¬ (x2 : Int) = (k : Int) := by omega
              clear hse9 hre
              go_wp2
              go_ret3
              exact ⟨.inl ⟨by rw [HO.out]; decide, by rw [HO.out]; rfl⟩, F6.out⟩
          · have HO := hid (show openF k xs = 5 from by unfold openF; rw [if_pos hok, if_neg (by rw [← Hn.out, ← Hq.out, hlm]; have := Hq2.out; omega), if_neg (by rw [← Hn.out, ← Hq.out, hlm]; have := Hq2.out; omega), if_neg (fun h => h hse9), if_pos (by rw [← Hn.out]; exact hre)])
            go_wp2_with fail
            refine (N12'.out w2 F2.out).mono ?_
            rintro e w3 ⟨rfl, f3⟩
            have F3 := hid (F2.out.then f3)
            clear f3
            go_wp2_with fail
            refine (HS.out w3 F3.out).mono ?_
            rintro e w4 ⟨rfl, rfl⟩
            have hmk2 := hmk w3
            obtain ⟨R, hR⟩ : ∃ R, R = m - (16 + n) := ⟨_, rfl⟩
            rw [← hR] at hmk2
            have hR0 : R ≤ 5000 := by omega
            rw [← hR]
            go_wp2_with fail
            rw [← hR]
            obtain ⟨W5, hW5⟩ : ∃ W5, W5 = w3.alloc (.cells (madeCells #[.int .u8 0] R) 5) := ⟨_, rfl⟩
            have hz := zeros_row R (by omega) w3
            rw [← hW5] at hz ⊢
            have F5 := hid (show Fr Nil w W5 from by rw [hW5]; exact F3.out.alloc _)
            have HZ := hid hz
            clear hW5 hz hmk2
            refine (bequal_no S (New w3) _ _ R _ (List.replicate R 0) W5 (by have h := (VR.out.fr F5.out fun _ _ _ h => h); rw [hR]; exact h) HZ.out.view (HB.out.drop _) (fun c hc => by rw [(List.mem_replicate.1 hc).2]; decide) (by rw [hR, ← hlm]; exact hre)).mono ?_
            rintro e w6 ⟨rfl, f6⟩
            have F6 := hid (F5.out.then f6)
            clear f6
            go_wp2
            go_ret3
            exact ⟨.inl ⟨by rw [HO.out]; decide, by rw [HO.out]; rfl⟩, F6.out⟩
        · have HO := hid (show openF k xs = 5 from by unfold openF; rw [if_pos hok, if_neg (by rw [← Hn.out, ← Hq.out, hlm]; have := Hq2.out; omega), if_neg (by rw [← Hn.out, ← Hq.out, hlm]; have := Hq2.out; omega), if_pos hse])
          go_wp2_with fail
          refine (N12.out w2 F2.out).mono ?_
          rintro e w3 ⟨rfl, f3⟩
          have F3 := hid (F2.out.then f3)
          clear f3
          go_wp2_with fail
          refine (HS.out w3 F3.out).mono ?_
          rintro e w4 ⟨rfl, rfl⟩
          go_wp2
          go_ret3
          exact ⟨.inl ⟨by rw [HO.out]; decide, by rw [HO.out]; rfl⟩, F3.out⟩
    · have HO := hid (show openF k xs = 2 from by unfold openF; rw [if_pos hok, if_neg (by rw [← Hn.out, ← Hq.out, hlm]; omega), if_pos (by rw [← Hn.out, ← Hq.out, hlm]; exact hgt)])
      have hlt2 : ¬ 64 * (q : Int) < (m : Int) := by omega
      have hlt3 : (m : Int) < 64 * (q : Int) := by omega
      clear hq hx2 hv hB hok
      go_enter Tryz.func43, Tryz.ntmps43
      go_wp2_with fail
      refine Hh.out.mono ?_
      rintro e w1 ⟨rfl, f1⟩
      have F1 := hid f1
      clear f1
      go_wp2_with fail
      refine (HBl.out w1).mono ?_
      rintro e w2 ⟨rfl, rfl⟩
      go_wp2
      go_ret3
      exact ⟨.inl ⟨by rw [HO.out]; decide, by rw [HO.out]; rfl⟩, F1.out⟩
  · have Hh := hid (head_bad S b o m c _ hm hmx w hv hB hok)
    have HO := hid (show openF k xs = 4 from by unfold openF; rw [if_neg hok])
    clear hv hB hok
    go_enter Tryz.func43, Tryz.ntmps43
    go_wp2_with fail
    refine Hh.out.mono ?_
    rintro e w1 ⟨rfl, f1⟩
    have F1 := hid f1
    clear f1
    go_wp2
    go_ret3
    exact ⟨.inl ⟨by rw [HO.out]; decide, by rw [HO.out]; rfl⟩, F1.out⟩
end Go.Proofs.YtgoghmblfdlnbaaGreat
end

section
/- Slab: Load of whatever the blocks hold. Conditions: no read fails; the blocks are on the platter. -/
set_option linter.unusedSimpArgs false
set_option linter.unusedVariables false
namespace Go.Proofs.YtgoghmblfdlnbaaGreat
open Go.RowKit nd
def loadF (g : Nat) (xs : List Nat) : Sum Nd Int := if openF 78 xs ≠ 0 then .inr (openF 78 xs : Nat) else if num4 (xs.drop 4) ≠ g then .inr 5 else decd (dataO xs)
def LPost (w : World) (e : Ending) (w' : World) : Sum Nd Int → Prop
  | .inl x => ∃ q, e = .returned (.tuple #[.agg (ncells x q), .int .i64 0]) ∧ Vs w' (New w) q x
  | .inr er => e = .returned (.tuple #[.agg nil5, .int .i64 er])
theorem dataO_byt {xs : List Nat} (h : Byt xs) : Byt (dataO xs) := (h.drop 16).take _
set_option maxRecDepth 20000 in
set_option maxHeartbeats 1600000 in
theorem sload_gen {Q TP : Nat → Prop} {w0 w : World} {lb plb sb pb bl N gen m : Nat} {p : Pl} {U L H : List Us} {A l : List Rn} (h : Sl Q TP w0 w lb plb sb pb bl N gen m p U L H A l) (a n g : Nat) (xs : List Nat) (hxs : frm p a n = xs) (hB : Byt xs) (hn1 : 1 ≤ n) (hn : n ≤ 1000) (hg : g ≤ 4294967295) (hfa : p.fa = []) (hm : m ≤ 900000) (hab : a + n ≤ bl) (Post : Ending → World → Prop)
    (hP : ∀ (e : Ending) (p' : Pl) (w' : World), LPost w e w' (loadF g xs) ∧ Sl Q TP w0 w' lb plb sb pb bl N gen (m + n) p' U L H A l ∧ After p p' (fun _ => False) ∧ Fr TP w w' → Post e w') :
    Calls Tryz.prog 14 #[.pointer (some ⟨lb, 0, none⟩), .agg #[.int .i64 (a : Nat), .int .i64 (n : Nat), .int .i64 (g : Nat)]] w Post := by
  have HPost := hid hP
  have HS0 := hid h
  have Hfa := hid hfa
  have Hm := hid hm
  have Hab := hid hab
  have Hxs := hid hxs
  have HB := hid hB
  clear hP h hfa hm hab hxs hB
  go_enter Tryz.func14, Tryz.ntmps14
  go_wp2_with fail
  obtain ⟨W1, hW1⟩ : ∃ W1, W1 = (w.alloc (.cells #[.int .i64 (a : Nat), .int .i64 (n : Nat), .int .i64 (g : Nat)] 57)).alloc (.cells nil5 62) := ⟨_, rfl⟩
  obtain ⟨kb, hkb⟩ : ∃ kb, kb = w.heap.size := ⟨_, rfl⟩
  obtain ⟨rb, hrb⟩ : ∃ rb, rb = w.heap.size + 1 := ⟨_, rfl⟩
  have f1 : Fr Nil w W1 := by rw [hW1]; exact ((Fr.refl _ _).alloc _).alloc _
  have hK1 : Blk W1 kb #[.int .i64 (a : Nat), .int .i64 (n : Nat), .int .i64 (g : Nat)] 57 := by rw [hW1, hkb]; exact (Blk.new _ _ _).alloc _
  have hR1 : Blk W1 rb nil5 62 := by
    rw [hW1, hrb]
    have := Blk.new (w.alloc (.cells #[.int .i64 (a : Nat), .int .i64 (n : Nat), .int .i64 (g : Nat)] 57)) nil5 62
    rwa [World.size_alloc] at this
  rw [show (#[.int .i64 0, .slice none 0 0, .slice none 0 0, .slice none 0 0, .slice none 0 0] : Array Value) = nil5 from rfl, ← hW1, ← hrb, ← hkb]
  have H1 := hid (HS0.out.drop (Q := fun k => Q k ∨ k = kb ∨ k = rb) f1 (fun k hk => hk.imp id fun e => by omega) fun k hk => by
    have h1 := hK1.lt
    have h2 := hR1.lt
    rcases hk with hk | hk | hk
    · exact Nat.lt_of_lt_of_le (HS0.out.tlt k (.inl hk)) f1.size
    · omega
    · omega)
  have HR1 := hid hR1
  have HK1 := hid hK1
  have F1 := hid f1
  have Hrb := hid (show w.heap.size ≤ rb ∧ w.heap.size ≤ kb from by omega)
  have Hw0 := hid (show w0.heap.size ≤ rb ∧ ¬ Q rb from ⟨by have := HS0.out.g.fr0.size; omega, fun hq => by have := HS0.out.tlt rb (.inl hq); omega⟩)
  clear hW1 hrb hkb f1 hR1 hK1 HS0
  refine (sread_ok H1.out a n hn1 Hab.out Hm.out).mono ?_
  rintro e w2 ⟨er, k, c, ys, B, p', rfl, hrow, hS, hA, hcase, hok, hF⟩
  obtain rfl : er = 0 := hok Hfa.out
  obtain ⟨rfl, rfl⟩ : k = 64 * n ∧ ys = frm p a n := by
    rcases hcase with h | h
    · exact h.2
    · exact absurd h.1 (by decide)
  rw [Hxs.out] at hrow
  obtain ⟨gb, cc, hBe, hgb, hgl⟩ := hrow.form (by omega)
  injection hBe with hBe _ hcc
  subst hBe; subst hcc
  have HT := hid (fun j (hj : TP j) => (H1.out.q j (.inl hj)).2)
  have HK2 := hid (HK1.out.fr hF fun h => HT.out _ h (.inr (.inl rfl)))
  have HR2 := hid (HR1.out.fr hF fun h => HT.out _ h (.inr (.inr rfl)))
  have H2 := hid hS
  have HA := hid hA
  have HW := hid hrow
  have F2 := hid ((F1.out.nil (S := TP)).then hF)
  clear hrow hS hA hcase hok hF HK1 HR1 H1
  go_wp2_with fail
  refine (lopen_gen _ 78 (by decide) gb 0 (64 * n) c xs (by omega) (by omega) w2 HW.out.view HB.out).mono ?_
  rintro e w3 ⟨hres, hf3⟩
  have H3 := hid (H2.out.nil hf3)
  have HK3 := hid (HK2.out.fr hf3 fun h => h)
  have HR3 := hid (HR2.out.fr hf3 fun h => h)
  have F3 := hid (F2.out.thenNil hf3)
  clear hf3 HK2 HR2 H2
  rcases hres with ⟨ho, rfl⟩ | ⟨ho, D, dc, rfl, hD⟩
  · have HLF := hid (show loadF g xs = .inr (openF 78 xs : Nat) from by unfold loadF; rw [if_pos ho])
    obtain ⟨er, her⟩ : ∃ er, er = openF 78 xs := ⟨_, rfl⟩
    rw [← her] at HLF ho ⊢
    have her0 : ¬ (er : Int) = 0 := by omega
    clear ho her
    have hr7 := HR3.out
    have HR7 := hid hr7
    have k0 : w3.cell? ⟨rb, 0, none⟩ = some (.int .i64 0) := hr7.cell 0
    have k1 : w3.cell? ⟨rb, 1, none⟩ = some (.slice none 0 0) := hr7.cell 1
    have k2 : w3.cell? ⟨rb, 2, none⟩ = some (.slice none 0 0) := hr7.cell 2
    have k3 : w3.cell? ⟨rb, 3, none⟩ = some (.slice none 0 0) := hr7.cell 3
    have k4 : w3.cell? ⟨rb, 4, none⟩ = some (.slice none 0 0) := hr7.cell 4
    have z0 := hr7.frozen 0
    have z1 := hr7.frozen 1
    have z2 := hr7.frozen 2
    have z3 := hr7.frozen 3
    have z4 := hr7.frozen 4
    have hrl := hr7.lt
    clear hr7
    go_wp2
    have hfs := st5_fr w3 rb (.int .i64 0) (.slice none 0 0) (.slice none 0 0) (.slice none 0 0) (.slice none 0 0)
    have hb9 := st5_blk HR7.out (.int .i64 0) (.slice none 0 0) (.slice none 0 0) (.slice none 0 0) (.slice none 0 0)
    unfold st5 at hfs hb9
    generalize ((((w3.setCell ⟨rb, 0, none⟩ (.int .i64 0)).setCell ⟨rb, 1, none⟩ (.slice none 0 0)).setCell ⟨rb, 2, none⟩ (.slice none 0 0)).setCell ⟨rb, 3, none⟩ (.slice none 0 0)).setCell ⟨rb, 4, none⟩ (.slice none 0 0) = W9 at *
    have r0 : W9.cell? ⟨rb, 0, none⟩ = some (.int .i64 0) := hb9.cell 0
    have r1 : W9.cell? ⟨rb, 1, none⟩ = some (.slice none 0 0) := hb9.cell 1
    have r2 : W9.cell? ⟨rb, 2, none⟩ = some (.slice none 0 0) := hb9.cell 2
    have r3 : W9.cell? ⟨rb, 3, none⟩ = some (.slice none 0 0) := hb9.cell 3
    have r4 : W9.cell? ⟨rb, 4, none⟩ = some (.slice none 0 0) := hb9.cell 4
    have HFS := hid hfs
    clear hfs hb9
    simp [bodyPost, results, Tryz.results14, go_sem, r0, r1, r2, r3, r4]
    refine HPost.out _ _ _ ⟨by rw [HLF.out]; rfl,
      H3.out.own (Q := Q) HFS.out (fun k hk => .inl (.inr (.inr hk))) (fun k hk => by rw [hk]; exact Hw0.out.1) (fun k hk => .inl (.inl hk)), HA.out, F3.out.trans HFS.out fun k hk => .inr (by rw [hk]; exact Hrb.out.1)⟩
  · have HD := hid hD
    clear hD
    have Hd := hid (show (dataO xs).length = num4 (xs.drop 8) from by have := HD.out.view.lenb; exact this)
    obtain ⟨d, hd⟩ : ∃ d, d = num4 (xs.drop 8) := ⟨_, rfl⟩
    rw [← hd] at HD Hd ⊢
    have hd9 : d ≤ 100000 := by have h1 := HW.out.view.lenb; have := Hd.out; unfold dataO at this; rw [List.length_take, List.length_drop] at this; omega
    clear hd
    have k2 : w3.cell? ⟨kb, 2, none⟩ = some (.int .i64 (g : Nat)) := HK3.out.cell 2
    by_cases hgg : num4 (xs.drop 4) = g
    · have HLF := hid (show loadF g xs = decd (dataO xs) from by unfold loadF; rw [if_neg (fun h => h ho), if_neg (fun h => h hgg)])
      rw [hgg]
      clear hgg ho
      go_wp2_with fail
      refine (dec_ok _ (.slice D d dc) d (dataO xs) hd9 (dataO_byt HB.out) w3 HD.out.view).mono ?_
      rintro e w4 hpost
      clear k2
      have hsz : w.heap.size ≤ w3.heap.size := F3.out.size
      cases hdc : decd (dataO xs) with
      | inl x =>
        rw [hdc] at hpost
        obtain ⟨q', rfl, hV, hf4⟩ := hpost
        have hr7 := HR3.out.fr hf4 fun h => h
        have H3' := hid (H3.out.nil hf4)
        have F3' := hid (F3.out.thenNil hf4)
        have HV := hid hV
        have HLF2 := hid (HLF.out.trans hdc)
        have Hrl := hid (show rb < w3.heap.size from HR3.out.lt)
        clear hV hf4 H3 F3 hdc HLF
        have H3 := H3'
        have F3 := F3'
        clear H3' F3'
        have HR7 := hid hr7
        have k0 : w4.cell? ⟨rb, 0, none⟩ = some (.int .i64 0) := hr7.cell 0
        have k1 : w4.cell? ⟨rb, 1, none⟩ = some (.slice none 0 0) := hr7.cell 1
        have k2 : w4.cell? ⟨rb, 2, none⟩ = some (.slice none 0 0) := hr7.cell 2
        have k3 : w4.cell? ⟨rb, 3, none⟩ = some (.slice none 0 0) := hr7.cell 3
        have k4 : w4.cell? ⟨rb, 4, none⟩ = some (.slice none 0 0) := hr7.cell 4
        have z0 := hr7.frozen 0
        have z1 := hr7.frozen 1
        have z2 := hr7.frozen 2
        have z3 := hr7.frozen 3
        have z4 := hr7.frozen 4
        have hrl := hr7.lt
        clear hr7
        unfold ncells
        go_wp2
        have hfs := st5_fr w4 rb (.int .i64 x.h) (.slice q'.A1 x.ks.length q'.c1) (.slice q'.A2 x.ps.length q'.c2) (.slice q'.A3 x.gs.length q'.c3) (.slice q'.A4 x.ds.length q'.c4)
        have hb9 := st5_blk HR7.out (.int .i64 x.h) (.slice q'.A1 x.ks.length q'.c1) (.slice q'.A2 x.ps.length q'.c2) (.slice q'.A3 x.gs.length q'.c3) (.slice q'.A4 x.ds.length q'.c4)
        unfold st5 at hfs hb9
        generalize ((((w4.setCell ⟨rb, 0, none⟩ (.int .i64 x.h)).setCell ⟨rb, 1, none⟩ (.slice q'.A1 x.ks.length q'.c1)).setCell ⟨rb, 2, none⟩ (.slice q'.A2 x.ps.length q'.c2)).setCell ⟨rb, 3, none⟩ (.slice q'.A3 x.gs.length q'.c3)).setCell ⟨rb, 4, none⟩ (.slice q'.A4 x.ds.length q'.c4) = W9 at *
        have r0 : W9.cell? ⟨rb, 0, none⟩ = some (.int .i64 x.h) := hb9.cell 0
        have r1 : W9.cell? ⟨rb, 1, none⟩ = some (.slice q'.A1 x.ks.length q'.c1) := hb9.cell 1
        have r2 : W9.cell? ⟨rb, 2, none⟩ = some (.slice q'.A2 x.ps.length q'.c2) := hb9.cell 2
        have r3 : W9.cell? ⟨rb, 3, none⟩ = some (.slice q'.A3 x.gs.length q'.c3) := hb9.cell 3
        have r4 : W9.cell? ⟨rb, 4, none⟩ = some (.slice q'.A4 x.ds.length q'.c4) := hb9.cell 4
        have HFS := hid hfs
        clear hfs hb9
        simp [bodyPost, results, Tryz.results14, go_sem, r0, r1, r2, r3, r4]
        refine HPost.out _ _ _ ⟨by
          rw [HLF2.out]
          exact ⟨q', rfl, (HV.out.fr HFS.out fun k hk e => by have h1 : w3.heap.size ≤ k := hk; have := Hrl.out; omega).mono fun k hk => Nat.le_trans hsz hk⟩,
          H3.out.own (Q := Q) HFS.out (fun k hk => .inl (.inr (.inr hk))) (fun k hk => by rw [hk]; exact Hw0.out.1) (fun k hk => .inl (.inl hk)), HA.out, F3.out.trans HFS.out fun k hk => .inr (by rw [hk]; exact Hrb.out.1)⟩
      | inr er =>
        rw [hdc] at hpost
        obtain ⟨rfl, hf4⟩ := hpost
        have hr7 := HR3.out.fr hf4 fun h => h
        have H3' := hid (H3.out.nil hf4)
        have F3' := hid (F3.out.thenNil hf4)
        have HLF2 := hid (HLF.out.trans hdc)
        clear hf4 H3 F3 hdc HLF
        have H3 := H3'
        have F3 := F3'
        clear H3' F3'
        have HR7 := hid hr7
        have k0 : w4.cell? ⟨rb, 0, none⟩ = some (.int .i64 0) := hr7.cell 0
        have k1 : w4.cell? ⟨rb, 1, none⟩ = some (.slice none 0 0) := hr7.cell 1
        have k2 : w4.cell? ⟨rb, 2, none⟩ = some (.slice none 0 0) := hr7.cell 2
        have k3 : w4.cell? ⟨rb, 3, none⟩ = some (.slice none 0 0) := hr7.cell 3
        have k4 : w4.cell? ⟨rb, 4, none⟩ = some (.slice none 0 0) := hr7.cell 4
        have z0 := hr7.frozen 0
        have z1 := hr7.frozen 1
        have z2 := hr7.frozen 2
        have z3 := hr7.frozen 3
        have z4 := hr7.frozen 4
        have hrl := hr7.lt
        clear hr7
        unfold nil5
        go_wp2
        have hfs := st5_fr w4 rb (.int .i64 0) (.slice none 0 0) (.slice none 0 0) (.slice none 0 0) (.slice none 0 0)
        have hb9 := st5_blk HR7.out (.int .i64 0) (.slice none 0 0) (.slice none 0 0) (.slice none 0 0) (.slice none 0 0)
        unfold st5 at hfs hb9
        generalize ((((w4.setCell ⟨rb, 0, none⟩ (.int .i64 0)).setCell ⟨rb, 1, none⟩ (.slice none 0 0)).setCell ⟨rb, 2, none⟩ (.slice none 0 0)).setCell ⟨rb, 3, none⟩ (.slice none 0 0)).setCell ⟨rb, 4, none⟩ (.slice none 0 0) = W9 at *
        have r0 : W9.cell? ⟨rb, 0, none⟩ = some (.int .i64 0) := hb9.cell 0
        have r1 : W9.cell? ⟨rb, 1, none⟩ = some (.slice none 0 0) := hb9.cell 1
        have r2 : W9.cell? ⟨rb, 2, none⟩ = some (.slice none 0 0) := hb9.cell 2
        have r3 : W9.cell? ⟨rb, 3, none⟩ = some (.slice none 0 0) := hb9.cell 3
        have r4 : W9.cell? ⟨rb, 4, none⟩ = some (.slice none 0 0) := hb9.cell 4
        have HFS := hid hfs
        clear hfs hb9
        simp [bodyPost, results, Tryz.results14, go_sem, r0, r1, r2, r3, r4]
        refine HPost.out _ _ _ ⟨by rw [HLF2.out]; rfl,
          H3.out.own (Q := Q) HFS.out (fun k hk => .inl (.inr (.inr hk))) (fun k hk => by rw [hk]; exact Hw0.out.1) (fun k hk => .inl (.inl hk)), HA.out, F3.out.trans HFS.out fun k hk => .inr (by rw [hk]; exact Hrb.out.1)⟩
    · have HLF := hid (show loadF g xs = .inr 5 from by unfold loadF; rw [if_neg (fun h => h ho), if_pos hgg])
      have hgi : ¬ ((num4 (xs.drop 4) : Nat) : Int) = (g : Int) := by omega
      generalize num4 (xs.drop 4) = g4 at *
      have K2 := hid k2
      clear hgg ho k2
      have hr7 := HR3.out
      have kg := K2.out
      have HR7 := hid hr7
      have k0 : w3.cell? ⟨rb, 0, none⟩ = some (.int .i64 0) := hr7.cell 0
      have k1 : w3.cell? ⟨rb, 1, none⟩ = some (.slice none 0 0) := hr7.cell 1
      have k2 : w3.cell? ⟨rb, 2, none⟩ = some (.slice none 0 0) := hr7.cell 2
      have k3 : w3.cell? ⟨rb, 3, none⟩ = some (.slice none 0 0) := hr7.cell 3
      have k4 : w3.cell? ⟨rb, 4, none⟩ = some (.slice none 0 0) := hr7.cell 4
      have z0 := hr7.frozen 0
      have z1 := hr7.frozen 1
      have z2 := hr7.frozen 2
      have z3 := hr7.frozen 3
      have z4 := hr7.frozen 4
      have hrl := hr7.lt
      clear hr7
      go_wp2
      have hfs := st5_fr w3 rb (.int .i64 0) (.slice none 0 0) (.slice none 0 0) (.slice none 0 0) (.slice none 0 0)
      have hb9 := st5_blk HR7.out (.int .i64 0) (.slice none 0 0) (.slice none 0 0) (.slice none 0 0) (.slice none 0 0)
      unfold st5 at hfs hb9
      generalize ((((w3.setCell ⟨rb, 0, none⟩ (.int .i64 0)).setCell ⟨rb, 1, none⟩ (.slice none 0 0)).setCell ⟨rb, 2, none⟩ (.slice none 0 0)).setCell ⟨rb, 3, none⟩ (.slice none 0 0)).setCell ⟨rb, 4, none⟩ (.slice none 0 0) = W9 at *
      have r0 : W9.cell? ⟨rb, 0, none⟩ = some (.int .i64 0) := hb9.cell 0
      have r1 : W9.cell? ⟨rb, 1, none⟩ = some (.slice none 0 0) := hb9.cell 1
      have r2 : W9.cell? ⟨rb, 2, none⟩ = some (.slice none 0 0) := hb9.cell 2
      have r3 : W9.cell? ⟨rb, 3, none⟩ = some (.slice none 0 0) := hb9.cell 3
      have r4 : W9.cell? ⟨rb, 4, none⟩ = some (.slice none 0 0) := hb9.cell 4
      have HFS := hid hfs
      clear hfs hb9
      simp [bodyPost, results, Tryz.results14, go_sem, r0, r1, r2, r3, r4]
      refine HPost.out _ _ _ ⟨by rw [HLF.out]; rfl,
        H3.out.own (Q := Q) HFS.out (fun k hk => .inl (.inr (.inr hk))) (fun k hk => by rw [hk]; exact Hw0.out.1) (fun k hk => .inl (.inl hk)), HA.out, F3.out.trans HFS.out fun k hk => .inr (by rw [hk]; exact Hrb.out.1)⟩
end Go.Proofs.YtgoghmblfdlnbaaGreat
end

section
/- platter's Rot. Conditions: the platter is a block of the program's own. -/
set_option linter.unusedSimpArgs false
set_option linter.unusedVariables false
namespace Go.Proofs.YtgoghmblfdlnbaaGreat
open Go.RowKit

theorem rot_bad (T : Nat → Prop) (pb : Nat) (p : Pl) (n bit mask : Int) (w : World) (h : IsP w T pb p) (hb : ¬ (0 ≤ n ∧ n < p.bl.length) ∨ bit < 0 ∨ 512 ≤ bit) :
    Calls Tryz.prog 24 #[.pointer (some ⟨pb, 0, none⟩), .int .i64 n, .int .i64 bit, .int .u32 mask] w fun e w' => e = .returned (.bool false) ∧ w = w' := by
  go_enter Tryz.func24, Tryz.ntmps24
  go_wp2_with fail
  refine (there_ok T pb p n w h).mono ?_
  rintro e w2 ⟨rfl, rfl⟩
  by_cases ht : 0 ≤ n ∧ n < p.bl.length
  · rw [decide_eq_true ht]
    have hb2 : bit < 0 ∨ 512 ≤ bit := hb.elim (fun h => absurd ht h) id
    clear hb ht
    by_cases h1 : bit < 0
    · go_wp2
      go_ret
      exact ⟨rfl, rfl⟩
    · have h2 : 512 ≤ bit := by omega
      go_wp2
      go_ret
      exact ⟨rfl, rfl⟩
  · rw [decide_eq_false ht]
    clear ht hb
    go_wp2
    go_ret
    exact ⟨rfl, rfl⟩

/-- What is turned in a byte by bit i of the mask. -/
def fx (mask bit i : Nat) : Nat := (mask / 2 ^ i % 2) * 2 ^ ((bit + i) % 8)
theorem fx_lt (mask bit i : Nat) : fx mask bit i < 256 := by
  unfold fx
  have h1 : mask / 2 ^ i % 2 ≤ 1 := by omega
  have h2 : 2 ^ ((bit + i) % 8) ≤ 128 := by
    have : (bit + i) % 8 ≤ 7 := by omega
    exact Nat.le_trans (Nat.pow_le_pow_right (by omega) this) (by decide)
  have := Nat.mul_le_mul h1 h2
  omega
theorem xor_lt {x y : Nat} (hx : x < 256) (hy : y < 256) : x ^^^ y < 256 := Nat.xor_lt_two_pow (n := 8) hx hy
theorem rotv (y mask bit i : Nat) (hy : y < 256) (hm : mask < 4294967296) : bits .xor .u8 (y : Int) (bits .and .u32 ((mask : Int) / 2 ^ i) 1 % 256 * 2 ^ ((bit + i) % 8) % 256) = ((y ^^^ fx mask bit i : Nat) : Int) := by
  have h1 : ((mask : Int) / 2 ^ i) = ((mask / 2 ^ i : Nat) : Int) := by simp
  have h0 : mask / 2 ^ i < 4294967296 := Nat.lt_of_le_of_lt (Nat.div_le_self _ _) hm
  have h2 : bits .and .u32 ((mask / 2 ^ i : Nat) : Int) 1 = ((mask / 2 ^ i % 2 : Nat) : Int) := by
    have h := u32_and_nat (mask / 2 ^ i) 1 h0 (by omega)
    rw [Nat.and_one_is_mod] at h
    exact h
  have h3 : ((mask / 2 ^ i % 2 : Nat) : Int) % 256 * 2 ^ ((bit + i) % 8) % 256 = ((fx mask bit i : Nat) : Int) := by
    have h4 := fx_lt mask bit i
    have h5 : ((mask / 2 ^ i % 2 : Nat) : Int) % 256 = ((mask / 2 ^ i % 2 : Nat) : Int) := by omega
    rw [h5]
    have h6 : (((mask / 2 ^ i % 2 : Nat) : Int) * 2 ^ ((bit + i) % 8)) = ((fx mask bit i : Nat) : Int) := by unfold fx; simp
    rw [h6]
    omega
  rw [h1, h2, h3]
  have h4 := fx_lt mask bit i
  rw [u8_xor (y : Int) _ (by omega) (by omega) (by omega) (by omega), Int.toNat_natCast, Int.toNat_natCast]
def stepR (bit mask : Nat) (xs : List Nat) (i : Nat) : List Nat := xs.set ((bit + i) / 8) (xs.getD ((bit + i) / 8) 0 ^^^ fx mask bit i)
def rotN (xs : List Nat) (bit mask m : Nat) : List Nat := (List.range m).foldl (stepR bit mask) xs
theorem rotN_succ (xs : List Nat) (bit mask m : Nat) : rotN xs bit mask (m + 1) = stepR bit mask (rotN xs bit mask m) m := by simp [rotN, List.range_succ]
theorem rotN_len (xs : List Nat) (bit mask m : Nat) : (rotN xs bit mask m).length = xs.length := by
  induction m with
  | zero => rfl
  | succ m ih => rw [rotN_succ]; simp [stepR, ih]
theorem stepR_byt {xs : List Nat} (h : Byt xs) (bit mask i : Nat) : Byt (stepR bit mask xs i) := by
  intro c hc
  unfold stepR at hc
  rcases List.mem_or_eq_of_mem_set hc with hc | rfl
  · exact h c hc
  · refine xor_lt ?_ (fx_lt _ _ _)
    unfold List.getD
    cases hg : xs[(bit + i) / 8]? with
    | none => simp
    | some y => exact h y (List.mem_of_getElem? hg)
theorem rotN_byt {xs : List Nat} (h : Byt xs) (bit mask m : Nat) : Byt (rotN xs bit mask m) := by
  induction m with
  | zero => exact h
  | succ m ih => rw [rotN_succ]; exact stepR_byt ih _ _ _
def Pl.rot (p : Pl) (n bit mask : Nat) : Pl := { p with bl := p.bl.set n (rotN (p.bl.getD n []) bit mask (min 32 (512 - bit))) }

set_option maxRecDepth 100000 in
set_option maxHeartbeats 3200000 in
theorem rot_ok (T : Nat → Prop) (pb : Nat) (p : Pl) (n bit mask : Nat) (w : World) (h : IsP w T pb p) (hn : n < p.bl.length) (hbit : bit < 512) (hmask : mask < 4294967296) :
    Calls Tryz.prog 24 #[.pointer (some ⟨pb, 0, none⟩), .int .i64 (n : Int), .int .i64 (bit : Int), .int .u32 (mask : Int)] w fun e w' => e = .returned (.bool true) ∧ IsP w' (Grow w T) pb (p.rot n bit mask) ∧ Fr T w w' := by
  have d1 : ¬ (bit : Int) < 0 := by omega
  have d2 : ¬ (512 : Int) ≤ (bit : Int) := by omega
  go_enter Tryz.func24, Tryz.ntmps24
  go_wp2_with fail
  refine (there_ok T pb p n w h).mono ?_
  rintro e w2 ⟨rfl, rfl⟩
  rw [decide_eq_true (show (0 : Int) ≤ (n : Int) ∧ (n : Int) < (p.bl.length : Int) by omega)]
  obtain ⟨g0, vb, vc, vf, g1, ⟨bs, g2, g2'⟩, g3, g4⟩ := h
  have hbl : bs.length = p.bl.length := by have := g2.length; rwa [Nat.mul_one] at this
  obtain ⟨gb, kb, rfl, hTb, hltb⟩ := g2.form (by omega)
  have hc0 : w.cell? ⟨pb, 0, none⟩ = some (.slice (some ⟨gb, 0, none⟩) p.bl.length kb) := g1.cell 0
  have hpn : p.bl[n]? = some p.bl[n] := List.getElem?_eq_getElem hn
  obtain ⟨u, hu, hdu⟩ := g2' n _ hpn
  have hcu : w.cell? ⟨gb, n, none⟩ = some u := g2.cell hu
  have hb0 : ((n : Int)) < ((p.bl.length : Int)) := by omega
  have hb1 : (0 : Int) ≤ (n : Int) := by omega
  have hgd : Hid (p.bl.getD n [] = p.bl[n]) := hid (by simp [List.getD, hpn])
  generalize p.bl[n] = x0 at *
  obtain ⟨Au, ku, rfl⟩ : ∃ A c, u = .slice A 64 c := let ⟨_, A, c, e, _⟩ := hdu.2.2; ⟨A, c, e⟩
  go_wp2_with fail
  refine (bclone_ok _ (.slice Au 64 ku) 64 x0 (by omega) w hdu.2.2).mono ?_
  rintro e w2 ⟨A2, k2, rfl, hR2, hf2, -⟩
  obtain ⟨gr, k2', hgr, -, hltr⟩ := hR2.form (by omega)
  injection hgr with hgr1 _ hgr2
  subst hgr1; subst hgr2
  by_cases hq : (512 : Int) - (bit : Int) < 32
  · go_wp2_with fail
    go_loopw [39] (fun v39 wr => ∃ i : Nat, v39 = .int .i64 i ∧ i ≤ 512 - bit ∧ Fr (fun k => k = gr) w2 wr ∧ Row wr (New w) 5 1 (.slice (some ⟨gr, 0, none⟩) 64 k2) 64 (bys (rotN x0 bit mask i))) (fun v39 _ => 512 - bit - (intOf v39).toNat)
    case atStart => exact ⟨0, rfl, by omega, Fr.refl _ _, hR2⟩
    case round =>
      obtain ⟨i, rfl, hi, hfr, hR⟩ := hrel
      have hxl : (rotN x0 bit mask i).length = 64 := by rw [rotN_len]; exact hdu.1
      have hxB := rotN_byt hdu.2.1 bit mask i
      have HS := hid (rotN_succ x0 bit mask i)
      by_cases hlt : (i : Int) < 512 - (bit : Int)
      · have hk : (bit + i) / 8 < (rotN x0 bit mask i).length := by omega
        have hgx : (rotN x0 bit mask i)[(bit + i) / 8]? = some (rotN x0 bit mask i)[(bit + i) / 8] := List.getElem?_eq_getElem hk
        have hgd2 : Hid ((rotN x0 bit mask i).getD ((bit + i) / 8) 0 = (rotN x0 bit mask i)[(bit + i) / 8]) := hid (by simp [List.getD, hgx])
        have hcell : wr.cell? ⟨gr, (bit + i) / 8, none⟩ = some (.int .u8 (((rotN x0 bit mask i)[(bit + i) / 8] : Nat) : Int)) := hR.cell (by simp [bys, hgx])
        have hfz : wr.frozen? ⟨gr, (bit + i) / 8, none⟩ = false := hR.frozen _
        have hy : (rotN x0 bit mask i)[(bit + i) / 8] < 256 := hxB _ (List.getElem_mem hk)
        generalize (rotN x0 bit mask i)[(bit + i) / 8] = y at *
        have hval := hid (rotv y mask bit i hy hmask)
        clear hgx
        go_wp2_with fail
        go_region
        rw [hval.out]
        go_wp2
        go_roundw
        case rel =>
          refine ⟨i + 1, by go_num, by omega, (hfr.setCell (a := ⟨gr, (bit + i) / 8, none⟩) (.inl rfl) _).drew, ?_⟩
          rw [HS.out]
          unfold stepR
          rw [hgd2.out]
          have := (hR.store ((bit + i) / 8) (.int .u8 ((y ^^^ fx mask bit i : Nat) : Int))).drew
          have e9 : (bys (rotN x0 bit mask i)).set ((bit + i) / 8) (.int .u8 ((y ^^^ fx mask bit i : Nat) : Int)) = bys ((rotN x0 bit mask i).set ((bit + i) / 8) (y ^^^ fx mask bit i)) := by simp [bys, List.map_set]
          rw [e9] at this
          exact this
        case measure => simp [intOf]; omega
      · have hic : Hid (i = 512 - bit ∧ 512 - bit = min 32 (512 - bit)) := hid (by omega)
        have hf02 : Fr (fun k => k = gr) w wr := hf2.nil.then hfr
        have hltr2 : w.heap.size ≤ gr := hR.2 gr rfl
        have hne1 : pb ≠ gr := by have := g1.lt; omega
        have c0 : wr.cell? ⟨pb, 0, none⟩ = some (.slice (some ⟨gb, 0, none⟩) p.bl.length kb) := hf02.cell hc0 hne1
        have hne2 : gb ≠ gr := by omega
        have cn : wr.cell? ⟨gb, n, none⟩ = some (.slice Au 64 ku) := hf02.cell hcu hne2
        have g2r := g2.fr hf02 (fun k hk e => by simp [Value.ownBlock] at hk; omega)
        have zn : wr.frozen? ⟨gb, n, none⟩ = false := g2r.frozen n
        go_wp2
        go_ret
        have hfw : Fr (fun k => k = gb) wr (wr.setCell ⟨gb, n, none⟩ (.slice (some ⟨gr, 0, none⟩) 64 k2)) := (Fr.refl (fun k => k = gb) wr).setCell (a := ⟨gb, n, none⟩) (.inl rfl) _
        have hY : ∀ k, T k → k < w.heap.size → k = gr → Typ w k 4 := fun k _ h1 h2 => by omega
        have hYb : ∀ (T' : Nat → Prop) k, T' k → k < wr.heap.size → k = gb → Typ wr k 30 := fun T' k _ _ h2 => by rw [h2]; exact g2r.own_typ rfl
        have hdat : Dat wr (Grow w T) (.slice (some ⟨gr, 0, none⟩) 64 k2) (rotN x0 bit mask i) := ⟨hxl, hxB, hR.vt.mono fun k hk => .inr hk⟩
        refine ⟨rfl, ⟨.inl g0, _, vc, vf, (g1.fr hf02 hne1).fr hfw (fun e => by rw [e] at g1; exact absurd (g1.typ.one (g2.own_typ rfl)) (by decide)), ⟨bs.set n (.slice (some ⟨gr, 0, none⟩) 64 k2), ?_, ?_⟩, ?_, ?_⟩, ?_⟩
        · show Row _ _ _ 1 _ (p.bl.set n _).length _
          rw [List.length_set]
          exact (g2r.store n _).mono fun k hk => .inl hk
        · intro j z hz
          have hz2 : (p.bl.set n (rotN (p.bl.getD n []) bit mask (min 32 (512 - bit))))[j]? = some z := hz
          rw [List.getElem?_set] at hz2
          by_cases hnj : n = j
          · rw [if_pos hnj] at hz2
            subst hnj
            rw [if_pos hn] at hz2
            injection hz2 with hz2
            subst hz2
            refine ⟨_, by rw [List.getElem?_set, if_pos rfl, if_pos (by omega)], ?_⟩
            rw [hgd.out, ← hic.out.2, ← hic.out.1]
            exact Dat.fr hdat hfw (hYb _) (by decide)
          · rw [if_neg hnj] at hz2
            obtain ⟨v, hv, hd⟩ := g2' j z hz2
            refine ⟨v, by rw [List.getElem?_set, if_neg hnj]; exact hv, ?_⟩
            exact (Dat.fr (Dat.fr hd hf02 hY (by decide)) hfw (hYb _) (by decide)).mono fun k hk => .inl hk
        · exact (CacOk.fr (CacOk.fr g3 hf02 hY (by decide) (by decide)) hfw (hYb _) (by decide) (by decide)).mono fun k hk => .inl hk
        · exact VT.mono (VT.fr (VT.fr g4 hf02 hY (by decide)) hfw (hYb _) (by decide)) fun k hk => .inl hk
        · exact (Fr.trans (S := T) (Fr.refl T w) hf02 (fun k hk => .inr (by omega))).trans hfw (fun k hk => .inl (by rw [hk]; exact hTb))
  · go_wp2_with fail
    go_loopw [39] (fun v39 wr => ∃ i : Nat, v39 = .int .i64 i ∧ i ≤ 32 ∧ Fr (fun k => k = gr) w2 wr ∧ Row wr (New w) 5 1 (.slice (some ⟨gr, 0, none⟩) 64 k2) 64 (bys (rotN x0 bit mask i))) (fun v39 _ => 32 - (intOf v39).toNat)
    case atStart => exact ⟨0, rfl, by omega, Fr.refl _ _, hR2⟩
    case round =>
      obtain ⟨i, rfl, hi, hfr, hR⟩ := hrel
      have hxl : (rotN x0 bit mask i).length = 64 := by rw [rotN_len]; exact hdu.1
      have hxB := rotN_byt hdu.2.1 bit mask i
      have HS := hid (rotN_succ x0 bit mask i)
      by_cases hlt : (i : Int) < (32 : Int)
      · have hk : (bit + i) / 8 < (rotN x0 bit mask i).length := by omega
        have hgx : (rotN x0 bit mask i)[(bit + i) / 8]? = some (rotN x0 bit mask i)[(bit + i) / 8] := List.getElem?_eq_getElem hk
        have hgd2 : Hid ((rotN x0 bit mask i).getD ((bit + i) / 8) 0 = (rotN x0 bit mask i)[(bit + i) / 8]) := hid (by simp [List.getD, hgx])
        have hcell : wr.cell? ⟨gr, (bit + i) / 8, none⟩ = some (.int .u8 (((rotN x0 bit mask i)[(bit + i) / 8] : Nat) : Int)) := hR.cell (by simp [bys, hgx])
        have hfz : wr.frozen? ⟨gr, (bit + i) / 8, none⟩ = false := hR.frozen _
        have hy : (rotN x0 bit mask i)[(bit + i) / 8] < 256 := hxB _ (List.getElem_mem hk)
        generalize (rotN x0 bit mask i)[(bit + i) / 8] = y at *
        have hval := hid (rotv y mask bit i hy hmask)
        clear hgx
        go_wp2_with fail
        go_region
        rw [hval.out]
        go_wp2
        go_roundw
        case rel =>
          refine ⟨i + 1, by go_num, by omega, (hfr.setCell (a := ⟨gr, (bit + i) / 8, none⟩) (.inl rfl) _).drew, ?_⟩
          rw [HS.out]
          unfold stepR
          rw [hgd2.out]
          have := (hR.store ((bit + i) / 8) (.int .u8 ((y ^^^ fx mask bit i : Nat) : Int))).drew
          have e9 : (bys (rotN x0 bit mask i)).set ((bit + i) / 8) (.int .u8 ((y ^^^ fx mask bit i : Nat) : Int)) = bys ((rotN x0 bit mask i).set ((bit + i) / 8) (y ^^^ fx mask bit i)) := by simp [bys, List.map_set]
          rw [e9] at this
          exact this
        case measure => simp [intOf]; omega
      · have hic : Hid (i = 32 ∧ 32 = min 32 (512 - bit)) := hid (by omega)
        have hf02 : Fr (fun k => k = gr) w wr := hf2.nil.then hfr
        have hltr2 : w.heap.size ≤ gr := hR.2 gr rfl
        have hne1 : pb ≠ gr := by have := g1.lt; omega
        have c0 : wr.cell? ⟨pb, 0, none⟩ = some (.slice (some ⟨gb, 0, none⟩) p.bl.length kb) := hf02.cell hc0 hne1
        have hne2 : gb ≠ gr := by omega
        have cn : wr.cell? ⟨gb, n, none⟩ = some (.slice Au 64 ku) := hf02.cell hcu hne2
        have g2r := g2.fr hf02 (fun k hk e => by simp [Value.ownBlock] at hk; omega)
        have zn : wr.frozen? ⟨gb, n, none⟩ = false := g2r.frozen n
        go_wp2
        go_ret
        have hfw : Fr (fun k => k = gb) wr (wr.setCell ⟨gb, n, none⟩ (.slice (some ⟨gr, 0, none⟩) 64 k2)) := (Fr.refl (fun k => k = gb) wr).setCell (a := ⟨gb, n, none⟩) (.inl rfl) _
        have hY : ∀ k, T k → k < w.heap.size → k = gr → Typ w k 4 := fun k _ h1 h2 => by omega
        have hYb : ∀ (T' : Nat → Prop) k, T' k → k < wr.heap.size → k = gb → Typ wr k 30 := fun T' k _ _ h2 => by rw [h2]; exact g2r.own_typ rfl
        have hdat : Dat wr (Grow w T) (.slice (some ⟨gr, 0, none⟩) 64 k2) (rotN x0 bit mask i) := ⟨hxl, hxB, hR.vt.mono fun k hk => .inr hk⟩
        refine ⟨rfl, ⟨.inl g0, _, vc, vf, (g1.fr hf02 hne1).fr hfw (fun e => by rw [e] at g1; exact absurd (g1.typ.one (g2.own_typ rfl)) (by decide)), ⟨bs.set n (.slice (some ⟨gr, 0, none⟩) 64 k2), ?_, ?_⟩, ?_, ?_⟩, ?_⟩
        · show Row _ _ _ 1 _ (p.bl.set n _).length _
          rw [List.length_set]
          exact (g2r.store n _).mono fun k hk => .inl hk
        · intro j z hz
          have hz2 : (p.bl.set n (rotN (p.bl.getD n []) bit mask (min 32 (512 - bit))))[j]? = some z := hz
          rw [List.getElem?_set] at hz2
          by_cases hnj : n = j
          · rw [if_pos hnj] at hz2
            subst hnj
            rw [if_pos hn] at hz2
            injection hz2 with hz2
            subst hz2
            refine ⟨_, by rw [List.getElem?_set, if_pos rfl, if_pos (by omega)], ?_⟩
            rw [hgd.out, ← hic.out.2, ← hic.out.1]
            exact Dat.fr hdat hfw (hYb _) (by decide)
          · rw [if_neg hnj] at hz2
            obtain ⟨v, hv, hd⟩ := g2' j z hz2
            refine ⟨v, by rw [List.getElem?_set, if_neg hnj]; exact hv, ?_⟩
            exact (Dat.fr (Dat.fr hd hf02 hY (by decide)) hfw (hYb _) (by decide)).mono fun k hk => .inl hk
        · exact (CacOk.fr (CacOk.fr g3 hf02 hY (by decide) (by decide)) hfw (hYb _) (by decide) (by decide)).mono fun k hk => .inl hk
        · exact VT.mono (VT.fr (VT.fr g4 hf02 hY (by decide)) hfw (hYb _) (by decide)) fun k hk => .inl hk
        · exact (Fr.trans (S := T) (Fr.refl T w) hf02 (fun k hk => .inr (by omega))).trans hfw (fun k hk => .inl (by rw [hk]; exact hTb))

/-! ### whether or not the bit lies within the block -/
def rotted (b : Bool) (p : Pl) (n bit mask : Nat) : Pl := if b then p.rot n bit mask else p
theorem rot_any (T : Nat → Prop) (pb : Nat) (p : Pl) (n bit mask : Nat) (w : World) (b : Bool) (hb : b = decide (bit < 512)) (h : IsP w T pb p) (hn : n < p.bl.length) (hmask : mask < 4294967296) :
    Calls Tryz.prog 24 #[.pointer (some ⟨pb, 0, none⟩), .int .i64 (n : Int), .int .i64 (bit : Int), .int .u32 (mask : Int)] w fun e w' => e = .returned (.bool b) ∧ IsP w' (Grow w T) pb (rotted b p n bit mask) ∧ Fr T w w' := by
  subst hb
  by_cases hlt : bit < 512
  · have hd : decide (bit < 512) = true := decide_eq_true hlt
    rw [hd]
    exact rot_ok T pb p n bit mask w h hn hlt hmask
  · have hd : decide (bit < 512) = false := decide_eq_false hlt
    rw [hd]
    exact (rot_bad T pb p n bit mask w h (.inr (.inr (by omega)))).mono fun e w' ⟨h1, h2⟩ => ⟨h1, by subst h2; exact h.mono fun k hk => .inl hk, by subst h2; exact Fr.refl _ _⟩
theorem rotted_len (b : Bool) (p : Pl) (n bit mask : Nat) : (rotted b p n bit mask).bl.length = p.bl.length := by
  cases b with
  | false => rfl
  | true => exact List.length_set ..
theorem rotted_get (b : Bool) (p : Pl) (n bit mask : Nat) (hb : b = decide (bit < 512)) (hn : n < p.bl.length) : (rotted b p n bit mask).bl.getD n [] = rotN (p.bl.getD n []) bit mask (min 32 (512 - bit)) := by
  subst hb
  by_cases hlt : bit < 512
  · have hd : decide (bit < 512) = true := decide_eq_true hlt
    rw [hd]
    show (p.bl.set n _).getD n [] = _
    generalize rotN (p.bl.getD n []) bit mask (min 32 (512 - bit)) = y
    simp [List.getD, hn]
  · have hd : decide (bit < 512) = false := decide_eq_false hlt
    rw [hd, show min 32 (512 - bit) = 0 by omega]
    rfl
theorem rotted_okm {p : Pl} {m : Nat} (h : p.okm m) (b : Bool) (n bit mask : Nat) : (rotted b p n bit mask).okm m := by
  have hl := rotted_len b p n bit mask
  cases b with
  | false => exact h
  | true => exact ⟨h.1, h.2.1, by rw [hl]; exact h.2.2.1, h.2.2.2.1, fun q hq => by rw [hl]; exact h.2.2.2.2 q hq⟩
theorem rotted_ca (b : Bool) (p : Pl) (n bit mask : Nat) : (rotted b p n bit mask).ca = p.ca ∧ (rotted b p n bit mask).fa = p.fa := by cases b <;> exact ⟨rfl, rfl⟩

/-- Twice the same turns all back. -/
theorem rotN_at (xs : List Nat) (bit mask m j : Nat) : ∃ z, ∀ ys : List Nat, ys.length = xs.length → (rotN ys bit mask m).getD j 0 = if j < xs.length then ys.getD j 0 ^^^ z else 0 := by
  induction m with
  | zero =>
    refine ⟨0, fun ys hl => ?_⟩
    show ys.getD j 0 = _
    split
    · simp
    · unfold List.getD; rw [List.getElem?_eq_none (by omega)]; rfl
  | succ m ih =>
    obtain ⟨z, hz⟩ := ih
    refine ⟨z ^^^ (if (bit + m) / 8 = j then fx mask bit m else 0), fun ys hl => ?_⟩
    have h1 := hz ys hl
    have hl2 := rotN_len ys bit mask m
    rw [rotN_succ]
    unfold stepR
    by_cases hj : (bit + m) / 8 = j
    · subst hj
      by_cases hlt : (bit + m) / 8 < xs.length
      · rw [if_pos hlt] at h1 ⊢
        rw [h1]
        simp only [if_true]
        unfold List.getD
        rw [List.getElem?_set, if_pos rfl, if_pos (by omega)]
        simp only [Option.getD_some]
        rw [Nat.xor_assoc]
      · rw [if_neg hlt] at h1 ⊢
        unfold List.getD
        rw [List.getElem?_eq_none (by simp; omega)]
        rfl
    · rw [if_neg hj, Nat.xor_zero, ← h1]
      unfold List.getD
      rw [List.getElem?_set, if_neg hj]
theorem rotN_twice (xs : List Nat) (bit mask m : Nat) : rotN (rotN xs bit mask m) bit mask m = xs := by
  refine List.ext_getElem? fun j => ?_
  obtain ⟨z, hz⟩ := rotN_at xs bit mask m j
  have h1 := hz (rotN xs bit mask m) (rotN_len _ _ _ _)
  have h2 := hz xs rfl
  by_cases hj : j < xs.length
  · rw [if_pos hj] at h1 h2
    rw [h2, Nat.xor_assoc, Nat.xor_self, Nat.xor_zero] at h1
    have e1 : (rotN (rotN xs bit mask m) bit mask m).length = xs.length := by rw [rotN_len, rotN_len]
    unfold List.getD at h1
    rw [List.getElem?_eq_getElem (by omega), List.getElem?_eq_getElem hj] at h1 ⊢
    simp only [Option.getD_some] at h1
    rw [h1]
  · rw [List.getElem?_eq_none (by rw [rotN_len, rotN_len]; omega), List.getElem?_eq_none (by omega)]
end Go.Proofs.YtgoghmblfdlnbaaGreat
end

/- Arguments that are slices of structs of one-cell fields, opened to cells (any program). -/
import Derived.Test.YtjieckaeplkafaaBase
import Derived.ProofKit
import Derived.Deep.Slices
import Derived.Deep.Fields
import Derived.ChangeSame
set_option linter.unusedSimpArgs false
set_option linter.unusedVariables false
namespace Go.Proofs.Ytjieckaeplkafaa
open Go.RowKit Go.ChangeShapes Go.WideShapes Go.Deep

section
variable {H : Type} {enc : TypeId × Value → H} {P : Program} {w : World} {held : Bool}
/-- The cells of a slice that came in. -/
def cellsAt (w : World) (a : Addr) (n : Nat) : List Value := (List.range n).map fun k => (w.cell? (a.add k)).getD undef
theorem cellsAt_get (w : World) (a : Addr) (n k : Nat) (h : k < n) : (cellsAt w a n)[k]? = some ((w.cell? (a.add k)).getD undef) := by simp [cellsAt, h]

theorem open_recs {t e : TypeId} {fs : Array Field} {v : Value} {d : DataW H} {p : List MemPlace} (ht : P.underlying t = some (.slice e)) (he : P.underlying e = some (.struct fs)) (hone : oneCellFields P fs = true) (hC : P.cellsOf e = fs.size) (hfs : 0 < fs.size)
    (hv : ∃ A len cap, v = .slice A len cap) (h : DataW.Trod enc P w 0 (fun _ => true) held t v d p) :
    ∃ A len cap, v = .slice A len cap ∧ ∃ cells, View w (fun k => k < w.heap.size) fs.size v len cells ∧
      ∀ i, i < len → ∀ (j : Nat) (f : Field), fs[j]? = some f → ∃ u n y, cells[i * fs.size + j]? = some u ∧ DataW.trod enc P w 0 (fun _ => true) held n f.type [u] = some y := by
  obtain ⟨A, len, cap, rfl⟩ := hv
  refine ⟨A, len, cap, rfl, ?_⟩
  obtain ⟨fuel, hf⟩ := h
  rcases open_slice ht hf with ⟨hcs, _⟩ | ⟨a, len', cap', m, n, D, Pl, hcs, _, hl, hm, hmm, _, hi⟩
  · simp [Value.cells] at hcs
    obtain ⟨rfl, rfl, rfl⟩ := hcs
    exact ⟨[], View.nil _ _ _, fun i hi => absurd hi (by omega)⟩
  · simp [Value.cells] at hcs
    obtain ⟨rfl, rfl, rfl⟩ := hcs
    have hmc : m = cap := by simpa using hmm
    subst hmc
    -- each cell is there
    have hall : ∀ i, i < m → ∀ (j : Nat) (f : Field), fs[j]? = some f → ∃ u n y, w.cell? (a.add (i * fs.size + j)) = some u ∧ DataW.trod enc P w 0 (fun _ => true) held n f.type [u] = some y := by
      intro i him j f hj
      obtain ⟨cs', hc, ht'⟩ := hi i him
      rw [hC] at hc
      obtain ⟨ys, n', hn', hy, hlen, hyl, hf'⟩ := DataW.trod_struct he ht'
      obtain ⟨_, hcl, hat⟩ := World.cells?_some hc
      obtain ⟨ho, hk⟩ := hone_of hone j f hj
      have hjl : j < fs.size := (Array.getElem?_eq_some_iff.1 hj).1
      have hcell := hat j hjl
      have h1 := hf' j f hj
      rw [ho, hk] at h1
      have hone' : (cs'.drop j).take 1 = [cs'[j]'(by omega)] := by
        rw [List.drop_eq_getElem_cons (by omega)]
        rfl
      rw [hone'] at h1
      refine ⟨_, _, _, ?_, h1.trans (List.getElem?_eq_getElem (by omega))⟩
      rw [← Go.Deep.add_add, hcell, List.getElem?_eq_getElem (by omega)]
    have hcell : ∀ k, k < m * fs.size → ∃ u, w.cell? (a.add k) = some u := by
      intro k hk
      have hj : k % fs.size < fs.size := Nat.mod_lt _ hfs
      have hq : k / fs.size < m := (Nat.div_lt_iff_lt_mul hfs).2 hk
      obtain ⟨u, _, _, hu, _⟩ := hall (k / fs.size) hq (k % fs.size) (fs[k % fs.size]) (Array.getElem?_eq_getElem hj)
      refine ⟨u, ?_⟩
      rw [← hu]; congr 2
      have := Nat.div_add_mod k fs.size
      rw [Nat.mul_comm] at this; exact this.symm
    have hsp : 0 < m → a.spot = none := fun hc => by
      obtain ⟨u, this⟩ := hcell 0 (Nat.mul_pos hc hfs)
      unfold World.cell? at this
      split at this
      · cases hs : a.spot with
        | none => rfl
        | some s => simp [Addr.add, hs] at this
      · cases this
    refine ⟨cellsAt w a (len * fs.size), ⟨by simp [cellsAt], _, _, rfl, hl, hm, fun h => (by cases h), fun ad had hc => (by injection had with had; rw [← had]; exact hsp hc), fun hn => ?_⟩, ?_⟩
    · obtain ⟨b, o, sp⟩ := a
      obtain rfl : sp = none := hsp (by omega)
      have hb : b < w.heap.size := by
        obtain ⟨u, hu⟩ := hcell 0 (Nat.mul_pos (by omega) hfs)
        rw [Addr.add_lit] at hu
        exact World.block_lt_of_cell? w _ hu
      refine ⟨b, o, rfl, hb, hb, fun j u hu => ?_⟩
      have hj := (List.getElem?_eq_some_iff.1 hu).1
      simp only [cellsAt, List.length_map, List.length_range] at hj
      rw [cellsAt_get w _ _ j hj] at hu
      obtain ⟨u', hu'⟩ := hcell j (Nat.lt_of_lt_of_le hj (Nat.mul_le_mul_right _ hl))
      rw [hu', Option.getD_some] at hu
      rw [Addr.add_lit] at hu'
      rw [hu', hu]
    · intro i hi j f hj
      obtain ⟨u, n, y, hu, hy⟩ := hall i (by omega) j f hj
      have hjl : j < fs.size := (Array.getElem?_eq_some_iff.1 hj).1
      refine ⟨u, n, y, ?_, hy⟩
      rw [cellsAt_get w _ _ _ (by have := Nat.mul_le_mul_right fs.size (show i + 1 ≤ len by omega); rw [Nat.add_mul] at this; omega), hu, Option.getD_some]

/-- A []byte in a field. -/
theorem open_bytes {t e : TypeId} {u : Value} {n : Nat} {y : DataW H × List MemPlace} (ht : P.underlying t = some (.slice e)) (he : P.underlying e = some (.int .u8)) (hC : P.cellsOf e = 1) (h : DataW.trod enc P w 0 (fun _ => true) held n t [u] = some y) :
    ∃ bs : List Nat, View w (fun k => k < w.heap.size) 1 u bs.length (bys bs) ∧ Byt bs ∧ ∃ A c, u = .slice A bs.length c := by
  rcases open_ints ht he hC h with ⟨hcs, _⟩ | ⟨x, l, c, zs, hcs, _, hl, hm, hz, _, hcell, hwz⟩
  · simp at hcs
    subst hcs
    exact ⟨[], View.nil _ _ _, fun c hc => (by simp at hc), none, 0, rfl⟩
  · simp at hcs
    subst hcs
    have hr : IsRow .u8 w (some x) l c zs := .inr ⟨x, rfl, hl, hm, by simpa using hz, hcell, hwz⟩
    obtain ⟨hv, hlen, hw⟩ := hr.view
    have hb : ∀ z ∈ zs.take l, 0 ≤ z ∧ z < 256 := fun z hz => bounds_u8 (hw z hz)
    have e1 : ints .u8 (zs.take l) = bys ((zs.take l).map Int.toNat) := by
      unfold ints bys
      rw [List.map_map]
      exact List.map_congr_left fun z hz => by have := hb z hz; simp; omega
    have e2 : ((zs.take l).map Int.toNat).length = l := by rw [List.length_map, hlen]
    refine ⟨(zs.take l).map Int.toNat, ?_, fun c hc => ?_, some x, c, by rw [e2]⟩
    · rw [e2, ← e1]; exact hv
    · obtain ⟨z, hz, rfl⟩ := List.mem_map.1 hc
      have := hb z hz; omega
end
end Go.Proofs.Ytjieckaeplkafaa

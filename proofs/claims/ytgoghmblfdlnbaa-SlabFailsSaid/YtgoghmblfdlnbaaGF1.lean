/- The texts VOpen, SlO, SlX2 of this proof, one behind the other. Conditions: those of each. -/
import Derived.Test.YtgoghmblfdlnbaaGW1
import Derived.ProofKit
import Derived.Deep.Slices
import Derived.Deep.Fields
import Derived.ChangeSame
import Derived.Test.YtgoghmblfdlnbaaGW38
section
/- Arguments that are slices of structs of one-cell fields, opened to cells (any program). -/
set_option linter.unusedSimpArgs false
set_option linter.unusedVariables false
namespace Go.Proofs.Ytgoghmblfdlnbaa
open Go.RowKit Go.ChangeShapes Go.WideShapes Go.Deep

section
variable {H : Type} {enc : TypeId × Value → H} {P : Program} {w : World} {held : Bool}
/-- The cells of a slice that came in. -/
def cellsAt (w : World) (a : Addr) (n : Nat) : List Value := (List.range n).map fun k => (w.cell? (a.add k)).getD undef
theorem cellsAt_get (w : World) (a : Addr) (n k : Nat) (h : k < n) : (cellsAt w a n)[k]? = some ((w.cell? (a.add k)).getD undef) := by simp [cellsAt, h]

theorem open_recs {t e : TypeId} {fs : Array Field} {v : Value} {d : DataW H} {p : List MemPlace} (ht : P.underlying t = some (.slice e)) (he : P.underlying e = some (.struct fs)) (hone : oneCellFields P fs = true) (hC : P.cellsOf e = fs.size) (hfs : 0 < fs.size)
    (hv : ∃ A len cap, v = .slice A len cap) (h : DataW.Trod enc P w 0 (fun _ => true) held t v d p) :
    ∃ A len cap, v = .slice A len cap ∧ ∃ cells, View w (fun k => k < w.heap.size) fs.size v len cells ∧
      ∀ i, i < len → ∀ (j : Nat) (f : Field), fs[j]? = some f → ∃ u n y, cells[i * fs.size + j]? = some u ∧ DataW.trod enc P w 0 (fun _ => true) held n f.type [u] = some y := by
  obtain ⟨A, len, cap, rfl⟩ := hv
  refine ⟨A, len, cap, rfl, ?_⟩
  obtain ⟨fuel, hf⟩ := h
  rcases open_slice ht hf with ⟨hcs, _⟩ | ⟨a, len', cap', m, n, D, Pl, hcs, _, hl, hm, hmm, _, hi⟩
  · simp [Value.cells] at hcs
    obtain ⟨rfl, rfl, rfl⟩ := hcs
    exact ⟨[], View.nil _ _ _, fun i hi => absurd hi (by omega)⟩
  · simp [Value.cells] at hcs
    obtain ⟨rfl, rfl, rfl⟩ := hcs
    have hmc : m = cap := by simpa using hmm
    subst hmc
    -- each cell is there
    have hall : ∀ i, i < m → ∀ (j : Nat) (f : Field), fs[j]? = some f → ∃ u n y, w.cell? (a.add (i * fs.size + j)) = some u ∧ DataW.trod enc P w 0 (fun _ => true) held n f.type [u] = some y := by
      intro i him j f hj
      obtain ⟨cs', hc, ht'⟩ := hi i him
      rw [hC] at hc
      obtain ⟨ys, n', hn', hy, hlen, hyl, hf'⟩ := DataW.trod_struct he ht'
      obtain ⟨_, hcl, hat⟩ := World.cells?_some hc
      obtain ⟨ho, hk⟩ := hone_of hone j f hj
      have hjl : j < fs.size := (Array.getElem?_eq_some_iff.1 hj).1
      have hcell := hat j hjl
      have h1 := hf' j f hj
      rw [ho, hk] at h1
      have hone' : (cs'.drop j).take 1 = [cs'[j]'(by omega)] := by
        rw [List.drop_eq_getElem_cons (by omega)]
        rfl
      rw [hone'] at h1
      refine ⟨_, _, _, ?_, h1.trans (List.getElem?_eq_getElem (by omega))⟩
      rw [← Go.Deep.add_add, hcell, List.getElem?_eq_getElem (by omega)]
    have hcell : ∀ k, k < m * fs.size → ∃ u, w.cell? (a.add k) = some u := by
      intro k hk
      have hj : k % fs.size < fs.size := Nat.mod_lt _ hfs
      have hq : k / fs.size < m := (Nat.div_lt_iff_lt_mul hfs).2 hk
      obtain ⟨u, _, _, hu, _⟩ := hall (k / fs.size) hq (k % fs.size) (fs[k % fs.size]) (Array.getElem?_eq_getElem hj)
      refine ⟨u, ?_⟩
      rw [← hu]; congr 2
      have := Nat.div_add_mod k fs.size
      rw [Nat.mul_comm] at this; exact this.symm
    have hsp : 0 < m → a.spot = none := fun hc => by
      obtain ⟨u, this⟩ := hcell 0 (Nat.mul_pos hc hfs)
      unfold World.cell? at this
      split at this
      · cases hs : a.spot with
        | none => rfl
        | some s => simp [Addr.add, hs] at this
      · cases this
    refine ⟨cellsAt w a (len * fs.size), ⟨by simp [cellsAt], _, _, rfl, hl, hm, fun h => (by cases h), fun ad had hc => (by injection had with had; rw [← had]; exact hsp hc), fun hn => ?_⟩, ?_⟩
    · obtain ⟨b, o, sp⟩ := a
      obtain rfl : sp = none := hsp (by omega)
      have hb : b < w.heap.size := by
        obtain ⟨u, hu⟩ := hcell 0 (Nat.mul_pos (by omega) hfs)
        rw [Addr.add_lit] at hu
        exact World.block_lt_of_cell? w _ hu
      refine ⟨b, o, rfl, hb, hb, fun j u hu => ?_⟩
      have hj := (List.getElem?_eq_some_iff.1 hu).1
      simp only [cellsAt, List.length_map, List.length_range] at hj
      rw [cellsAt_get w _ _ j hj] at hu
      obtain ⟨u', hu'⟩ := hcell j (Nat.lt_of_lt_of_le hj (Nat.mul_le_mul_right _ hl))
      rw [hu', Option.getD_some] at hu
      rw [Addr.add_lit] at hu'
      rw [hu', hu]
    · intro i hi j f hj
      obtain ⟨u, n, y, hu, hy⟩ := hall i (by omega) j f hj
      have hjl : j < fs.size := (Array.getElem?_eq_some_iff.1 hj).1
      refine ⟨u, n, y, ?_, hy⟩
      rw [cellsAt_get w _ _ _ (by have := Nat.mul_le_mul_right fs.size (show i + 1 ≤ len by omega); rw [Nat.add_mul] at this; omega), hu, Option.getD_some]

/-- A []byte in a field. -/
theorem open_bytes {t e : TypeId} {u : Value} {n : Nat} {y : DataW H × List MemPlace} (ht : P.underlying t = some (.slice e)) (he : P.underlying e = some (.int .u8)) (hC : P.cellsOf e = 1) (h : DataW.trod enc P w 0 (fun _ => true) held n t [u] = some y) :
    ∃ bs : List Nat, View w (fun k => k < w.heap.size) 1 u bs.length (bys bs) ∧ Byt bs ∧ ∃ A c, u = .slice A bs.length c := by
  rcases open_ints ht he hC h with ⟨hcs, _⟩ | ⟨x, l, c, zs, hcs, _, hl, hm, hz, _, hcell, hwz⟩
  · simp at hcs
    subst hcs
    exact ⟨[], View.nil _ _ _, fun c hc => (by simp at hc), none, 0, rfl⟩
  · simp at hcs
    subst hcs
    have hr : IsRow .u8 w (some x) l c zs := .inr ⟨x, rfl, hl, hm, by simpa using hz, hcell, hwz⟩
    obtain ⟨hv, hlen, hw⟩ := hr.view
    have hb : ∀ z ∈ zs.take l, 0 ≤ z ∧ z < 256 := fun z hz => bounds_u8 (hw z hz)
    have e1 : ints .u8 (zs.take l) = bys ((zs.take l).map Int.toNat) := by
      unfold ints bys
      rw [List.map_map]
      exact List.map_congr_left fun z hz => by have := hb z hz; simp; omega
    have e2 : ((zs.take l).map Int.toNat).length = l := by rw [List.length_map, hlen]
    refine ⟨(zs.take l).map Int.toNat, ?_, fun c hc => ?_, some x, c, by rw [e2]⟩
    · rw [e2, ← e1]; exact hv
    · obtain ⟨z, hz, rfl⟩ := List.mem_map.1 hc
      have := hb z hz; omega
end
end Go.Proofs.Ytgoghmblfdlnbaa
end

section
/- Slab: the faults of a law. Conditions: none but the bounds. -/
set_option linter.unusedSimpArgs false
set_option linter.unusedVariables false
namespace Go.Proofs.Ytgoghmblfdlnbaa
section
open Go.RowKit Go.ChangeShapes Go.WideShapes Go.Deep
/-- A fault is read. -/
theorem fau_at {w : World} {S : Nat → Prop} {A : Option Addr} {n c : Nat} {fa : List (Int × Int)} (h : View w S 2 (.slice A n c) n (flatF fa)) (hn : n = fa.length) {i : Nat} (hi : i < n) :
    ∃ b o x y, A = some ⟨b, o, none⟩ ∧ fa[i]? = some (x, y) ∧ w.cell? ⟨b, o + i * 2, none⟩ = some (.int .i64 x) ∧ w.cell? ⟨b, o + i * 2 + 1, none⟩ = some (.int .i64 y) := by
  obtain ⟨hl, A', c', e, _, _, _, _, h5⟩ := h
  injection e with ea _ ec
  subst ea; subst ec
  obtain ⟨b, o, hA, hS, hb, hc⟩ := h5 (by omega)
  obtain ⟨x, y⟩ : Int × Int := fa[i]'(by omega)
  have hf : fa[i]? = some (fa[i]'(by omega)) := List.getElem?_eq_getElem (by omega)
  obtain ⟨g0, g1⟩ := flatF_at fa i (fa[i]'(by omega)).1 (fa[i]'(by omega)).2 (by rw [hf])
  refine ⟨b, o, (fa[i]'(by omega)).1, (fa[i]'(by omega)).2, hA, hf, ?_, ?_⟩
  · rw [show o + i * 2 = o + 2 * i by omega]; exact hc _ _ g0
  · rw [show o + i * 2 + 1 = o + (2 * i + 1) by omega]; exact hc _ _ g1
theorem choose_lt9 {α : Type} [Inhabited α] {n : Nat} {p : Nat → α → Prop} (h : ∀ i, i < n → ∃ a, p i a) : ∃ f : Nat → α, ∀ i, i < n → p i (f i) :=
  ⟨fun i => if hi : i < n then Classical.choose (h i hi) else default, fun i hi => by dsimp only; rw [dif_pos hi]; exact Classical.choose_spec (h i hi)⟩
section
variable {H : Type} {enc : TypeId × Value → H} {W : World}
/-- A list of faults in a field. -/
theorem open_faults {u : Value} {n : Nat} {y : DataW H × List MemPlace} (h : DataW.trod enc Try.prog W 0 (fun _ => true) true n 42 [u] = some y) :
    ∃ A m c fl, u = .slice A m c ∧ m = fl.length ∧ View W (fun k => k < W.heap.size) 2 (.slice A m c) m (flatF fl) := by
  have hsl : ∃ A len cap, u = .slice A len cap := by
    rcases open_slice Try.underlying42 h with ⟨hcs, _⟩ | ⟨a, len', cap', m, n, D, Pl, hcs, _⟩
    · simp at hcs; exact ⟨none, 0, 0, hcs⟩
    · simp at hcs; exact ⟨_, _, _, hcs⟩
  obtain ⟨A, len, cap, rfl⟩ := hsl
  obtain ⟨A', len', cap', e, cells, hview, hf⟩ := open_recs Try.underlying42 Try.underlying93 (by kernel_rfl) (by kernel_rfl) (by decide) ⟨A, len, cap, rfl⟩ ⟨n, h⟩
  injection e with ea el ec
  subst ea; subst el; subst ec
  have hone : ∀ i, i < len → ∃ q : Int × Int, cells[i * 2]? = some (.int .i64 q.1) ∧ cells[i * 2 + 1]? = some (.int .i64 q.2) := by
    intro i hi
    obtain ⟨u0, n0, y0, hu0, hy0⟩ := hf i hi 0 _ rfl
    obtain ⟨u1, n1, y1, hu1, hy1⟩ := hf i hi 1 _ rfl
    obtain ⟨d0, e0, _, w0⟩ := DataW.trod_int Try.underlying3 hy0
    obtain ⟨d1, e1, _, w1⟩ := DataW.trod_int Try.underlying3 hy1
    simp only [List.cons.injEq, and_true] at e0 e1
    subst e0; subst e1
    exact ⟨(d0, d1), hu0, hu1⟩
  obtain ⟨f, hfn⟩ := choose_lt9 hone
  refine ⟨A, len, cap, (List.range len).map f, rfl, by simp, ?_⟩
  have hcl : cells.length = len * 2 := hview.length
  have he : cells = flatF ((List.range len).map f) := by
    have hfl : (flatF ((List.range len).map f)).length = len * 2 := by
      have : ∀ l : List (Int × Int), (flatF l).length = l.length * 2 := fun l => by
        induction l with
        | nil => rfl
        | cons q l ih =>
          show ([Value.int .i64 q.1, Value.int .i64 q.2] ++ flatF l).length = _
          rw [List.length_append, ih]; simp; omega
      rw [this]; simp
    refine List.ext_getElem? fun j => ?_
    by_cases hj : j < len * 2
    · obtain ⟨i, hij⟩ : ∃ i, i = j / 2 := ⟨_, rfl⟩
      have hil : i < len := by omega
      obtain ⟨g0, g1⟩ := hfn i hil
      obtain ⟨k0, k1⟩ := flatF_at ((List.range len).map f) i (f i).1 (f i).2 (by rw [List.getElem?_map, List.getElem?_range hil]; rfl)
      by_cases hev : j = i * 2
      · rw [hev, g0, show i * 2 = 2 * i by omega, k0]
      · rw [show j = i * 2 + 1 by omega, g1, show i * 2 + 1 = 2 * i + 1 by omega, k1]
    · rw [List.getElem?_eq_none (by omega), List.getElem?_eq_none (by omega)]
  rw [← he]; exact hview
end
set_option maxRecDepth 100000 in
theorem open_fault_arg {H : Type} {enc : TypeId × Value → H} {W : World} {base : Nat} {v : Value} {d : DataW H} {p : List MemPlace} (hv : Value.okWide Try.prog W .any base 42 v)
    (h : DataW.Trod enc Try.prog W 0 (fun _ => true) true 42 v d p) : ∃ A m c fl, v = .slice A m c ∧ m = List.length fl ∧ View W (fun k => k < W.heap.size) 2 (.slice A m c) m (flatF fl) := by
  obtain ⟨A, len, cap, rfl⟩ := okWide_slice Try.underlying42 hv
  obtain ⟨fuel, hf⟩ := h
  exact open_faults hf
end
end Go.Proofs.Ytgoghmblfdlnbaa
namespace Go.Proofs.Ytgoghmblfdlnbaa
open Go.RowKit
theorem flatF_app (a b : List (Int × Int)) : flatF (a ++ b) = flatF a ++ flatF b := by simp [flatF]
set_option maxRecDepth 20000 in
theorem faults_ok (S : Nat → Prop) (A : Option Addr) (c n : Nat) (fa : List (Int × Int)) (hn : n = fa.length) (hl : n ≤ 1000) (w : World) (hv : View w S 2 (.slice A n c) n (flatF fa)) :
    Calls Try.prog 14 #[.slice A n c] w fun e w' => ∃ B d, e = .returned (.slice B n d) ∧ View w' (New w) 2 (.slice B n d) n (flatF fa) ∧ Fr Nil w w' := by
  have Hv := hid hv
  have Hn := hid hn
  clear hv hn
  go_enter Try.func14, Try.ntmps14
  go_wp2_with fail
  go_loopw [3, 4] (fun v3 v4 wr => ∃ (i : Nat) (B : Option Addr) (d : Nat), v3 = .slice B i d ∧ v4 = .int .i64 i ∧ i ≤ n ∧ Hid (Row wr (New w) 92 2 (.slice B i d) i (flatF (fa.take i))) ∧ Fr Nil w wr) (fun _ v4 _ => n - (intOf v4).toNat)
  case atStart => exact ⟨0, none, 0, rfl, rfl, by omega, hid (Row.nil _ _ _ _), Fr.refl _ _⟩
  case round =>
    obtain ⟨i, B, d, rfl, rfl, hi, hA, hfw⟩ := hrel
    by_cases hlt : i < n
    · obtain ⟨b, o, x, y, rfl, hx, q0, q1⟩ := fau_at (Hv.out.fr hfw fun _ _ _ h => h) Hn.out hlt
      have Hx := hid hx
      clear hx
      go_upto_region 5 with (fail)
      have hS : (fun w' : World => w'.cell? ⟨b, o + i * 2, none⟩ = some (.int .i64 x) ∧ w'.cell? ⟨b, o + i * 2 + 1, none⟩ = some (.int .i64 y)) wr.drew := ⟨q0, q1⟩
      refine wpU_region (k := 13) (S := fun w' : World => w'.cell? ⟨b, o + i * 2, none⟩ = some (.int .i64 x) ∧ w'.cell? ⟨b, o + i * 2 + 1, none⟩ = some (.int .i64 y)) (by kernel_rfl) ?_
      refine wpU_take (i := 0) (v := ?_) rfl (by kernel_rfl) (by kernel_rfl) (fun _ _ _ h => h) _ _ _ _ (by kernel_rfl) (by kernel_rfl) (by kernel_rfl) (Or.inl ⟨by kernel_rfl, ?_⟩) hS ?_
      rotate_left
      · (intro w9 hS9; obtain ⟨s0, s1⟩ := hS9; go_simp); (try with_reducible rfl)
      try simp only [Act.put, List.getElem_toArray, List.getElem_cons_succ, List.getElem_cons_zero, List.setIfInBounds_toArray, List.set_cons_zero, List.set_cons_succ]
      refine wpU_take (i := 1) (v := ?_) rfl (by kernel_rfl) (by kernel_rfl) (fun _ _ _ h => h) _ _ _ _ (by kernel_rfl) (by kernel_rfl) (by kernel_rfl) (Or.inl ⟨by kernel_rfl, ?_⟩) hS ?_
      rotate_left
      · (intro w9 hS9; obtain ⟨s0, s1⟩ := hS9; go_simp); (try with_reducible rfl)
      try simp only [Act.put, List.getElem_toArray, List.getElem_cons_succ, List.getElem_cons_zero, List.setIfInBounds_toArray, List.set_cons_zero, List.set_cons_succ]
      refine wpU_take (i := 2) (v := ?_) rfl (by kernel_rfl) (by kernel_rfl) (fun _ _ _ h => h) _ _ _ _ (by kernel_rfl) (by kernel_rfl) (by kernel_rfl) (Or.inl ⟨by kernel_rfl, ?_⟩) hS ?_
      rotate_left
      · (intro w9 hS9; obtain ⟨s0, s1⟩ := hS9; go_simp); (try with_reducible rfl)
      try simp only [Act.put, List.getElem_toArray, List.getElem_cons_succ, List.getElem_cons_zero, List.setIfInBounds_toArray, List.set_cons_zero, List.set_cons_succ]
      refine wpU_take (i := 3) (v := ?_) rfl (by kernel_rfl) (by kernel_rfl) (fun _ _ _ h => h) _ _ _ _ (by kernel_rfl) (by kernel_rfl) (by kernel_rfl) (Or.inl ⟨by kernel_rfl, ?_⟩) hS ?_
      rotate_left
      · (intro w9 hS9; obtain ⟨s0, s1⟩ := hS9; go_simp); (try with_reducible rfl)
      try simp only [Act.put, List.getElem_toArray, List.getElem_cons_succ, List.getElem_cons_zero, List.setIfInBounds_toArray, List.set_cons_zero, List.set_cons_succ]
      refine wpU_take (i := 4) (v := ?_) rfl (by kernel_rfl) (by kernel_rfl) (fun _ _ _ h => h) _ _ _ _ (by kernel_rfl) (by kernel_rfl) (by kernel_rfl) (Or.inl ⟨by kernel_rfl, ?_⟩) hS ?_
      rotate_left
      · (intro w9 hS9; obtain ⟨s0, s1⟩ := hS9; go_simp); (try with_reducible rfl)
      try simp only [Act.put, List.getElem_toArray, List.getElem_cons_succ, List.getElem_cons_zero, List.setIfInBounds_toArray, List.set_cons_zero, List.set_cons_succ]
      refine wpU_take (i := 5) (v := ?_) rfl (by kernel_rfl) (by kernel_rfl) (fun _ _ _ h => h) _ _ _ _ (by kernel_rfl) (by kernel_rfl) (by kernel_rfl) (Or.inl ⟨by kernel_rfl, ?_⟩) hS ?_
      rotate_left
      · (intro w9 hS9; obtain ⟨s0, s1⟩ := hS9; go_simp); (try with_reducible rfl)
      try simp only [Act.put, List.getElem_toArray, List.getElem_cons_succ, List.getElem_cons_zero, List.setIfInBounds_toArray, List.set_cons_zero, List.set_cons_succ]
      refine wpU_take (i := 6) (v := ?_) rfl (by kernel_rfl) (by kernel_rfl) (fun _ _ _ h => h) _ _ _ _ (by kernel_rfl) (by kernel_rfl) (by kernel_rfl) (Or.inl ⟨by kernel_rfl, ?_⟩) hS ?_
      rotate_left
      · (intro w9 hS9; obtain ⟨s0, s1⟩ := hS9; go_simp); (try with_reducible rfl)
      try simp only [Act.put, List.getElem_toArray, List.getElem_cons_succ, List.getElem_cons_zero, List.setIfInBounds_toArray, List.set_cons_zero, List.set_cons_succ]
      refine wpU_take (i := 7) (v := ?_) rfl (by kernel_rfl) (by kernel_rfl) (fun _ _ _ h => h) _ _ _ _ (by kernel_rfl) (by kernel_rfl) (by kernel_rfl) (Or.inl ⟨by kernel_rfl, ?_⟩) hS ?_
      rotate_left
      · (intro w9 hS9; obtain ⟨s0, s1⟩ := hS9; go_simp); (try with_reducible rfl)
      try simp only [Act.put, List.getElem_toArray, List.getElem_cons_succ, List.getElem_cons_zero, List.setIfInBounds_toArray, List.set_cons_zero, List.set_cons_succ]
      refine wpU_take (i := 8) (v := ?_) rfl (by kernel_rfl) (by kernel_rfl) (fun _ _ _ h => h) _ _ _ _ (by kernel_rfl) (by kernel_rfl) (by kernel_rfl) (Or.inl ⟨by kernel_rfl, ?_⟩) hS ?_
      rotate_left
      · (intro w9 hS9; obtain ⟨s0, s1⟩ := hS9; go_simp); (try with_reducible rfl)
      try simp only [Act.put, List.getElem_toArray, List.getElem_cons_succ, List.getElem_cons_zero, List.setIfInBounds_toArray, List.set_cons_zero, List.set_cons_succ]
      refine wpU_take (i := 9) (v := ?_) rfl (by kernel_rfl) (by kernel_rfl) (fun _ _ _ h => h) _ _ _ _ (by kernel_rfl) (by kernel_rfl) (by kernel_rfl) (Or.inl ⟨by kernel_rfl, ?_⟩) hS ?_
      rotate_left
      · (intro w9 hS9; obtain ⟨s0, s1⟩ := hS9; go_simp); (try with_reducible rfl)
      try simp only [Act.put, List.getElem_toArray, List.getElem_cons_succ, List.getElem_cons_zero, List.setIfInBounds_toArray, List.set_cons_zero, List.set_cons_succ]
      refine wpU_take (i := 10) (v := ?_) rfl (by kernel_rfl) (by kernel_rfl) (fun _ _ _ h => h) _ _ _ _ (by kernel_rfl) (by kernel_rfl) (by kernel_rfl) (Or.inl ⟨by kernel_rfl, ?_⟩) hS ?_
      rotate_left
      · (intro w9 hS9; obtain ⟨s0, s1⟩ := hS9; go_simp); (try with_reducible rfl)
      try simp only [Act.put, List.getElem_toArray, List.getElem_cons_succ, List.getElem_cons_zero, List.setIfInBounds_toArray, List.set_cons_zero, List.set_cons_succ]
      refine wpU_take (i := 11) (v := ?_) rfl (by kernel_rfl) (by kernel_rfl) (fun _ _ _ h => h) _ _ _ _ (by kernel_rfl) (by kernel_rfl) (by kernel_rfl) (Or.inl ⟨by kernel_rfl, ?_⟩) hS ?_
      rotate_left
      · (intro w9 hS9; obtain ⟨s0, s1⟩ := hS9; go_simp); (try with_reducible rfl)
      try simp only [Act.put, List.getElem_toArray, List.getElem_cons_succ, List.getElem_cons_zero, List.setIfInBounds_toArray, List.set_cons_zero, List.set_cons_succ]
      refine wpU_next (i := 12) rfl (by kernel_rfl) (fun K hK => ?_)
      go_simp
      obtain ⟨W5, hW5⟩ : ∃ W5, W5 = wr.drew.alloc (.cells #[.int .i64 x, .int .i64 y] 92) := ⟨_, rfl⟩
      have hv5 : View W5 (New wr) 2 (.slice (some ⟨wr.heap.size, 0, none⟩) 1 1) 1 [.int .i64 x, .int .i64 y] := by rw [hW5]; exact View.lit wr.drew #[.int .i64 x, .int .i64 y] 92 (0, 0) 1 rfl (by omega)
      have hf5 : Fr Nil wr W5 := by rw [hW5]; exact ((Fr.refl _ _).drew).alloc _
      have hS5 : (fun w' : World => w'.cell? ⟨b, o + i * 2, none⟩ = some (.int .i64 x) ∧ w'.cell? ⟨b, o + i * 2 + 1, none⟩ = some (.int .i64 y)) W5 := ⟨hf5.cell q0 fun h => h, hf5.cell q1 fun h => h⟩
      refine hK.out _ _ (fun _ => by show (fun w' : World => w'.cell? ⟨b, o + i * 2, none⟩ = some (.int .i64 x) ∧ w'.cell? ⟨b, o + i * 2 + 1, none⟩ = some (.int .i64 y)) (wr.drew.alloc _); rw [← hW5]; exact hS5) ?_
      show wpU _ _ _ _ _ _ _ _ _ (wr.drew.alloc _)
      rw [← hW5]
      clear hW5
      clear hK K
      try simp only [Act.put, List.getElem_toArray, List.getElem_cons_succ, List.getElem_cons_zero, List.setIfInBounds_toArray, List.set_cons_zero, List.set_cons_succ]
      refine wpU_next (i := 13) rfl (by kernel_rfl) (fun K hK => ?_)
      refine step_app_view (by rfl) _ _ 44 (by rfl) (.agg #[.int .i64 0, .int .i64 0]) 16 Try.underlying44 info_fault (by rfl) (by decide) (hA.out.frS hf5 fun _ _ h => h) (by rfl) hv5 (by rfl) (by simp [Value.oneCell']) (by omega) (by decide) ?_
      intro B7 c7 w7 r7 f7
      have hs5 := hf5.size
      have hsw := hfw.size
      have f57 : Fr Nil w w7 := (hfw.then hf5).trans f7 fun k hk => .inr (hA.out.2 k hk)
      have hR7 := hid (show Row w7 (New w) 92 2 (.slice B7 (i + 1) c7) (i + 1) (flatF (fa.take (i + 1))) from by
        rw [List.take_add_one, Hx.out, flatF_app]
        exact r7.mono fun k hk => hk.elim (fun h => hA.out.2 k h) (fun h => Nat.le_trans hsw (Nat.le_trans hs5 h)))
      have hF7 := hid f57
      refine hK.out _ _ (fun h => absurd rfl h.1) ?_
      clear hK K r7 f7 f57
      try simp only [Act.put, List.getElem_toArray, List.getElem_cons_succ, List.getElem_cons_zero, List.setIfInBounds_toArray, List.set_cons_zero, List.set_cons_succ]
      refine wpU_next (i := 14) rfl (by kernel_rfl) (fun K hK => ?_)
      go_simp
      refine hK.out _ _ (fun h => absurd (h.2 : true = false) (by decide)) ?_
      refine wpU_done (by kernel_rfl) ?_ _
      clear hK K
      go_wp2_with fail
      go_roundw
      case rel => exact ⟨i + 1, B7, c7, rfl, by go_num, by omega, hR7, hF7.out⟩
      case measure => simp [intOf]; omega
    · have hic := hid (show i = n by omega)
      have Hfin := hid (show View wr (New w) 2 (.slice B i d) i (flatF fa) from by
        have := hA.out.view
        rwa [List.take_of_length_le (by rw [hic.out, Hn.out]; exact Nat.le_refl _)] at this)
      go_wp2
      go_ret
      have he := hic.out
      subst he
      exact ⟨B, d, rfl, Hfin.out, hfw⟩
end Go.Proofs.Ytgoghmblfdlnbaa
end

section
/- The law SlabFails: its walk ends with true and changes nothing that was there. Conditions: the arguments are drawn as the law says. -/
set_option linter.unusedSimpArgs false
set_option linter.unusedVariables false
namespace Go.Proofs.Ytgoghmblfdlnbaa
open Go.RowKit
/-- So far k of L filled with v. -/
def fic (v k m : Nat) : List Nat := List.replicate k v ++ List.replicate (m - k) 0
theorem fic_zero (v m : Nat) : fic v 0 m = List.replicate m 0 := by simp [fic]
theorem fic_all (v m : Nat) : fic v m m = List.replicate m v := by simp [fic]
theorem fic_byt {v : Nat} (hv : v < 256) (k m : Nat) : Byt (fic v k m) := by
  intro x hx
  rcases List.mem_append.1 hx with h | h
  · rw [(List.mem_replicate.1 h).2]; exact hv
  · rw [(List.mem_replicate.1 h).2]; decide
theorem fic_set {v k m : Nat} (h : k < m) : (bys (fic v k m)).set k (.int .u8 (v : Nat)) = bys (fic v (k + 1) m) := by
  unfold bys fic
  rw [show (Value.int .u8 (v : Nat)) = (fun n : Nat => Value.int .u8 (n : Int)) v from rfl, ← List.map_set]
  congr 1
  rw [List.set_append_right _ _ (by simp), List.length_replicate, Nat.sub_self, show m - k = (m - (k + 1)) + 1 by omega, List.replicate_succ, List.set_cons_zero, List.replicate_succ', List.append_assoc]
  rfl
theorem fic_cell {v k m : Nat} (h : k < m) : (bys (fic v k m))[k]? = some (.int .u8 ((0 : Nat) : Int)) := by
  unfold bys fic
  rw [List.getElem?_map, List.getElem?_append_right (by simp), List.length_replicate, Nat.sub_self, show m - k = (m - (k + 1)) + 1 by omega, List.replicate_succ]
  rfl
theorem chunk_rep {v L i n : Nat} (hL : L = 64 * n) (hi : i < n) : chunk (List.replicate L v) i = List.replicate 64 v := by
  unfold chunk
  rw [List.drop_replicate, List.take_replicate]
  congr 1
  omega
theorem frm_rep {p : Pl} {a n v : Nat} (h : ∀ i, i < n → p.get (a + i) = List.replicate 64 v) : frm p a n = List.replicate (64 * n) v :=
  frm_chunks (by simp) fun i hi => by rw [h i hi, chunk_rep rfl hi]
structure Wq (w0 w : World) (lb plb sb pb m left : Nat) (TP : Nat → Prop) (p : Pl) (rs qs : List Rn) (gs : List Nat) (v9 v10 : Value) : Prop where
  sl : Sl (fun k => v9.ownBlock = some k ∨ v10.ownBlock = some k) TP w0 w lb plb sb pb 512 1000 1 m p (us1 rs) [] [] rs (freeN 512 left)
  r9 : Row w (fun k => w0.heap.size ≤ k) 33 2 v9 qs.length (dbl qs)
  r10 : Row w (fun k => w0.heap.size ≤ k ∧ v9.ownBlock ≠ some k) 5 1 v10 qs.length (bys gs)
  ln : gs.length = qs.length
  pos : ∀ r ∈ rs, 1 ≤ r.n ∧ r.a + r.n ≤ 512 - left
  posq : ∀ r ∈ qs, 1 ≤ r.n ∧ r.n ≤ 6 ∧ r.a + r.n ≤ 512 - left
  get : ∀ j, j < qs.length → ∀ i, i < (rn qs j).n → p.get ((rn qs j).a + i) = List.replicate 64 (gs.getD j 0)
theorem get_old {p p' : Pl} {qs : List Rn} {gs : List Nat} {left x : Nat} (hposq : ∀ r ∈ qs, 1 ≤ r.n ∧ r.n ≤ 6 ∧ r.a + r.n ≤ 512 - left) (hA : After p p' (fun j => 512 - left ≤ j ∧ j < 512 - left + x))
    (hg : ∀ j, j < qs.length → ∀ i, i < (rn qs j).n → p.get ((rn qs j).a + i) = List.replicate 64 (gs.getD j 0)) : ∀ j, j < qs.length → ∀ i, i < (rn qs j).n → p'.get ((rn qs j).a + i) = List.replicate 64 (gs.getD j 0) := by
  intro j hj i hi
  rw [← hg j hj i hi]
  refine hA.get _ fun h => ?_
  have := hposq _ (rn_mem hj)
  omega
theorem get_new {p' : Pl} {qs : List Rn} {gs : List Nat} {a x v : Nat} (hln : gs.length = qs.length) (ho : ∀ j, j < qs.length → ∀ i, i < (rn qs j).n → p'.get ((rn qs j).a + i) = List.replicate 64 (gs.getD j 0))
    (hn : ∀ i, i < x → p'.get (a + i) = chunk (List.replicate (64 * x) v) i) : ∀ j, j < (qs ++ [(⟨a, x⟩ : Rn)]).length → ∀ i, i < (rn (qs ++ [⟨a, x⟩]) j).n → p'.get ((rn (qs ++ [⟨a, x⟩]) j).a + i) = List.replicate 64 ((gs ++ [v]).getD j 0) := by
  intro j hj i hi
  rw [List.length_append, List.length_singleton] at hj
  by_cases h : j < qs.length
  · rw [rn_add h] at hi ⊢
    rw [ho j h i hi]
    congr 1
    rw [List.getD_eq_getElem?_getD, List.getD_eq_getElem?_getD, List.getElem?_append_left (by omega)]
  · obtain rfl : j = qs.length := by omega
    rw [rn_new] at hi ⊢
    rw [hn i hi, chunk_rep rfl hi]
    congr 1
    rw [← hln, List.getD_eq_getElem?_getD, List.getElem?_append_right (Nat.le_refl _), Nat.sub_self]
    rfl
theorem posq_add {qs : List Rn} {left x : Nat} (h : ∀ r ∈ qs, 1 ≤ r.n ∧ r.n ≤ 6 ∧ r.a + r.n ≤ 512 - left) (hx : 1 ≤ x) (hx6 : x ≤ 6) (hxl : x ≤ left) (hl : left ≤ 512) : ∀ r ∈ qs ++ [⟨512 - left, x⟩], 1 ≤ r.n ∧ r.n ≤ 6 ∧ r.a + r.n ≤ 512 - (left - x) := by
  intro r hr
  rcases List.mem_append.1 hr with hr | hr
  · have := h r hr; omega
  · rw [List.mem_singleton] at hr; subst hr; exact ⟨hx, hx6, by dsimp only; omega⟩
theorem posq_old {qs : List Rn} {left x : Nat} (h : ∀ r ∈ qs, 1 ≤ r.n ∧ r.n ≤ 6 ∧ r.a + r.n ≤ 512 - left) : ∀ r ∈ qs, 1 ≤ r.n ∧ r.n ≤ 6 ∧ r.a + r.n ≤ 512 - (left - x) := fun r hr => by have := h r hr; omega
/-- Behind Fail. -/
theorem Sl.fail {Q TP : Nat → Prop} {w0 w w' : World} {lb plb sb pb bl N gen m : Nat} {p : Pl} {U L H : List Us} {A l : List Rn} {fl : List (Int × Int)} (h : Sl Q TP w0 w lb plb sb pb bl N gen m p U L H A l) (hp : IsP w' (Grow w TP) plb (p.fail fl)) (hl : fl.length ≤ 1000) (hf : Fr TP w w') :
    Sl Q (fun k => Grow w TP k ∧ k < w'.heap.size) w0 w' lb plb sb pb bl N gen m (p.fail fl) U L H A l :=
  h.plat hp.bd (fun k hk => hk) hf ⟨fun op => ⟨(h.ok.1 op).1, Nat.zero_le _⟩, hl, h.ok.2.2.1, h.ok.2.2.2.1, h.ok.2.2.2.2⟩ rfl
set_option maxRecDepth 20000 in
set_option maxHeartbeats 2000000 in
theorem slabFails_ok (A : Option Addr) (n c : Nat) (zs : List Int) (v : Value) (w : World) (hr : IsRow .u8 w A n c zs) (hq : ∃ A m c fl, v = .slice A m c ∧ m = List.length fl ∧ View w (fun k => k < w.heap.size) 2 (.slice A m c) m (flatF fl)) :
    Calls Try.prog 4 #[.slice A n c, v] w fun e w' => e = .returned (.bool true) ∧ Fr Nil w w' := by
  obtain ⟨A2, m2, c2, fl, rfl, hfl, hvf⟩ := hq
  obtain ⟨hv, hlen, hwf⟩ := hr.view
  have hnle := hv.le
  have hmle := hvf.le
  have Hv := hid hv
  have Hvf := hid hvf
  have Hlen := hid hlen
  have Hwf := hid hwf
  have Hfl := hid hfl
  clear hv hlen hwf hr hvf hfl
  generalize zs.take n = l at *
  go_enter Try.func4, Try.ntmps4
  go_wp2_with fail
  refine (slawake_ok w).mono ?_
  rintro e w0 ⟨rfl, f0⟩
  have F0 := hid f0; clear f0
  by_cases hn : 30 < n
  · go_wp2
    go_ret
    exact ⟨rfl, F0.out⟩
  by_cases hm2 : 20 < m2
  · go_wp2
    go_ret
    exact ⟨rfl, F0.out⟩
  go_wp2_with fail
  refine (slawmake_ok 1000 512 1 (by decide) (by decide) (by decide) w0).mono ?_
  rintro e w1 ⟨lb, plb, pb, sb, TP0, rfl, hS, f1⟩
  have HS := hid hS
  have Hvw := hid (Hv.out.fr F0.out fun _ _ _ h => h)
  have Hvf1 := hid ((Hvf.out.fr F0.out fun _ _ _ h => h).fr f1 fun _ _ _ h => h)
  clear hS Hv Hvf f1
  go_wp2_with fail
  refine (faults_ok _ A2 c2 m2 fl Hfl.out (by omega) w1 Hvf1.out).mono ?_
  rintro e w2 ⟨B2, d2, rfl, hv2, f2⟩
  have HS2 := hid (HS.out.nil f2)
  have Hv2 := hid hv2
  clear HS f2 hv2 Hvf1
  go_wp2_with fail
  refine (fail_ok TP0 _ plb (fresh 512) _ m2 fl Hfl.out (by omega) w2 HS2.out.pl Hv2.out).mono ?_
  rintro e w3 ⟨rfl, hp3, f3⟩
  have HS3 := hid (HS2.out.fail hp3 (by have := Hfl.out; omega) f3)
  clear hp3 f3 HS2 Hv2
  generalize (fresh 512).fail fl = p0 at *
  generalize (fun k => Grow w2 TP0 k ∧ k < w3.heap.size) = TP1 at *
  go_wp2_with fail
  go_loopw [9, 10, 11] (fun v9 v10 v11 wr => ∃ (i left m : Nat) (TP : Nat → Prop) (p : Pl) (rs qs : List Rn) (gs : List Nat) (B9 B10 : Option Addr) (c9 c10 : Nat), v11 = .int .i64 i ∧ i ≤ n ∧ m ≤ 12 * i ∧ 510 ≤ left + 6 * i ∧ left ≤ 510 ∧ v9 = .slice B9 qs.length c9 ∧ v10 = .slice B10 qs.length c10 ∧ qs.length ≤ i ∧ Hid (Wq w0 wr lb plb sb pb m left TP p rs qs gs (.slice B9 qs.length c9) (.slice B10 qs.length c10))) (fun _ _ v11 _ => n - (intOf v11).toNat)
  case atStart =>
    refine ⟨0, 510, 0, TP1, p0, [], [], [], none, none, 0, 0, rfl, by omega, by omega, by omega, by omega, rfl, rfl, by simp, hid ⟨HS3.out.sub fun k hk => ?_, Row.nil _ _ _ _, Row.nil _ _ _ _, rfl, fun r hr => by simp at hr, fun r hr => by simp at hr, fun j hj => by simp at hj⟩⟩
    rcases hk with h | h
    · simp [Value.ownBlock] at h
    · simp [Value.ownBlock] at h
  case round =>
    clear HS3
    obtain ⟨i, left, m, TP, p, rs, qs, gs, B9, B10, c9, c10, rfl, hi, hm, hleft, hleft2, rfl, rfl, hql, hW⟩ := hrel
    by_cases hlt : i < n
    · obtain ⟨b, o, rfl, -, hbl, q0⟩ := intAt (Hvw.out.fr hW.out.sl.g.fr0 fun _ _ _ h => h) hlt
      have hz : 0 ≤ l.getD i 0 ∧ l.getD i 0 < 256 := bounds_u8 (Hwf.out _ (by
        simp [List.getD, List.getElem?_eq_getElem (show i < l.length by rw [Hlen.out]; exact hlt)]))
      obtain ⟨z, hz2⟩ : ∃ z : Nat, l.getD i 0 = z := ⟨(l.getD i 0).toNat, by omega⟩
      rw [hz2] at q0 hz
      clear hz2
      have hz256 : z < 256 := by omega
      clear hz
      go_upto_region 15 with (fail)
      obtain ⟨x, hx⟩ : ∃ x, x = 1 + z % 6 := ⟨_, rfl⟩
      have hx6 : x ≤ 6 := by omega
      have hx1 : 1 ≤ x := by omega
      rw [show (1 : Int) + (z : Int) % 6 = ((x : Nat) : Int) by omega]
      obtain ⟨L, hL⟩ : ∃ L, L = 64 * x := ⟨_, rfl⟩
      have hmul : (x : Int) * 64 = ((L : Nat) : Int) := by omega
      have hL9 : L ≤ 384 := by omega
      have hmk := fun w' => mk_u8 L (by omega) w'
      have HL := hid hL
      have HW := hid hW.out
      clear hx hL hW q0 hz256
      go_wp2_with fail
      obtain ⟨W1, hW1⟩ : ∃ W1, W1 = wr.alloc (.cells (madeCells #[.int .u8 0] L) 5) := ⟨_, rfl⟩
      obtain ⟨gb, hgb⟩ : ∃ gb, gb = wr.heap.size := ⟨_, rfl⟩
      have hz1 := zeros_row L (by omega) wr
      have hf1 : Fr Nil wr W1 := by rw [hW1]; exact (Fr.refl _ _).alloc _
      have hgl : gb < W1.heap.size := by rw [hW1, hgb, World.size_alloc]; omega
      rw [← hW1, ← hgb] at hz1
      rw [← hW1, ← hgb]
      have H1 := hid (HW.out.sl.drop (Q := fun k => ((Value.slice B9 qs.length c9).ownBlock = some k ∨ (Value.slice B10 qs.length c10).ownBlock = some k) ∨ k = gb) hf1 (fun k hk => hk.imp id fun e => by omega) fun k hk => by
        rcases hk with hk | hk
        · exact Nat.lt_of_lt_of_le (HW.out.sl.tlt k (.inl hk)) hf1.size
        · omega)
      have HG := hid (show (Value.slice B9 qs.length c9).ownBlock ≠ some gb ∧ (Value.slice B10 qs.length c10).ownBlock ≠ some gb ∧ w0.heap.size ≤ gb from ⟨fun h => by have := HW.out.r9.lt gb h; omega, fun h => by have := HW.out.r10.lt gb h; omega, by have := HW.out.sl.g.fr0.size; omega⟩)
      have HA9 := hid (HW.out.r9.fr hf1 fun _ _ h => h)
      have HA10 := hid (HW.out.r10.fr hf1 fun _ _ h => h)
      have hz2 : Row W1 (fun k => k = gb) 5 1 (.slice (some ⟨gb, 0, none⟩) L L) L (bys (fic (i + 1) 0 L)) := by rw [fic_zero]; exact ⟨hz1.1, fun k hk => by simp [Value.ownBlock] at hk; exact hk.symm⟩
      clear hW1 hgb hz1 hf1 hgl hmk hmul
      go_loopw [14] (fun v14 wx => ∃ k : Nat, v14 = .int .i64 k ∧ k ≤ L ∧ Fr (fun k => k = gb) W1 wx ∧ Row wx (fun k => k = gb) 5 1 (.slice (some ⟨gb, 0, none⟩) L L) L (bys (fic (i + 1) k L))) (fun v14 _ => L - (intOf v14).toNat)
      case atStart => exact ⟨0, rfl, by omega, Fr.refl _ _, hz2⟩
      case round =>
        clear hz2
        obtain ⟨k, rfl, hk, hfr, hR⟩ := hrel
        by_cases hkl : k < L
        · have hcell : wr.cell? ⟨gb, k, none⟩ = some (.int .u8 ((0 : Nat) : Int)) := hR.cell (fic_cell hkl)
          have hfz : wr.frozen? ⟨gb, k, none⟩ = false := hR.frozen k
          have hset := hR.store k (.int .u8 (i + 1 : Nat))
          rw [fic_set hkl] at hset
          have hfs : Fr (fun j => j = gb) W1 (wr.setCell ⟨gb, k, none⟩ (.int .u8 (i + 1 : Nat))) := hfr.setCell (a := ⟨gb, k, none⟩) (.inl rfl) _
          go_wp2
          rw [show (i : Int) + 1 = ((i + 1 : Nat) : Int) from rfl]
          exact ⟨⟨k + 1, by go_num, by omega, hfs, hset⟩, by simp [intOf]; omega⟩
        · have hkL : k = L := by omega
          subst hkL
          have H2 := hid (H1.out.app (Q := fun j => ((Value.slice B9 qs.length c9).ownBlock = some j ∨ (Value.slice B10 qs.length c10).ownBlock = some j) ∨ j = gb) hfr (fun j hj => .inr hj) (fun j hj => by rw [hj]; exact HG.out.2.2) fun j hj => ⟨.inl hj, Nat.lt_of_lt_of_le (H1.out.tlt j (.inl hj)) hfr.size⟩)
          have HB9 := hid (HA9.out.fr hfr fun j hj h => HG.out.1 (h ▸ hj))
          have HB10 := hid (HA10.out.fr hfr fun j hj h => HG.out.2.1 (h ▸ hj))
          have HR2 := hid hR
          clear hfr hR H1 HA9 HA10
          go_wp2_with fail
          refine (swrite_next (SD := fun j => j = gb) H2.out (by decide) (fun j hj => .inr hj) (some ⟨gb, 0, none⟩) k k (fic (i + 1) k k) x hx1 (by omega) (by omega) HL.out HR2.out.view (fic_byt (by omega) _ _) (by omega) (by omega) HW.out.pos).mono ?_
          rintro e w3 ⟨okb, p', TP', rfl, hS3, hA3, hg3, -, f3⟩
          have HP3 := hid (hS3.sub (Q := fun j => (Value.slice B9 qs.length c9).ownBlock = some j ∨ (Value.slice B10 qs.length c10).ownBlock = some j) fun j hj => .inl hj)
          have HA3 := hid hA3
          have HC9 := hid (HB9.out.fr f3 fun j hj hn => hn (.inl (.inl hj)))
          have HC10 := hid (HB10.out.fr f3 fun j hj hn => hn (.inl (.inr hj)))
          have Hpos := hid (pos_add (n := x) HW.out.pos hx1 (show x ≤ left by omega) (show left ≤ 512 by omega))
          have Hget := hid (get_old HW.out.posq HA3.out HW.out.get)
          clear hS3 hA3 f3 H2 HB9 HB10 HR2
          cases okb with
          | false =>
            simp only [if_false, Bool.false_eq_true]
            go_wp2_with fail
            have hf4 : Fr Nil w3 (w3.alloc (.cells #[.int .i64 0, .int .i64 0] 33)) := (Fr.refl _ _).alloc _
            have HX := hid (show Wq w0 (w3.alloc (.cells #[.int .i64 0, .int .i64 0] 33)) lb plb sb pb (m + 2 * x) (left - x) TP' p' (rs ++ [⟨512 - left, x⟩]) qs gs (.slice B9 qs.length c9) (.slice B10 qs.length c10) from
              ⟨HP3.out.nil hf4, HC9.out.fr hf4 fun _ _ h => h, HC10.out.fr hf4 fun _ _ h => h, HW.out.ln, Hpos.out, posq_old HW.out.posq, Hget.out⟩)
            go_wp2_with fail
            exact ⟨⟨i + 1, left - x, m + 2 * x, TP', p', rs ++ [⟨512 - left, x⟩], qs, gs, B9, B10, c9, c10, by go_num, by omega, by omega, by omega, by omega, rfl, rfl, by omega, HX⟩, by simp [intOf]; omega⟩
          | true =>
            have HG3 := hid (hg3 rfl)
            clear hg3
            simp only [if_true]
            have hxl : (512 : Int) - (left : Int) = ((512 - left : Nat) : Int) := by omega
            go_upto_region 24 with (fail)
            obtain ⟨w4, hw4⟩ : ∃ w4, w4 = w3.alloc (.cells #[.int .i64 (512 - left : Nat), .int .i64 (x : Nat)] 33) := ⟨_, rfl⟩
            obtain ⟨xb, hxb⟩ : ∃ xb, xb = w3.heap.size := ⟨_, rfl⟩
            have hb4 : Blk w4 xb #[.int .i64 (512 - left : Nat), .int .i64 (x : Nat)] 33 := by rw [hw4, hxb]; exact Blk.new _ _ _
            have hf4 : Fr Nil w3 w4 := by rw [hw4]; exact (Fr.refl _ _).alloc _
            rw [← hw4, ← hxb]
            have H4 := hid (HP3.out.nil hf4)
            have HD9 := hid (HC9.out.fr hf4 fun _ _ h => h)
            have HD10 := hid (HC10.out.fr hf4 fun _ _ h => h)
            have b0 : w4.cell? ⟨xb, 0, none⟩ = some (.int .i64 (512 - left : Nat)) := hb4.cell 0
            have b1 : w4.cell? ⟨xb, 1, none⟩ = some (.int .i64 (x : Nat)) := hb4.cell 1
            have hs04 := H4.out.g.fr0.size
            clear hw4 hxb hf4 hb4 HP3 HC9 HC10 hxl
            go_wp2_with (at_builtin; refine wp_app_view rfl _ _ 31 rfl (.agg #[.int .i64 0, .int .i64 0]) 16 Try.underlying31 info_run rfl (by decide) (HD9.out.alloc _) rfl (View.lit (s := 2) w4 #[.int .i64 (512 - left : Nat), .int .i64 (x : Nat)] 33 (0, 0) 1 rfl (by decide)) rfl (dbl_cell [⟨512 - left, x⟩]) (by omega) (by decide) ?_)
            intro B5 c5 w5 y1 y2 _
            have g5 : Fr (fun k => (Value.slice B9 qs.length c9).ownBlock = some k) w4 w5 := ((Fr.refl _ w4).alloc _).then y2
            have n5 : ∀ k, (Value.slice B5 (qs.length + 1) c5).ownBlock = some k → (Value.slice B9 qs.length c9).ownBlock = some k ∨ w4.heap.size ≤ k := fun k hk => (y1.2 k hk).imp id fun h => by rw [World.size_alloc] at h; omega
            have HE9 := hid (show Row w5 (fun k => w0.heap.size ≤ k) 33 2 (.slice B5 (qs.length + 1) c5) (qs.length + 1) (dbl (qs ++ [⟨512 - left, x⟩])) from by
              rw [dbl_append]
              exact ⟨y1.1, fun k hk => (n5 k hk).elim (fun h => HD9.out.2 k h) fun h => by omega⟩)
            have HE10 := hid (show Row w5 (fun k => w0.heap.size ≤ k ∧ (Value.slice B5 (qs.length + 1) c5).ownBlock ≠ some k) 5 1 (.slice B10 qs.length c10) qs.length (bys gs) from
              ⟨(HD10.out.fr g5 fun k hk h => (HD10.out.2 k hk).2 h).1, fun k hk => ⟨(HD10.out.2 k hk).1, fun h => (n5 k h).elim (fun h => (HD10.out.2 k hk).2 h) fun h => by have := HD10.out.lt k hk; omega⟩⟩)
            have H5 := hid (show Sl (fun k => (Value.slice B5 (qs.length + 1) c5).ownBlock = some k ∨ (Value.slice B10 qs.length c10).ownBlock = some k) TP' w0 w5 lb plb sb pb 512 1000 1 (m + 2 * x) p' (us1 (rs ++ [⟨512 - left, x⟩])) [] [] (rs ++ [⟨512 - left, x⟩]) (freeN 512 (left - x)) from
              H4.out.app g5 (fun k hk => .inl hk) (fun k hk => HD9.out.2 k hk) fun k hk => by
                rcases hk with hk | hk
                · exact ⟨(n5 k hk).imp .inl id, y1.lt k hk⟩
                · exact ⟨.inl (.inr hk), Nat.lt_of_lt_of_le (H4.out.tlt k (.inl (.inr hk))) g5.size⟩)
            have hs05 := H5.out.g.fr0.size
            clear y1 y2 g5 n5 b0 b1 H4 HD9 HD10
            go_wp2_with (at_builtin; refine wp_app_view rfl _ _ 22 rfl (.int .u8 0) 1 Try.underlying22 info_u8 rfl (by decide) (HE10.out.alloc _) rfl (View.lit (s := 1) w5 #[.int .u8 ((i : Int) + 1)] 5 (0, 0) 1 rfl (by decide)) rfl (bys_cell [i + 1]) (by omega) (by decide) ?_)
            intro B6 c6 w6 y1 y2 _
            have g6 : Fr (fun k => (Value.slice B10 qs.length c10).ownBlock = some k) w5 w6 := ((Fr.refl _ w5).alloc _).then y2
            have n6 : ∀ k, (Value.slice B6 (qs.length + 1) c6).ownBlock = some k → (Value.slice B10 qs.length c10).ownBlock = some k ∨ w5.heap.size ≤ k := fun k hk => (y1.2 k hk).imp id fun h => by rw [World.size_alloc] at h; omega
            have e1 : (qs ++ [(⟨512 - left, x⟩ : Rn)]).length = qs.length + 1 := by simp
            have HX := hid (show Wq w0 w6 lb plb sb pb (m + 2 * x) (left - x) TP' p' (rs ++ [⟨512 - left, x⟩]) (qs ++ [⟨512 - left, x⟩]) (gs ++ [i + 1]) (.slice B5 (qs.length + 1) c5) (.slice B6 (qs.length + 1) c6) from
              ⟨H5.out.app g6 (fun k hk => .inr hk) (fun k hk => (HE10.out.2 k hk).1) fun k hk => by
                rcases hk with hk | hk
                · exact ⟨.inl (.inl hk), Nat.lt_of_lt_of_le (H5.out.tlt k (.inl (.inl hk))) g6.size⟩
                · exact ⟨(n6 k hk).imp .inr id, y1.lt k hk⟩,
              by rw [e1]; exact HE9.out.fr g6 fun k hk h => (HE10.out.2 k h).2 hk,
              by
                rw [e1, show bys (gs ++ [i + 1]) = bys gs ++ [.int .u8 ((i : Int) + 1)] by simp [bys]]
                refine ⟨y1.1, fun k hk => ?_⟩
                rcases n6 k hk with h | h
                · exact HE10.out.2 k h
                · exact ⟨by omega, fun h2 => by have := HE9.out.lt k h2; omega⟩,
              by rw [e1, List.length_append, HW.out.ln]; rfl, Hpos.out, posq_add HW.out.posq hx1 hx6 (by omega) (by omega),
              get_new HW.out.ln Hget.out fun i hi => by rw [HG3.out i hi, fic_all, HL.out]⟩)
            rw [← e1] at HX ⊢
            clear y1 y2 g6 n6 H5 HE9 HE10
            go_wp2_with fail
            exact ⟨⟨i + 1, left - x, m + 2 * x, TP', p', rs ++ [⟨512 - left, x⟩], qs ++ [⟨512 - left, x⟩], gs ++ [i + 1], B5, B6, c5, c6, by go_num, by omega, by omega, by omega, by omega, by rw [e1], by rw [e1], by rw [e1]; omega, HX⟩, by simp [intOf]; omega⟩
    · have hmm : m ≤ 400 := by omega
      have hqs : qs.length ≤ 30 := by omega
      obtain rfl : i = n := by omega
      clear hi hm hlt
      go_wp2_with fail
      go_loopw [17] (fun v17 wx => ∃ (j m' : Nat) (p' : Pl), v17 = .int .i64 j ∧ j ≤ qs.length ∧ m' ≤ m + 10 * j ∧ Hid (Wq w0 wx lb plb sb pb m' left TP p' rs qs gs (.slice B9 qs.length c9) (.slice B10 qs.length c10))) (fun v17 _ => qs.length - (intOf v17).toNat)
      case atStart => exact ⟨0, m, p, rfl, by omega, by omega, hW⟩
      case round =>
        clear hW
        obtain ⟨j, m', p', rfl, hj, hm', hW⟩ := hrel
        by_cases hjl : j < qs.length
        · obtain ⟨g9, o9, hB9, -, hgl9, a0, a1⟩ := rn_at hW.out.r9.view hjl
          subst hB9
          obtain ⟨g10, q10, hB10, -, hgl10⟩ := hW.out.r10.form (by omega)
          injection hB10 with hB10 _ hq10
          subst hB10; subst hq10
          obtain ⟨ax, hax⟩ : ∃ ax, ax = (rn qs j).a := ⟨_, rfl⟩
          obtain ⟨nx, hnx⟩ : ∃ nx, nx = (rn qs j).n := ⟨_, rfl⟩
          obtain ⟨gj, hgj⟩ : ∃ gj, gj = gs.getD j 0 := ⟨_, rfl⟩
          have hpx := hW.out.posq _ (rn_mem hjl)
          have hgx := hW.out.get j hjl
          have h10 : (bys gs)[j]? = some (.int .u8 (gj : Nat)) := by
            unfold bys
            rw [hgj, List.getElem?_map, List.getElem?_eq_getElem (by rw [hW.out.ln]; exact hjl), List.getD_eq_getElem?_getD, List.getElem?_eq_getElem (by rw [hW.out.ln]; exact hjl)]
            rfl
          rw [← hax] at a0 hpx hgx
          rw [← hnx] at a1 hpx hgx
          rw [← hgj] at hgx
          have hfr := frm_rep hgx
          have HW := hid hW.out
          have Hnx := hid hnx
          have Hax := hid hax
          clear hax hnx hgx hW hgj
          obtain ⟨hpx1, hpx6, hpx2⟩ := hpx
          go_wp2_with fail
          refine (sread_ok HW.out.sl ax nx hpx1 (by omega) (by omega)).mono ?_
          rintro e w2 ⟨er, k, cb, xs, B, p2, rfl, hrow, hS2, hA2, hcase, -, hF⟩
          have hTP : ∀ i, (Value.slice (some ⟨g9, o9, none⟩) qs.length c9).ownBlock = some i ∨ (Value.slice (some ⟨g10, 0, none⟩) qs.length c10).ownBlock = some i → ¬ TP i := fun i hi hT => (HW.out.sl.q i (.inl hT)).2 hi
          have HWR := hid (show Wq w0 w2 lb plb sb pb (m' + nx) left TP p2 rs qs gs (.slice (some ⟨g9, o9, none⟩) qs.length c9) (.slice (some ⟨g10, 0, none⟩) qs.length c10) from
            ⟨hS2.sub fun i hi => .inl hi, HW.out.r9.fr hF fun i hi => hTP i (.inl hi), HW.out.r10.fr hF fun i hi => hTP i (.inr hi), HW.out.ln, HW.out.pos, HW.out.posq, fun j hj i hi => by rw [hA2.get _ (fun h => h)]; exact HW.out.get j hj i hi⟩)
          have Hrow := hid hrow
          clear hS2 hA2 hF hTP hrow a0 a1
          rcases hcase with ⟨rfl, hk, hxs⟩ | ⟨rfl, rfl, rfl⟩
          · rw [hfr, ← hk] at hxs
            subst hxs
            have Hk := hid hk
            have hmul : (nx : Int) * 64 = (k : Int) := by omega
            have hk9 : k ≤ 384 := by omega
            clear hk hfr
            go_wp2_with fail
            go_loopw [20] (fun v20 wx => ∃ q : Nat, v20 = .int .i64 q ∧ q ≤ k ∧ Fr Nil w2 wx) (fun v20 _ => k - (intOf v20).toNat)
            case atStart => exact ⟨0, rfl, by omega, Fr.refl _ _⟩
            case round =>
              obtain ⟨q, rfl, hq, hfx⟩ := hrel
              by_cases hql : q < k
              · obtain ⟨gB, cq, hB, -, hglB⟩ := Hrow.out.form (by omega)
                injection hB with hB _ hcq
                subst hB; subst hcq
                have dB : wr.cell? ⟨gB, q, none⟩ = some (.int .u8 (gj : Nat)) := (Hrow.out.fr hfx fun _ _ h => h).cell (by
                  unfold bys
                  rw [List.getElem?_map, List.getElem?_replicate, if_pos hql]; rfl)
                have dC : wr.cell? ⟨g10, j, none⟩ = some (.int .u8 (gj : Nat)) := (HWR.out.r10.fr hfx fun _ _ h => h).cell h10
                have hS : (fun w' : World => w'.cell? ⟨gB, q, none⟩ = some (.int .u8 (gj : Nat)) ∧ w'.cell? ⟨g10, j, none⟩ = some (.int .u8 (gj : Nat))) wr.drew := ⟨dB, dC⟩
                clear dB dC
                go_wp2_with fail
                refine wpU_region (k := 8) (S := (fun w' : World => w'.cell? ⟨gB, q, none⟩ = some (.int .u8 (gj : Nat)) ∧ w'.cell? ⟨g10, j, none⟩ = some (.int .u8 (gj : Nat)))) (by kernel_rfl) ?_
                refine wpU_take (i := 0) (v := ?_) rfl (by kernel_rfl) (by kernel_rfl) (fun _ _ _ h => h) _ _ _ _ (by kernel_rfl) (by kernel_rfl) (by kernel_rfl) (Or.inl ⟨by kernel_rfl, ?_⟩) hS ?_
                rotate_left
                · (intro w9 hS9; obtain ⟨s0, s1⟩ := hS9; go_simp); (try with_reducible rfl)
                try simp only [Act.put, List.getElem_toArray, List.getElem_cons_succ, List.getElem_cons_zero, List.setIfInBounds_toArray, List.set_cons_zero, List.set_cons_succ]
                refine wpU_take (i := 1) (v := ?_) rfl (by kernel_rfl) (by kernel_rfl) (fun _ _ _ h => h) _ _ _ _ (by kernel_rfl) (by kernel_rfl) (by kernel_rfl) (Or.inl ⟨by kernel_rfl, ?_⟩) hS ?_
                rotate_left
                · (intro w9 hS9; obtain ⟨s0, s1⟩ := hS9; go_simp); (try with_reducible rfl)
                try simp only [Act.put, List.getElem_toArray, List.getElem_cons_succ, List.getElem_cons_zero, List.setIfInBounds_toArray, List.set_cons_zero, List.set_cons_succ]
                refine wpU_take (i := 2) (v := ?_) rfl (by kernel_rfl) (by kernel_rfl) (fun _ _ _ h => h) _ _ _ _ (by kernel_rfl) (by kernel_rfl) (by kernel_rfl) (Or.inl ⟨by kernel_rfl, ?_⟩) hS ?_
                rotate_left
                · (intro w9 hS9; obtain ⟨s0, s1⟩ := hS9; go_simp); (try with_reducible rfl)
                try simp only [Act.put, List.getElem_toArray, List.getElem_cons_succ, List.getElem_cons_zero, List.setIfInBounds_toArray, List.set_cons_zero, List.set_cons_succ]
                refine wpU_take (i := 3) (v := ?_) rfl (by kernel_rfl) (by kernel_rfl) (fun _ _ _ h => h) _ _ _ _ (by kernel_rfl) (by kernel_rfl) (by kernel_rfl) (Or.inl ⟨by kernel_rfl, ?_⟩) hS ?_
                rotate_left
                · (intro w9 hS9; obtain ⟨s0, s1⟩ := hS9; go_simp); (try with_reducible rfl)
                try simp only [Act.put, List.getElem_toArray, List.getElem_cons_succ, List.getElem_cons_zero, List.setIfInBounds_toArray, List.set_cons_zero, List.set_cons_succ]
                refine wpU_take (i := 4) (v := ?_) rfl (by kernel_rfl) (by kernel_rfl) (fun _ _ _ h => h) _ _ _ _ (by kernel_rfl) (by kernel_rfl) (by kernel_rfl) (Or.inl ⟨by kernel_rfl, ?_⟩) hS ?_
                rotate_left
                · (intro w9 hS9; obtain ⟨s0, s1⟩ := hS9; go_simp); (try with_reducible rfl)
                try simp only [Act.put, List.getElem_toArray, List.getElem_cons_succ, List.getElem_cons_zero, List.setIfInBounds_toArray, List.set_cons_zero, List.set_cons_succ]
                refine wpU_take (i := 5) (v := ?_) rfl (by kernel_rfl) (by kernel_rfl) (fun _ _ _ h => h) _ _ _ _ (by kernel_rfl) (by kernel_rfl) (by kernel_rfl) (Or.inl ⟨by kernel_rfl, ?_⟩) hS ?_
                rotate_left
                · (intro w9 hS9; obtain ⟨s0, s1⟩ := hS9; go_simp); (try with_reducible rfl)
                try simp only [Act.put, List.getElem_toArray, List.getElem_cons_succ, List.getElem_cons_zero, List.setIfInBounds_toArray, List.set_cons_zero, List.set_cons_succ]
                refine wpU_take (i := 6) (v := ?_) rfl (by kernel_rfl) (by kernel_rfl) (fun _ _ _ h => h) _ _ _ _ (by kernel_rfl) (by kernel_rfl) (by kernel_rfl) (Or.inl ⟨by kernel_rfl, ?_⟩) hS ?_
                rotate_left
                · (intro w9 hS9; obtain ⟨s0, s1⟩ := hS9; go_simp); (try with_reducible rfl)
                try simp only [Act.put, List.getElem_toArray, List.getElem_cons_succ, List.getElem_cons_zero, List.setIfInBounds_toArray, List.set_cons_zero, List.set_cons_succ]
                refine wpU_take (i := 7) (v := ?_) rfl (by kernel_rfl) (by kernel_rfl) (fun _ _ _ h => h) _ _ _ _ (by kernel_rfl) (by kernel_rfl) (by kernel_rfl) (Or.inl ⟨by kernel_rfl, ?_⟩) hS ?_
                rotate_left
                · (intro w9 hS9; obtain ⟨s0, s1⟩ := hS9; go_simp); (try with_reducible rfl)
                try simp only [Act.put, List.getElem_toArray, List.getElem_cons_succ, List.getElem_cons_zero, List.setIfInBounds_toArray, List.set_cons_zero, List.set_cons_succ]
                refine wpU_next (i := 8) rfl (by kernel_rfl) (fun K hK => ?_)
                go_simp
                refine hK.out _ _ (fun h => absurd rfl h.1) ?_
                refine wpU_done (by kernel_rfl) ?_ _
                clear hK K
                clear hS
                have hfx2 := hfx.drew
                go_wp2_with fail
                exact ⟨⟨q + 1, by go_num, by omega, hfx2⟩, by simp [intOf]; omega⟩
              · obtain rfl : q = k := by omega
                obtain ⟨_, _, h9, -, -, -, a1⟩ := rn_at (HWR.out.r9.fr hfx fun _ _ h => h).view hjl
                injection h9 with h9
                injection h9 with h9 h9b
                subst h9; subst h9b
                rw [← Hnx.out] at a1
                have HWZ := hid (show Wq w0 wr lb plb sb pb (m' + nx) left TP p2 rs qs gs (.slice (some ⟨g9, o9, none⟩) qs.length c9) (.slice (some ⟨g10, 0, none⟩) qs.length c10) from
                  ⟨HWR.out.sl.nil hfx, HWR.out.r9.fr hfx fun _ _ h => h, HWR.out.r10.fr hfx fun _ _ h => h, HWR.out.ln, HWR.out.pos, HWR.out.posq, HWR.out.get⟩)
                clear hfx
                go_wp2_with fail
                exact ⟨⟨j + 1, m' + nx, p2, by go_num, by omega, by omega, HWZ⟩, by simp [intOf]; omega⟩
          · have Hrow2 : Hid (Row w2 (New wr) 5 1 (.slice B 0 cb) 0 (bys (List.replicate 0 gj))) := Hrow
            clear hfr Hrow
            have Hrow := Hrow2
            clear Hrow2
            have hk9 : 0 ≤ 384 := by omega
            go_wp2_with fail
            go_loopw [20] (fun v20 wx => ∃ q : Nat, v20 = .int .i64 q ∧ q ≤ 0 ∧ Fr Nil w2 wx) (fun v20 _ => 0 - (intOf v20).toNat)
            case atStart => exact ⟨0, rfl, by omega, Fr.refl _ _⟩
            case round =>
              obtain ⟨q, rfl, hq, hfx⟩ := hrel
              by_cases hql : q < 0
              · exact absurd hql (by omega)
              · obtain rfl : q = 0 := by omega
                obtain ⟨_, _, h9, -, -, -, a1⟩ := rn_at (HWR.out.r9.fr hfx fun _ _ h => h).view hjl
                injection h9 with h9
                injection h9 with h9 h9b
                subst h9; subst h9b
                rw [← Hnx.out] at a1
                have HWZ := hid (show Wq w0 wr lb plb sb pb (m' + nx) left TP p2 rs qs gs (.slice (some ⟨g9, o9, none⟩) qs.length c9) (.slice (some ⟨g10, 0, none⟩) qs.length c10) from
                  ⟨HWR.out.sl.nil hfx, HWR.out.r9.fr hfx fun _ _ h => h, HWR.out.r10.fr hfx fun _ _ h => h, HWR.out.ln, HWR.out.pos, HWR.out.posq, HWR.out.get⟩)
                clear hfx
                go_wp2_with fail
                exact ⟨⟨j + 1, m' + nx, p2, by go_num, by omega, by omega, HWZ⟩, by simp [intOf]; omega⟩
        · obtain rfl : j = qs.length := by omega
          have H6 := hid hW.out.sl
          clear hW hj hjl
          go_wp2_with fail
          refine (sg_back H6.out.g).mono ?_
          rintro e w7 ⟨rfl, hG7, f7⟩
          have H7 := hid (H6.out.runs hG7 f7)
          clear hG7 f7 H6
          have hsum : sumN (givs 512 (freeN 512 left) rs) = 510 := by
            have := H7.out.g.inv.r.sum
            simp only [List.map_nil, List.append_nil, List.sum_nil] at this
            omega
          go_wp2_with fail
          refine (sg_free H7.out.g).mono ?_
          rintro e w8 ⟨rfl, f8⟩
          rw [hsum]
          have H8 := hid (H7.out.nil f8)
          clear f8 H7 hsum
          go_wp2
          go_ret
          exact ⟨rfl, F0.out.then H8.out.g.fr0⟩
end Go.Proofs.Ytgoghmblfdlnbaa
end

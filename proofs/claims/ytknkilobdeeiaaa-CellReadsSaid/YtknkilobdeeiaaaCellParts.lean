/- Parts: numbers and bytes that are written and read; the argument []Part opened. -/
import Derived.Test.YtknkilobdeeiaaaOpen
import Derived.Test.YtknkilobdeeiaaaCellA
import Derived.Test.YtknkilobdeeiaaaCellP3
set_option linter.unusedSimpArgs false
set_option linter.unusedVariables false
namespace Go.Proofs.Ytknkilobdeeiaaa
open Go.RowKit Go.ChangeShapes Go.WideShapes Go.Deep

/-- One element of []Part: its cells. -/
def PrtAt (w : World) (S : Nat → Prop) (b o : Nat) (p : Prt) : Prop :=
  w.cell? ⟨b, o, none⟩ = some (.int .i64 p.d) ∧ w.cell? ⟨b, o + 1, none⟩ = some (.int .i64 p.n) ∧ ∃ A c, w.cell? ⟨b, o + 2, none⟩ = some (.slice A p.b.length c) ∧ View w S 1 (.slice A p.b.length c) p.b.length (bys p.b) ∧ Byt p.b ∧
    (-9223372036854775808 ≤ p.n ∧ p.n < 9223372036854775808) ∧ (-9223372036854775808 ≤ p.d ∧ p.d < 9223372036854775808)
theorem PrtAt.fr {w w1 : World} {S S1 : Nat → Prop} {b o : Nat} {p : Prt} (h : PrtAt w S b o p) (hf : Fr S1 w w1) (hb : ¬ S1 b) (hn : ∀ k, S k → k < w.heap.size → ¬ S1 k) : PrtAt w1 S b o p := by
  obtain ⟨h1, h2, A, c, h3, h4, h5⟩ := h
  exact ⟨hf.cell h1 hb, hf.cell h2 hb, A, c, hf.cell h3 hb, h4.fr hf hn, h5⟩
/-- []Part -/
def Parts (w : World) (S : Nat → Prop) (v : Value) (n : Nat) (ps : List Prt) : Prop :=
  ps.length = n ∧ ∃ A c, v = .slice A n c ∧ n ≤ 9223372036854775807 ∧ (0 < n → ∃ b o, A = some ⟨b, o, none⟩ ∧ S b ∧ b < w.heap.size ∧ ∀ i p, ps[i]? = some p → PrtAt w S b (o + i * 3) p)
theorem Parts.fr {w w1 : World} {S S1 : Nat → Prop} {v : Value} {n : Nat} {ps : List Prt} (h : Parts w S v n ps) (hf : Fr S1 w w1) (hn : ∀ k, S k → k < w.heap.size → ¬ S1 k) : Parts w1 S v n ps := by
  obtain ⟨hl, A, c, e, h1, h2⟩ := h
  exact ⟨hl, A, c, e, h1, fun hp => let ⟨b, o, e1, e2, e3, e4⟩ := h2 hp; ⟨b, o, e1, e2, Nat.lt_of_lt_of_le e3 hf.size, fun i p hi => (e4 i p hi).fr hf (hn b e2 e3) hn⟩⟩

theorem open_parts {H : Type} {enc : TypeId × Value → H} {W : World} {base : Nat} {v : Value} {d : DataW H} {p : List MemPlace} (hv : Value.okWide Try.prog W .any base 22 v)
    (h : DataW.Trod enc Try.prog W 0 (fun _ => true) true 22 v d p) : ∃ n ps, Parts W (fun k => k < W.heap.size) v n ps := by
  obtain ⟨A, len, cap, rfl⟩ := okWide_slice Try.underlying22 hv
  obtain ⟨A', len', cap', e, cells, hview, hf⟩ := open_recs Try.underlying22 Try.underlying28 (by kernel_rfl) (by kernel_rfl) (by decide) ⟨A, len, cap, rfl⟩ h
  injection e with ea el ec
  subst ea; subst el; subst ec
  have hone : ∀ i, i < len → ∃ q : Prt, (∃ A c, cells[i * 3]? = some (.int .i64 q.d) ∧ cells[i * 3 + 1]? = some (.int .i64 q.n) ∧ cells[i * 3 + 2]? = some (.slice A q.b.length c) ∧ View W (fun k => k < W.heap.size) 1 (.slice A q.b.length c) q.b.length (bys q.b) ∧ Byt q.b ∧
      (-9223372036854775808 ≤ q.n ∧ q.n < 9223372036854775808) ∧ (-9223372036854775808 ≤ q.d ∧ q.d < 9223372036854775808)) := by
    intro i hi
    obtain ⟨u0, n0, y0, hu0, hy0⟩ := hf i hi 0 _ rfl
    obtain ⟨u1, n1, y1, hu1, hy1⟩ := hf i hi 1 _ rfl
    obtain ⟨u2, n2, y2, hu2, hy2⟩ := hf i hi 2 _ rfl
    obtain ⟨d0, e0, _, w0⟩ := DataW.trod_int Try.underlying3 hy0
    obtain ⟨d1, e1, _, w1⟩ := DataW.trod_int Try.underlying3 hy1
    obtain ⟨bs, hv2, hb2, A2, c2, e2⟩ := open_bytes Try.underlying24 Try.underlying5 (by kernel_rfl) hy2
    simp only [List.cons.injEq, and_true] at e0 e1
    subst e0; subst e1; subst e2
    exact ⟨⟨d0, d1, bs⟩, A2, c2, hu0, hu1, hu2, hv2, hb2, bounds_i64 w1, bounds_i64 w0⟩
  obtain ⟨f, hfn⟩ := choose_lt hone
  refine ⟨len, (List.range len).map f, by simp, A, cap, rfl, hview.le, fun hn => ?_⟩
  obtain ⟨_, A3, c3, e3, _, _, _, _, h5⟩ := hview
  injection e3 with ea _ ec
  subst ea; subst ec
  obtain ⟨b, o, rfl, hb, _, hc⟩ := h5 hn
  refine ⟨b, o, rfl, hb, hb, fun i q hi => ?_⟩
  have hil : i < len := by
    have := (List.getElem?_eq_some_iff.1 hi).1
    simpa using this
  have hq : f i = q := by
    rw [List.getElem?_map, List.getElem?_range hil] at hi
    simpa using hi
  obtain ⟨A2, c2, g0, g1, g2, g3⟩ := hfn i hil
  rw [hq] at g0 g1 g2 g3
  exact ⟨hc _ _ g0, hc _ _ g1, A2, c2, hc _ _ g2, g3⟩

end Go.Proofs.Ytknkilobdeeiaaa

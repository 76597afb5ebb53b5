/- The reference's Platter in memory: the same shape as the program's. -/
import Derived.Test.YtidjmjfoheagmaaQPlatF
import Derived.Test.YtidjmjfoheagmaaQPlatRot
import Derived.Deep.Cut
import Derived.Deep.CutRange
set_option linter.unusedSimpArgs false
set_option linter.unusedVariables false
namespace Go.Proofs.Ytidjmjfoheagmaa
open Go.RowKit
def CacM (w : World) (T : Nat → Prop) (vc : Value) (ca : List (Nat × List Nat)) : Prop :=
  ∃ cv, Row w T 88 2 vc ca.length (flatW cv) ∧ ∀ (i n : Nat) x, ca[i]? = some (n, x) → ∃ v, cv[i]? = some (n, v) ∧ Dat w T v x
def FauM (w : World) (T : Nat → Prop) (vf : Value) (fa : List (Int × Int)) : Prop := VT w T 89 2 vf fa.length (flatF fa)
def IsM (w : World) (T : Nat → Prop) (mb : Nat) (p : Pl) : Prop :=
  T mb ∧ ∃ vb vc vf : Value, Blk w mb (pcs vb vc vf p.co p.si) 64 ∧ BlksOk w T vb p.bl ∧ CacM w T vc p.ca ∧ FauM w T vf p.fa

section
variable {w w1 : World} {S1 T T1 : Nat → Prop} {X : TypeId} {v : Value} {x : List Nat} {bl : List (List Nat)} {ca : List (Nat × List Nat)} {fa : List (Int × Int)} {mb : Nat} {p : Pl}
theorem CacM.fr (h : CacM w T v ca) (hf : Fr S1 w w1) (hY : ∀ k, True → k < w.heap.size → S1 k → Typ w k X) (hne : X ≠ 5) (hne2 : X ≠ 88) : CacM w1 T v ca := by
  obtain ⟨cv, h1, h2⟩ := h
  exact ⟨cv, h1.fr hf (fun k hk h3 => hne2 ((hY k trivial (h1.lt k hk) h3).one (h1.own_typ hk))), fun i n x hx => let ⟨v, hv, hd⟩ := h2 i n x hx; ⟨v, hv, hd.fr hf hY hne⟩⟩
theorem CacM.mono (h : CacM w T v ca) (hs : ∀ k, T k → T1 k) : CacM w T1 v ca := by
  obtain ⟨cv, h1, h2⟩ := h
  exact ⟨cv, h1.mono hs, fun i n x hx => let ⟨v, hv, hd⟩ := h2 i n x hx; ⟨v, hv, hd.mono hs⟩⟩
theorem CacM.bd (h : CacM w T v ca) : CacM w (fun k => T k ∧ k < w.heap.size) v ca := by
  obtain ⟨cv, h1, h2⟩ := h
  exact ⟨cv, ⟨h1.1, fun k hk => ⟨h1.2 k hk, h1.lt k hk⟩⟩, fun i n x hx => let ⟨v, hv, hd⟩ := h2 i n x hx; ⟨v, hv, hd.bd⟩⟩
theorem CacM.nil (w : World) (T : Nat → Prop) : CacM w T (.slice none 0 0) [] := ⟨[], Row.nil _ _ _ _, fun i n x h => by simp at h⟩
theorem IsM.mono (h : IsM w T mb p) (hs : ∀ k, T k → T1 k) : IsM w T1 mb p := by
  obtain ⟨h0, vb, vc, vf, h1, h2, h3, h4⟩ := h
  exact ⟨hs _ h0, vb, vc, vf, h1, h2.mono hs, h3.mono hs, h4.mono hs⟩
theorem IsM.lt (h : IsM w T mb p) : mb < w.heap.size := by
  obtain ⟨h0, vb, vc, vf, h1, h2, h3, h4⟩ := h
  exact h1.lt
theorem IsM.bd (h : IsM w T mb p) : IsM w (fun k => T k ∧ k < w.heap.size) mb p := by
  have := h.lt
  obtain ⟨h0, vb, vc, vf, h1, h2, h3, h4⟩ := h
  exact ⟨⟨h0, this⟩, vb, vc, vf, h1, h2.bd, h3.bd, h4.bd⟩
theorem IsM.fr (h : IsM w T mb p) (hf : Fr S1 w w1) (hn : ∀ k, T k → ¬ S1 k) (hS : ∀ k, S1 k → k < w.heap.size → ¬ Typ w k 5 ∧ ¬ Typ w k 89 := by first | (intro k hk _; exact hk.elim) | assumption | (intro k hk hl; obtain rfl : k = _ := hk; exact ⟨fun h => absurd ((Blk.typ (by assumption)).one h) (by decide), fun h => absurd ((Blk.typ (by assumption)).one h) (by decide)⟩) | (intro k hk hl; obtain rfl : k = _ := hk; exact ⟨fun h => absurd (Typ.one (by assumption) h) (by decide), fun h => absurd (Typ.one (by assumption) h) (by decide)⟩) | (intro k hk hl; have h9 : k = _ := hk; omega)) : IsM w1 T mb p := by
  obtain ⟨h0, vb, vc, vf, h1, ⟨bs, r1, r2⟩, ⟨cv, c1, c2⟩, h4⟩ := h
  exact ⟨h0, vb, vc, vf, h1.fr hf (hn _ h0), ⟨bs, r1.fr hf (fun k hk => hn k (r1.2 k hk)), fun i x hx => let ⟨v, hv, hd⟩ := r2 i x hx; ⟨v, hv, hd.1, hd.2.1, hd.2.2.fr2 hf fun k a b => (hS k a b).1⟩⟩,
    ⟨cv, c1.fr hf (fun k hk => hn k (c1.2 k hk)), fun i n x hx => let ⟨v, hv, hd⟩ := c2 i n x hx; ⟨v, hv, hd.1, hd.2.1, hd.2.2.fr2 hf fun k a b => (hS k a b).1⟩⟩, VT.fr2 h4 hf fun k a b => (hS k a b).2⟩
/-- Only what may be written. -/
theorem IsM.bd2 (h : IsM w T mb p) : IsM w (fun k => T k ∧ k < w.heap.size ∧ ¬ Typ w k 5 ∧ ¬ Typ w k 46 ∧ ¬ Typ w k 89) mb p := by
  obtain ⟨h0, vb, vc, vf, h1, ⟨bs, r1, r2⟩, ⟨cv, c1, c2⟩, h4⟩ := h
  exact ⟨⟨h0, h1.lt, fun h => absurd (h1.typ.one h) (by decide), fun h => absurd (h1.typ.one h) (by decide), fun h => absurd (h1.typ.one h) (by decide)⟩, vb, vc, vf, h1,
    ⟨bs, ⟨r1.1, fun k hk => ⟨r1.2 k hk, r1.lt k hk, fun h => absurd ((r1.own_typ hk).one h) (by decide), fun h => absurd ((r1.own_typ hk).one h) (by decide), fun h => absurd ((r1.own_typ hk).one h) (by decide)⟩⟩, r2⟩,
    ⟨cv, ⟨c1.1, fun k hk => ⟨c1.2 k hk, c1.lt k hk, fun h => absurd ((c1.own_typ hk).one h) (by decide), fun h => absurd ((c1.own_typ hk).one h) (by decide), fun h => absurd ((c1.own_typ hk).one h) (by decide)⟩⟩, c2⟩, h4⟩
theorem IsM.own (h0 : T mb) {cs : Array Value} {vb vc vf : Value} (hb : Blk w mb cs 64) (hf : Fr (fun k => k = mb) w w1) (hb' : Blk w1 mb (pcs vb vc vf p.co p.si) 64) (h2 : BlksOk w T vb p.bl) (h3 : CacM w T vc p.ca) (h4 : FauM w T vf p.fa) : IsM w1 T mb p := by
  have hY : ∀ k, True → k < w.heap.size → k = mb → Typ w k 64 := fun k _ _ e => by rw [e]; exact hb.typ
  exact ⟨h0, vb, vc, vf, hb', h2.fr hf hY (by decide) (by decide), h3.fr hf hY (by decide) (by decide), h4.fr hf hY (by decide)⟩
end
/-- A fault is read. -/
theorem fau_at {w : World} {S : Nat → Prop} {A : Option Addr} {n c : Nat} {fa : List (Int × Int)} (h : View w S 2 (.slice A n c) n (flatF fa)) (hn : n = fa.length) {i : Nat} (hi : i < n) :
    ∃ b o x y, A = some ⟨b, o, none⟩ ∧ fa[i]? = some (x, y) ∧ w.cell? ⟨b, o + i * 2, none⟩ = some (.int .i64 x) ∧ w.cell? ⟨b, o + i * 2 + 1, none⟩ = some (.int .i64 y) := by
  obtain ⟨hl, A', c', e, _, _, _, _, h5⟩ := h
  injection e with ea _ ec
  subst ea; subst ec
  obtain ⟨b, o, hA, hS, hb, hc⟩ := h5 (by omega)
  obtain ⟨x, y⟩ : Int × Int := fa[i]'(by omega)
  have hf : fa[i]? = some (fa[i]'(by omega)) := List.getElem?_eq_getElem (by omega)
  obtain ⟨g0, g1⟩ := flatF_at fa i (fa[i]'(by omega)).1 (fa[i]'(by omega)).2 (by rw [hf])
  refine ⟨b, o, (fa[i]'(by omega)).1, (fa[i]'(by omega)).2, hA, hf, ?_, ?_⟩
  · rw [show o + i * 2 = o + 2 * i by omega]; exact hc _ _ g0
  · rw [show o + i * 2 + 1 = o + (2 * i + 1) by omega]; exact hc _ _ g1
/-- A cached write is read. -/
theorem cac_at {w : World} {T : Nat → Prop} {A : Option Addr} {c : Nat} {cv : List (Nat × Value)} {ca : List (Nat × List Nat)} {e : TypeId} (h : Row w T e 2 (.slice A ca.length c) ca.length (flatW cv)) (hD : ∀ (i n : Nat) x, ca[i]? = some (n, x) → ∃ v, cv[i]? = some (n, v) ∧ Dat w T v x) {i : Nat} (hi : i < ca.length) :
    ∃ g v, A = some ⟨g, 0, none⟩ ∧ T g ∧ w.cell? ⟨g, i * 2, none⟩ = some (.int .i64 ((ca[i]'hi).1 : Int)) ∧ w.cell? ⟨g, i * 2 + 1, none⟩ = some v ∧ Dat w T v (ca[i]'hi).2 := by
  obtain ⟨g, cap, e1, hS, hlt⟩ := h.form (by omega)
  injection e1 with ea _ ec
  subst ea; subst ec
  obtain ⟨v, hv, hd⟩ := hD i (ca[i]'hi).1 (ca[i]'hi).2 (List.getElem?_eq_getElem hi)
  obtain ⟨f1, f2⟩ := flatW_at cv i _ v hv
  refine ⟨g, v, rfl, hS, ?_, ?_, hd⟩
  · rw [show i * 2 = 2 * i by omega]; exact h.cell f1
  · rw [show i * 2 + 1 = 2 * i + 1 by omega]; exact h.cell f2
/-- A block of the platter is read. -/
theorem blk_at {w : World} {T : Nat → Prop} {A : Option Addr} {c : Nat} {bs : List Value} {bl : List (List Nat)} {e : TypeId} (h : Row w T e 1 (.slice A bl.length c) bl.length bs) (hD : ∀ (i : Nat) x, bl[i]? = some x → ∃ v, bs[i]? = some v ∧ Dat w T v x) {i : Nat} (hi : i < bl.length) :
    ∃ g v, A = some ⟨g, 0, none⟩ ∧ T g ∧ w.cell? ⟨g, i, none⟩ = some v ∧ w.frozen? ⟨g, i, none⟩ = false ∧ g < w.heap.size ∧ Dat w T v (bl[i]'hi) := by
  obtain ⟨g, cap, e1, hS, hlt⟩ := h.form (by omega)
  injection e1 with ea _ ec
  subst ea; subst ec
  obtain ⟨v, hv, hd⟩ := hD i (bl[i]'hi) (List.getElem?_eq_getElem hi)
  exact ⟨g, v, rfl, hS, h.cell hv, h.frozen i, hlt, hd⟩
/-- A slice of a block's bytes. -/
theorem Dat.slice {w : World} {T : Nat → Prop} {v : Value} {x : List Nat} (h : Dat w T v x) : ∃ A c, v = .slice A 64 c := let ⟨_, A, c, e, _⟩ := h.2.2; ⟨A, c, e⟩
end Go.Proofs.Ytidjmjfoheagmaa

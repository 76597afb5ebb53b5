/- A Platter's shape in memory, and what leaves it as it is. Conditions: none; plain lemmas. -/
import Derived.Test.YtidjmjfoheagmaaProg
import Derived.Test.YtidjmjfoheagmaaBase
import Derived.Test.YtidjmjfoheagmaaClone
import Derived.Test.YtidjmjfoheagmaaMake
import Derived.Deep.QuietTactic
import Derived.BigQuiet
import Derived.RegionCalls
import Derived.Deep.RegionWith
import Derived.Deep.RegionHeld3
set_option linter.unusedSimpArgs false
set_option linter.unusedVariables false
namespace Go.Proofs.Ytidjmjfoheagmaa
open Go.RowKit

def Typ (w : World) (k : Nat) (T : TypeId) : Prop := ∃ cs fr, w.heap[k]? = some (.cells cs T fr)
section
variable {w w1 : World} {S1 T T1 : Nat → Prop} {k : Nat} {X Y : TypeId} {v : Value} {x : List Nat}
theorem Typ.one (h : Typ w k X) (h2 : Typ w k Y) : X = Y := by
  obtain ⟨cs, fr, h⟩ := h
  obtain ⟨cs2, fr2, h2⟩ := h2
  rw [h] at h2
  injection h2 with h2
  injection h2
theorem Typ.lt (h : Typ w k X) : k < w.heap.size := by
  obtain ⟨cs, fr, h⟩ := h
  exact (Array.getElem?_eq_some_iff.1 h).1
theorem Typ.fr (h : Typ w k X) (hf : Fr S1 w w1) (hn : ¬ S1 k) : Typ w1 k X := by
  have hlt := h.lt
  obtain ⟨cs, fr, h⟩ := h
  exact ⟨cs, fr, (hf.block k hlt hn).trans h⟩
theorem Blk.typ {g : Nat} {cs : Array Value} (h : Blk w g cs X) : Typ w g X := ⟨cs, (0, 0), h⟩
theorem Row.typ {s n : Nat} {xs : List Value} {g n' c : Nat} (h : Row w T X s (.slice (some ⟨g, 0, none⟩) n' c) n xs) : Typ w g X := by
  rcases h.1.2 with ⟨h0, _⟩ | ⟨g', cap, cur, h0, _, hh, _⟩
  · cases h0
  · injection h0 with h0
    injection h0 with h0
    injection h0 with h0
    subst h0
    exact ⟨_, _, hh⟩
theorem Row.own_typ {s n : Nat} {xs : List Value} (h : Row w T X s v n xs) (hk : v.ownBlock = some k) : Typ w k X := by
  rcases h.1.2 with ⟨rfl, _⟩ | ⟨g', cap, cur, rfl, _, hh, _⟩
  · simp [Value.ownBlock] at hk
  · simp only [Value.ownBlock, Option.some.injEq] at hk
    subst hk
    exact ⟨_, _, hh⟩

/-- A view into blocks of one kind, wherever they are. -/
def VT (w : World) (_T : Nat → Prop) (X : TypeId) (s : Nat) (v : Value) (n : Nat) (xs : List Value) : Prop := View w (fun k => Typ w k X) s v n xs
theorem VT.fr2 {s n : Nat} {xs : List Value} (h : VT w T X s v n xs) (hf : Fr S1 w w1) (hS : ∀ k, S1 k → k < w.heap.size → ¬ Typ w k X) : VT w1 T X s v n xs := by
  have hn : ∀ k, Typ w k X → k < w.heap.size → ¬ S1 k := fun k hk hlt h1 => hS k h1 hlt hk
  exact (View.fr h hf hn).mono fun k hk => hk.fr hf (hn k hk hk.lt)
theorem VT.fr {s n : Nat} {xs : List Value} (h : VT w T X s v n xs) (hf : Fr S1 w w1) (hY : ∀ k, True → k < w.heap.size → S1 k → Typ w k Y) (hne : Y ≠ X) : VT w1 T X s v n xs :=
  h.fr2 hf fun k h1 hlt hk => hne ((hY k trivial hlt h1).one hk)
theorem VT.mono {s n : Nat} {xs : List Value} (h : VT w T X s v n xs) (_hs : ∀ k, T k → T1 k) : VT w T1 X s v n xs := h
theorem VT.bd {s n : Nat} {xs : List Value} (h : VT w T X s v n xs) : VT w (fun k => T k ∧ k < w.heap.size) X s v n xs := h
theorem VT.nil (w : World) (T : Nat → Prop) (X : TypeId) (s : Nat) : VT w T X s (.slice none 0 0) 0 [] := View.nil _ _ _
theorem Row.vt {s n : Nat} {xs : List Value} (h : Row w T X s v n xs) : VT w T X s v n xs := by
  have h2 : Row w (fun k => Typ w k X) X s v n xs := ⟨h.1, fun k hk => h.own_typ hk⟩
  exact h2.view
end

/-! ### a Platter -/
structure Pl where
  bl : List (List Nat)
  ca : List (Nat × List Nat)
  fa : List (Int × Int)
  co : Nat → Nat
  si : Nat → Nat

/-- A block's bytes. -/
def Dat (w : World) (T : Nat → Prop) (v : Value) (x : List Nat) : Prop := x.length = 64 ∧ Byt x ∧ VT w T 5 1 v 64 (bys x)
def flatW (cv : List (Nat × Value)) : List Value := cv.flatMap fun q => [.int .i64 (q.1 : Int), q.2]
def flatF (fa : List (Int × Int)) : List Value := fa.flatMap fun q => [.int .i64 q.1, .int .i64 q.2]
def BlksOk (w : World) (T : Nat → Prop) (vb : Value) (bl : List (List Nat)) : Prop :=
  ∃ bs, Row w T 22 1 vb bl.length bs ∧ ∀ (i : Nat) x, bl[i]? = some x → ∃ v, bs[i]? = some v ∧ Dat w T v x
def CacOk (w : World) (T : Nat → Prop) (vc : Value) (ca : List (Nat × List Nat)) : Prop :=
  ∃ cv, Row w T 74 2 vc ca.length (flatW cv) ∧ ∀ (i n : Nat) x, ca[i]? = some (n, x) → ∃ v, cv[i]? = some (n, v) ∧ Dat w T v x
def FauOk (w : World) (T : Nat → Prop) (vf : Value) (fa : List (Int × Int)) : Prop := VT w T 46 2 vf fa.length (flatF fa)
def pcs (vb vc vf : Value) (f g : Nat → Nat) : Array Value := #[vb, vc, vf, .int .i64 (f 0 : Int), .int .i64 (f 1 : Int), .int .i64 (f 2 : Int), .int .i64 (f 3 : Int), .int .i64 (g 0 : Int), .int .i64 (g 1 : Int), .int .i64 (g 2 : Int), .int .i64 (g 3 : Int)]
def IsP (w : World) (T : Nat → Prop) (pb : Nat) (p : Pl) : Prop :=
  T pb ∧ ∃ vb vc vf : Value, Blk w pb (pcs vb vc vf p.co p.si) 69 ∧ BlksOk w T vb p.bl ∧ CacOk w T vc p.ca ∧ FauOk w T vf p.fa

section
variable {w w1 : World} {S1 T T1 : Nat → Prop} {X : TypeId} {v : Value} {x : List Nat} {bl : List (List Nat)} {ca : List (Nat × List Nat)} {fa : List (Int × Int)} {pb : Nat} {p : Pl}
theorem Dat.fr (h : Dat w T v x) (hf : Fr S1 w w1) (hY : ∀ k, True → k < w.heap.size → S1 k → Typ w k X) (hne : X ≠ 5) : Dat w1 T v x := ⟨h.1, h.2.1, h.2.2.fr hf hY hne⟩
theorem Dat.mono (h : Dat w T v x) (hs : ∀ k, T k → T1 k) : Dat w T1 v x := ⟨h.1, h.2.1, h.2.2.mono hs⟩
theorem Dat.bd (h : Dat w T v x) : Dat w (fun k => T k ∧ k < w.heap.size) v x := ⟨h.1, h.2.1, h.2.2.bd⟩
theorem BlksOk.fr (h : BlksOk w T v bl) (hf : Fr S1 w w1) (hY : ∀ k, True → k < w.heap.size → S1 k → Typ w k X) (hne : X ≠ 5) (hne2 : X ≠ 22) : BlksOk w1 T v bl := by
  obtain ⟨bs, h1, h2⟩ := h
  exact ⟨bs, h1.fr hf (fun k hk h3 => hne2 ((hY k trivial (h1.lt k hk) h3).one (h1.own_typ hk))), fun i x hx => let ⟨v, hv, hd⟩ := h2 i x hx; ⟨v, hv, hd.fr hf hY hne⟩⟩
theorem BlksOk.mono (h : BlksOk w T v bl) (hs : ∀ k, T k → T1 k) : BlksOk w T1 v bl := by
  obtain ⟨bs, h1, h2⟩ := h
  exact ⟨bs, h1.mono hs, fun i x hx => let ⟨v, hv, hd⟩ := h2 i x hx; ⟨v, hv, hd.mono hs⟩⟩
theorem BlksOk.bd (h : BlksOk w T v bl) : BlksOk w (fun k => T k ∧ k < w.heap.size) v bl := by
  obtain ⟨bs, h1, h2⟩ := h
  exact ⟨bs, ⟨h1.1, fun k hk => ⟨h1.2 k hk, h1.lt k hk⟩⟩, fun i x hx => let ⟨v, hv, hd⟩ := h2 i x hx; ⟨v, hv, hd.bd⟩⟩
theorem CacOk.fr (h : CacOk w T v ca) (hf : Fr S1 w w1) (hY : ∀ k, True → k < w.heap.size → S1 k → Typ w k X) (hne : X ≠ 5) (hne2 : X ≠ 74) : CacOk w1 T v ca := by
  obtain ⟨cv, h1, h2⟩ := h
  exact ⟨cv, h1.fr hf (fun k hk h3 => hne2 ((hY k trivial (h1.lt k hk) h3).one (h1.own_typ hk))), fun i n x hx => let ⟨v, hv, hd⟩ := h2 i n x hx; ⟨v, hv, hd.fr hf hY hne⟩⟩
theorem CacOk.mono (h : CacOk w T v ca) (hs : ∀ k, T k → T1 k) : CacOk w T1 v ca := by
  obtain ⟨cv, h1, h2⟩ := h
  exact ⟨cv, h1.mono hs, fun i n x hx => let ⟨v, hv, hd⟩ := h2 i n x hx; ⟨v, hv, hd.mono hs⟩⟩
theorem CacOk.bd (h : CacOk w T v ca) : CacOk w (fun k => T k ∧ k < w.heap.size) v ca := by
  obtain ⟨cv, h1, h2⟩ := h
  exact ⟨cv, ⟨h1.1, fun k hk => ⟨h1.2 k hk, h1.lt k hk⟩⟩, fun i n x hx => let ⟨v, hv, hd⟩ := h2 i n x hx; ⟨v, hv, hd.bd⟩⟩
theorem CacOk.nil (w : World) (T : Nat → Prop) : CacOk w T (.slice none 0 0) [] := ⟨[], Row.nil _ _ _ _, fun i n x h => by simp at h⟩
theorem IsP.mono (h : IsP w T pb p) (hs : ∀ k, T k → T1 k) : IsP w T1 pb p := by
  obtain ⟨h0, vb, vc, vf, h1, h2, h3, h4⟩ := h
  exact ⟨hs _ h0, vb, vc, vf, h1, h2.mono hs, h3.mono hs, h4.mono hs⟩
theorem IsP.lt (h : IsP w T pb p) : pb < w.heap.size := by
  obtain ⟨h0, vb, vc, vf, h1, h2, h3, h4⟩ := h
  exact h1.lt
theorem IsP.bd (h : IsP w T pb p) : IsP w (fun k => T k ∧ k < w.heap.size) pb p := by
  have := h.lt
  obtain ⟨h0, vb, vc, vf, h1, h2, h3, h4⟩ := h
  exact ⟨⟨h0, this⟩, vb, vc, vf, h1, h2.bd, h3.bd, h4.bd⟩
theorem IsP.fr (h : IsP w T pb p) (hf : Fr S1 w w1) (hn : ∀ k, T k → ¬ S1 k) (hS : ∀ k, S1 k → k < w.heap.size → ¬ Typ w k 5 ∧ ¬ Typ w k 46 := by first | (intro k hk _; exact hk.elim) | assumption | (intro k hk hl; obtain rfl : k = _ := hk; exact ⟨fun h => absurd ((Blk.typ (by assumption)).one h) (by decide), fun h => absurd ((Blk.typ (by assumption)).one h) (by decide)⟩) | (intro k hk hl; obtain rfl : k = _ := hk; exact ⟨fun h => absurd (Typ.one (by assumption) h) (by decide), fun h => absurd (Typ.one (by assumption) h) (by decide)⟩) | (intro k hk hl; have h9 : k = _ := hk; omega)) : IsP w1 T pb p := by
  obtain ⟨h0, vb, vc, vf, h1, ⟨bs, r1, r2⟩, ⟨cv, c1, c2⟩, h4⟩ := h
  exact ⟨h0, vb, vc, vf, h1.fr hf (hn _ h0), ⟨bs, r1.fr hf (fun k hk => hn k (r1.2 k hk)), fun i x hx => let ⟨v, hv, hd⟩ := r2 i x hx; ⟨v, hv, hd.1, hd.2.1, hd.2.2.fr2 hf fun k a b => (hS k a b).1⟩⟩,
    ⟨cv, c1.fr hf (fun k hk => hn k (c1.2 k hk)), fun i n x hx => let ⟨v, hv, hd⟩ := c2 i n x hx; ⟨v, hv, hd.1, hd.2.1, hd.2.2.fr2 hf fun k a b => (hS k a b).1⟩⟩, VT.fr2 h4 hf fun k a b => (hS k a b).2⟩
/-- Only what may be written. -/
theorem IsP.bd2 (h : IsP w T pb p) : IsP w (fun k => T k ∧ k < w.heap.size ∧ ¬ Typ w k 5 ∧ ¬ Typ w k 46 ∧ ¬ Typ w k 89) pb p := by
  obtain ⟨h0, vb, vc, vf, h1, ⟨bs, r1, r2⟩, ⟨cv, c1, c2⟩, h4⟩ := h
  exact ⟨⟨h0, h1.lt, fun h => absurd (h1.typ.one h) (by decide), fun h => absurd (h1.typ.one h) (by decide), fun h => absurd (h1.typ.one h) (by decide)⟩, vb, vc, vf, h1,
    ⟨bs, ⟨r1.1, fun k hk => ⟨r1.2 k hk, r1.lt k hk, fun h => absurd ((r1.own_typ hk).one h) (by decide), fun h => absurd ((r1.own_typ hk).one h) (by decide), fun h => absurd ((r1.own_typ hk).one h) (by decide)⟩⟩, r2⟩,
    ⟨cv, ⟨c1.1, fun k hk => ⟨c1.2 k hk, c1.lt k hk, fun h => absurd ((c1.own_typ hk).one h) (by decide), fun h => absurd ((c1.own_typ hk).one h) (by decide), fun h => absurd ((c1.own_typ hk).one h) (by decide)⟩⟩, c2⟩, h4⟩
/-- The Platter's own block is written. -/
theorem IsP.own (h0 : T pb) {cs : Array Value} {vb vc vf : Value} (hb : Blk w pb cs 69) (hf : Fr (fun k => k = pb) w w1) (hb' : Blk w1 pb (pcs vb vc vf p.co p.si) 69) (h2 : BlksOk w T vb p.bl) (h3 : CacOk w T vc p.ca) (h4 : FauOk w T vf p.fa) : IsP w1 T pb p := by
  have hY : ∀ k, True → k < w.heap.size → k = pb → Typ w k 69 := fun k _ _ e => by rw [e]; exact hb.typ
  exact ⟨h0, vb, vc, vf, hb', h2.fr hf hY (by decide) (by decide), h3.fr hf hY (by decide) (by decide), h4.fr hf hY (by decide)⟩
end

theorem flatW_at (cv : List (Nat × Value)) (i n : Nat) (v : Value) (h : cv[i]? = some (n, v)) : (flatW cv)[2 * i]? = some (.int .i64 (n : Int)) ∧ (flatW cv)[2 * i + 1]? = some v := by
  induction cv generalizing i with
  | nil => simp at h
  | cons q cv ih =>
    cases i with
    | zero => simp at h; subst h; exact ⟨rfl, rfl⟩
    | succ i =>
      simp only [List.getElem?_cons_succ] at h
      have := ih i h
      rw [show 2 * (i + 1) = 2 * i + 1 + 1 by omega]
      exact this
theorem flatW_length (cv : List (Nat × Value)) : (flatW cv).length = 2 * cv.length := by
  induction cv with
  | nil => rfl
  | cons q cv ih =>
    show ([Value.int .i64 (q.1 : Int), q.2] ++ flatW cv).length = _
    rw [List.length_append, ih]
    simp
    omega
theorem flatF_at (fa : List (Int × Int)) (i : Nat) (a b : Int) (h : fa[i]? = some (a, b)) : (flatF fa)[2 * i]? = some (.int .i64 a) ∧ (flatF fa)[2 * i + 1]? = some (.int .i64 b) := by
  induction fa generalizing i with
  | nil => simp at h
  | cons q cv ih =>
    cases i with
    | zero => simp at h; subst h; exact ⟨rfl, rfl⟩
    | succ i =>
      simp only [List.getElem?_cons_succ] at h
      have := ih i h
      rw [show 2 * (i + 1) = 2 * i + 1 + 1 by omega]
      exact this

def Pl.ask (p : Pl) (op : Nat) : Pl := { p with co := fun k => if k = op then p.co k + 1 else p.co k, si := fun k => if k = op then p.si k + 1 else p.si k }
end Go.Proofs.Ytidjmjfoheagmaa

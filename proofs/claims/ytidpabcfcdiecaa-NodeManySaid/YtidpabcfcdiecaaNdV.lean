/- Nodes: their abstract shape, and what may be (no program). -/
import Derived.Test.YtidpabcfcdiecaaCellP
set_option linter.unusedSimpArgs false
set_option linter.unusedVariables false
namespace Go.Proofs.Ytidpabcfcdiecaa
open Go.RowKit

/-- A place (at, blocks, slot) or a kid (at, blocks, generation). -/
structure Kd where
  a : Int
  n : Int
  g : Int
/-- A node. -/
structure Nd where
  h : Int
  ks : List Int
  ps : List Kd
  gs : List Int
  ds : List Kd
/-- Where its lists lie. -/
structure Ptr where
  A1 : Option Addr
  c1 : Nat
  A2 : Option Addr
  c2 : Nat
  A3 : Option Addr
  c3 : Nat
  A4 : Option Addr
  c4 : Nat

def kcells (k : Kd) : List Value := [.int .i64 k.a, .int .i64 k.n, .int .i64 k.g]
def tri (l : List Kd) : List Value := l.flatMap kcells
def kz (l : List Int) (i : Nat) : Int := l.getD i 0
def kd (l : List Kd) (i : Nat) : Kd := l.getD i ⟨0, 0, 0⟩
theorem tri_length (l : List Kd) : (tri l).length = l.length * 3 := by
  induction l with
  | nil => rfl
  | cons k l ih => simp [tri, kcells] at ih ⊢; omega
theorem tri_append (a b : List Kd) : tri (a ++ b) = tri a ++ tri b := by simp [tri]
theorem tri_get : ∀ (l : List Kd) (i : Nat), i < l.length → (tri l)[i * 3]? = some (.int .i64 (kd l i).a) ∧ (tri l)[i * 3 + 1]? = some (.int .i64 (kd l i).n) ∧ (tri l)[i * 3 + 2]? = some (.int .i64 (kd l i).g)
  | [], i, h => by simp at h
  | k :: l, 0, h => ⟨rfl, rfl, rfl⟩
  | k :: l, i + 1, h => by
    have := tri_get l i (by simpa using h)
    have e : ∀ j, (tri (k :: l))[3 + j]? = (tri l)[j]? := fun j => by
      show (kcells k ++ tri l)[3 + j]? = _
      rw [List.getElem?_append_right (by simp [kcells])]
      simp [kcells]
    have e0 : kd (k :: l) (i + 1) = kd l i := by simp [kd]
    rw [show (i + 1) * 3 = 3 + i * 3 by omega, show 3 + i * 3 + 1 = 3 + (i * 3 + 1) by omega, show 3 + i * 3 + 2 = 3 + (i * 3 + 2) by omega, e, e, e, e0]
    exact this
theorem ints_get (l : List Int) (i : Nat) (h : i < l.length) : (ints .i64 l)[i]? = some (.int .i64 (kz l i)) := by
  rw [ints_at _ _ _ h]; simp [kz, List.getElem?_eq_getElem h]
theorem ints_append (a b : List Int) : ints .i64 (a ++ b) = ints .i64 a ++ ints .i64 b := by simp [ints]
theorem kz_eq {l : List Int} {i : Nat} (h : i < l.length) : kz l i = l[i] := by simp [kz, List.getElem?_eq_getElem h]
theorem kd_eq {l : List Kd} {i : Nat} (h : i < l.length) : kd l i = l[i] := by simp [kd, List.getElem?_eq_getElem h]

/-- Its lists are read. -/
structure Vs (w : World) (S : Nat → Prop) (q : Ptr) (x : Nd) : Prop where
  k : View w S 1 (.slice q.A1 x.ks.length q.c1) x.ks.length (ints .i64 x.ks)
  p : View w S 3 (.slice q.A2 x.ps.length q.c2) x.ps.length (tri x.ps)
  g : View w S 1 (.slice q.A3 x.gs.length q.c3) x.gs.length (ints .i64 x.gs)
  d : View w S 3 (.slice q.A4 x.ds.length q.c4) x.ds.length (tri x.ds)
theorem Vs.mono {w : World} {S S' : Nat → Prop} {q : Ptr} {x : Nd} (h : Vs w S q x) (hs : ∀ k, S k → S' k) : Vs w S' q x := ⟨h.k.mono hs, h.p.mono hs, h.g.mono hs, h.d.mono hs⟩
theorem Vs.bd {w : World} {S : Nat → Prop} {q : Ptr} {x : Nd} (h : Vs w S q x) : Vs w (fun k => S k ∧ k < w.heap.size) q x := ⟨h.k.bd, h.p.bd, h.g.bd, h.d.bd⟩
theorem Vs.fr {w w1 : World} {S S1 : Nat → Prop} {q : Ptr} {x : Nd} (h : Vs w S q x) (hf : Fr S1 w w1) (hn : ∀ k, S k → k < w.heap.size → ¬ S1 k) : Vs w1 S q x := ⟨h.k.fr hf hn, h.p.fr hf hn, h.g.fr hf hn, h.d.fr hf hn⟩
theorem Vs.nil {w w1 : World} {S : Nat → Prop} {q : Ptr} {x : Nd} (h : Vs w S q x) (hf : Fr Nil w w1) : Vs w1 S q x := h.fr hf fun _ _ _ h => h

/-- An element of a list of numbers is read. -/
theorem int_at {w : World} {S : Nat → Prop} {A : Option Addr} {n c : Nat} {l : List Int} (h : View w S 1 (.slice A n c) n (ints .i64 l)) {i : Nat} (hi : i < n) :
    ∃ b o, A = some ⟨b, o, none⟩ ∧ S b ∧ b < w.heap.size ∧ w.cell? ⟨b, o + i, none⟩ = some (.int .i64 (kz l i)) := by
  obtain ⟨hl, A', c', e, _, _, _, _, h5⟩ := h
  injection e with ea _ ec
  subst ea; subst ec
  obtain ⟨b, o, hA, hS, hb, hc⟩ := h5 (by omega)
  exact ⟨b, o, hA, hS, hb, hc i _ (ints_get l i (by rw [ints_length] at hl; omega))⟩
theorem kd_at {w : World} {S : Nat → Prop} {A : Option Addr} {n c : Nat} {l : List Kd} (h : View w S 3 (.slice A n c) n (tri l)) {i : Nat} (hi : i < n) :
    ∃ b o, A = some ⟨b, o, none⟩ ∧ S b ∧ b < w.heap.size ∧ w.cell? ⟨b, o + i * 3, none⟩ = some (.int .i64 (kd l i).a) ∧ w.cell? ⟨b, o + i * 3 + 1, none⟩ = some (.int .i64 (kd l i).n) ∧ w.cell? ⟨b, o + i * 3 + 2, none⟩ = some (.int .i64 (kd l i).g) := by
  obtain ⟨hl, A', c', e, _, _, _, _, h5⟩ := h
  injection e with ea _ ec
  subst ea; subst ec
  obtain ⟨b, o, hA, hS, hb, hc⟩ := h5 (by omega)
  have hl2 : i < l.length := by rw [tri_length] at hl; omega
  obtain ⟨g0, g1, g2⟩ := tri_get l i hl2
  exact ⟨b, o, hA, hS, hb, hc _ _ g0, hc _ _ g1, hc _ _ g2⟩

theorem ints_cells {w : World} {S : Nat → Prop} {A : Option Addr} {n c : Nat} {l : List Int} (h : View w S 1 (.slice A n c) n (ints .i64 l)) (h0 : 0 < n) :
    ∃ b o, A = some ⟨b, o, none⟩ ∧ S b ∧ b < w.heap.size ∧ ∀ i, i < n → w.cell? ⟨b, o + i, none⟩ = some (.int .i64 (kz l i)) := by
  obtain ⟨b, o, hA, hS, hb, _⟩ := int_at h h0
  refine ⟨b, o, hA, hS, hb, fun i hi => ?_⟩
  obtain ⟨b', o', hA', _, _, hc⟩ := int_at h hi
  rw [hA] at hA'
  injection hA' with hA'
  injection hA' with h1 h2
  rw [h1, h2]; exact hc
/-! ### what may be -/
def lOk (a n g : Int) : Prop := (0 ≤ a ∧ a ≤ 8191) ∧ (1 ≤ n ∧ n ≤ 128) ∧ a + n ≤ 8192 ∧ (0 ≤ g ∧ g ≤ 268435455)
def eOk (k : Kd) (g : Int) : Prop := lOk k.a k.n g ∧ (0 ≤ k.g ∧ k.g ≤ 7)
def kOk (ks : List Int) (i : Nat) : Prop := (0 ≤ kz ks i ∧ kz ks i ≤ 511) ∧ (0 < i → kz ks (i - 1) < kz ks i)
def keysOk (ks : List Int) : Prop := ks.length ≤ 8 ∧ ∀ i, i < ks.length → kOk ks i
def leafOk (x : Nd) : Prop := x.ps.length = x.ks.length ∧ x.gs.length = x.ks.length ∧ x.ds.length = 0 ∧ ∀ i, i < x.ks.length → eOk (kd x.ps i) (kz x.gs i)
def innerOk (x : Nd) : Prop := 0 < x.ks.length ∧ x.ds.length = x.ks.length ∧ x.ps.length = 0 ∧ x.gs.length = 0 ∧ ∀ i, i < x.ks.length → lOk (kd x.ds i).a (kd x.ds i).n (kd x.ds i).g
def MayNd (x : Nd) : Prop := (0 ≤ x.h ∧ x.h ≤ 5) ∧ keysOk x.ks ∧ (x.h = 0 → leafOk x) ∧ (x.h ≠ 0 → innerOk x)
instance (a n g : Int) : Decidable (lOk a n g) := by unfold lOk; infer_instance
instance (k : Kd) (g : Int) : Decidable (eOk k g) := by unfold eOk; infer_instance
instance (ks : List Int) (i : Nat) : Decidable (kOk ks i) := by unfold kOk; infer_instance
instance (ks : List Int) : Decidable (keysOk ks) := by unfold keysOk; infer_instance
instance (x : Nd) : Decidable (leafOk x) := by unfold leafOk; infer_instance
instance (x : Nd) : Decidable (innerOk x) := by unfold innerOk; infer_instance
instance (x : Nd) : Decidable (MayNd x) := by unfold MayNd; infer_instance
end Go.Proofs.Ytidpabcfcdiecaa

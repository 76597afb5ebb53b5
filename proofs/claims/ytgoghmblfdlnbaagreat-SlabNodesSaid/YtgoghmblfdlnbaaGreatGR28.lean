/- The texts VNdRE, VNdP of this proof, one behind the other. Conditions: those of each. -/
import Derived.Test.YtgoghmblfdlnbaaGreatGR26
import Derived.Test.YtgoghmblfdlnbaaGreatGR27
section
/- The reference's Encode (chapter 13). -/
set_option linter.unusedSimpArgs false
set_option linter.unusedVariables false
namespace Go.Proofs.YtgoghmblfdlnbaaGreat.nd
open Go.RowKit


theorem mk7 {w w' : World} {T : Nat → Prop} {a1 a2 a3 a4 a5 a6 a7 : Addr} {v1 v2 v3 v4 v5 v6 v7 : Value} (hf : Fr T w w') (h : w.cell? a1 = some v1 ∧ w.cell? a2 = some v2 ∧ w.cell? a3 = some v3 ∧ w.cell? a4 = some v4 ∧ w.cell? a5 = some v5 ∧ w.cell? a6 = some v6 ∧ w.cell? a7 = some v7)
    (n1 : ¬ T a1.block) (n2 : ¬ T a2.block) (n3 : ¬ T a3.block) (n4 : ¬ T a4.block) (n5 : ¬ T a5.block) (n6 : ¬ T a6.block) (n7 : ¬ T a7.block) :
    w'.cell? a1 = some v1 ∧ w'.cell? a2 = some v2 ∧ w'.cell? a3 = some v3 ∧ w'.cell? a4 = some v4 ∧ w'.cell? a5 = some v5 ∧ w'.cell? a6 = some v6 ∧ w'.cell? a7 = some v7 :=
  ⟨hf.cell h.1 n1, hf.cell h.2.1 n2, hf.cell h.2.2.1 n3, hf.cell h.2.2.2.1 n4, hf.cell h.2.2.2.2.1 n5, hf.cell h.2.2.2.2.2.1 n6, hf.cell h.2.2.2.2.2.2 n7⟩
theorem mk5 {w w' : World} {T : Nat → Prop} {a1 a2 a3 a4 a5 : Addr} {v1 v2 v3 v4 v5 : Value} (hf : Fr T w w') (h : w.cell? a1 = some v1 ∧ w.cell? a2 = some v2 ∧ w.cell? a3 = some v3 ∧ w.cell? a4 = some v4 ∧ w.cell? a5 = some v5)
    (n1 : ¬ T a1.block) (n2 : ¬ T a2.block) (n3 : ¬ T a3.block) (n4 : ¬ T a4.block) (n5 : ¬ T a5.block) :
    w'.cell? a1 = some v1 ∧ w'.cell? a2 = some v2 ∧ w'.cell? a3 = some v3 ∧ w'.cell? a4 = some v4 ∧ w'.cell? a5 = some v5 :=
  ⟨hf.cell h.1 n1, hf.cell h.2.1 n2, hf.cell h.2.2.1 n3, hf.cell h.2.2.2.1 n4, hf.cell h.2.2.2.2 n5⟩
theorem mk7n {w w' : World} {a1 a2 a3 a4 a5 a6 a7 : Addr} {v1 v2 v3 v4 v5 v6 v7 : Value} (hf : Fr Nil w w') (h : w.cell? a1 = some v1 ∧ w.cell? a2 = some v2 ∧ w.cell? a3 = some v3 ∧ w.cell? a4 = some v4 ∧ w.cell? a5 = some v5 ∧ w.cell? a6 = some v6 ∧ w.cell? a7 = some v7) : w'.cell? a1 = some v1 ∧ w'.cell? a2 = some v2 ∧ w'.cell? a3 = some v3 ∧ w'.cell? a4 = some v4 ∧ w'.cell? a5 = some v5 ∧ w'.cell? a6 = some v6 ∧ w'.cell? a7 = some v7 :=
  mk7 hf h (fun h => h) (fun h => h) (fun h => h) (fun h => h) (fun h => h) (fun h => h) (fun h => h)
theorem mk5n {w w' : World} {a1 a2 a3 a4 a5 : Addr} {v1 v2 v3 v4 v5 : Value} (hf : Fr Nil w w') (h : w.cell? a1 = some v1 ∧ w.cell? a2 = some v2 ∧ w.cell? a3 = some v3 ∧ w.cell? a4 = some v4 ∧ w.cell? a5 = some v5) : w'.cell? a1 = some v1 ∧ w'.cell? a2 = some v2 ∧ w'.cell? a3 = some v3 ∧ w'.cell? a4 = some v4 ∧ w'.cell? a5 = some v5 :=
  mk5 hf h (fun h => h) (fun h => h) (fun h => h) (fun h => h) (fun h => h)
/-- The bytes that are there (world wr to w9) grow by those of ys. -/
theorem grow_u8 {W1 wr w8 w9 : World} {B : Nat} {A2 A3 : Option Addr} {L c2 c3 : Nat} {xs ys : List Nat} (hB : B ≤ W1.heap.size) (hfr : Fr (fun k => B ≤ k) W1 wr) (hrow : Row wr (fun k => B ≤ k) 5 1 (.slice A2 L c2) L (bys xs)) (f1 : Fr Nil wr w8)
    (q1 : Row w9 (fun k => (Value.slice A2 L c2).ownBlock = some k ∨ w8.heap.size ≤ k) 5 1 (.slice A3 (L + ys.length) c3) (L + ys.length) (bys xs ++ bys ys)) (q2 : Fr (fun k => (Value.slice A2 L c2).ownBlock = some k) w8 w9) :
    Row w9 (fun k => B ≤ k) 5 1 (.slice A3 (L + ys.length) c3) (L + ys.length) (bys (xs ++ ys)) ∧ Fr (fun k => B ≤ k) W1 w9 := by
  have h1 := hfr.size
  have h2 := f1.size
  constructor
  · rw [bys_append]
    exact q1.mono fun k hk => hk.elim (fun h => hrow.2 k h) (fun h => by show B ≤ k; omega)
  · exact (hfr.then f1.nil).trans q2 (fun k hk => .inl (hrow.2 k hk))

end Go.Proofs.YtgoghmblfdlnbaaGreat.nd
end

section
/- Nodes: what their bytes say (no program). -/
set_option linter.unusedSimpArgs false
set_option linter.unusedVariables false
namespace Go.Proofs.YtgoghmblfdlnbaaGreat.nd
open Go.RowKit

/-- So many numbers. -/
def nums' : Nat → List Nat → Got (List Nat)
  | 0, bs => .ok [] bs
  | c + 1, bs => match num bs with
    | .bad e => .bad e
    | .ok n r => match nums' c r with
      | .bad e => .bad e
      | .ok l r' => .ok (n :: l) r'
def at5 (l : List Nat) (i : Nat) : Int := ((l.getD i 0 : Nat) : Int)
/-- An entry more. -/
def addE (x : Nd) (l : List Nat) : Nd :=
  if x.h = 0 then ⟨x.h, x.ks ++ [at5 l 0], x.ps ++ [⟨at5 l 1, at5 l 2, at5 l 3⟩], x.gs ++ [at5 l 4], x.ds⟩
  else ⟨x.h, x.ks ++ [at5 l 0], x.ps, x.gs, x.ds ++ [⟨at5 l 1, at5 l 2, at5 l 3⟩]⟩
def wd (x : Nd) : Nat := if x.h = 0 then 5 else 4
def rdN : Nat → Nd → List Nat → Got Nd
  | 0, x, bs => .ok x bs
  | m + 1, x, bs => match nums' (wd x) bs with
    | .bad e => .bad e
    | .ok l r => rdN m (addE x l) r
/-- What the reading function comes to. -/
inductive Outc
  | bad (er : Int)
  | big (rest : List Nat)
  | good (x : Nd) (rest : List Nat)
def oc : Got Nd → Outc
  | .bad e => .bad e
  | .ok x rest => .good x rest
def outc (bs : List Nat) : Outc := match num bs with
  | .bad e => .bad e
  | .ok h r => match num r with
    | .bad e => .bad e
    | .ok m r2 => if 8 < m then .big r2 else oc (rdN m ⟨h, [], [], [], []⟩ r2)
/-- What is decoded: a node, or the error. -/
def decd (bs : List Nat) : Sum Nd Int := match outc bs with
  | .bad e => .inr e
  | .big _ => .inr 4
  | .good x rest => if rest ≠ [] then .inr 3 else if MayNd x then .inl x else .inr 4
theorem addE_h (x : Nd) (l : List Nat) : (addE x l).h = x.h := by unfold addE; split <;> rfl

/-- The rows of a node that is one's own. -/
structure Rws (w : World) (B : Nat) (q : Ptr) (x : Nd) (TI TP TK : TypeId) : Prop where
  k : Row w (fun b => B ≤ b) TI 1 (.slice q.A1 x.ks.length q.c1) x.ks.length (ints .i64 x.ks)
  p : Row w (fun b => B ≤ b) TP 3 (.slice q.A2 x.ps.length q.c2) x.ps.length (tri x.ps)
  g : Row w (fun b => B ≤ b) TI 1 (.slice q.A3 x.gs.length q.c3) x.gs.length (ints .i64 x.gs)
  d : Row w (fun b => B ≤ b) TK 3 (.slice q.A4 x.ds.length q.c4) x.ds.length (tri x.ds)
  ap : ∀ b, (Value.slice q.A1 x.ks.length q.c1).ownBlock = some b → (Value.slice q.A3 x.gs.length q.c3).ownBlock ≠ some b
theorem Rws.vs {w : World} {B : Nat} {q : Ptr} {x : Nd} {TI TP TK : TypeId} (h : Rws w B q x TI TP TK) : Vs w (fun b => B ≤ b) q x := ⟨h.k.view, h.p.view, h.g.view, h.d.view⟩
theorem Rws.fr {w w1 : World} {B : Nat} {q : Ptr} {x : Nd} {TI TP TK : TypeId} {S1 : Nat → Prop} (h : Rws w B q x TI TP TK) (hf : Fr S1 w w1) (hn : ∀ k, B ≤ k → ¬ S1 k) : Rws w1 B q x TI TP TK := ⟨h.k.frS hf hn, h.p.frS hf hn, h.g.frS hf hn, h.d.frS hf hn, h.ap⟩
theorem Rws.nil (w : World) (B : Nat) (h : Int) (TI TP TK : TypeId) : Rws w B ⟨none, 0, none, 0, none, 0, none, 0⟩ ⟨h, [], [], [], []⟩ TI TP TK :=
  ⟨Row.nil _ _ _ _, Row.nil _ _ _ _, Row.nil _ _ _ _, Row.nil _ _ _ _, fun b h => by simp [Value.ownBlock] at h⟩

def ncells (x : Nd) (q : Ptr) : Array Value := #[.int .i64 x.h, .slice q.A1 x.ks.length q.c1, .slice q.A2 x.ps.length q.c2, .slice q.A3 x.gs.length q.c3, .slice q.A4 x.ds.length q.c4]

/-- One of the lists grew (world w to w2) and is stored in the node's block. -/
structure Grew (w w2 : World) (B nb : Nat) (q q' : Ptr) (x x' : Nd) (TN TI TP TK : TypeId) (j : Nat) (u : Value) : Prop where
  blk : Blk (w2.setCell ⟨nb, j, none⟩ u) nb (ncells x' q') TN
  rws : Rws (w2.setCell ⟨nb, j, none⟩ u) B q' x' TI TP TK
  fr : Fr (fun k => k = nb ∨ B ≤ k) w (w2.setCell ⟨nb, j, none⟩ u)
  old : Blk w2 nb (ncells x q) TN

section
variable {w w2 : World} {B nb n' c : Nat} {A : Option Addr} {q : Ptr} {x : Nd} {TN TI TP TK : TypeId}
theorem grew_aux {e : TypeId} {s n : Nat} {v v' : Value} {xs ys : List Value} {cs : Array Value} (hb : Blk w nb cs TN) (hr : Row w (fun b => B ≤ b) e s v n xs) (hne : e ≠ TN)
    (h1 : Row w2 (fun k => v.ownBlock = some k ∨ w.heap.size ≤ k) e s v' n' ys) (h3 : Fr (fun k => v.ownBlock = some k) w w2) (hB : B ≤ w.heap.size) (j : Nat) (u : Value) :
    Blk w2 nb cs TN ∧ Row (w2.setCell ⟨nb, j, none⟩ u) (fun b => B ≤ b) e s v' n' ys ∧ Fr (fun k => k = nb ∨ B ≤ k) w (w2.setCell ⟨nb, j, none⟩ u) := by
  have hb2 := hb.fr h3 (hr.apart_blk hb hne)
  refine ⟨hb2, ?_, ?_⟩
  · exact ((h1.mono fun k hk => hk.elim (fun h => hr.2 k h) (fun h => Nat.le_trans hB h)).setCell (h1.apart_blk hb2 hne) _)
  · exact Fr.setCell ((h3.mono fun k hk => .inr (hr.2 k hk))) (a := ⟨nb, j, none⟩) (.inl (.inl rfl)) _
theorem other_row {e e' : TypeId} {s n s' m : Nat} {v y : Value} {xs ys : List Value} {cs : Array Value} (hb : Blk w nb cs TN) (hr : Row w (fun b => B ≤ b) e s v n xs) (ho : Row w (fun b => B ≤ b) e' s' y m ys) (hne : e' ≠ TN)
    (h3 : Fr (fun k => v.ownBlock = some k) w w2) (hap : ∀ k, y.ownBlock = some k → v.ownBlock ≠ some k) (j : Nat) (u : Value) :
    Row (w2.setCell ⟨nb, j, none⟩ u) (fun b => B ≤ b) e' s' y m ys :=
  (ho.fr h3 fun k hk => hap k hk).setCell (a := ⟨nb, j, none⟩) (ho.apart_blk hb hne) _

theorem grew_key (hb : Blk w nb (ncells x q) TN) (h : Rws w B q x TI TP TK) (d1 : TI ≠ TN) (d2 : TP ≠ TN) (d3 : TK ≠ TN) (p1 : TI ≠ TP) (p2 : TI ≠ TK) (p3 : TP ≠ TK) (hB : B ≤ w.heap.size) (z : Int)
    (h1 : Row w2 (fun k => (Value.slice q.A1 x.ks.length q.c1).ownBlock = some k ∨ w.heap.size ≤ k) TI 1 (.slice A (x.ks.length + 1) c) (x.ks.length + 1) (ints .i64 x.ks ++ [.int .i64 z])) (h3 : Fr (fun k => (Value.slice q.A1 x.ks.length q.c1).ownBlock = some k) w w2) :
    Grew w w2 B nb q ⟨A, c, q.A2, q.c2, q.A3, q.c3, q.A4, q.c4⟩ x ⟨x.h, x.ks ++ [z], x.ps, x.gs, x.ds⟩ TN TI TP TK 1 (.slice A (x.ks.length + 1) c) := by
  obtain ⟨a1, a2, a3⟩ := grew_aux hb h.k d1 h1 h3 hB 1 (.slice A (x.ks.length + 1) c)
  have el : (x.ks ++ [z]).length = x.ks.length + 1 := by simp
  refine ⟨?_, ⟨?_, ?_, ?_, ?_, ?_⟩, a3, a1⟩
  · have := a1.set 1 (.slice A (x.ks.length + 1) c)
    unfold ncells
    simp only [el]
    exact this
  · simp only [el, ints_append]; exact a2
  · exact other_row hb h.k h.p d2 h3 (fun k hk => (h.p.apart h.k (Ne.symm p1)) k hk) _ _
  · exact other_row hb h.k h.g d1 h3 (fun k hk hk2 => h.ap k hk2 hk) _ _
  · exact other_row hb h.k h.d d3 h3 (fun k hk => (h.d.apart h.k (Ne.symm p2)) k hk) _ _
  · intro b hb9 hb8
    simp only [el] at hb9
    rcases h1.2 b hb9 with h9 | h9
    · exact h.ap b h9 hb8
    · have := h.g.lt b hb8; omega
theorem grew_gen (hb : Blk w nb (ncells x q) TN) (h : Rws w B q x TI TP TK) (d1 : TI ≠ TN) (d2 : TP ≠ TN) (d3 : TK ≠ TN) (p1 : TI ≠ TP) (p2 : TI ≠ TK) (p3 : TP ≠ TK) (hB : B ≤ w.heap.size) (z : Int)
    (h1 : Row w2 (fun k => (Value.slice q.A3 x.gs.length q.c3).ownBlock = some k ∨ w.heap.size ≤ k) TI 1 (.slice A (x.gs.length + 1) c) (x.gs.length + 1) (ints .i64 x.gs ++ [.int .i64 z])) (h3 : Fr (fun k => (Value.slice q.A3 x.gs.length q.c3).ownBlock = some k) w w2) :
    Grew w w2 B nb q ⟨q.A1, q.c1, q.A2, q.c2, A, c, q.A4, q.c4⟩ x ⟨x.h, x.ks, x.ps, x.gs ++ [z], x.ds⟩ TN TI TP TK 3 (.slice A (x.gs.length + 1) c) := by
  obtain ⟨a1, a2, a3⟩ := grew_aux hb h.g d1 h1 h3 hB 3 (.slice A (x.gs.length + 1) c)
  have el : (x.gs ++ [z]).length = x.gs.length + 1 := by simp
  refine ⟨?_, ⟨?_, ?_, ?_, ?_, ?_⟩, a3, a1⟩
  · have := a1.set 3 (.slice A (x.gs.length + 1) c)
    unfold ncells
    simp only [el]
    exact this
  · exact other_row hb h.g h.k d1 h3 (fun k hk hk2 => h.ap k hk hk2) _ _
  · exact other_row hb h.g h.p d2 h3 (fun k hk => (h.p.apart h.g (Ne.symm p1)) k hk) _ _
  · simp only [el, ints_append]; exact a2
  · exact other_row hb h.g h.d d3 h3 (fun k hk => (h.d.apart h.g (Ne.symm p2)) k hk) _ _
  · intro b hb9 hb8
    simp only [el] at hb8
    rcases h1.2 b hb8 with h9 | h9
    · exact h.ap b hb9 h9
    · have := h.k.lt b hb9; omega
theorem grew_place (hb : Blk w nb (ncells x q) TN) (h : Rws w B q x TI TP TK) (d1 : TI ≠ TN) (d2 : TP ≠ TN) (d3 : TK ≠ TN) (p1 : TI ≠ TP) (p2 : TI ≠ TK) (p3 : TP ≠ TK) (hB : B ≤ w.heap.size) (z : Kd)
    (h1 : Row w2 (fun k => (Value.slice q.A2 x.ps.length q.c2).ownBlock = some k ∨ w.heap.size ≤ k) TP 3 (.slice A (x.ps.length + 1) c) (x.ps.length + 1) (tri x.ps ++ kcells z)) (h3 : Fr (fun k => (Value.slice q.A2 x.ps.length q.c2).ownBlock = some k) w w2) :
    Grew w w2 B nb q ⟨q.A1, q.c1, A, c, q.A3, q.c3, q.A4, q.c4⟩ x ⟨x.h, x.ks, x.ps ++ [z], x.gs, x.ds⟩ TN TI TP TK 2 (.slice A (x.ps.length + 1) c) := by
  obtain ⟨a1, a2, a3⟩ := grew_aux hb h.p d2 h1 h3 hB 2 (.slice A (x.ps.length + 1) c)
  have el : (x.ps ++ [z]).length = x.ps.length + 1 := by simp
  have et : tri (x.ps ++ [z]) = tri x.ps ++ kcells z := by rw [tri_append]; simp [tri]
  refine ⟨?_, ⟨?_, ?_, ?_, ?_, h.ap⟩, a3, a1⟩
  · have := a1.set 2 (.slice A (x.ps.length + 1) c)
    unfold ncells
    simp only [el]
    exact this
  · exact other_row hb h.p h.k d1 h3 (fun k hk => (h.k.apart h.p p1) k hk) _ _
  · simp only [el, et]; exact a2
  · exact other_row hb h.p h.g d1 h3 (fun k hk => (h.g.apart h.p p1) k hk) _ _
  · exact other_row hb h.p h.d d3 h3 (fun k hk => (h.d.apart h.p (Ne.symm p3)) k hk) _ _
theorem grew_kid (hb : Blk w nb (ncells x q) TN) (h : Rws w B q x TI TP TK) (d1 : TI ≠ TN) (d2 : TP ≠ TN) (d3 : TK ≠ TN) (p1 : TI ≠ TP) (p2 : TI ≠ TK) (p3 : TP ≠ TK) (hB : B ≤ w.heap.size) (z : Kd)
    (h1 : Row w2 (fun k => (Value.slice q.A4 x.ds.length q.c4).ownBlock = some k ∨ w.heap.size ≤ k) TK 3 (.slice A (x.ds.length + 1) c) (x.ds.length + 1) (tri x.ds ++ kcells z)) (h3 : Fr (fun k => (Value.slice q.A4 x.ds.length q.c4).ownBlock = some k) w w2) :
    Grew w w2 B nb q ⟨q.A1, q.c1, q.A2, q.c2, q.A3, q.c3, A, c⟩ x ⟨x.h, x.ks, x.ps, x.gs, x.ds ++ [z]⟩ TN TI TP TK 4 (.slice A (x.ds.length + 1) c) := by
  obtain ⟨a1, a2, a3⟩ := grew_aux hb h.d d3 h1 h3 hB 4 (.slice A (x.ds.length + 1) c)
  have el : (x.ds ++ [z]).length = x.ds.length + 1 := by simp
  have et : tri (x.ds ++ [z]) = tri x.ds ++ kcells z := by rw [tri_append]; simp [tri]
  refine ⟨?_, ⟨?_, ?_, ?_, ?_, h.ap⟩, a3, a1⟩
  · have := a1.set 4 (.slice A (x.ds.length + 1) c)
    unfold ncells
    simp only [el]
    exact this
  · exact other_row hb h.d h.k d1 h3 (fun k hk => (h.k.apart h.d p2) k hk) _ _
  · exact other_row hb h.d h.p d2 h3 (fun k hk => (h.p.apart h.d p3) k hk) _ _
  · exact other_row hb h.d h.g d1 h3 (fun k hk => (h.g.apart h.d p2) k hk) _ _
  · simp only [el, et]; exact a2
end
theorem Rws.mono {w : World} {B B' : Nat} {q : Ptr} {x : Nd} {TI TP TK : TypeId} (h : Rws w B q x TI TP TK) (hb : B' ≤ B) : Rws w B' q x TI TP TK := ⟨h.k.mono fun _ hk => Nat.le_trans hb hk, h.p.mono fun _ hk => Nat.le_trans hb hk, h.g.mono fun _ hk => Nat.le_trans hb hk, h.d.mono fun _ hk => Nat.le_trans hb hk, h.ap⟩
theorem Rws.drew {w : World} {B : Nat} {q : Ptr} {x : Nd} {TI TP TK : TypeId} (h : Rws w B q x TI TP TK) : Rws w.drew B q x TI TP TK := ⟨h.k, h.p, h.g, h.d, h.ap⟩
theorem Rws.alloc {w : World} {B : Nat} {q : Ptr} {x : Nd} {TI TP TK : TypeId} (h : Rws w B q x TI TP TK) (o : Obj) : Rws (w.alloc o) B q x TI TP TK := h.fr ((Fr.refl Nil w).alloc o) fun _ _ h => h
end Go.Proofs.YtgoghmblfdlnbaaGreat.nd
end

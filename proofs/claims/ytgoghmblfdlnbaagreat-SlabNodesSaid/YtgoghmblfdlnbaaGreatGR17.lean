/- The texts VShG, VPlat, VPlatB of this proof, one behind the other. Conditions: those of each. -/
import Derived.Test.YtgoghmblfdlnbaaGreatProg
import Derived.Deep.QuietTactic
import Derived.BigQuiet
import Derived.RegionCalls
import Derived.Deep.RegionWith
import Derived.Deep.RegionHeld3
import Derived.Test.YtgoghmblfdlnbaaGreatGR1
import Derived.Test.YtgoghmblfdlnbaaGreatGR3
import Derived.Test.YtgoghmblfdlnbaaGreatGR4
import Derived.Test.YtgoghmblfdlnbaaGreatGR15
import Derived.Test.YtgoghmblfdlnbaaGreatGR16
section
/- Shares: contracts beside what a law owns itself (Q); list. Conditions: the bounds of its lists. -/
set_option linter.unusedSimpArgs false
set_option linter.unusedVariables false
namespace Go.Proofs.YtgoghmblfdlnbaaGreat
open Go.RowKit
/-- Shares and runs, new since w0, beside the blocks Q; their plain invariant. -/
def Sg (Q : Nat → Prop) (w0 w : World) (sb pb bl N : Nat) (U L H : List Us) (A l : List Rn) : Prop :=
  ∃ V, St w V sb pb bl U L H A l ∧ (∀ k, V k → w0.heap.size ≤ k ∧ ¬ Q k) ∧ Fr Nil w0 w ∧ (∀ k, Q k → k < w.heap.size) ∧ Inv bl N U L H A l
section
variable {Q : Nat → Prop} {w0 w : World} {sb pb bl N : Nat} {U L H : List Us} {A l : List Rn}
theorem Sg.inv (h : Sg Q w0 w sb pb bl N U L H A l) : Inv bl N U L H A l := by
  obtain ⟨V, h1, h2, h3, h4, h5⟩ := h
  exact h5
theorem Sg.le8 (h : Sg Q w0 w sb pb bl N U L H A l) : bl ≤ 8192 := h.inv.r.wf.1
theorem Sg.fr0 (h : Sg Q w0 w sb pb bl N U L H A l) : Fr Nil w0 w := by
  obtain ⟨V, h1, h2, h3, h4, h5⟩ := h
  exact h3
theorem Sg.mono {N' : Nat} (h : Sg Q w0 w sb pb bl N U L H A l) (hN : N ≤ N') : Sg Q w0 w sb pb bl N' U L H A l := by
  obtain ⟨V, h1, h2, h3, h4, h5⟩ := h
  exact ⟨V, h1, h2, h3, h4, h5.mono hN⟩
theorem Sg.of (h : Sw w0 w sb pb bl U L H A l) (hi : Inv bl N U L H A l) : Sg (fun _ => False) w0 w sb pb bl N U L H A l := by
  obtain ⟨V, h1, h2, h3⟩ := h
  exact ⟨V, h1, fun k hk => ⟨h2 k hk, fun h => h⟩, h3, fun k h => h.elim, hi⟩
/-- What the law writes itself, or makes anew. -/
theorem Sg.fr {Q' S : Nat → Prop} (h : Sg Q w0 w sb pb bl N U L H A l) {w' : World} (hf : Fr S w w') (hS : ∀ k, S k → Q k) (hS0 : ∀ k, S k → w0.heap.size ≤ k) (hQ : ∀ k, Q' k → (Q k ∨ w.heap.size ≤ k) ∧ k < w'.heap.size) : Sg Q' w0 w' sb pb bl N U L H A l := by
  obtain ⟨V, h1, h2, h3, h4, h5⟩ := h
  refine ⟨V, h1.fr hf fun k hk h => (h2 k hk).2 (hS k h), fun k hk => ⟨(h2 k hk).1, fun h => ?_⟩, h3.trans hf fun k hk => .inr (hS0 k hk), fun k hk => (hQ k hk).2, h5⟩
  rcases (hQ k h).1 with h | h
  · exact (h2 k hk).2 h
  · have := h1.lt k hk; omega
theorem Sg.nil (h : Sg Q w0 w sb pb bl N U L H A l) {w' : World} (hf : Fr Nil w w') : Sg Q w0 w' sb pb bl N U L H A l :=
  h.fr hf (fun k h => h.elim) (fun k h => h.elim) fun k hk => ⟨.inl hk, by obtain ⟨V, h1, h2, h3, h4, h5⟩ := h; exact Nat.lt_of_lt_of_le (h4 k hk) hf.size⟩
theorem Sg.next {N' : Nat} {U' L' H' : List Us} {A' l' : List Rn} {w' : World} {V : Nat → Prop} (h2 : ∀ k, V k → w0.heap.size ≤ k ∧ ¬ Q k) (h3 : Fr Nil w0 w) (hq : ∀ k, Q k → k < w.heap.size) (hi : Inv bl N' U' L' H' A' l')
    (hs : ∃ V', St w' V' sb pb bl U' L' H' A' l' ∧ ∀ k, V' k → V k ∨ w.heap.size ≤ k) (hf : Fr V w w') : Sg Q w0 w' sb pb bl N' U' L' H' A' l' ∧ Fr (fun k => ¬ Q k) w w' := by
  obtain ⟨V', r1, r2⟩ := hs
  refine ⟨⟨V', r1, fun k hk => ?_, fup (fun k hk => (h2 k hk).1) h3 hf, fun k hk => Nat.lt_of_lt_of_le (hq k hk) hf.size, hi⟩, hf.mono fun k hk => (h2 k hk).2⟩
  rcases r2 k hk with h | h
  · exact h2 k h
  · exact ⟨Nat.le_trans h3.size h, fun h' => by have := hq k h'; omega⟩
theorem takeL_no {l : List Rn} {n : Int} (h : ¬ takeI l n < l.length) : takeR l n = (0, false) ∧ takeL l n = l := by
  unfold takeR takeL
  rw [if_neg h, if_neg h]
  exact ⟨rfl, rfl⟩
theorem takeR_yes {l : List Rn} {n : Int} (h : takeI l n < l.length) : takeR l n = (((rn l (takeI l n)).a : Int), true) := by
  unfold takeR
  rw [if_pos h]
/-- Take: none, or a run is taken and then added. -/
theorem sg_takeno (h : Sg Q w0 w sb pb bl N U L H A l) (n : Int) (hi : ¬ takeI l n < l.length) : Calls Tryz.prog 32 #[.pointer (some ⟨pb, 0, none⟩), .int .i64 n] w fun e w' => e = .returned (.tuple #[.int .i64 0, .bool false]) ∧ Sg Q w0 w' sb pb bl N U L H A l ∧ Fr (fun k => ¬ Q k) w w' := by
  obtain ⟨V, h1, h2, h3, h4, h5⟩ := h
  obtain ⟨e1, e2⟩ := takeL_no hi
  refine (st_take h1 n).mono ?_
  rw [e1, e2]
  exact fun e w' ⟨r1, r2, r3⟩ => ⟨r1, Sg.next h2 h3 h4 h5 r2 r3⟩
/-- Between Take and Add: a run that nobody has yet. -/
structure Half (Q : Nat → Prop) (w0 w : World) (sb pb bl N : Nat) (U L H : List Us) (A l : List Rn) (a n : Nat) : Prop where
  ex : ∃ V, St w V sb pb bl U L H A (takeL l (n : Int)) ∧ (∀ k, V k → w0.heap.size ≤ k ∧ ¬ Q k) ∧ Fr Nil w0 w ∧ (∀ k, Q k → k < w.heap.size)
  inv : Inv bl N U L H A l
  hi : takeI l (n : Int) < l.length
  ha : a = (rn l (takeI l (n : Int))).a
  hn : 1 ≤ n
theorem sg_take (h : Sg Q w0 w sb pb bl N U L H A l) (n : Nat) (hn : 1 ≤ n) (hi : takeI l (n : Int) < l.length) : Calls Tryz.prog 32 #[.pointer (some ⟨pb, 0, none⟩), .int .i64 (n : Nat)] w fun e w' => ∃ a, e = .returned (.tuple #[.int .i64 (a : Nat), .bool true]) ∧ a < bl ∧ a = (rn l (takeI l (n : Int))).a ∧ Half Q w0 w' sb pb bl N U L H A l a n ∧ Fr (fun k => ¬ Q k) w w' := by
  obtain ⟨V, h1, h2, h3, h4, h5⟩ := h
  refine (st_take h1 (n : Int)).mono ?_
  rw [takeR_yes hi]
  rintro e w' ⟨rfl, ⟨V', r1, r2⟩, r3⟩
  have hf : has l (rn l (takeI l (n : Int))).a = true := (take_has h5.r.wf (n : Int) hi 0).2 _ (btw_iff.2 ⟨Nat.le_refl _, by simp; omega⟩)
  refine ⟨_, rfl, wf_lt h5.r.wf hf, rfl, ⟨⟨V', r1, fun k hk => ?_, fup (fun k hk => (h2 k hk).1) h3 r3, fun k hk => Nat.lt_of_lt_of_le (h4 k hk) r3.size⟩, h5, hi, rfl, hn⟩, r3.mono fun k hk => (h2 k hk).2⟩
  rcases r2 k hk with h | h
  · exact h2 k h
  · exact ⟨Nat.le_trans h3.size h, fun h' => by have := h4 k h'; omega⟩
theorem usesI_none {U : List Us} {i : Int} (h : uget U i = none) : usesI U i = 0 := by unfold usesI; rw [h]
theorem sg_add {a n : Nat} (h : Half Q w0 w sb pb bl N U L H A l a n) (hN : 1 ≤ N) :
    Calls Tryz.prog 33 #[.pointer (some ⟨sb, 0, none⟩), .agg #[.int .i64 (a : Nat), .int .i64 (n : Nat)]] w fun e w' =>
      e = .returned (.bool true) ∧ Sg Q w0 w' sb pb bl N (uput U ⟨a, n, 1⟩) L H (A ++ [⟨a, n⟩]) (takeL l (n : Int)) ∧ Fr (fun k => ¬ Q k) w w' := by
  obtain ⟨⟨V, h1, h2, h3, h4⟩, h5, hi, ha, hn⟩ := h
  obtain ⟨g1, g2⟩ := h5.add hN hn hi
  rw [← ha] at g1 g2
  obtain ⟨k1, k2⟩ := h5.no_key g1
  have hb := wf_lt h5.r.wf g1
  have hb2 := h5.r.wf.1
  have hl := h5.len
  exact (st_add h1 a n (wf_i64 (by omega)) hn (usesI_none k2) (usesI_none k1) (by omega) (by omega)).mono fun e w' ⟨r1, r2, r3⟩ => ⟨r1, Sg.next h2 h3 h4 g2 r2 r3⟩
theorem sg_addno (h : Sg Q w0 w sb pb bl N U L H A l) (a n : Int) (ha : (Lit.int .i64 a).wf = true) (hf : fineI U L a n = false) :
    Calls Tryz.prog 33 #[.pointer (some ⟨sb, 0, none⟩), .agg #[.int .i64 a, .int .i64 n]] w fun e w' => e = .returned (.bool false) ∧ Sg Q w0 w' sb pb bl N U L H A l ∧ Fr Nil w w' := by
  have h' := h
  obtain ⟨V, h1, h2, h3, h4, h5⟩ := h
  exact (st_addno h1 a n ha hf).mono fun e w' ⟨r1, r3⟩ => ⟨r1, h'.nil r3, r3⟩
theorem sg_less (h : Sg Q w0 w sb pb bl N U L H A l) (i : Int) (hi : (Lit.int .i64 i).wf = true) (hN : N ≤ 100000) :
    Calls Tryz.prog 9 #[.pointer (some ⟨sb, 0, none⟩), .int .i64 i] w fun e w' =>
      e = .returned (.bool (decide (usesI U i ≠ 0))) ∧ Sg Q w0 w' sb pb bl N (lessU U i) (lessL U L i) H A l ∧ Fr (fun k => ¬ Q k) w w' := by
  have hbl := h.le8
  obtain ⟨V, h1, h2, h3, h4, h5⟩ := h
  have hl := h5.len
  exact (st_less h1 i hi (by omega) (by omega) fun u hu => by have := (h5.ku u hu).2; omega).mono fun e w' ⟨r1, r2, r3⟩ => ⟨r1, Sg.next h2 h3 h4 (h5.less i) r2 r3⟩
theorem sg_uses (h : Sg Q w0 w sb pb bl N U L H A l) (i : Int) (hi : (Lit.int .i64 i).wf = true) :
    Calls Tryz.prog 18 #[.pointer (some ⟨sb, 0, none⟩), .int .i64 i] w fun e w' => e = .returned (.int .i64 (usesI U i : Nat)) ∧ w = w' := by
  obtain ⟨V, h1, h2, h3, h4, h5⟩ := h
  exact st_uses h1 i hi
theorem sg_late (h : Sg Q w0 w sb pb bl N U L H A l) :
    Calls Tryz.prog 35 #[.pointer (some ⟨sb, 0, none⟩)] w fun e w' => ∃ B c, e = .returned (.slice B L.length c) ∧ Row w' (New w) 39 2 (.slice B L.length c) L.length (dbl (lst L)) ∧ Fr Nil w w' := by
  have hbl := h.le8
  obtain ⟨V, h1, h2, h3, h4, h5⟩ := h
  have hl := h5.len
  exact st_late h1 (by omega)
theorem sg_free (h : Sg Q w0 w sb pb bl N U L H A l) : Calls Tryz.prog 17 #[.pointer (some ⟨pb, 0, none⟩)] w fun e w' => e = .returned (.int .i64 (sumN l : Nat)) ∧ Fr Nil w w' := by
  obtain ⟨V, h1, h2, h3, h4, h5⟩ := h
  exact st_free h1
theorem sg_rlist (h : Sg Q w0 w sb pb bl N U L H A l) : Calls Tryz.prog 45 #[.pointer (some ⟨pb, 0, none⟩)] w fun e w' => ∃ B c, e = .returned (.slice B l.length c) ∧ Row w' (New w) 39 2 (.slice B l.length c) l.length (dbl l) ∧ Fr Nil w w' := by
  obtain ⟨V, h1, h2, h3, h4, h5⟩ := h
  exact st_rlist h1
theorem sg_settle (h : Sg Q w0 w sb pb bl N U L H A l) :
    Calls Tryz.prog 10 #[.pointer (some ⟨sb, 0, none⟩)] w fun e w' => e = .returned (.int .i64 (sumN (lst L) : Nat)) ∧ Sg Q w0 w' sb pb bl N U [] U [] (givs bl l (lst L)) ∧ Fr (fun k => ¬ Q k) w w' := by
  have hbl := h.le8
  obtain ⟨V, h1, h2, h3, h4, h5⟩ := h
  have hl := h5.len
  exact (st_settle h1 (by omega) (by omega) fun r hr => by have := h5.runs.2.1 r hr; omega).mono fun e w' ⟨r1, r2, r3⟩ => ⟨r1, Sg.next h2 h3 h4 h5.settle r2 r3⟩
end
end Go.Proofs.YtgoghmblfdlnbaaGreat
end

section
/- A Platter's shape in memory, and what leaves it as it is. Conditions: none; plain lemmas. -/
set_option linter.unusedSimpArgs false
set_option linter.unusedVariables false
namespace Go.Proofs.YtgoghmblfdlnbaaGreat
open Go.RowKit

def Typ (w : World) (k : Nat) (T : TypeId) : Prop := ∃ cs fr, w.heap[k]? = some (.cells cs T fr)
section
variable {w w1 : World} {S1 T T1 : Nat → Prop} {k : Nat} {X Y : TypeId} {v : Value} {x : List Nat}
theorem Typ.one (h : Typ w k X) (h2 : Typ w k Y) : X = Y := by
  obtain ⟨cs, fr, h⟩ := h
  obtain ⟨cs2, fr2, h2⟩ := h2
  rw [h] at h2
  injection h2 with h2
  injection h2
theorem Typ.lt (h : Typ w k X) : k < w.heap.size := by
  obtain ⟨cs, fr, h⟩ := h
  exact (Array.getElem?_eq_some_iff.1 h).1
theorem Typ.fr (h : Typ w k X) (hf : Fr S1 w w1) (hn : ¬ S1 k) : Typ w1 k X := by
  have hlt := h.lt
  obtain ⟨cs, fr, h⟩ := h
  exact ⟨cs, fr, (hf.block k hlt hn).trans h⟩
theorem Blk.typ {g : Nat} {cs : Array Value} (h : Blk w g cs X) : Typ w g X := ⟨cs, (0, 0), h⟩
theorem Row.typ {s n : Nat} {xs : List Value} {g n' c : Nat} (h : Row w T X s (.slice (some ⟨g, 0, none⟩) n' c) n xs) : Typ w g X := by
  rcases h.1.2 with ⟨h0, _⟩ | ⟨g', cap, cur, h0, _, hh, _⟩
  · cases h0
  · injection h0 with h0
    injection h0 with h0
    injection h0 with h0
    subst h0
    exact ⟨_, _, hh⟩
theorem Row.own_typ {s n : Nat} {xs : List Value} (h : Row w T X s v n xs) (hk : v.ownBlock = some k) : Typ w k X := by
  rcases h.1.2 with ⟨rfl, _⟩ | ⟨g', cap, cur, rfl, _, hh, _⟩
  · simp [Value.ownBlock] at hk
  · simp only [Value.ownBlock, Option.some.injEq] at hk
    subst hk
    exact ⟨_, _, hh⟩

/-- A view into blocks of one kind. -/
def VT (w : World) (T : Nat → Prop) (X : TypeId) (s : Nat) (v : Value) (n : Nat) (xs : List Value) : Prop := View w (fun k => T k ∧ Typ w k X) s v n xs
theorem VT.fr {s n : Nat} {xs : List Value} (h : VT w T X s v n xs) (hf : Fr S1 w w1) (hY : ∀ k, T k → k < w.heap.size → S1 k → Typ w k Y) (hne : Y ≠ X) : VT w1 T X s v n xs := by
  have hn : ∀ k, (T k ∧ Typ w k X) → k < w.heap.size → ¬ S1 k := fun k hk hlt h1 => hne ((hY k hk.1 hlt h1).one hk.2)
  exact (View.fr h hf hn).mono fun k hk => ⟨hk.1, hk.2.fr hf (hn k hk hk.2.lt)⟩
theorem VT.mono {s n : Nat} {xs : List Value} (h : VT w T X s v n xs) (hs : ∀ k, T k → T1 k) : VT w T1 X s v n xs := View.mono h fun k hk => ⟨hs k hk.1, hk.2⟩
theorem VT.bd {s n : Nat} {xs : List Value} (h : VT w T X s v n xs) : VT w (fun k => T k ∧ k < w.heap.size) X s v n xs := (View.bd h).mono fun k hk => ⟨⟨hk.1.1, hk.2⟩, hk.1.2⟩
theorem VT.nil (w : World) (T : Nat → Prop) (X : TypeId) (s : Nat) : VT w T X s (.slice none 0 0) 0 [] := View.nil _ _ _
theorem Row.vt {s n : Nat} {xs : List Value} (h : Row w T X s v n xs) : VT w T X s v n xs := by
  have h2 : Row w (fun k => T k ∧ Typ w k X) X s v n xs := ⟨h.1, fun k hk => ⟨h.2 k hk, h.own_typ hk⟩⟩
  exact h2.view
end

/-! ### a Platter -/
structure Pl where
  bl : List (List Nat)
  ca : List (Nat × List Nat)
  fa : List (Int × Int)
  co : Nat → Nat
  si : Nat → Nat

/-- A block's bytes. -/
def Dat (w : World) (T : Nat → Prop) (v : Value) (x : List Nat) : Prop := x.length = 64 ∧ Byt x ∧ VT w T 5 1 v 64 (bys x)
def flatW (cv : List (Nat × Value)) : List Value := cv.flatMap fun q => [.int .i64 (q.1 : Int), q.2]
def flatF (fa : List (Int × Int)) : List Value := fa.flatMap fun q => [.int .i64 q.1, .int .i64 q.2]
def BlksOk (w : World) (T : Nat → Prop) (vb : Value) (bl : List (List Nat)) : Prop :=
  ∃ bs, Row w T 30 1 vb bl.length bs ∧ ∀ (i : Nat) x, bl[i]? = some x → ∃ v, bs[i]? = some v ∧ Dat w T v x
def CacOk (w : World) (T : Nat → Prop) (vc : Value) (ca : List (Nat × List Nat)) : Prop :=
  ∃ cv, Row w T 124 2 vc ca.length (flatW cv) ∧ ∀ (i n : Nat) x, ca[i]? = some (n, x) → ∃ v, cv[i]? = some (n, v) ∧ Dat w T v x
def FauOk (w : World) (T : Nat → Prop) (vf : Value) (fa : List (Int × Int)) : Prop := VT w T 166 2 vf fa.length (flatF fa)
def pcs (vb vc vf : Value) (f g : Nat → Nat) : Array Value := #[vb, vc, vf, .int .i64 (f 0 : Int), .int .i64 (f 1 : Int), .int .i64 (f 2 : Int), .int .i64 (f 3 : Int), .int .i64 (g 0 : Int), .int .i64 (g 1 : Int), .int .i64 (g 2 : Int), .int .i64 (g 3 : Int)]
def IsP (w : World) (T : Nat → Prop) (pb : Nat) (p : Pl) : Prop :=
  T pb ∧ ∃ vb vc vf : Value, Blk w pb (pcs vb vc vf p.co p.si) 114 ∧ BlksOk w T vb p.bl ∧ CacOk w T vc p.ca ∧ FauOk w T vf p.fa

section
variable {w w1 : World} {S1 T T1 : Nat → Prop} {X : TypeId} {v : Value} {x : List Nat} {bl : List (List Nat)} {ca : List (Nat × List Nat)} {fa : List (Int × Int)} {pb : Nat} {p : Pl}
theorem Dat.fr (h : Dat w T v x) (hf : Fr S1 w w1) (hY : ∀ k, T k → k < w.heap.size → S1 k → Typ w k X) (hne : X ≠ 5) : Dat w1 T v x := ⟨h.1, h.2.1, h.2.2.fr hf hY hne⟩
theorem Dat.mono (h : Dat w T v x) (hs : ∀ k, T k → T1 k) : Dat w T1 v x := ⟨h.1, h.2.1, h.2.2.mono hs⟩
theorem Dat.bd (h : Dat w T v x) : Dat w (fun k => T k ∧ k < w.heap.size) v x := ⟨h.1, h.2.1, h.2.2.bd⟩
theorem BlksOk.fr (h : BlksOk w T v bl) (hf : Fr S1 w w1) (hY : ∀ k, T k → k < w.heap.size → S1 k → Typ w k X) (hne : X ≠ 5) (hne2 : X ≠ 30) : BlksOk w1 T v bl := by
  obtain ⟨bs, h1, h2⟩ := h
  exact ⟨bs, h1.fr hf (fun k hk h3 => hne2 ((hY k (h1.2 k hk) (h1.lt k hk) h3).one (h1.own_typ hk))), fun i x hx => let ⟨v, hv, hd⟩ := h2 i x hx; ⟨v, hv, hd.fr hf hY hne⟩⟩
theorem BlksOk.mono (h : BlksOk w T v bl) (hs : ∀ k, T k → T1 k) : BlksOk w T1 v bl := by
  obtain ⟨bs, h1, h2⟩ := h
  exact ⟨bs, h1.mono hs, fun i x hx => let ⟨v, hv, hd⟩ := h2 i x hx; ⟨v, hv, hd.mono hs⟩⟩
theorem BlksOk.bd (h : BlksOk w T v bl) : BlksOk w (fun k => T k ∧ k < w.heap.size) v bl := by
  obtain ⟨bs, h1, h2⟩ := h
  exact ⟨bs, ⟨h1.1, fun k hk => ⟨h1.2 k hk, h1.lt k hk⟩⟩, fun i x hx => let ⟨v, hv, hd⟩ := h2 i x hx; ⟨v, hv, hd.bd⟩⟩
theorem CacOk.fr (h : CacOk w T v ca) (hf : Fr S1 w w1) (hY : ∀ k, T k → k < w.heap.size → S1 k → Typ w k X) (hne : X ≠ 5) (hne2 : X ≠ 124) : CacOk w1 T v ca := by
  obtain ⟨cv, h1, h2⟩ := h
  exact ⟨cv, h1.fr hf (fun k hk h3 => hne2 ((hY k (h1.2 k hk) (h1.lt k hk) h3).one (h1.own_typ hk))), fun i n x hx => let ⟨v, hv, hd⟩ := h2 i n x hx; ⟨v, hv, hd.fr hf hY hne⟩⟩
theorem CacOk.mono (h : CacOk w T v ca) (hs : ∀ k, T k → T1 k) : CacOk w T1 v ca := by
  obtain ⟨cv, h1, h2⟩ := h
  exact ⟨cv, h1.mono hs, fun i n x hx => let ⟨v, hv, hd⟩ := h2 i n x hx; ⟨v, hv, hd.mono hs⟩⟩
theorem CacOk.bd (h : CacOk w T v ca) : CacOk w (fun k => T k ∧ k < w.heap.size) v ca := by
  obtain ⟨cv, h1, h2⟩ := h
  exact ⟨cv, ⟨h1.1, fun k hk => ⟨h1.2 k hk, h1.lt k hk⟩⟩, fun i n x hx => let ⟨v, hv, hd⟩ := h2 i n x hx; ⟨v, hv, hd.bd⟩⟩
theorem CacOk.nil (w : World) (T : Nat → Prop) : CacOk w T (.slice none 0 0) [] := ⟨[], Row.nil _ _ _ _, fun i n x h => by simp at h⟩
theorem IsP.mono (h : IsP w T pb p) (hs : ∀ k, T k → T1 k) : IsP w T1 pb p := by
  obtain ⟨h0, vb, vc, vf, h1, h2, h3, h4⟩ := h
  exact ⟨hs _ h0, vb, vc, vf, h1, h2.mono hs, h3.mono hs, h4.mono hs⟩
theorem IsP.lt (h : IsP w T pb p) : pb < w.heap.size := by
  obtain ⟨h0, vb, vc, vf, h1, h2, h3, h4⟩ := h
  exact h1.lt
theorem IsP.bd (h : IsP w T pb p) : IsP w (fun k => T k ∧ k < w.heap.size) pb p := by
  have := h.lt
  obtain ⟨h0, vb, vc, vf, h1, h2, h3, h4⟩ := h
  exact ⟨⟨h0, this⟩, vb, vc, vf, h1, h2.bd, h3.bd, h4.bd⟩
theorem IsP.fr (h : IsP w T pb p) (hf : Fr S1 w w1) (hn : ∀ k, T k → ¬ S1 k) : IsP w1 T pb p := by
  obtain ⟨h0, vb, vc, vf, h1, h2, h3, h4⟩ := h
  exact ⟨h0, vb, vc, vf, h1.fr hf (hn _ h0), h2.fr (X := 4) hf (fun k hk _ h => absurd h (hn k hk)) (by decide) (by decide), h3.fr (X := 4) hf (fun k hk _ h => absurd h (hn k hk)) (by decide) (by decide), h4.fr (Y := 4) hf (fun k hk _ h => absurd h (hn k hk)) (by decide)⟩
/-- The Platter's own block is written. -/
theorem IsP.own (h0 : T pb) {cs : Array Value} {vb vc vf : Value} (hb : Blk w pb cs 114) (hf : Fr (fun k => k = pb) w w1) (hb' : Blk w1 pb (pcs vb vc vf p.co p.si) 114) (h2 : BlksOk w T vb p.bl) (h3 : CacOk w T vc p.ca) (h4 : FauOk w T vf p.fa) : IsP w1 T pb p := by
  have hY : ∀ k, T k → k < w.heap.size → k = pb → Typ w k 114 := fun k _ _ e => by rw [e]; exact hb.typ
  exact ⟨h0, vb, vc, vf, hb', h2.fr hf hY (by decide) (by decide), h3.fr hf hY (by decide) (by decide), h4.fr hf hY (by decide)⟩
end

theorem flatW_at (cv : List (Nat × Value)) (i n : Nat) (v : Value) (h : cv[i]? = some (n, v)) : (flatW cv)[2 * i]? = some (.int .i64 (n : Int)) ∧ (flatW cv)[2 * i + 1]? = some v := by
  induction cv generalizing i with
  | nil => simp at h
  | cons q cv ih =>
    cases i with
    | zero => simp at h; subst h; exact ⟨rfl, rfl⟩
    | succ i =>
      simp only [List.getElem?_cons_succ] at h
      have := ih i h
      rw [show 2 * (i + 1) = 2 * i + 1 + 1 by omega]
      exact this
theorem flatW_length (cv : List (Nat × Value)) : (flatW cv).length = 2 * cv.length := by
  induction cv with
  | nil => rfl
  | cons q cv ih =>
    show ([Value.int .i64 (q.1 : Int), q.2] ++ flatW cv).length = _
    rw [List.length_append, ih]
    simp
    omega
theorem flatF_at (fa : List (Int × Int)) (i : Nat) (a b : Int) (h : fa[i]? = some (a, b)) : (flatF fa)[2 * i]? = some (.int .i64 a) ∧ (flatF fa)[2 * i + 1]? = some (.int .i64 b) := by
  induction fa generalizing i with
  | nil => simp at h
  | cons q cv ih =>
    cases i with
    | zero => simp at h; subst h; exact ⟨rfl, rfl⟩
    | succ i =>
      simp only [List.getElem?_cons_succ] at h
      have := ih i h
      rw [show 2 * (i + 1) = 2 * i + 1 + 1 by omega]
      exact this

def Pl.ask (p : Pl) (op : Nat) : Pl := { p with co := fun k => if k = op then p.co k + 1 else p.co k, si := fun k => if k = op then p.si k + 1 else p.si k }
end Go.Proofs.YtgoghmblfdlnbaaGreat
end

section
/- platter's small functions: full, New, Blocks, Cached, Count, there, asked. Conditions: the platter is a block of the program's own. -/
set_option linter.unusedSimpArgs false
set_option linter.unusedVariables false
namespace Go.Proofs.YtgoghmblfdlnbaaGreat
open Go.RowKit

@[go_sem] theorem mk64 (w : World) : (Instr.makeSlice 30 (.int .i64 64) (.int .i64 64)).run Tryz.prog w = .ok (.slice (some ⟨w.heap.size, 0, none⟩) 64 64) (w.alloc (.cells (madeCells #[.int .u8 0] 64) 5)) := mk_u8 64 (by omega) w


theorem blocks_ok (T : Nat → Prop) (pb : Nat) (p : Pl) (w : World) (h : IsP w T pb p) :
    Calls Tryz.prog 39 #[.pointer (some ⟨pb, 0, none⟩)] w fun e w' => e = .returned (.int .i64 (p.bl.length : Int)) ∧ w = w' := by
  obtain ⟨h0, vb, vc, vf, h1, ⟨bs, h2, -⟩, h3, h4⟩ := h
  obtain ⟨A, c, rfl⟩ := h2.slice
  have hc : w.cell? ⟨pb, 0, none⟩ = some (.slice A p.bl.length c) := h1.cell 0
  clear h1 h2 h3 h4
  go_enter Tryz.func39, Tryz.ntmps39
  go_wp2
  go_ret
  exact ⟨rfl, rfl⟩
theorem there_ok (T : Nat → Prop) (pb : Nat) (p : Pl) (n : Int) (w : World) (h : IsP w T pb p) :
    Calls Tryz.prog 54 #[.pointer (some ⟨pb, 0, none⟩), .int .i64 n] w fun e w' => e = .returned (.bool (decide (0 ≤ n ∧ n < p.bl.length))) ∧ w = w' := by
  obtain ⟨h0, vb, vc, vf, h1, ⟨bs, h2, -⟩, h3, h4⟩ := h
  obtain ⟨A, c, rfl⟩ := h2.slice
  have hc : w.cell? ⟨pb, 0, none⟩ = some (.slice A p.bl.length c) := h1.cell 0
  clear h1 h2 h3 h4
  by_cases hn : 0 ≤ n
  · have hd : decide (0 ≤ n ∧ n < p.bl.length) = decide (n < p.bl.length) := by simp [hn]
    rw [hd]
    go_enter Tryz.func54, Tryz.ntmps54
    go_wp2
    go_ret
    exact ⟨rfl, rfl⟩
  · have hd : decide (0 ≤ n ∧ n < p.bl.length) = false := by simp [hn]
    rw [hd]
    go_enter Tryz.func54, Tryz.ntmps54
    go_wp2
    go_ret
    exact ⟨rfl, rfl⟩
end Go.Proofs.YtgoghmblfdlnbaaGreat
end

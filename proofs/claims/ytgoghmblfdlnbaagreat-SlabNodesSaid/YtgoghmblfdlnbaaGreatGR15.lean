/- The texts VShD, VShE, VSRnC1 of this proof, one behind the other. Conditions: those of each. -/
import Derived.Deep.WholeRow
import Derived.Test.YtgoghmblfdlnbaaGreatGR3
import Derived.Test.YtgoghmblfdlnbaaGreatGR11
import Derived.Test.YtgoghmblfdlnbaaGreatGR14
section
/- Shares: runs and shares together; the law's awake. Conditions: the bounds of its lists. -/
set_option linter.unusedSimpArgs false
set_option linter.unusedVariables false
namespace Go.Proofs.YtgoghmblfdlnbaaGreat
open Go.RowKit
/-- Shares and their runs; V: all their blocks. -/
structure St (w : World) (V : Nat → Prop) (sb pb bl : Nat) (U L H : List Us) (A l : List Rn) : Prop where
  ex : ∃ T TR, IsS w T sb pb U L H A ∧ RsT w TR pb bl l ∧ (∀ k, TR k → ¬ T k) ∧ (∀ k, T k → V k) ∧ ∀ k, TR k → V k
  lt : ∀ k, V k → k < w.heap.size
section
variable {w w1 : World} {V S1 : Nat → Prop} {sb pb bl : Nat} {U L H : List Us} {A l : List Rn}
theorem St.fr (h : St w V sb pb bl U L H A l) (hf : Fr S1 w w1) (hn : ∀ k, V k → ¬ S1 k) : St w1 V sb pb bl U L H A l := by
  obtain ⟨⟨T, TR, h1, h2, h3, h4, h5⟩, hl⟩ := h
  exact ⟨⟨T, TR, h1.fr hf fun k hk => hn k (h4 k hk), h2.fr hf fun k hk => hn k (h5 k hk), h3, h4, h5⟩, fun k hk => Nat.lt_of_lt_of_le (hl k hk) hf.size⟩
theorem St.nil (h : St w V sb pb bl U L H A l) (hf : Fr Nil w w1) : St w1 V sb pb bl U L H A l := h.fr hf fun _ _ h => h
theorem St.drew (h : St w V sb pb bl U L H A l) : St w.drew V sb pb bl U L H A l := h.nil (Fr.refl _ _).drew
theorem St.drewN (h : St w V sb pb bl U L H A l) (n : Nat) : St (w.drewN n) V sb pb bl U L H A l := h.nil ((Fr.refl _ _).drewN n)
theorem St.wf (h : St w V sb pb bl U L H A l) : Wf bl l := by
  obtain ⟨⟨T, TR, h1, h2, h3, h4, h5⟩, hl⟩ := h
  exact h2.wf
theorem St.of {T' TR' : Nat → Prop} {U' L' H' : List Us} {A' l' : List Rn} (h : St w V sb pb bl U L H A l) (h1 : IsS w1 T' sb pb U' L' H' A') (h2 : RsT w1 TR' pb bl l') (h3 : ∀ k, TR' k → ¬ T' k)
    (h4 : ∀ k, T' k → V k ∨ w.heap.size ≤ k) (h5 : ∀ k, TR' k → V k ∨ w.heap.size ≤ k) : ∃ V', St w1 V' sb pb bl U' L' H' A' l' ∧ ∀ k, V' k → V k ∨ w.heap.size ≤ k :=
  ⟨fun k => T' k ∨ TR' k, ⟨⟨T', TR', h1, h2, h3, fun k hk => .inl hk, fun k hk => .inr hk⟩, fun k hk => hk.elim (h1.lt k) (h2.lt k)⟩, fun k hk => hk.elim (h4 k) (h5 k)⟩
theorem St.keep (h : St w V sb pb bl U L H A l) (hf : Fr Nil w w1) : ∃ V', St w1 V' sb pb bl U L H A l ∧ ∀ k, V' k → V k ∨ w.heap.size ≤ k := ⟨V, h.nil hf, fun _ h => .inl h⟩
theorem St.shares {T' : Nat → Prop} {U' L' H' : List Us} {A' : List Rn} (h : St w V sb pb bl U L H A l) {T TR : Nat → Prop} (h2 : RsT w TR pb bl l) (h3 : ∀ k, TR k → ¬ T k) (h4 : ∀ k, T k → V k) (h5 : ∀ k, TR k → V k)
    (h1 : IsS w1 T' sb pb U' L' H' A') (ht : ∀ k, T' k → T k ∨ w.heap.size ≤ k) (hf : Fr T w w1) : ∃ V', St w1 V' sb pb bl U' L' H' A' l ∧ ∀ k, V' k → V k ∨ w.heap.size ≤ k :=
  h.of h1 (h2.fr hf fun k hk h => h3 k hk h) (fun k hk h => (ht k h).elim (h3 k hk) fun h => by have := h2.lt k hk; omega) (fun k hk => (ht k hk).imp (h4 k) id) (fun k hk => .inl (h5 k hk))
theorem st_take (h : St w V sb pb bl U L H A l) (n : Int) : Calls Tryz.prog 32 #[.pointer (some ⟨pb, 0, none⟩), .int .i64 n] w fun e w' =>
    e = .returned (.tuple #[.int .i64 (takeR l n).1, .bool (takeR l n).2]) ∧ (∃ V', St w' V' sb pb bl U L H A (takeL l n) ∧ ∀ k, V' k → V k ∨ w.heap.size ≤ k) ∧ Fr V w w' := by
  obtain ⟨T, TR, h1, h2, h3, h4, h5⟩ := h.ex
  refine (take_t h2 n).mono ?_
  rintro e w' ⟨rfl, ⟨TR', r1, r2⟩, hf⟩
  exact ⟨rfl, h.of (h1.fr hf fun k hk h => h3 k h hk) r1 (fun k hk h => (r2 k hk).elim (fun h' => h3 k h' h) fun h' => by have := h1.lt k h; omega) (fun k hk => .inl (h4 k hk)) (fun k hk => (r2 k hk).imp (h5 k) id), hf.mono h5⟩
theorem st_add (h : St w V sb pb bl U L H A l) (a n : Nat) (ha : (Lit.int .i64 (a : Nat)).wf = true) (hn : 1 ≤ n) (hL0 : usesI L (a : Nat) = 0) (hU0 : usesI U (a : Nat) = 0) (hUl : U.length ≤ 100000) (hAl : A.length ≤ 100000) :
    Calls Tryz.prog 33 #[.pointer (some ⟨sb, 0, none⟩), .agg #[.int .i64 (a : Nat), .int .i64 (n : Nat)]] w fun e w' =>
      e = .returned (.bool true) ∧ (∃ V', St w' V' sb pb bl (uput U ⟨a, n, 1⟩) L H (A ++ [⟨a, n⟩]) l ∧ ∀ k, V' k → V k ∨ w.heap.size ≤ k) ∧ Fr V w w' := by
  obtain ⟨T, TR, h1, h2, h3, h4, h5⟩ := h.ex
  refine (add_ok T sb pb U L H A w h1 a n ha hn hL0 hU0 hUl hAl).mono ?_
  rintro e w' ⟨rfl, ⟨T', r1, r2⟩, hf⟩
  exact ⟨rfl, h.shares h2 h3 h4 h5 r1 r2 hf, hf.mono h4⟩
theorem st_addno (h : St w V sb pb bl U L H A l) (a n : Int) (ha : (Lit.int .i64 a).wf = true) (hf : fineI U L a n = false) :
    Calls Tryz.prog 33 #[.pointer (some ⟨sb, 0, none⟩), .agg #[.int .i64 a, .int .i64 n]] w fun e w' => e = .returned (.bool false) ∧ Fr Nil w w' := by
  obtain ⟨T, TR, h1, h2, h3, h4, h5⟩ := h.ex
  refine (add_no T sb pb U L H A w h1 a n ha hf).mono ?_
  rintro e w' ⟨rfl, _, hf⟩
  exact ⟨rfl, hf⟩
theorem st_less (h : St w V sb pb bl U L H A l) (i : Int) (hi : (Lit.int .i64 i).wf = true) (hU : U.length ≤ 100000) (hL : L.length ≤ 100000) (hk : ∀ u ∈ U, u.k ≤ 1000000) :
    Calls Tryz.prog 9 #[.pointer (some ⟨sb, 0, none⟩), .int .i64 i] w fun e w' =>
      e = .returned (.bool (decide (usesI U i ≠ 0))) ∧ (∃ V', St w' V' sb pb bl (lessU U i) (lessL U L i) H A l ∧ ∀ k, V' k → V k ∨ w.heap.size ≤ k) ∧ Fr V w w' := by
  obtain ⟨T, TR, h1, h2, h3, h4, h5⟩ := h.ex
  refine (less_ok T sb pb U L H A w h1 i hi hU hL hk).mono ?_
  rintro e w' ⟨rfl, ⟨T', r1, r2⟩, hf⟩
  exact ⟨rfl, h.shares h2 h3 h4 h5 r1 r2 hf, hf.mono h4⟩
theorem st_uses (h : St w V sb pb bl U L H A l) (i : Int) (hi : (Lit.int .i64 i).wf = true) :
    Calls Tryz.prog 18 #[.pointer (some ⟨sb, 0, none⟩), .int .i64 i] w fun e w' => e = .returned (.int .i64 (usesI U i : Nat)) ∧ w = w' := by
  obtain ⟨T, TR, h1, h2, h3, h4, h5⟩ := h.ex
  exact uses_ok T sb pb U L H A w h1 i hi
theorem st_late (h : St w V sb pb bl U L H A l) (hl : L.length ≤ 100000) :
    Calls Tryz.prog 35 #[.pointer (some ⟨sb, 0, none⟩)] w fun e w' => ∃ A c, e = .returned (.slice A L.length c) ∧ Row w' (New w) 39 2 (.slice A L.length c) L.length (dbl (lst L)) ∧ Fr Nil w w' := by
  obtain ⟨T, TR, h1, h2, h3, h4, h5⟩ := h.ex
  exact late_ok T sb pb U L H A w h1 hl
theorem st_free (h : St w V sb pb bl U L H A l) : Calls Tryz.prog 17 #[.pointer (some ⟨pb, 0, none⟩)] w fun e w' => e = .returned (.int .i64 (sumN l : Nat)) ∧ Fr Nil w w' := by
  obtain ⟨T, TR, h1, h2, h3, h4, h5⟩ := h.ex
  exact free_t h2
theorem st_rlist (h : St w V sb pb bl U L H A l) : Calls Tryz.prog 45 #[.pointer (some ⟨pb, 0, none⟩)] w fun e w' => ∃ A c, e = .returned (.slice A l.length c) ∧ Row w' (New w) 39 2 (.slice A l.length c) l.length (dbl l) ∧ Fr Nil w w' := by
  obtain ⟨T, TR, h1, h2, h3, h4, h5⟩ := h.ex
  exact list_t h2
theorem st_settle (h : St w V sb pb bl U L H A l) (hU : U.length ≤ 100000) (hL : L.length ≤ 10000) (hLn : ∀ r ∈ lst L, r.a ≤ 8192 ∧ r.n ≤ 8192) :
    Calls Tryz.prog 10 #[.pointer (some ⟨sb, 0, none⟩)] w fun e w' => e = .returned (.int .i64 (sumN (lst L) : Nat)) ∧ (∃ V', St w' V' sb pb bl U [] U [] (givs bl l (lst L)) ∧ ∀ k, V' k → V k ∨ w.heap.size ≤ k) ∧ Fr V w w' := by
  obtain ⟨T, TR, h1, h2, h3, h4, h5⟩ := h.ex
  refine (settle_ok T TR sb pb bl U L H A l w h1 h2 h3 hU hL hLn).mono ?_
  rintro e w' ⟨rfl, ⟨T', r1, r2, TR', r3, r4, r5⟩, hf⟩
  exact ⟨rfl, h.of r1 r3 r5 (fun k hk => (r2 k hk).imp (h4 k) id) (fun k hk => (r4 k hk).imp (h5 k) id), hf.mono fun k hk => hk.elim (h4 k) (h5 k)⟩
theorem st_new (h1 : RsT w S1 pb bl l) (w1 : World) (hf : Fr Nil w w1) (T : Nat → Prop) (h2 : IsS w1 T sb pb [] [] [] []) (h3 : ∀ k, T k → w.heap.size ≤ k) : ∃ V, St w1 V sb pb bl [] [] [] [] l ∧ ∀ k, V k → S1 k ∨ w.heap.size ≤ k :=
  ⟨fun k => T k ∨ S1 k, ⟨⟨T, S1, h2, h1.nil hf, fun k hk h => by have := h1.lt k hk; have := h3 k h; omega, fun k hk => .inl hk, fun k hk => .inr hk⟩, fun k hk => hk.elim (h2.lt k) fun h => Nat.lt_of_lt_of_le (h1.lt k h) hf.size⟩, fun k hk => hk.elim (fun h => .inr (h3 k h)) .inl⟩
end
/-- What is new since w0 (V) stays so. -/
theorem up {w0 w : World} {V V' : Nat → Prop} (hV : ∀ k, V k → w0.heap.size ≤ k) (h0 : Fr Nil w0 w) (h : ∀ k, V' k → V k ∨ w.heap.size ≤ k) : ∀ k, V' k → w0.heap.size ≤ k := fun k hk => (h k hk).elim (hV k) fun h => Nat.le_trans h0.size h
theorem fup {w0 w w' : World} {V : Nat → Prop} (hV : ∀ k, V k → w0.heap.size ≤ k) (h0 : Fr Nil w0 w) (h : Fr V w w') : Fr Nil w0 w' := h0.trans h fun k hk => .inr (hV k hk)
end Go.Proofs.YtgoghmblfdlnbaaGreat
end

section
/- Shares: contracts from a law's beginning; the law's awake. Conditions: the bounds of its lists. -/
set_option linter.unusedSimpArgs false
set_option linter.unusedVariables false
namespace Go.Proofs.YtgoghmblfdlnbaaGreat
open Go.RowKit
theorem lst_nil : lst [] = [] := by simp [lst, srtU]
theorem lst_one (u : Us) : lst [u] = [u.r] := by simp [lst, srtU]
/-- Shares and runs that are new since w0. -/
def Sw (w0 w : World) (sb pb bl : Nat) (U L H : List Us) (A l : List Rn) : Prop := ∃ V, St w V sb pb bl U L H A l ∧ (∀ k, V k → w0.heap.size ≤ k) ∧ Fr Nil w0 w
section
variable {w0 w : World} {sb pb bl : Nat} {U L H : List Us} {A l : List Rn}
theorem Sw.nil (h : Sw w0 w sb pb bl U L H A l) {w' : World} (hf : Fr Nil w w') : Sw w0 w' sb pb bl U L H A l := by
  obtain ⟨V, h1, h2, h3⟩ := h
  exact ⟨V, h1.nil hf, h2, h3.then hf⟩
theorem Sw.fr0 (h : Sw w0 w sb pb bl U L H A l) : Fr Nil w0 w := by
  obtain ⟨V, h1, h2, h3⟩ := h
  exact h3
theorem Sw.next {U' L' H' : List Us} {A' l' : List Rn} {w' : World} {V : Nat → Prop} (h2 : ∀ k, V k → w0.heap.size ≤ k) (h3 : Fr Nil w0 w) (hs : ∃ V', St w' V' sb pb bl U' L' H' A' l' ∧ ∀ k, V' k → V k ∨ w.heap.size ≤ k) (hf : Fr V w w') : Sw w0 w' sb pb bl U' L' H' A' l' := by
  obtain ⟨V', r1, r2⟩ := hs
  exact ⟨V', r1, up h2 h3 r2, fup h2 h3 hf⟩
theorem sw_new (b : Int) (w0 : World) : Calls Tryz.prog 27 #[.int .i64 b] w0 fun e w' => ∃ pb T, e = .returned (.pointer (some ⟨pb, 0, none⟩)) ∧ RsT w' T pb (newBl b) (newL b) ∧ (∀ k, T k → w0.heap.size ≤ k) ∧ Fr Nil w0 w' := new_t b w0
theorem sw_shares {T : Nat → Prop} (h : RsT w T pb bl l) (h1 : ∀ k, T k → w0.heap.size ≤ k) (h2 : Fr Nil w0 w) : Calls Tryz.prog 29 #[.pointer (some ⟨pb, 0, none⟩)] w fun e w' => ∃ sb, e = .returned (.pointer (some ⟨sb, 0, none⟩)) ∧ Sw w0 w' sb pb bl [] [] [] [] l := by
  refine (snew_ok pb w).mono ?_
  rintro e w' ⟨sb, T', rfl, h3, h4, h5⟩
  obtain ⟨V, r1, r2⟩ := st_new h w' h5 T' h3 h4
  exact ⟨sb, rfl, V, r1, up h1 h2 r2, h2.then h5⟩
theorem sw_take (h : Sw w0 w sb pb bl U L H A l) (n : Int) (x : Int × Bool) (l' : List Rn) (e1 : takeR l n = x) (e2 : takeL l n = l') : Calls Tryz.prog 32 #[.pointer (some ⟨pb, 0, none⟩), .int .i64 n] w fun e w' => e = .returned (.tuple #[.int .i64 x.1, .bool x.2]) ∧ Sw w0 w' sb pb bl U L H A l' := by
  subst e1; subst e2
  obtain ⟨V, h1, h2, h3⟩ := h
  exact (st_take h1 n).mono fun e w' ⟨r1, r2, r3⟩ => ⟨r1, Sw.next h2 h3 r2 r3⟩
theorem sw_add (h : Sw w0 w sb pb bl U L H A l) (a n : Nat) (U' : List Us) (eU : uput U ⟨a, n, 1⟩ = U') (ha : (Lit.int .i64 (a : Nat)).wf = true) (hn : 1 ≤ n) (hL0 : usesI L (a : Nat) = 0) (hU0 : usesI U (a : Nat) = 0) (hUl : U.length ≤ 100000) (hAl : A.length ≤ 100000) :
    Calls Tryz.prog 33 #[.pointer (some ⟨sb, 0, none⟩), .agg #[.int .i64 (a : Nat), .int .i64 (n : Nat)]] w fun e w' => e = .returned (.bool true) ∧ Sw w0 w' sb pb bl U' L H (A ++ [⟨a, n⟩]) l := by
  subst eU
  obtain ⟨V, h1, h2, h3⟩ := h
  exact (st_add h1 a n ha hn hL0 hU0 hUl hAl).mono fun e w' ⟨r1, r2, r3⟩ => ⟨r1, Sw.next h2 h3 r2 r3⟩
theorem sw_addno (h : Sw w0 w sb pb bl U L H A l) (a n : Int) (ha : (Lit.int .i64 a).wf = true) (hf : fineI U L a n = false) :
    Calls Tryz.prog 33 #[.pointer (some ⟨sb, 0, none⟩), .agg #[.int .i64 a, .int .i64 n]] w fun e w' => e = .returned (.bool false) ∧ Sw w0 w' sb pb bl U L H A l := by
  obtain ⟨V, h1, h2, h3⟩ := h
  exact (st_addno h1 a n ha hf).mono fun e w' ⟨r1, r3⟩ => ⟨r1, V, h1.nil r3, h2, h3.then r3⟩
theorem sw_less (h : Sw w0 w sb pb bl U L H A l) (i : Int) (b : Bool) (U' L' : List Us) (e1 : decide (usesI U i ≠ 0) = b) (e2 : lessU U i = U') (e3 : lessL U L i = L') (hi : (Lit.int .i64 i).wf = true) (hU : U.length ≤ 100000) (hL : L.length ≤ 100000) (hk : ∀ u ∈ U, u.k ≤ 1000000) :
    Calls Tryz.prog 9 #[.pointer (some ⟨sb, 0, none⟩), .int .i64 i] w fun e w' => e = .returned (.bool b) ∧ Sw w0 w' sb pb bl U' L' H A l := by
  subst e1; subst e2; subst e3
  obtain ⟨V, h1, h2, h3⟩ := h
  exact (st_less h1 i hi hU hL hk).mono fun e w' ⟨r1, r2, r3⟩ => ⟨r1, Sw.next h2 h3 r2 r3⟩
theorem sw_uses (h : Sw w0 w sb pb bl U L H A l) (i : Int) (n : Nat) (e1 : usesI U i = n) (hi : (Lit.int .i64 i).wf = true) :
    Calls Tryz.prog 18 #[.pointer (some ⟨sb, 0, none⟩), .int .i64 i] w fun e w' => e = .returned (.int .i64 (n : Nat)) ∧ w = w' := by
  subst e1
  obtain ⟨V, h1, h2, h3⟩ := h
  exact st_uses h1 i hi
theorem sw_late (h : Sw w0 w sb pb bl U L H A l) (hl : L.length ≤ 100000) :
    Calls Tryz.prog 35 #[.pointer (some ⟨sb, 0, none⟩)] w fun e w' => ∃ B c, e = .returned (.slice B L.length c) ∧ Row w' (New w) 39 2 (.slice B L.length c) L.length (dbl (lst L)) ∧ Fr Nil w w' ∧ Sw w0 w' sb pb bl U L H A l := by
  have h' := h
  obtain ⟨V, h1, h2, h3⟩ := h
  exact (st_late h1 hl).mono fun e w' ⟨B, c, r1, r2, r3⟩ => ⟨B, c, r1, r2, r3, h'.nil r3⟩
theorem sw_free (h : Sw w0 w sb pb bl U L H A l) (n : Nat) (e1 : sumN l = n) : Calls Tryz.prog 17 #[.pointer (some ⟨pb, 0, none⟩)] w fun e w' => e = .returned (.int .i64 (n : Nat)) ∧ Fr Nil w w' ∧ Sw w0 w' sb pb bl U L H A l := by
  subst e1
  have h' := h
  obtain ⟨V, h1, h2, h3⟩ := h
  exact (st_free h1).mono fun e w' ⟨r1, r3⟩ => ⟨r1, r3, h'.nil r3⟩
theorem sw_settle (h : Sw w0 w sb pb bl U L H A l) (n : Nat) (l' : List Rn) (e1 : sumN (lst L) = n) (e2 : givs bl l (lst L) = l') (hU : U.length ≤ 100000) (hL : L.length ≤ 10000) (hLn : ∀ r ∈ lst L, r.a ≤ 8192 ∧ r.n ≤ 8192) :
    Calls Tryz.prog 10 #[.pointer (some ⟨sb, 0, none⟩)] w fun e w' => e = .returned (.int .i64 (n : Nat)) ∧ Sw w0 w' sb pb bl U [] U [] l' := by
  subst e1; subst e2
  obtain ⟨V, h1, h2, h3⟩ := h
  exact (st_settle h1 hU hL hLn).mono fun e w' ⟨r1, r2, r3⟩ => ⟨r1, Sw.next h2 h3 r2 r3⟩
end
end Go.Proofs.YtgoghmblfdlnbaaGreat
end

section
/- Runs: plain laws for RunsCopies: what is free against an array of Booleans. -/
set_option linter.unusedSimpArgs false
set_option linter.unusedVariables false
namespace Go.Proofs.YtgoghmblfdlnbaaGreat
open Go.RowKit
def bools (tk : List Bool) : Array Value := (tk.map Value.bool).toArray
theorem bools_size (tk : List Bool) : (bools tk).size = tk.length := by simp [bools]
theorem bools_at {tk : List Bool} {k : Nat} (h : k < tk.length) : (bools tk)[k]? = some (.bool (tk.getD k false)) := by
  simp [bools, List.getElem?_eq_getElem h]
theorem bools_set (tk : List Bool) (k : Nat) (v : Bool) : (bools tk).setIfInBounds k (.bool v) = bools (tk.set k v) := by
  simp [bools, List.map_set]
theorem bools_cell (tk : List Bool) : (bools tk).all (·.oneCell') = true := by
  simp [bools, Value.oneCell']
theorem getD_set {tk : List Bool} {k : Nat} {v : Bool} {j : Nat} (hk : k < tk.length) : (tk.set k v).getD j false = if j = k then v else tk.getD j false := by
  rw [List.getD_eq_getElem?_getD, List.getD_eq_getElem?_getD, List.getElem?_set]
  by_cases h : k = j
  · subst h; simp [hk]
  · rw [if_neg h, if_neg (fun e => h e.symm)]
/-- Free is just what is not taken. -/
def Free (bl : Nat) (L : List Rn) (tk : List Bool) : Prop := Wf bl L ∧ tk.length = bl ∧ ∀ j, has L j = (decide (j < bl) && !tk.getD j false)
theorem btw_one {k j : Nat} : btw k 1 j = decide (j = k) := by
  unfold btw; apply decide_eq_decide.2; omega
theorem Free.mark {bl k : Nat} {L : List Rn} {tk : List Bool} (h : Free bl L tk) (hk : k < bl) : markR bl L (k : Nat) 1 = !tk.getD k false ∧ Free bl (markL bl L (k : Nat) 1) (tk.set k true) := by
  obtain ⟨h1, h2, h3⟩ := h
  show markR bl L (k : Nat) ((1 : Nat) : Int) = _ ∧ Free bl (markL bl L (k : Nat) ((1 : Nat) : Int)) _
  have hkn : knownB bl (k : Nat) ((1 : Nat) : Int) = true := known_iff.2 (by omega)
  cases hb : tk.getD k false with
  | false =>
    have hr : markR bl L (k : Nat) ((1 : Nat) : Int) = true := (mark_iff h1 _ _).2 ⟨hkn, fun j j1 j2 => by
      obtain rfl : j = k := by omega
      rw [h3, hb]; simp [hk]⟩
    refine ⟨hr, mark_wf h1 _ _, by simpa using h2, fun j => ?_⟩
    rw [mark_has h1 hr, h3, btw_one, getD_set (by omega)]
    by_cases hj : j = k
    · simp [hj]
    · simp [hj]
  | true =>
    have hr : markR bl L (k : Nat) ((1 : Nat) : Int) = false := by
      cases hr : markR bl L (k : Nat) ((1 : Nat) : Int) with
      | false => rfl
      | true =>
        have := ((mark_iff h1 _ _).1 hr).2 k (Nat.le_refl _) (by omega)
        rw [h3, hb] at this
        simp at this
    refine ⟨hr, mark_wf h1 _ _, by simpa using h2, fun j => ?_⟩
    rw [mark_not hr, h3, getD_set (by omega)]
    by_cases hj : j = k
    · subst hj; rw [hb, if_pos rfl]
    · rw [if_neg hj]
theorem Free.give {bl k : Nat} {L : List Rn} {tk : List Bool} (h : Free bl L tk) (hk : k < bl) : giveR bl L (k : Nat) 1 = tk.getD k false ∧ Free bl (giveL bl L (k : Nat) 1) (tk.set k false) := by
  obtain ⟨h1, h2, h3⟩ := h
  show giveR bl L (k : Nat) ((1 : Nat) : Int) = _ ∧ Free bl (giveL bl L (k : Nat) ((1 : Nat) : Int)) _
  have hkn : knownB bl (k : Nat) ((1 : Nat) : Int) = true := known_iff.2 (by omega)
  cases hb : tk.getD k false with
  | true =>
    have hr : giveR bl L (k : Nat) ((1 : Nat) : Int) = true := (give_iff h1 _ _).2 ⟨hkn, fun j j1 j2 => by
      obtain rfl : j = k := by omega
      rw [h3, hb]; simp⟩
    refine ⟨hr, give_wf h1 _ _, by simpa using h2, fun j => ?_⟩
    rw [give_has h1 hr, h3, btw_one, getD_set (by omega)]
    by_cases hj : j = k
    · simp [hj, hk]
    · simp [hj]
  | false =>
    have hr : giveR bl L (k : Nat) ((1 : Nat) : Int) = false := by
      cases hr : giveR bl L (k : Nat) ((1 : Nat) : Int) with
      | false => rfl
      | true =>
        have := ((give_iff h1 _ _).1 hr).2 k (Nat.le_refl _) (by omega)
        rw [h3, hb] at this
        simp [hk] at this
    refine ⟨hr, give_wf h1 _ _, by simpa using h2, fun j => ?_⟩
    rw [give_not hr, h3, getD_set (by omega)]
    by_cases hj : j = k
    · subst hj; rw [hb, if_pos rfl]
    · rw [if_neg hj]
theorem Free.start : Free 50 [⟨0, 50⟩] (List.replicate 50 false) := by
  refine ⟨⟨by decide, ⟨Nat.zero_le _, by decide, trivial⟩, fun r hr => by rw [List.mem_singleton] at hr; subst hr; decide⟩, by simp, fun j => ?_⟩
  rw [has_cons, has_nil, Bool.or_false, show (List.replicate 50 false).getD j false = false by
    rw [List.getD_eq_getElem?_getD, List.getElem?_replicate]; split <;> rfl]
  by_cases hj : j < 50
  · simp [isin, hj]
  · simp [isin, hj]
/-- Marked up to k. -/
def Mkd (k : Nat) (ck was : List Bool) : Prop := ∀ j, j < 50 → ck.getD j false = (decide (j < k) || was.getD j false)
theorem Mkd.zero (tk : List Bool) : Mkd 0 tk tk := fun j _ => by simp
theorem Mkd.at {k : Nat} {ck was : List Bool} (h : Mkd k ck was) (hk : k < 50) : ck.getD k false = was.getD k false := by rw [h k hk]; simp
theorem Mkd.succ {k : Nat} {ck was : List Bool} (h : Mkd k ck was) (hk : k < 50) (hl : ck.length = 50) : Mkd (k + 1) (ck.set k true) was := fun j hj => by
  rw [getD_set (by omega), h j hj]
  by_cases h1 : j = k
  · simp [h1]
  · rw [if_neg h1]; congr 1; apply decide_eq_decide.2; omega
theorem Free.full {L : List Rn} {ck was : List Bool} (h : Free 50 L ck) (hm : Mkd 50 ck was) : L = [] := by
  refine Wf.unique (bl := 50) h.1 ⟨by decide, trivial, fun r hr => by simp at hr⟩ fun j => ?_
  rw [h.2.2, has_nil]
  by_cases hj : j < 50
  · rw [hm j hj]; simp [hj]
  · simp [hj]
/-- How many are not taken. -/
def cntF (tk : List Bool) : Nat := tk.countP (fun b => !b)
theorem cnt_set : ∀ {tk : List Bool} {k : Nat}, k < tk.length → tk.getD k false = false → cntF (tk.set k true) + 1 = cntF tk
  | [], k, h, _ => absurd h (by simp)
  | b :: tk, 0, _, h => by
    obtain rfl : b = false := h
    simp [cntF]
  | b :: tk, k + 1, h, h2 => by
    have ih := cnt_set (tk := tk) (k := k) (by simpa using h) h2
    unfold cntF at ih ⊢
    cases b <;> simp at ih ⊢ <;> omega
theorem set_same : ∀ {tk : List Bool} {k : Nat} {b : Bool}, k < tk.length → tk.getD k false = b → tk.set k b = tk
  | [], k, _, h, _ => absurd h (by simp)
  | a :: tk, 0, b, _, h => by
    obtain rfl : a = b := h
    rfl
  | a :: tk, k + 1, b, h, h2 => by
    show a :: tk.set k b = _
    rw [set_same (tk := tk) (k := k) (by simpa using h) h2]
theorem cnt_le (tk : List Bool) : cntF tk ≤ tk.length := List.countP_le_length
theorem run_load_blk {P : Program} {w : World} {g : Nat} {c : Array Value} {t : TypeId} {n : Nat} {e : TypeId} (h : Blk w g c t) (hu : P.underlying t = some (.array n e)) (hi : (P.info? t).map (·.size) = some c.size) :
    (Instr.loadAt t (.pointer (some ⟨g, 0, none⟩))).run P w = .ok (.agg c) w ∧ (loadVar t ⟨g, 0, none⟩).run P w = .ok (.agg c) w := by
  have h1 := run_loadVar_row w g t t c (0, 0) _ h hu rfl hi
  refine ⟨?_, h1⟩
  simp only [Instr.loadAt, Instr.sureAddr, Sem.run_bind, Sem.run_pure, Result.andThen]
  exact h1
end Go.Proofs.YtgoghmblfdlnbaaGreat
end

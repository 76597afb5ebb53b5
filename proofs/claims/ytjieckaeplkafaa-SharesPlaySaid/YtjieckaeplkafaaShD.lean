/- Shares: runs and shares together; the law's awake. Conditions: the bounds of its lists. -/
import Derived.Test.YtjieckaeplkafaaShC
set_option linter.unusedSimpArgs false
set_option linter.unusedVariables false
namespace Go.Proofs.Ytjieckaeplkafaa
open Go.RowKit
/-- Shares and their runs; V: all their blocks. -/
structure St (w : World) (V : Nat → Prop) (sb pb bl : Nat) (U L H : List Us) (A l : List Rn) : Prop where
  ex : ∃ T TR, IsS w T sb pb U L H A ∧ RsT w TR pb bl l ∧ (∀ k, TR k → ¬ T k) ∧ (∀ k, T k → V k) ∧ ∀ k, TR k → V k
  lt : ∀ k, V k → k < w.heap.size
section
variable {w w1 : World} {V S1 : Nat → Prop} {sb pb bl : Nat} {U L H : List Us} {A l : List Rn}
theorem St.fr (h : St w V sb pb bl U L H A l) (hf : Fr S1 w w1) (hn : ∀ k, V k → ¬ S1 k) : St w1 V sb pb bl U L H A l := by
  obtain ⟨⟨T, TR, h1, h2, h3, h4, h5⟩, hl⟩ := h
  exact ⟨⟨T, TR, h1.fr hf fun k hk => hn k (h4 k hk), h2.fr hf fun k hk => hn k (h5 k hk), h3, h4, h5⟩, fun k hk => Nat.lt_of_lt_of_le (hl k hk) hf.size⟩
theorem St.nil (h : St w V sb pb bl U L H A l) (hf : Fr Nil w w1) : St w1 V sb pb bl U L H A l := h.fr hf fun _ _ h => h
theorem St.drew (h : St w V sb pb bl U L H A l) : St w.drew V sb pb bl U L H A l := h.nil (Fr.refl _ _).drew
theorem St.drewN (h : St w V sb pb bl U L H A l) (n : Nat) : St (w.drewN n) V sb pb bl U L H A l := h.nil ((Fr.refl _ _).drewN n)
theorem St.wf (h : St w V sb pb bl U L H A l) : Wf bl l := by
  obtain ⟨⟨T, TR, h1, h2, h3, h4, h5⟩, hl⟩ := h
  exact h2.wf
theorem St.of {T' TR' : Nat → Prop} {U' L' H' : List Us} {A' l' : List Rn} (h : St w V sb pb bl U L H A l) (h1 : IsS w1 T' sb pb U' L' H' A') (h2 : RsT w1 TR' pb bl l') (h3 : ∀ k, TR' k → ¬ T' k)
    (h4 : ∀ k, T' k → V k ∨ w.heap.size ≤ k) (h5 : ∀ k, TR' k → V k ∨ w.heap.size ≤ k) : ∃ V', St w1 V' sb pb bl U' L' H' A' l' ∧ ∀ k, V' k → V k ∨ w.heap.size ≤ k :=
  ⟨fun k => T' k ∨ TR' k, ⟨⟨T', TR', h1, h2, h3, fun k hk => .inl hk, fun k hk => .inr hk⟩, fun k hk => hk.elim (h1.lt k) (h2.lt k)⟩, fun k hk => hk.elim (h4 k) (h5 k)⟩
theorem St.keep (h : St w V sb pb bl U L H A l) (hf : Fr Nil w w1) : ∃ V', St w1 V' sb pb bl U L H A l ∧ ∀ k, V' k → V k ∨ w.heap.size ≤ k := ⟨V, h.nil hf, fun _ h => .inl h⟩
theorem St.shares {T' : Nat → Prop} {U' L' H' : List Us} {A' : List Rn} (h : St w V sb pb bl U L H A l) {T TR : Nat → Prop} (h2 : RsT w TR pb bl l) (h3 : ∀ k, TR k → ¬ T k) (h4 : ∀ k, T k → V k) (h5 : ∀ k, TR k → V k)
    (h1 : IsS w1 T' sb pb U' L' H' A') (ht : ∀ k, T' k → T k ∨ w.heap.size ≤ k) (hf : Fr T w w1) : ∃ V', St w1 V' sb pb bl U' L' H' A' l ∧ ∀ k, V' k → V k ∨ w.heap.size ≤ k :=
  h.of h1 (h2.fr hf fun k hk h => h3 k hk h) (fun k hk h => (ht k h).elim (h3 k hk) fun h => by have := h2.lt k hk; omega) (fun k hk => (ht k hk).imp (h4 k) id) (fun k hk => .inl (h5 k hk))
theorem st_take (h : St w V sb pb bl U L H A l) (n : Int) : Calls Try.prog 10 #[.pointer (some ⟨pb, 0, none⟩), .int .i64 n] w fun e w' =>
    e = .returned (.tuple #[.int .i64 (takeR l n).1, .bool (takeR l n).2]) ∧ (∃ V', St w' V' sb pb bl U L H A (takeL l n) ∧ ∀ k, V' k → V k ∨ w.heap.size ≤ k) ∧ Fr V w w' := by
  obtain ⟨T, TR, h1, h2, h3, h4, h5⟩ := h.ex
  refine (take_t h2 n).mono ?_
  rintro e w' ⟨rfl, ⟨TR', r1, r2⟩, hf⟩
  exact ⟨rfl, h.of (h1.fr hf fun k hk h => h3 k h hk) r1 (fun k hk h => (r2 k hk).elim (fun h' => h3 k h' h) fun h' => by have := h1.lt k h; omega) (fun k hk => .inl (h4 k hk)) (fun k hk => (r2 k hk).imp (h5 k) id), hf.mono h5⟩
theorem st_add (h : St w V sb pb bl U L H A l) (a n : Nat) (ha : (Lit.int .i64 (a : Nat)).wf = true) (hn : 1 ≤ n) (hL0 : usesI L (a : Nat) = 0) (hU0 : usesI U (a : Nat) = 0) (hUl : U.length ≤ 100000) (hAl : A.length ≤ 100000) :
    Calls Try.prog 11 #[.pointer (some ⟨sb, 0, none⟩), .agg #[.int .i64 (a : Nat), .int .i64 (n : Nat)]] w fun e w' =>
      e = .returned (.bool true) ∧ (∃ V', St w' V' sb pb bl (uput U ⟨a, n, 1⟩) L H (A ++ [⟨a, n⟩]) l ∧ ∀ k, V' k → V k ∨ w.heap.size ≤ k) ∧ Fr V w w' := by
  obtain ⟨T, TR, h1, h2, h3, h4, h5⟩ := h.ex
  refine (add_ok T sb pb U L H A w h1 a n ha hn hL0 hU0 hUl hAl).mono ?_
  rintro e w' ⟨rfl, ⟨T', r1, r2⟩, hf⟩
  exact ⟨rfl, h.shares h2 h3 h4 h5 r1 r2 hf, hf.mono h4⟩
theorem st_addno (h : St w V sb pb bl U L H A l) (a n : Int) (ha : (Lit.int .i64 a).wf = true) (hf : fineI U L a n = false) :
    Calls Try.prog 11 #[.pointer (some ⟨sb, 0, none⟩), .agg #[.int .i64 a, .int .i64 n]] w fun e w' => e = .returned (.bool false) ∧ Fr Nil w w' := by
  obtain ⟨T, TR, h1, h2, h3, h4, h5⟩ := h.ex
  refine (add_no T sb pb U L H A w h1 a n ha hf).mono ?_
  rintro e w' ⟨rfl, _, hf⟩
  exact ⟨rfl, hf⟩
theorem st_more (h : St w V sb pb bl U L H A l) (i : Int) (hi : (Lit.int .i64 i).wf = true) (hU : U.length ≤ 100000) (hk : ∀ u ∈ U, u.k ≤ 1000000) :
    Calls Try.prog 12 #[.pointer (some ⟨sb, 0, none⟩), .int .i64 i] w fun e w' =>
      e = .returned (.bool (decide (usesI U i ≠ 0))) ∧ (∃ V', St w' V' sb pb bl (moreU U i) L H A l ∧ ∀ k, V' k → V k ∨ w.heap.size ≤ k) ∧ Fr V w w' := by
  obtain ⟨T, TR, h1, h2, h3, h4, h5⟩ := h.ex
  refine (more_ok T sb pb U L H A w h1 i hi hU hk).mono ?_
  rintro e w' ⟨rfl, ⟨T', r1, r2⟩, hf⟩
  exact ⟨rfl, h.shares h2 h3 h4 h5 r1 r2 hf, hf.mono h4⟩
theorem st_less (h : St w V sb pb bl U L H A l) (i : Int) (hi : (Lit.int .i64 i).wf = true) (hU : U.length ≤ 100000) (hL : L.length ≤ 100000) (hk : ∀ u ∈ U, u.k ≤ 1000000) :
    Calls Try.prog 13 #[.pointer (some ⟨sb, 0, none⟩), .int .i64 i] w fun e w' =>
      e = .returned (.bool (decide (usesI U i ≠ 0))) ∧ (∃ V', St w' V' sb pb bl (lessU U i) (lessL U L i) H A l ∧ ∀ k, V' k → V k ∨ w.heap.size ≤ k) ∧ Fr V w w' := by
  obtain ⟨T, TR, h1, h2, h3, h4, h5⟩ := h.ex
  refine (less_ok T sb pb U L H A w h1 i hi hU hL hk).mono ?_
  rintro e w' ⟨rfl, ⟨T', r1, r2⟩, hf⟩
  exact ⟨rfl, h.shares h2 h3 h4 h5 r1 r2 hf, hf.mono h4⟩
theorem st_uses (h : St w V sb pb bl U L H A l) (i : Int) (hi : (Lit.int .i64 i).wf = true) :
    Calls Try.prog 14 #[.pointer (some ⟨sb, 0, none⟩), .int .i64 i] w fun e w' => e = .returned (.int .i64 (usesI U i : Nat)) ∧ w = w' := by
  obtain ⟨T, TR, h1, h2, h3, h4, h5⟩ := h.ex
  exact uses_ok T sb pb U L H A w h1 i hi
theorem st_late (h : St w V sb pb bl U L H A l) (hl : L.length ≤ 100000) :
    Calls Try.prog 16 #[.pointer (some ⟨sb, 0, none⟩)] w fun e w' => ∃ A c, e = .returned (.slice A L.length c) ∧ Row w' (New w) 33 2 (.slice A L.length c) L.length (dbl (lst L)) ∧ Fr Nil w w' := by
  obtain ⟨T, TR, h1, h2, h3, h4, h5⟩ := h.ex
  exact late_ok T sb pb U L H A w h1 hl
theorem st_list (h : St w V sb pb bl U L H A l) (hl : U.length ≤ 100000) :
    Calls Try.prog 17 #[.pointer (some ⟨sb, 0, none⟩)] w fun e w' => ∃ A c, e = .returned (.slice A U.length c) ∧ Row w' (New w) 33 2 (.slice A U.length c) U.length (dbl (lst U)) ∧ Fr Nil w w' := by
  obtain ⟨T, TR, h1, h2, h3, h4, h5⟩ := h.ex
  exact slist_ok T sb pb U L H A w h1 hl
theorem st_free (h : St w V sb pb bl U L H A l) : Calls Try.prog 15 #[.pointer (some ⟨pb, 0, none⟩)] w fun e w' => e = .returned (.int .i64 (sumN l : Nat)) ∧ Fr Nil w w' := by
  obtain ⟨T, TR, h1, h2, h3, h4, h5⟩ := h.ex
  exact free_t h2
theorem st_rlist (h : St w V sb pb bl U L H A l) : Calls Try.prog 19 #[.pointer (some ⟨pb, 0, none⟩)] w fun e w' => ∃ A c, e = .returned (.slice A l.length c) ∧ Row w' (New w) 33 2 (.slice A l.length c) l.length (dbl l) ∧ Fr Nil w w' := by
  obtain ⟨T, TR, h1, h2, h3, h4, h5⟩ := h.ex
  exact list_t h2
theorem st_settle (h : St w V sb pb bl U L H A l) (hU : U.length ≤ 100000) (hL : L.length ≤ 10000) (hLn : ∀ r ∈ lst L, r.a ≤ 8192 ∧ r.n ≤ 8192) :
    Calls Try.prog 18 #[.pointer (some ⟨sb, 0, none⟩)] w fun e w' => e = .returned (.int .i64 (sumN (lst L) : Nat)) ∧ (∃ V', St w' V' sb pb bl U [] U [] (givs bl l (lst L)) ∧ ∀ k, V' k → V k ∨ w.heap.size ≤ k) ∧ Fr V w w' := by
  obtain ⟨T, TR, h1, h2, h3, h4, h5⟩ := h.ex
  refine (settle_ok T TR sb pb bl U L H A l w h1 h2 h3 hU hL hLn).mono ?_
  rintro e w' ⟨rfl, ⟨T', r1, r2, TR', r3, r4, r5⟩, hf⟩
  exact ⟨rfl, h.of r1 r3 r5 (fun k hk => (r2 k hk).imp (h4 k) id) (fun k hk => (r4 k hk).imp (h5 k) id), hf.mono fun k hk => hk.elim (h4 k) (h5 k)⟩
theorem st_back (h : St w V sb pb bl U L H A l) (hL : A.length ≤ 10000) (hLn : ∀ r ∈ A, r.a ≤ 8192 ∧ r.n ≤ 8192) :
    Calls Try.prog 20 #[.pointer (some ⟨sb, 0, none⟩)] w fun e w' => e = .returned (.tuple #[]) ∧ (∃ V', St w' V' sb pb bl H [] H [] (givs bl l A) ∧ ∀ k, V' k → V k ∨ w.heap.size ≤ k) ∧ Fr V w w' := by
  obtain ⟨T, TR, h1, h2, h3, h4, h5⟩ := h.ex
  refine (back_ok T TR sb pb bl U L H A l w h1 h2 h3 hL hLn).mono ?_
  rintro e w' ⟨rfl, ⟨T', r1, r2, TR', r3, r4, r5⟩, hf⟩
  exact ⟨rfl, h.of r1 r3 r5 (fun k hk => (r2 k hk).imp (h4 k) id) (fun k hk => (r4 k hk).imp (h5 k) id), hf.mono fun k hk => hk.elim (h4 k) (h5 k)⟩
theorem st_new (h1 : RsT w S1 pb bl l) (w1 : World) (hf : Fr Nil w w1) (T : Nat → Prop) (h2 : IsS w1 T sb pb [] [] [] []) (h3 : ∀ k, T k → w.heap.size ≤ k) : ∃ V, St w1 V sb pb bl [] [] [] [] l ∧ ∀ k, V k → S1 k ∨ w.heap.size ≤ k :=
  ⟨fun k => T k ∨ S1 k, ⟨⟨T, S1, h2, h1.nil hf, fun k hk h => by have := h1.lt k hk; have := h3 k h; omega, fun k hk => .inl hk, fun k hk => .inr hk⟩, fun k hk => hk.elim (h2.lt k) fun h => Nat.lt_of_lt_of_le (h1.lt k h) hf.size⟩, fun k hk => hk.elim (fun h => .inr (h3 k h)) .inl⟩
end
/-- What is new since w0 (V) stays so. -/
theorem up {w0 w : World} {V V' : Nat → Prop} (hV : ∀ k, V k → w0.heap.size ≤ k) (h0 : Fr Nil w0 w) (h : ∀ k, V' k → V k ∨ w.heap.size ≤ k) : ∀ k, V' k → w0.heap.size ≤ k := fun k hk => (h k hk).elim (hV k) fun h => Nat.le_trans h0.size h
theorem fup {w0 w w' : World} {V : Nat → Prop} (hV : ∀ k, V k → w0.heap.size ≤ k) (h0 : Fr Nil w0 w) (h : Fr V w w') : Fr Nil w0 w' := h0.trans h fun k hk => .inr (hV k hk)
end Go.Proofs.Ytjieckaeplkafaa

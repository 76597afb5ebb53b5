/- The law RunsKnown. -/
import Derived.Test.YtbfhoadhihlhjaaRnA
set_option linter.unusedSimpArgs false
set_option linter.unusedVariables false
namespace Go.Proofs.Ytbfhoadhihlhjaa
open Go.RowKit
/-- Three of them, apart. -/
structure Th (w wi : World) (pb pn pg : Nat) (l : List Rn) (T1 T2 T3 : Nat → Prop) : Prop where
  a1 : RsT wi T1 pb 8 l
  a2 : RsT wi T2 pn 0 []
  a3 : RsT wi T3 pg 0 []
  a4 : ∀ k, T1 k ∨ T2 k → w.heap.size ≤ k
  a5 : ∀ k, T1 k → ¬ T2 k
  a6 : ∀ k, T1 k → ¬ T3 k
  a7 : ∀ k, T2 k → ¬ T3 k
  a8 : Fr Nil w wi
def Three (w wi : World) (pb pn pg : Nat) (l : List Rn) : Prop := ∃ T1 T2 T3, Th w wi pb pn pg l T1 T2 T3
section
variable {w wi : World} {pb pn pg : Nat} {l : List Rn} {T1 T2 T3 : Nat → Prop}
theorem Th.r (h : Th w wi pb pn pg l T1 T2 T3) {w' : World} {l' : List Rn} (hs : ∃ T', RsT w' T' pb 8 l' ∧ ∀ k, T' k → T1 k ∨ wi.heap.size ≤ k) (b3 : Fr T1 wi w') : Three w w' pb pn pg l' := by
  obtain ⟨a1, a2, a3, a4, a5, a6, a7, a8⟩ := h
  obtain ⟨T', b1, b2⟩ := hs
  refine ⟨T', T2, T3, b1, a2.fr b3 (fun k h2 h1 => a5 k h1 h2), a3.fr b3 (fun k h2 h1 => a6 k h1 h2), ?_, ?_, ?_, a7, ?_⟩
  · rintro k (h | h)
    · rcases b2 k h with h | h
      · exact a4 k (.inl h)
      · exact Nat.le_trans a8.size h
    · exact a4 k (.inr h)
  · intro k h h2
    rcases b2 k h with h | h
    · exact a5 k h h2
    · have := a2.lt k h2; omega
  · intro k h h2
    rcases b2 k h with h | h
    · exact a6 k h h2
    · have := a3.lt k h2; omega
  · exact a8.trans b3 (fun k hk => .inr (a4 k (.inl hk)))
theorem Th.n (h : Th w wi pb pn pg l T1 T2 T3) {w' : World} (hs : ∃ T', RsT w' T' pn 0 [] ∧ ∀ k, T' k → T2 k ∨ wi.heap.size ≤ k) (b3 : Fr T2 wi w') : Three w w' pb pn pg l := by
  obtain ⟨a1, a2, a3, a4, a5, a6, a7, a8⟩ := h
  obtain ⟨T', b1, b2⟩ := hs
  refine ⟨T1, T', T3, a1.fr b3 (fun k h2 h1 => a5 k h2 h1), b1, a3.fr b3 (fun k h2 h1 => a7 k h1 h2), ?_, ?_, a6, ?_, ?_⟩
  · rintro k (h | h)
    · exact a4 k (.inl h)
    · rcases b2 k h with h | h
      · exact a4 k (.inr h)
      · exact Nat.le_trans a8.size h
  · intro k h2 h
    rcases b2 k h with h | h
    · exact a5 k h2 h
    · have := a1.lt k h2; omega
  · intro k h h2
    rcases b2 k h with h | h
    · exact a7 k h h2
    · have := a3.lt k h2; omega
  · exact a8.trans b3 (fun k hk => .inr (a4 k (.inr hk)))
theorem Three.nil (h : Three w wi pb pn pg l) {w' : World} (hf : Fr Nil wi w') : Three w w' pb pn pg l := by
  obtain ⟨T1, T2, T3, a1, a2, a3, a4, a5, a6, a7, a8⟩ := h
  exact ⟨T1, T2, T3, a1.nil hf, a2.nil hf, a3.nil hf, a4, a5, a6, a7, a8.then hf⟩
theorem take_r (h : Three w wi pb pn pg l) (n : Int) (x : Int × Bool) (l' : List Rn) (h1 : takeR l n = x) (h2 : takeL l n = l') : Calls Try.prog 10 #[.pointer (some ⟨pb, 0, none⟩), .int .i64 n] wi fun e w' => e = .returned (.tuple #[.int .i64 x.1, .bool x.2]) ∧ Three w w' pb pn pg l' := by
  subst h1; subst h2
  obtain ⟨T1, T2, T3, h⟩ := h
  exact (take_t h.a1 n).mono fun e w' ⟨h1, h2, h3⟩ => ⟨h1, h.r h2 h3⟩
theorem mark_r (h : Three w wi pb pn pg l) (a n : Int) (x : Bool) (l' : List Rn) (h1 : markR 8 l a n = x) (h2 : markL 8 l a n = l') : Calls Try.prog 15 #[.pointer (some ⟨pb, 0, none⟩), .int .i64 a, .int .i64 n] wi fun e w' => e = .returned (.bool x) ∧ Three w w' pb pn pg l' := by
  subst h1; subst h2
  obtain ⟨T1, T2, T3, h⟩ := h
  exact (mark_t h.a1 a n).mono fun e w' ⟨h1, h2, h3⟩ => ⟨h1, h.r h2 h3⟩
theorem give_r (h : Three w wi pb pn pg l) (a n : Int) (x : Bool) (l' : List Rn) (h1 : giveR 8 l a n = x) (h2 : giveL 8 l a n = l') : Calls Try.prog 13 #[.pointer (some ⟨pb, 0, none⟩), .int .i64 a, .int .i64 n] wi fun e w' => e = .returned (.bool x) ∧ Three w w' pb pn pg l' := by
  subst h1; subst h2
  obtain ⟨T1, T2, T3, h⟩ := h
  exact (give_t h.a1 a n).mono fun e w' ⟨h1, h2, h3⟩ => ⟨h1, h.r h2 h3⟩
theorem take_n (h : Three w wi pb pn pg l) : Calls Try.prog 10 #[.pointer (some ⟨pn, 0, none⟩), .int .i64 1] wi fun e w' => e = .returned (.tuple #[.int .i64 0, .bool false]) ∧ Three w w' pb pn pg l := by
  obtain ⟨T1, T2, T3, h⟩ := h
  exact (take_t h.a2 1).mono fun e w' ⟨h1, h2, h3⟩ => ⟨h1, h.n h2 h3⟩
theorem free_r (h : Three w wi pb pn pg l) (x : Nat) (h1 : sumN l = x) : Calls Try.prog 12 #[.pointer (some ⟨pb, 0, none⟩)] wi fun e w' => e = .returned (.int .i64 x) ∧ Three w w' pb pn pg l := by
  subst h1
  have H := h
  obtain ⟨T1, T2, T3, h⟩ := h
  exact (free_t h.a1).mono fun e w' ⟨h1, h2⟩ => ⟨h1, H.nil h2⟩
theorem free_n (h : Three w wi pb pn pg l) (x : Nat) (h1 : sumN [] = x) : Calls Try.prog 12 #[.pointer (some ⟨pn, 0, none⟩)] wi fun e w' => e = .returned (.int .i64 x) ∧ Three w w' pb pn pg l := by
  subst h1
  have H := h
  obtain ⟨T1, T2, T3, h⟩ := h
  exact (free_t h.a2).mono fun e w' ⟨h1, h2⟩ => ⟨h1, H.nil h2⟩
theorem free_g (h : Three w wi pb pn pg l) (x : Nat) (h1 : sumN [] = x) : Calls Try.prog 12 #[.pointer (some ⟨pg, 0, none⟩)] wi fun e w' => e = .returned (.int .i64 x) ∧ Three w w' pb pn pg l := by
  subst h1
  have H := h
  obtain ⟨T1, T2, T3, h⟩ := h
  exact (free_t h.a3).mono fun e w' ⟨h1, h2⟩ => ⟨h1, H.nil h2⟩
theorem list_r (h : Three w wi pb pn pg []) : Calls Try.prog 14 #[.pointer (some ⟨pb, 0, none⟩)] wi fun e w' => ∃ A c, e = .returned (.slice A 0 c) ∧ Fr Nil w w' := by
  obtain ⟨T1, T2, T3, h⟩ := h
  exact (list_t h.a1).mono fun e w' ⟨A, c, h1, _, h3⟩ => ⟨A, c, h1, h.a8.then h3⟩
end
set_option maxRecDepth 20000 in
set_option maxHeartbeats 2000000 in
theorem runsKnown_ok (w : World) : Calls Try.prog 4 #[] w fun e w' => e = .returned (.bool true) ∧ Fr Nil w w' := by
  go_enter Try.func4, Try.ntmps4
  go_wp2_with fail
  refine (awake_ok w).mono ?_
  rintro e w0 ⟨rfl, f0⟩
  go_wp2_with fail
  refine (new_t 8 w0).mono ?_
  rw [show newBl 8 = 8 by decide, show newL 8 = [⟨0, 8⟩] by decide]
  rintro e w1 ⟨pb, T1, rfl, h, u1, f1⟩
  have H1 := hid h
  have U1 := hid u1
  have F1 := hid f1
  clear h u1 f1
  go_wp2_with fail
  refine (new_t (-1) w1).mono ?_
  rw [show newBl (-1) = 0 by decide, show newL (-1) = [] by decide]
  rintro e w2 ⟨pn, T2, rfl, h, u2, f2⟩
  have H2 := hid h
  have U2 := hid u2
  have F2 := hid f2
  clear h u2 f2
  go_wp2_with fail
  refine (new_t 8193 w2).mono ?_
  rw [show newBl 8193 = 0 by decide, show newL 8193 = [] by decide]
  rintro e w3 ⟨pg, T3, rfl, h, u3, f3⟩
  have H := hid (show Three w w3 pb pn pg [⟨0, 8⟩] from ⟨T1, T2, T3, (H1.out.nil F2.out).nil f3, H2.out.nil f3, h,
    fun k hk => hk.elim (fun hk => Nat.le_trans f0.size (U1.out k hk)) (fun hk => Nat.le_trans (Nat.le_trans f0.size F1.out.size) (U2.out k hk)),
    fun k h1 h2 => Nat.lt_irrefl _ (Nat.lt_of_lt_of_le (H1.out.lt k h1) (U2.out k h2)),
    fun k h1 h2 => Nat.lt_irrefl _ (Nat.lt_of_lt_of_le (Nat.lt_of_lt_of_le (H1.out.lt k h1) F2.out.size) (u3 k h2)),
    fun k h1 h2 => Nat.lt_irrefl _ (Nat.lt_of_lt_of_le (H2.out.lt k h1) (u3 k h2)), ((f0.then F1.out).then F2.out).then f3⟩)
  clear h u3 f3 H1 U1 F1 H2 U2 F2 f0
  go_wp2_with fail
  refine (take_r H.out 0 (0, false) [⟨0, 8⟩] (by decide) (by decide)).mono ?_
  rintro e w4 ⟨rfl, h⟩
  replace H := hid h
  clear h
  go_wp2_with fail
  refine (take_r H.out 9 (0, false) [⟨0, 8⟩] (by decide) (by decide)).mono ?_
  rintro e w5 ⟨rfl, h⟩
  replace H := hid h
  clear h
  go_wp2_with fail
  refine (take_n H.out).mono ?_
  rintro e w6 ⟨rfl, h⟩
  replace H := hid h
  clear h
  go_wp2_with fail
  refine (mark_r H.out 7 1 true [⟨0, 7⟩] (by decide) (by decide)).mono ?_
  rintro e w7 ⟨rfl, h⟩
  replace H := hid h
  clear h
  go_wp2_with fail
  refine (mark_r H.out 7 1 false [⟨0, 7⟩] (by decide) (by decide)).mono ?_
  rintro e w8 ⟨rfl, h⟩
  replace H := hid h
  clear h
  go_wp2_with fail
  refine (mark_r H.out 6 2 false [⟨0, 7⟩] (by decide) (by decide)).mono ?_
  rintro e w9 ⟨rfl, h⟩
  replace H := hid h
  clear h
  go_wp2_with fail
  refine (mark_r H.out 8 1 false [⟨0, 7⟩] (by decide) (by decide)).mono ?_
  rintro e w10 ⟨rfl, h⟩
  replace H := hid h
  clear h
  go_wp2_with fail
  refine (mark_r H.out (-1) 1 false [⟨0, 7⟩] (by decide) (by decide)).mono ?_
  rintro e w11 ⟨rfl, h⟩
  replace H := hid h
  clear h
  go_wp2_with fail
  refine (mark_r H.out 0 0 false [⟨0, 7⟩] (by decide) (by decide)).mono ?_
  rintro e w12 ⟨rfl, h⟩
  replace H := hid h
  clear h
  go_wp2_with fail
  refine (give_r H.out 6 2 false [⟨0, 7⟩] (by decide) (by decide)).mono ?_
  rintro e w13 ⟨rfl, h⟩
  replace H := hid h
  clear h
  go_wp2_with fail
  refine (give_r H.out 8 1 false [⟨0, 7⟩] (by decide) (by decide)).mono ?_
  rintro e w14 ⟨rfl, h⟩
  replace H := hid h
  clear h
  go_wp2_with fail
  refine (give_r H.out (-1) 2 false [⟨0, 7⟩] (by decide) (by decide)).mono ?_
  rintro e w15 ⟨rfl, h⟩
  replace H := hid h
  clear h
  go_wp2_with fail
  refine (give_r H.out 7 0 false [⟨0, 7⟩] (by decide) (by decide)).mono ?_
  rintro e w16 ⟨rfl, h⟩
  replace H := hid h
  clear h
  go_wp2_with fail
  refine (give_r H.out 7 1 true [⟨0, 8⟩] (by decide) (by decide)).mono ?_
  rintro e w17 ⟨rfl, h⟩
  replace H := hid h
  clear h
  go_wp2_with fail
  refine (give_r H.out 7 1 false [⟨0, 8⟩] (by decide) (by decide)).mono ?_
  rintro e w18 ⟨rfl, h⟩
  replace H := hid h
  clear h
  go_wp2_with fail
  refine (take_r H.out 8 (0, true) [] (by decide) (by decide)).mono ?_
  rintro e w19 ⟨rfl, h⟩
  replace H := hid h
  clear h
  go_wp2_with fail
  refine (free_r H.out 0 (by decide)).mono ?_
  rintro e w20 ⟨rfl, h⟩
  replace H := hid h
  clear h
  go_wp2_with fail
  refine (free_n H.out 0 (by decide)).mono ?_
  rintro e w21 ⟨rfl, h⟩
  replace H := hid h
  clear h
  go_wp2_with fail
  refine (free_g H.out 0 (by decide)).mono ?_
  rintro e w22 ⟨rfl, h⟩
  replace H := hid h
  clear h
  go_wp2_with fail
  refine (list_r H.out).mono ?_
  rintro e w99 ⟨A, c, rfl, f⟩
  go_wp2
  go_ret
  exact ⟨rfl, f⟩
end Go.Proofs.Ytbfhoadhihlhjaa

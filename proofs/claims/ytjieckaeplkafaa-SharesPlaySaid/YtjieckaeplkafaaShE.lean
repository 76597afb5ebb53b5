/- Shares: contracts from a law's beginning; the law's awake. Conditions: the bounds of its lists. -/
import Derived.Test.YtjieckaeplkafaaShD
set_option linter.unusedSimpArgs false
set_option linter.unusedVariables false
namespace Go.Proofs.Ytjieckaeplkafaa
open Go.RowKit
theorem lst_nil : lst [] = [] := by simp [lst, srtU]
theorem lst_one (u : Us) : lst [u] = [u.r] := by simp [lst, srtU]
/-- Shares and runs that are new since w0. -/
def Sw (w0 w : World) (sb pb bl : Nat) (U L H : List Us) (A l : List Rn) : Prop := ∃ V, St w V sb pb bl U L H A l ∧ (∀ k, V k → w0.heap.size ≤ k) ∧ Fr Nil w0 w
section
variable {w0 w : World} {sb pb bl : Nat} {U L H : List Us} {A l : List Rn}
theorem Sw.nil (h : Sw w0 w sb pb bl U L H A l) {w' : World} (hf : Fr Nil w w') : Sw w0 w' sb pb bl U L H A l := by
  obtain ⟨V, h1, h2, h3⟩ := h
  exact ⟨V, h1.nil hf, h2, h3.then hf⟩
theorem Sw.fr0 (h : Sw w0 w sb pb bl U L H A l) : Fr Nil w0 w := by
  obtain ⟨V, h1, h2, h3⟩ := h
  exact h3
theorem Sw.next {U' L' H' : List Us} {A' l' : List Rn} {w' : World} {V : Nat → Prop} (h2 : ∀ k, V k → w0.heap.size ≤ k) (h3 : Fr Nil w0 w) (hs : ∃ V', St w' V' sb pb bl U' L' H' A' l' ∧ ∀ k, V' k → V k ∨ w.heap.size ≤ k) (hf : Fr V w w') : Sw w0 w' sb pb bl U' L' H' A' l' := by
  obtain ⟨V', r1, r2⟩ := hs
  exact ⟨V', r1, up h2 h3 r2, fup h2 h3 hf⟩
theorem sw_new (b : Int) (w0 : World) : Calls Try.prog 8 #[.int .i64 b] w0 fun e w' => ∃ pb T, e = .returned (.pointer (some ⟨pb, 0, none⟩)) ∧ RsT w' T pb (newBl b) (newL b) ∧ (∀ k, T k → w0.heap.size ≤ k) ∧ Fr Nil w0 w' := new_t b w0
theorem sw_shares {T : Nat → Prop} (h : RsT w T pb bl l) (h1 : ∀ k, T k → w0.heap.size ≤ k) (h2 : Fr Nil w0 w) : Calls Try.prog 9 #[.pointer (some ⟨pb, 0, none⟩)] w fun e w' => ∃ sb, e = .returned (.pointer (some ⟨sb, 0, none⟩)) ∧ Sw w0 w' sb pb bl [] [] [] [] l := by
  refine (snew_ok pb w).mono ?_
  rintro e w' ⟨sb, T', rfl, h3, h4, h5⟩
  obtain ⟨V, r1, r2⟩ := st_new h w' h5 T' h3 h4
  exact ⟨sb, rfl, V, r1, up h1 h2 r2, h2.then h5⟩
theorem sw_take (h : Sw w0 w sb pb bl U L H A l) (n : Int) (x : Int × Bool) (l' : List Rn) (e1 : takeR l n = x) (e2 : takeL l n = l') : Calls Try.prog 10 #[.pointer (some ⟨pb, 0, none⟩), .int .i64 n] w fun e w' => e = .returned (.tuple #[.int .i64 x.1, .bool x.2]) ∧ Sw w0 w' sb pb bl U L H A l' := by
  subst e1; subst e2
  obtain ⟨V, h1, h2, h3⟩ := h
  exact (st_take h1 n).mono fun e w' ⟨r1, r2, r3⟩ => ⟨r1, Sw.next h2 h3 r2 r3⟩
theorem sw_add (h : Sw w0 w sb pb bl U L H A l) (a n : Nat) (U' : List Us) (eU : uput U ⟨a, n, 1⟩ = U') (ha : (Lit.int .i64 (a : Nat)).wf = true) (hn : 1 ≤ n) (hL0 : usesI L (a : Nat) = 0) (hU0 : usesI U (a : Nat) = 0) (hUl : U.length ≤ 100000) (hAl : A.length ≤ 100000) :
    Calls Try.prog 11 #[.pointer (some ⟨sb, 0, none⟩), .agg #[.int .i64 (a : Nat), .int .i64 (n : Nat)]] w fun e w' => e = .returned (.bool true) ∧ Sw w0 w' sb pb bl U' L H (A ++ [⟨a, n⟩]) l := by
  subst eU
  obtain ⟨V, h1, h2, h3⟩ := h
  exact (st_add h1 a n ha hn hL0 hU0 hUl hAl).mono fun e w' ⟨r1, r2, r3⟩ => ⟨r1, Sw.next h2 h3 r2 r3⟩
theorem sw_addno (h : Sw w0 w sb pb bl U L H A l) (a n : Int) (ha : (Lit.int .i64 a).wf = true) (hf : fineI U L a n = false) :
    Calls Try.prog 11 #[.pointer (some ⟨sb, 0, none⟩), .agg #[.int .i64 a, .int .i64 n]] w fun e w' => e = .returned (.bool false) ∧ Sw w0 w' sb pb bl U L H A l := by
  obtain ⟨V, h1, h2, h3⟩ := h
  exact (st_addno h1 a n ha hf).mono fun e w' ⟨r1, r3⟩ => ⟨r1, V, h1.nil r3, h2, h3.then r3⟩
theorem sw_more (h : Sw w0 w sb pb bl U L H A l) (i : Int) (b : Bool) (U' : List Us) (e1 : decide (usesI U i ≠ 0) = b) (e2 : moreU U i = U') (hi : (Lit.int .i64 i).wf = true) (hU : U.length ≤ 100000) (hk : ∀ u ∈ U, u.k ≤ 1000000) :
    Calls Try.prog 12 #[.pointer (some ⟨sb, 0, none⟩), .int .i64 i] w fun e w' => e = .returned (.bool b) ∧ Sw w0 w' sb pb bl U' L H A l := by
  subst e1; subst e2
  obtain ⟨V, h1, h2, h3⟩ := h
  exact (st_more h1 i hi hU hk).mono fun e w' ⟨r1, r2, r3⟩ => ⟨r1, Sw.next h2 h3 r2 r3⟩
theorem sw_less (h : Sw w0 w sb pb bl U L H A l) (i : Int) (b : Bool) (U' L' : List Us) (e1 : decide (usesI U i ≠ 0) = b) (e2 : lessU U i = U') (e3 : lessL U L i = L') (hi : (Lit.int .i64 i).wf = true) (hU : U.length ≤ 100000) (hL : L.length ≤ 100000) (hk : ∀ u ∈ U, u.k ≤ 1000000) :
    Calls Try.prog 13 #[.pointer (some ⟨sb, 0, none⟩), .int .i64 i] w fun e w' => e = .returned (.bool b) ∧ Sw w0 w' sb pb bl U' L' H A l := by
  subst e1; subst e2; subst e3
  obtain ⟨V, h1, h2, h3⟩ := h
  exact (st_less h1 i hi hU hL hk).mono fun e w' ⟨r1, r2, r3⟩ => ⟨r1, Sw.next h2 h3 r2 r3⟩
theorem sw_uses (h : Sw w0 w sb pb bl U L H A l) (i : Int) (n : Nat) (e1 : usesI U i = n) (hi : (Lit.int .i64 i).wf = true) :
    Calls Try.prog 14 #[.pointer (some ⟨sb, 0, none⟩), .int .i64 i] w fun e w' => e = .returned (.int .i64 (n : Nat)) ∧ w = w' := by
  subst e1
  obtain ⟨V, h1, h2, h3⟩ := h
  exact st_uses h1 i hi
theorem sw_late (h : Sw w0 w sb pb bl U L H A l) (hl : L.length ≤ 100000) :
    Calls Try.prog 16 #[.pointer (some ⟨sb, 0, none⟩)] w fun e w' => ∃ B c, e = .returned (.slice B L.length c) ∧ Row w' (New w) 33 2 (.slice B L.length c) L.length (dbl (lst L)) ∧ Fr Nil w w' ∧ Sw w0 w' sb pb bl U L H A l := by
  have h' := h
  obtain ⟨V, h1, h2, h3⟩ := h
  exact (st_late h1 hl).mono fun e w' ⟨B, c, r1, r2, r3⟩ => ⟨B, c, r1, r2, r3, h'.nil r3⟩
theorem sw_list (h : Sw w0 w sb pb bl U L H A l) (hl : U.length ≤ 100000) :
    Calls Try.prog 17 #[.pointer (some ⟨sb, 0, none⟩)] w fun e w' => ∃ B c, e = .returned (.slice B U.length c) ∧ Row w' (New w) 33 2 (.slice B U.length c) U.length (dbl (lst U)) ∧ Fr Nil w w' ∧ Sw w0 w' sb pb bl U L H A l := by
  have h' := h
  obtain ⟨V, h1, h2, h3⟩ := h
  exact (st_list h1 hl).mono fun e w' ⟨B, c, r1, r2, r3⟩ => ⟨B, c, r1, r2, r3, h'.nil r3⟩
theorem sw_free (h : Sw w0 w sb pb bl U L H A l) (n : Nat) (e1 : sumN l = n) : Calls Try.prog 15 #[.pointer (some ⟨pb, 0, none⟩)] w fun e w' => e = .returned (.int .i64 (n : Nat)) ∧ Fr Nil w w' ∧ Sw w0 w' sb pb bl U L H A l := by
  subst e1
  have h' := h
  obtain ⟨V, h1, h2, h3⟩ := h
  exact (st_free h1).mono fun e w' ⟨r1, r3⟩ => ⟨r1, r3, h'.nil r3⟩
theorem sw_settle (h : Sw w0 w sb pb bl U L H A l) (n : Nat) (l' : List Rn) (e1 : sumN (lst L) = n) (e2 : givs bl l (lst L) = l') (hU : U.length ≤ 100000) (hL : L.length ≤ 10000) (hLn : ∀ r ∈ lst L, r.a ≤ 8192 ∧ r.n ≤ 8192) :
    Calls Try.prog 18 #[.pointer (some ⟨sb, 0, none⟩)] w fun e w' => e = .returned (.int .i64 (n : Nat)) ∧ Sw w0 w' sb pb bl U [] U [] l' := by
  subst e1; subst e2
  obtain ⟨V, h1, h2, h3⟩ := h
  exact (st_settle h1 hU hL hLn).mono fun e w' ⟨r1, r2, r3⟩ => ⟨r1, Sw.next h2 h3 r2 r3⟩
end
set_option maxRecDepth 20000 in
theorem awake_ok (w : World) : Calls Try.prog 7 #[] w fun e w' => e = .returned (.bool true) ∧ Fr Nil w w' := by
  go_enter Try.func7, Try.ntmps7
  go_wp2_with fail
  refine (sw_new 9 w).mono ?_
  rintro e w1 ⟨pb, T, rfl, h1, h2, f1⟩
  rw [show newBl 9 = 9 by decide, show newL 9 = [⟨0, 9⟩] by decide] at h1
  have H1 := hid h1; have H2 := hid h2; have F1 := hid f1
  clear h1 h2 f1
  go_wp2_with fail
  refine (sw_shares H1.out H2.out F1.out).mono ?_
  rintro e w2 ⟨sb, rfl, h3⟩
  have H3 := hid h3
  clear h3 H1 H2 F1
  go_wp2_with fail
  refine (sw_take H3.out 2 (0, true) [⟨2, 7⟩] (by decide) (by decide)).mono ?_
  rintro e w3 ⟨rfl, h4⟩
  have H4 := hid h4
  clear h4 H3
  go_wp2_with fail
  refine (sw_add H4.out 0 2 [⟨0, 2, 1⟩] rfl (by decide) (by decide) rfl rfl (by decide) (by decide)).mono ?_
  rintro e w4 ⟨rfl, h5⟩
  have H5 := hid h5
  clear h5 H4
  go_wp2_with fail
  refine (sw_less H5.out 0 true [] [⟨0, 2, 1⟩] (by rfl) (by rfl) (by rfl) (by decide) (by decide) (by decide) (by simp)).mono ?_
  rintro e w5 ⟨rfl, h6⟩
  have H6 := hid h6
  clear h6 H5
  go_wp2_with fail
  refine (sw_late H6.out (by decide)).mono ?_
  rintro e w6 ⟨B, c, rfl, hr, hf, h7⟩
  rw [lst_one] at hr
  obtain ⟨b, o, hA, -, hbl, q0, q1⟩ := rn_at hr.view (show 0 < 1 by decide)
  subst hA
  have H7 := hid h7
  have Q1 := hid (show w6.cell? ⟨b, o + 1, none⟩ = some (.int .i64 2) from q1)
  clear h7 H6 q0 q1 hr hf hbl
  go_wp2_with fail
  refine (sw_uses H7.out 0 0 rfl (by decide)).mono ?_
  rintro e w7 ⟨rfl, rfl⟩
  have q1 := Q1.out
  go_wp2_with fail
  clear q1
  refine (sw_free H7.out 7 (by decide)).mono ?_
  rintro e w7 ⟨rfl, -, h8⟩
  have H8 := hid h8
  clear h8 H7
  go_wp2_with fail
  refine (sw_settle H8.out 2 [⟨0, 9⟩] (by rw [lst_one]; decide) (by rw [lst_one]; decide) (by decide) (by decide) (by rw [lst_one]; decide)).mono ?_
  rintro e w8 ⟨rfl, h9⟩
  have H9 := hid h9
  clear h9 H8
  go_wp2_with fail
  refine (sw_free H9.out 9 (by decide)).mono ?_
  rintro e w9 ⟨rfl, -, h10⟩
  have H10 := hid h10
  clear h10 H9
  go_wp2
  go_ret
  exact ⟨rfl, H10.out.fr0⟩
end Go.Proofs.Ytjieckaeplkafaa

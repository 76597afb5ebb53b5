/- The texts VRnL, VRnPL, VRnPM of this proof, one behind the other. Conditions: those of each. -/
import Derived.Deep.QuietTactic
import Derived.BigQuiet
import Derived.Test.YtgoghmblfdlnbaaGW9
import Derived.Test.YtgoghmblfdlnbaaGW10
section
/- Runs: List, Free, Greatest, Copy. -/
set_option linter.unusedSimpArgs false
set_option linter.unusedVariables false
namespace Go.Proofs.Ytgoghmblfdlnbaa
open Go.RowKit
theorem list_ok (T : Nat → Prop) (pb bl : Nat) (l : List Rn) (w : World) (h : Rs w T pb bl l) (hl : l.length ≤ 100000) :
    Calls Try.prog 29 #[.pointer (some ⟨pb, 0, none⟩)] w fun e w' => ∃ A c, e = .returned (.slice A l.length c) ∧ Row w' (New w) 33 2 (.slice A l.length c) l.length (dbl l) ∧ Fr Nil w w' := by
  obtain ⟨hT1, sv, hb, hr⟩ := h
  obtain ⟨A, c, rfl⟩ := hr.slice
  have c1 := hb.cell 1
  clear hb
  go_enter Try.func29, Try.ntmps29
  go_wp2_with fail
  refine (clone_ok T A l.length c l (by omega) w hr.view).mono ?_
  rintro e w1 ⟨A1, c1, rfl, h1, h2⟩
  go_wp2
  go_ret
  exact ⟨A1, c1, rfl, h1, h2⟩
def frN (l : List Rn) (i : Nat) : Nat := ((l.take i).map Rn.n).sum
def mxN (l : List Rn) (i : Nat) : Nat := ((l.take i).map Rn.n).foldl max 0
theorem frN_succ {l : List Rn} {i : Nat} (h : i < l.length) : frN l (i + 1) = frN l i + (rn l i).n := by
  unfold frN; rw [List.take_succ_eq_append_getElem h, List.map_append, List.sum_append, rn_eq h]; simp
theorem mxN_succ {l : List Rn} {i : Nat} (h : i < l.length) : mxN l (i + 1) = max (mxN l i) (rn l i).n := by
  unfold mxN; rw [List.take_succ_eq_append_getElem h, List.map_append, List.foldl_append, rn_eq h]; simp
theorem frN_le {bl : Nat} {l : List Rn} (h : Lok bl l) : ∀ i, i ≤ l.length → frN l i ≤ i * 8192
  | 0, _ => by simp [frN]
  | i + 1, hi => by
    have := frN_le h i (by omega)
    have h2 := h.2.2 i (by omega)
    have h3 := h.1
    rw [frN_succ (by omega)]; omega
theorem mxN_le {bl : Nat} {l : List Rn} (h : Lok bl l) : ∀ i, i ≤ l.length → mxN l i ≤ 8192
  | 0, _ => by simp [mxN]
  | i + 1, hi => by
    have := mxN_le h i (by omega)
    have h2 := h.2.2 i (by omega)
    have h3 := h.1
    rw [mxN_succ (by omega)]; omega
def sumN (l : List Rn) : Nat := frN l l.length
def topN (l : List Rn) : Nat := mxN l l.length
theorem free_ok (T : Nat → Prop) (pb bl : Nat) (l : List Rn) (w : World) (h : Rs w T pb bl l) (hl : Lok bl l) :
    Calls Try.prog 8 #[.pointer (some ⟨pb, 0, none⟩)] w fun e w' => e = .returned (.int .i64 (sumN l : Nat)) ∧ Fr Nil w w' := by
  have HL := hid hl; clear hl
  have Hli := hid (list_ok T pb bl l w h (Nat.le_trans HL.out.2.1 (by decide)))
  clear h
  go_enter Try.func8, Try.ntmps8
  go_wp2_with fail
  refine Hli.out.mono ?_
  rintro e w1 ⟨A, c, rfl, h1, h2⟩
  obtain ⟨L, hL⟩ : ∃ L, L = l.length := ⟨_, rfl⟩
  have HLl := hid hL
  have hL9 : L ≤ 8192 := by rw [hL]; exact HL.out.2.1
  have hv := h1.view
  rw [← hL] at hv ⊢
  have Hv := hid hv
  clear hL h1 hv
  go_wp2_with fail
  go_loopw [3, 9] (fun v3 v9 wr => ∃ i : Nat, v3 = .int .i64 (frN l i : Nat) ∧ v9 = .int .i64 i ∧ i ≤ L ∧ Fr Nil w1 wr) (fun _ v9 _ => L - (intOf v9).toNat)
  case atStart => exact ⟨0, by simp [frN], rfl, by omega, Fr.refl _ _⟩
  case round =>
    obtain ⟨i, rfl, rfl, hi, hfw⟩ := hrel
    by_cases hlt : i < L
    · obtain ⟨b, o, rfl, -, hbl, q0, q1⟩ := rn_at (Hv.out.fr hfw fun _ _ _ h => h) hlt
      have hS := hid (frN_succ (l := l) (i := i) (by rw [← HLl.out]; exact hlt))
      have hB := frN_le HL.out i (by rw [← HLl.out]; exact hi)
      have hbo := HL.out.2.2 i (by rw [← HLl.out]; exact hlt)
      have hbl8 := HL.out.1
      have hn8 : (rn l i).n ≤ 8192 := by omega
      have hB2 : frN l i ≤ 100000000 := by omega
      clear hB hbo hbl8
      have hal : Fr Nil wr (wr.alloc (.cells #[.int .i64 ((rn l i).a : Nat), .int .i64 ((rn l i).n : Nat)] 33)) := (Fr.refl _ _).alloc _
      go_wp2_with fail
      go_roundw
      case rel => exact ⟨i + 1, by rw [hS.out]; simp; try (split <;> omega), by go_num, by omega, hfw.then hal⟩
      case measure => simp [intOf]; omega
    · have hE := hid (show sumN l = frN l i from by unfold sumN; rw [show i = l.length by rw [← HLl.out]; omega])
      go_wp2
      go_ret
      rw [hE.out]
      exact ⟨rfl, h2.then hfw⟩
end Go.Proofs.Ytgoghmblfdlnbaa
end

section
/- Runs: plain laws (no program): a list of runs that is in order is the only one for its blocks. -/
set_option linter.unusedSimpArgs false
set_option linter.unusedVariables false
namespace Go.Proofs.Ytgoghmblfdlnbaa
/-- In order, none empty, none that touch; all at lo or behind. -/
def norm : Nat → List Rn → Prop
  | _, [] => True
  | lo, r :: l => lo ≤ r.a ∧ 1 ≤ r.n ∧ norm (r.a + r.n + 1) l
def nxt : Nat → List Rn → Nat
  | lo, [] => lo
  | _, r :: l => nxt (r.a + r.n + 1) l
def isin (r : Rn) (k : Nat) : Bool := decide (r.a ≤ k ∧ k < r.a + r.n)
def has (l : List Rn) (k : Nat) : Bool := l.any (fun r => isin r k)
theorem has_nil (k : Nat) : has [] k = false := rfl
theorem has_cons (r : Rn) (l : List Rn) (k : Nat) : has (r :: l) k = (isin r k || has l k) := rfl
theorem has_append (a b : List Rn) (k : Nat) : has (a ++ b) k = (has a k || has b k) := by simp [has]
theorem isin_iff {r : Rn} {k : Nat} : isin r k = true ↔ r.a ≤ k ∧ k < r.a + r.n := by simp [isin]
theorem norm_append : ∀ {lo : Nat} {a b : List Rn}, norm lo (a ++ b) ↔ norm lo a ∧ norm (nxt lo a) b
  | lo, [], b => by simp [norm, nxt]
  | lo, r :: a, b => by
    show lo ≤ r.a ∧ 1 ≤ r.n ∧ norm (r.a + r.n + 1) (a ++ b) ↔ (lo ≤ r.a ∧ 1 ≤ r.n ∧ norm (r.a + r.n + 1) a) ∧ norm (nxt (r.a + r.n + 1) a) b
    rw [norm_append, and_assoc, and_assoc]
theorem norm_mono {lo lo' : Nat} {l : List Rn} (h : norm lo l) (hl : lo' ≤ lo) : norm lo' l := by
  cases l with
  | nil => trivial
  | cons r l => exact ⟨Nat.le_trans hl h.1, h.2⟩
theorem nxt_ge : ∀ {lo : Nat} {l : List Rn}, norm lo l → lo ≤ nxt lo l
  | _, [], _ => Nat.le_refl _
  | lo, r :: l, h => by
    have := nxt_ge h.2.2
    have := h.1
    show lo ≤ nxt (r.a + r.n + 1) l
    omega
theorem nxt_le {e : Nat} : ∀ {lo : Nat} {l : List Rn}, (∀ r ∈ l, r.a + r.n ≤ e) → lo ≤ e + 1 → nxt lo l ≤ e + 1
  | _, [], _, h => h
  | lo, r :: l, h, _ => by
    show nxt (r.a + r.n + 1) l ≤ e + 1
    exact nxt_le (fun x hx => h x (List.mem_cons_of_mem _ hx)) (by have := h r List.mem_cons_self; omega)
theorem nxt_append : ∀ (lo : Nat) (a b : List Rn), nxt lo (a ++ b) = nxt (nxt lo a) b
  | _, [], _ => rfl
  | _, r :: a, b => nxt_append _ a b
theorem has_ge : ∀ {lo : Nat} {l : List Rn} {k : Nat}, norm lo l → has l k = true → lo ≤ k
  | _, [], _, _, h => by simp [has] at h
  | lo, r :: l, k, hn, h => by
    rw [has_cons, Bool.or_eq_true] at h
    rcases h with h | h
    · have := isin_iff.1 h; have := hn.1; omega
    · have := has_ge hn.2.2 h; have := hn.1; omega
theorem has_lt : ∀ {lo : Nat} {l : List Rn} {k : Nat}, norm lo l → has l k = true → k + 2 ≤ nxt lo l
  | _, [], _, _, h => by simp [has] at h
  | lo, r :: l, k, hn, h => by
    rw [has_cons, Bool.or_eq_true] at h
    show k + 2 ≤ nxt (r.a + r.n + 1) l
    rcases h with h | h
    · have := isin_iff.1 h; have := nxt_ge hn.2.2; omega
    · exact has_lt hn.2.2 h
/-- The only list for its blocks. -/
theorem norm_unique : ∀ {lo : Nat} {a b : List Rn}, norm lo a → norm lo b → (∀ k, has a k = has b k) → a = b
  | _, [], [], _, _, _ => rfl
  | _, [], r :: b, _, hb, h => by
    have := h r.a
    rw [has_cons, has_nil, show isin r r.a = true from isin_iff.2 ⟨Nat.le_refl _, by have := hb.2.1; omega⟩] at this
    simp at this
  | _, r :: a, [], ha, _, h => by
    have := h r.a
    rw [has_cons, has_nil, show isin r r.a = true from isin_iff.2 ⟨Nat.le_refl _, by have := ha.2.1; omega⟩] at this
    simp at this
  | lo, r :: a, s :: b, ha, hb, h => by
    have hra := ha.2.1
    have hsa := hb.2.1
    have e1 : r.a = s.a := by
      rcases Nat.lt_trichotomy r.a s.a with h1 | h1 | h1
      · have h2 := h r.a
        rw [has_cons, show isin r r.a = true from isin_iff.2 ⟨Nat.le_refl _, by omega⟩, Bool.true_or] at h2
        have h3 : s.a ≤ r.a := by
          have := has_ge (lo := s.a) (l := s :: b) ⟨Nat.le_refl _, hb.2⟩ h2.symm
          exact this
        omega
      · exact h1
      · have h2 := h s.a
        rw [has_cons s, show isin s s.a = true from isin_iff.2 ⟨Nat.le_refl _, by omega⟩, Bool.true_or] at h2
        have h3 : r.a ≤ s.a := has_ge (lo := r.a) (l := r :: a) ⟨Nat.le_refl _, ha.2⟩ h2
        omega
    have e2 : r.n = s.n := by
      rcases Nat.lt_trichotomy r.n s.n with h1 | h1 | h1
      · have h2 := h (r.a + r.n)
        rw [has_cons, has_cons, show isin s (r.a + r.n) = true from isin_iff.2 ⟨by omega, by omega⟩, Bool.true_or, show isin r (r.a + r.n) = false by simp [isin], Bool.false_or] at h2
        have := has_ge ha.2.2 h2
        omega
      · exact h1
      · have h2 := h (s.a + s.n)
        rw [has_cons, has_cons, show isin r (s.a + s.n) = true from isin_iff.2 ⟨by omega, by omega⟩, Bool.true_or, show isin s (s.a + s.n) = false by simp [isin], Bool.false_or] at h2
        have := has_ge hb.2.2 h2.symm
        omega
    have e : r = s := by cases r; cases s; simp_all
    subst e
    rw [norm_unique (lo := r.a + r.n + 1) ha.2.2 hb.2.2 (fun k => by
      have h2 := h k
      rw [has_cons, has_cons] at h2
      by_cases hk : isin r k = true
      · have hk2 := isin_iff.1 hk
        have n1 : has a k = false := by
          cases h3 : has a k with
          | false => rfl
          | true => have := has_ge ha.2.2 h3; omega
        have n2 : has b k = false := by
          cases h3 : has b k with
          | false => rfl
          | true => have := has_ge hb.2.2 h3; omega
        rw [n1, n2]
      · simpa [hk] using h2)]

/-- A list of runs on so many blocks. -/
def Wf (bl : Nat) (l : List Rn) : Prop := bl ≤ 8192 ∧ norm 0 l ∧ ∀ r ∈ l, r.a + r.n ≤ bl
theorem norm_len {bl : Nat} : ∀ {lo : Nat} {l : List Rn}, norm lo l → (∀ r ∈ l, r.a + r.n ≤ bl) → l ≠ [] → lo + l.length ≤ bl
  | _, [], _, _, h => absurd rfl h
  | lo, [r], hn, he, _ => by
    have := he r List.mem_cons_self; have := hn.1; have := hn.2.1
    simp; omega
  | lo, r :: s :: l, hn, he, _ => by
    have := norm_len hn.2.2 (fun x hx => he x (List.mem_cons_of_mem _ hx)) (by simp)
    have := hn.1
    simp at *; omega
theorem mem_rn {l : List Rn} {i : Nat} (h : i < l.length) : rn l i ∈ l := by rw [rn_eq h]; exact List.getElem_mem h
theorem Wf.lok {bl : Nat} {l : List Rn} (h : Wf bl l) : Lok bl l := by
  refine ⟨h.1, ?_, fun i hi => h.2.2 _ (mem_rn hi)⟩
  by_cases h0 : l = []
  · subst h0; simp
  · have := norm_len h.2.1 h.2.2 h0
    have := h.1
    omega
theorem Wf.unique {bl : Nat} {a b : List Rn} (ha : Wf bl a) (hb : Wf bl b) (h : ∀ k, has a k = has b k) : a = b := norm_unique ha.2.1 hb.2.1 h
theorem split_at {l : List Rn} {i : Nat} (h : i < l.length) : l = l.take i ++ rn l i :: l.drop (i + 1) := by
  rw [rn_eq h, ← List.drop_eq_getElem_cons h, List.take_append_drop]
theorem has_filter (l : List Rn) (k : Nat) : has (l.filter nz) k = has l k := by
  induction l with
  | nil => rfl
  | cons r l ih =>
    rw [List.filter_cons]
    by_cases h : nz r = true
    · rw [if_pos h, has_cons, has_cons, ih]
    · rw [if_neg h, has_cons, ih]
      have : r.n = 0 := by simpa [nz] using h
      simp [isin, this]
      intro h1; omega
/-- What put does. -/
theorem putl_norm {lo : Nat} {l ys : List Rn} {i : Nat} (hi : i < l.length) (hn : norm lo l) (hy : norm (rn l i).a (ys.filter nz)) (he : ∀ y ∈ ys.filter nz, y.a + y.n ≤ (rn l i).a + (rn l i).n) : norm lo (putl l i ys) := by
  have h1 := hn
  rw [split_at hi, norm_append] at h1
  obtain ⟨a1, a2, a3, a4⟩ := h1
  unfold putl
  rw [List.append_assoc, norm_append]
  refine ⟨a1, ?_⟩
  rw [norm_append]
  refine ⟨norm_mono hy a2, norm_mono a4 ?_⟩
  exact nxt_le he (by omega)
theorem putl_mem {bl : Nat} {l ys : List Rn} {i : Nat} (hi : i < l.length) (hb : ∀ r ∈ l, r.a + r.n ≤ bl) (he : ∀ y ∈ ys.filter nz, y.a + y.n ≤ (rn l i).a + (rn l i).n) : ∀ r ∈ putl l i ys, r.a + r.n ≤ bl := by
  intro r hr
  unfold putl at hr
  rw [List.mem_append, List.mem_append] at hr
  rcases hr with (hr | hr) | hr
  · exact hb _ (List.mem_of_mem_take hr)
  · exact Nat.le_trans (he _ hr) (hb _ (mem_rn hi))
  · exact hb _ (List.mem_of_mem_drop hr)
theorem has_in {lo : Nat} {l : List Rn} {i k : Nat} (hi : i < l.length) (hn : norm lo l) (hk : isin (rn l i) k = true) : has (l.take i) k = false ∧ has (l.drop (i + 1)) k = false := by
  rw [split_at hi, norm_append] at hn
  obtain ⟨a1, a2, a3, a4⟩ := hn
  have hk2 := isin_iff.1 hk
  constructor
  · cases h : has (l.take i) k with
    | false => rfl
    | true => have := has_lt a1 h; omega
  · cases h : has (l.drop (i + 1)) k with
    | false => rfl
    | true => have := has_ge a4 h; omega
theorem has_split {l : List Rn} {i : Nat} (hi : i < l.length) (k : Nat) : has l k = (has (l.take i) k || isin (rn l i) k || has (l.drop (i + 1)) k) := by
  conv => lhs; rw [split_at hi]
  rw [has_append, has_cons, Bool.or_assoc]
theorem putl_has {lo : Nat} {l ys : List Rn} {i : Nat} (hi : i < l.length) (hn : norm lo l) (he : ∀ k, has ys k = true → isin (rn l i) k = true) (k : Nat) : has (putl l i ys) k = if isin (rn l i) k = true then has ys k else has l k := by
  unfold putl
  rw [has_append, has_append, has_filter]
  by_cases hk : isin (rn l i) k = true
  · obtain ⟨h1, h2⟩ := has_in hi hn hk
    rw [if_pos hk, h1, h2]; simp
  · have h3 : has ys k = false := by
      cases h : has ys k with
      | false => rfl
      | true => exact absurd (he k h) hk
    rw [if_neg hk, has_split hi, h3]
    simp [hk]
end Go.Proofs.Ytgoghmblfdlnbaa
end

section
/- Runs: plain laws of Take, Mark, Give. -/
set_option linter.unusedSimpArgs false
set_option linter.unusedVariables false
namespace Go.Proofs.Ytgoghmblfdlnbaa
theorem idx_is {p : Rn → Bool} {l : List Rn} (h : l.findIdx p < l.length) : p (rn l (l.findIdx p)) = true := by
  rw [rn_eq h]; exact List.findIdx_getElem (w := h)
theorem idx_not {p : Rn → Bool} {l : List Rn} {j : Nat} (h : j < l.findIdx p) : p (rn l j) = false := by
  have h2 : j < l.length := Nat.lt_of_lt_of_le h List.findIdx_le_length
  have := List.not_of_lt_findIdx h
  rw [rn_eq h2]; simpa using this
theorem idx_all {p : Rn → Bool} {l : List Rn} (h : ¬ l.findIdx p < l.length) {j : Nat} (hj : j < l.length) : p (rn l j) = false := by
  have h2 := List.findIdx_le_length (p := p) (xs := l)
  exact idx_not (by omega)
/-- Is k one of n from a on? -/
def btw (a n k : Nat) : Bool := decide (a ≤ k ∧ k < a + n)
theorem btw_iff {a n k : Nat} : btw a n k = true ↔ a ≤ k ∧ k < a + n := by simp [btw]
theorem norm_n {lo : Nat} {l : List Rn} (hn : norm lo l) {i : Nat} (hi : i < l.length) : 1 ≤ (rn l i).n := by
  rw [split_at hi, norm_append] at hn; exact hn.2.2.1

/-- Where put's runs lie within the old one. -/
theorem put_wf {bl : Nat} {l ys : List Rn} {i : Nat} (h : Wf bl l) (hi : i < l.length) (hy : norm (rn l i).a (ys.filter nz)) (he : ∀ y ∈ ys.filter nz, y.a + y.n ≤ (rn l i).a + (rn l i).n) : Wf bl (putl l i ys) :=
  ⟨h.1, putl_norm hi h.2.1 hy he, putl_mem hi h.2.2 he⟩

theorem take_wf {bl : Nat} {l : List Rn} (h : Wf bl l) (n : Int) : Wf bl (takeL l n) := by
  unfold takeL
  split
  · rename_i hi
    have hn := norm_n h.2.1 hi
    have hf : n.toNat ≤ (rn l (takeI l n)).n := by
      unfold takeI at hi ⊢
      split at hi
      · rename_i h1
        rw [if_pos h1]
        have := idx_is hi
        simp [fits] at this
        omega
      · exact absurd hi (Nat.lt_irrefl _)
    refine put_wf h hi ?_ ?_
    · rw [List.filter_cons, List.filter_nil]
      split
      · rename_i h2
        refine ⟨by dsimp only; omega, ?_, trivial⟩
        simp [nz] at h2 ⊢; omega
      · trivial
    · intro y hy
      have hy2 := (List.mem_filter.1 hy).1
      simp at hy2
      subst hy2
      dsimp only; omega
  · exact h
theorem take_has {bl : Nat} {l : List Rn} (h : Wf bl l) (n : Int) (hi : takeI l n < l.length) (k : Nat) :
    has (takeL l n) k = (has l k && !btw (rn l (takeI l n)).a n.toNat k) ∧ (∀ j, btw (rn l (takeI l n)).a n.toNat j = true → has l j = true) := by
  have hf : n.toNat ≤ (rn l (takeI l n)).n := by
    unfold takeI at hi ⊢
    split at hi
    · rename_i h1
      rw [if_pos h1]
      have := idx_is hi
      simp [fits] at this
      omega
    · exact absurd hi (Nat.lt_irrefl _)
  have hb : ∀ j, btw (rn l (takeI l n)).a n.toNat j = true → isin (rn l (takeI l n)) j = true := fun j hj => by
    have := btw_iff.1 hj
    exact isin_iff.2 ⟨this.1, by omega⟩
  have hh : ∀ j, isin (rn l (takeI l n)) j = true → has l j = true := fun j hj => by rw [has_split hi, hj]; simp
  refine ⟨?_, fun j hj => hh j (hb j hj)⟩
  unfold takeL
  rw [if_pos hi, putl_has hi h.2.1 (fun j hj => by
    simp [has, isin] at hj ⊢; omega)]
  by_cases hk : isin (rn l (takeI l n)) k = true
  · rw [if_pos hk, hh k hk]
    have := isin_iff.1 hk
    apply Bool.eq_iff_iff.2
    simp [has, isin, btw]
    omega
  · rw [if_neg hk]
    have : btw (rn l (takeI l n)).a n.toNat k = false := by
      cases h1 : btw (rn l (takeI l n)).a n.toNat k with
      | false => rfl
      | true => exact absurd (hb k h1) hk
    rw [this]; simp

theorem known_iff {bl : Nat} {a n : Int} : knownB bl a n = true ↔ 0 ≤ a ∧ 1 ≤ n ∧ n ≤ bl ∧ a ≤ bl - n := by simp [knownB]
/-- Blocks that follow each other lie in one run. -/
theorem run_of {lo : Nat} {l : List Rn} (hn : norm lo l) {a n : Nat} (h1 : 1 ≤ n) (h : ∀ k, a ≤ k → k < a + n → has l k = true) : ∃ i, i < l.length ∧ (rn l i).a ≤ a ∧ a + n ≤ (rn l i).a + (rn l i).n := by
  have h0 := h a (Nat.le_refl _) (by omega)
  unfold has at h0
  rw [List.any_eq_true] at h0
  obtain ⟨r, hr, hra⟩ := h0
  obtain ⟨i, hi, rfl⟩ := List.mem_iff_getElem.1 hr
  rw [← rn_eq hi] at hra
  have hra2 := isin_iff.1 hra
  refine ⟨i, hi, hra2.1, ?_⟩
  rcases Nat.lt_or_ge ((rn l i).a + (rn l i).n) (a + n) with h2 | h2
  · have h3 := h ((rn l i).a + (rn l i).n) (by omega) h2
    rw [has_split hi, Bool.or_eq_true, Bool.or_eq_true] at h3
    rw [split_at hi, norm_append] at hn
    obtain ⟨a1, a2, a3, a4⟩ := hn
    rcases h3 with (h3 | h3) | h3
    · have := has_lt a1 h3; omega
    · have := isin_iff.1 h3; omega
    · have := has_ge a4 h3; omega
  · exact h2
theorem mark_iff {bl : Nat} {l : List Rn} (h : Wf bl l) (X N : Nat) : markR bl l X N = true ↔ knownB bl X N = true ∧ ∀ k, X ≤ k → k < X + N → has l k = true := by
  unfold markR
  rw [Bool.and_eq_true, decide_eq_true_eq]
  constructor
  · rintro ⟨h1, h2⟩
    refine ⟨h1, fun k k1 k2 => ?_⟩
    have h3 := idx_is (p := holds X N) (l := l) h2
    simp [holds] at h3
    rw [has_split (i := markI l X N) h2, show isin (rn l (markI l X N)) k = true from isin_iff.2 ⟨by unfold markI; omega, by unfold markI; omega⟩]
    simp
  · rintro ⟨h1, h2⟩
    refine ⟨h1, ?_⟩
    have hk := known_iff.1 h1
    obtain ⟨i, hi, h3, h4⟩ := run_of h.2.1 (a := X) (n := N) (by omega) h2
    by_cases h5 : markI l X N < l.length
    · exact h5
    · have := idx_all (p := holds X N) (l := l) h5 hi
      simp [holds] at this
      omega
theorem mark_at {bl : Nat} {l : List Rn} {X N : Nat} (hr : markR bl l X N = true) : markI l X N < l.length ∧ (rn l (markI l X N)).a ≤ X ∧ X + N ≤ (rn l (markI l X N)).a + (rn l (markI l X N)).n ∧ 1 ≤ N := by
  unfold markR at hr
  rw [Bool.and_eq_true, decide_eq_true_eq] at hr
  have h3 := idx_is (p := holds X N) (l := l) hr.2
  simp [holds] at h3
  have hk := known_iff.1 hr.1
  unfold markI at *
  exact ⟨hr.2, by omega, by omega, by omega⟩
theorem mark_wf {bl : Nat} {l : List Rn} (h : Wf bl l) (X N : Nat) : Wf bl (markL bl l X N) := by
  unfold markL
  split
  · rename_i hr
    obtain ⟨hi, h1, h2, h3⟩ := mark_at hr
    generalize markI l X N = i at *
    refine put_wf h hi ?_ ?_
    · show norm _ ((markY (rn l i) X N).filter nz)
      unfold markY
      rw [List.filter_cons, List.filter_cons, List.filter_nil]
      by_cases e1 : X - (rn l i).a = 0 <;> by_cases e2 : (rn l i).a + (rn l i).n - X - N = 0
      · rw [if_neg (by simp [nz, e1]), if_neg (by simp [nz, e2])]; trivial
      · rw [if_neg (by simp [nz, e1]), if_pos (by simp [nz, e2])]; exact ⟨by dsimp only; omega, by dsimp only; omega, trivial⟩
      · rw [if_pos (by simp [nz, e1]), if_neg (by simp [nz, e2])]; exact ⟨by dsimp only; omega, by dsimp only; omega, trivial⟩
      · rw [if_pos (by simp [nz, e1]), if_pos (by simp [nz, e2])]; exact ⟨by dsimp only; omega, by dsimp only; omega, by dsimp only; omega, by dsimp only; omega, trivial⟩
    · intro y hy
      have hy2 : y ∈ markY (rn l i) X N := (List.mem_filter.1 hy).1
      simp [markY] at hy2
      rcases hy2 with rfl | rfl <;> dsimp only <;> omega
  · exact h
theorem mark_has {bl : Nat} {l : List Rn} (h : Wf bl l) {X N : Nat} (hr : markR bl l X N = true) (k : Nat) : has (markL bl l X N) k = (has l k && !btw X N k) := by
  obtain ⟨hi, h1, h2, h3⟩ := mark_at hr
  unfold markL
  rw [if_pos hr]
  simp only [Int.toNat_natCast]
  generalize markI l X N = i at *
  have hh : ∀ j, isin (rn l i) j = true → has l j = true := fun j hj => by rw [has_split hi, hj]; simp
  rw [putl_has hi h.2.1 (fun j hj => by simp [markY, has, isin] at hj ⊢; omega)]
  by_cases hk : isin (rn l i) k = true
  · rw [if_pos hk, hh k hk]
    have := isin_iff.1 hk
    apply Bool.eq_iff_iff.2
    simp [markY, has, isin, btw]
    omega
  · rw [if_neg hk]
    have : btw X N k = false := by
      cases h1 : btw X N k with
      | false => rfl
      | true => have := btw_iff.1 h1; exact absurd (isin_iff.2 ⟨by omega, by omega⟩) hk
    rw [this]; simp
theorem mark_not {bl : Nat} {l : List Rn} {X N : Nat} (hr : markR bl l X N = false) : markL bl l X N = l := by unfold markL; rw [if_neg (by rw [hr]; decide)]

/-! ### Give -/
theorem nxt_take {lo : Nat} {l : List Rn} {i : Nat} (h0 : 0 < i) (hi : i ≤ l.length) : nxt lo (l.take i) = (rn l (i - 1)).a + (rn l (i - 1)).n + 1 := by
  obtain ⟨j, rfl⟩ : ∃ j, i = j + 1 := ⟨i - 1, by omega⟩
  rw [List.take_succ_eq_append_getElem (show j < l.length by omega), nxt_append, ← rn_eq (show j < l.length by omega)]
  rfl
theorem take_pre {l : List Rn} {i : Nat} (h0 : 0 < i) (hi : i ≤ l.length) : l.take i = l.take (i - 1) ++ [rn l (i - 1)] := by
  obtain ⟨j, rfl⟩ : ∃ j, i = j + 1 := ⟨i - 1, by omega⟩
  rw [List.take_succ_eq_append_getElem (show j < l.length by omega), ← rn_eq (show j < l.length by omega)]; rfl
theorem drop_post {l : List Rn} {i : Nat} (hi : i < l.length) : l.drop i = rn l i :: l.drop (i + 1) := by
  rw [rn_eq hi, ← List.drop_eq_getElem_cons hi]
theorem giveI_le (l : List Rn) (a : Int) : giveI l a ≤ l.length := List.findIdx_le_length
theorem giveI_lt {l : List Rn} {X j : Nat} (h : j < giveI l X) : (rn l j).a < X := by
  have := idx_not (l := l) h
  simp at this; omega
theorem giveI_ge {l : List Rn} {X : Nat} (h : giveI l X < l.length) : X ≤ (rn l (giveI l X)).a := by
  have h1 : decide ((X : Int) ≤ ((rn l (giveI l X)).a : Int)) = true := idx_is (l := l) (p := fun r => decide ((X : Int) ≤ (r.a : Int))) h
  have h2 := of_decide_eq_true h1
  omega
theorem norm_take {lo : Nat} {l : List Rn} (h : norm lo l) (i : Nat) : norm lo (l.take i) ∧ norm (nxt lo (l.take i)) (l.drop i) := by
  rw [← norm_append, List.take_append_drop]; exact h
/-- What Give does, where there is no clash. -/
theorem give_shape {l : List Rn} {X N : Nat} (hn : norm 0 l) (h1 : 1 ≤ N) (hc : clash l (giveI l X) X N = false) :
    norm 0 (l.take (giveF l (giveI l X) X) ++ [giveY l (giveI l X) X N] ++ l.drop (giveT l (giveI l X) X N)) ∧
    (∀ k, has (l.take (giveF l (giveI l X) X) ++ [giveY l (giveI l X) X N] ++ l.drop (giveT l (giveI l X) X N)) k = (has l k || btw X N k)) ∧
    (∀ e, (∀ r ∈ l, r.a + r.n ≤ e) → X + N ≤ e → (giveY l (giveI l X) X N).a + (giveY l (giveI l X) X N).n ≤ e) ∧
    (∀ k, btw X N k = true → has l k = false) := by
  have hi := giveI_le l X
  have hlt := fun j => giveI_lt (l := l) (X := X) (j := j)
  have hge := giveI_ge (l := l) (X := X)
  generalize giveI l X = i at *
  obtain ⟨n1, n2⟩ := norm_take hn i
  simp only [clash, decide_eq_false_iff_not, not_or, not_and, Nat.not_lt] at hc
  obtain ⟨c1, c2⟩ := hc
  have hsp : ∀ k, has l k = (has (l.take i) k || has (l.drop i) k) := fun k => by rw [← has_append, List.take_append_drop]
  have hno : ∀ k, btw X N k = true → has l k = false := by
    intro k hk
    have hk2 := btw_iff.1 hk
    rw [hsp]
    have a1 : has (l.take i) k = false := by
      cases h : has (l.take i) k with
      | false => rfl
      | true =>
        have h3 := has_lt n1 h
        by_cases h0 : 0 < i
        · rw [nxt_take h0 hi] at h3; have := c1 h0; omega
        · obtain rfl : i = 0 := by omega
          simp [has] at h
    have a2 : has (l.drop i) k = false := by
      cases h : has (l.drop i) k with
      | false => rfl
      | true =>
        by_cases h0 : i < l.length
        · rw [drop_post h0] at n2 h
          have := has_ge (lo := (rn l i).a) (l := rn l i :: l.drop (i + 1)) ⟨Nat.le_refl _, n2.2⟩ h
          have := c2 h0; omega
        · rw [List.drop_of_length_le (by omega)] at h; simp [has] at h
    rw [a1, a2]; rfl
  by_cases tp : touchP l i X = true
  · obtain ⟨p1, p2⟩ := of_decide_eq_true tp
    have hF : giveF l i X = i - 1 := if_pos tp
    have hX : giveX l i X N = ⟨(rn l (i - 1)).a, (rn l (i - 1)).n + N⟩ := if_pos tp
    have hpn := norm_n hn (i := i - 1) (by omega)
    rw [take_pre p1 hi, norm_append] at n1
    rw [take_pre p1 hi] at hsp
    by_cases tn : touchN l i X N = true
    · obtain ⟨q1, q2⟩ := of_decide_eq_true tn
      have hT : giveT l i X N = i + 1 := if_pos tn
      have hY : giveY l i X N = ⟨(rn l (i - 1)).a, (rn l (i - 1)).n + N + (rn l i).n⟩ := by unfold giveY; rw [if_pos tn, hX]
      rw [drop_post q1] at n2
      rw [hF, hT, hY]
      refine ⟨?_, fun k => ?_, fun e he _ => ?_, hno⟩
      · rw [List.append_assoc, norm_append]
        refine ⟨n1.1, n1.2.1, by dsimp only; omega, norm_mono n2.2.2 (by dsimp only; omega)⟩
      · rw [hsp, drop_post q1, has_append, has_append, has_append, has_cons, has_cons, has_cons, has_nil]
        apply Bool.eq_iff_iff.2
        simp [isin, btw]
        constructor
        · rintro ((h | h) | h)
          · simp [h]
          · have hm : ((rn l (i - 1)).a ≤ k ∧ k < (rn l (i - 1)).a + (rn l (i - 1)).n) ∨ ((rn l i).a ≤ k ∧ k < (rn l i).a + (rn l i).n) ∨ (X ≤ k ∧ k < X + N) := by omega
            rcases hm with hm | hm | hm <;> simp [hm]
          · simp [h]
        · rintro (((h | h) | (h | h)) | h)
          · simp [h]
          · exact .inl (.inr (by omega))
          · exact .inl (.inr (by omega))
          · simp [h]
          · exact .inl (.inr (by omega))
      · have := he _ (mem_rn q1); dsimp only; omega
    · have hT : giveT l i X N = i := if_neg tn
      have hY : giveY l i X N = ⟨(rn l (i - 1)).a, (rn l (i - 1)).n + N⟩ := by unfold giveY; rw [if_neg tn, hX]
      have hq : i < l.length → X + N + 1 ≤ (rn l i).a := fun h => by
        have := c2 h
        have : ¬ (i < l.length ∧ X + N = (rn l i).a) := fun h2 => tn (decide_eq_true h2)
        omega
      rw [hF, hT, hY]
      refine ⟨?_, fun k => ?_, fun e he h2 => ?_, hno⟩
      · rw [List.append_assoc, norm_append]
        refine ⟨n1.1, n1.2.1, by dsimp only; omega, ?_⟩
        show norm _ (l.drop i)
        by_cases h0 : i < l.length
        · rw [drop_post h0] at n2 ⊢
          exact ⟨by have := hq h0; dsimp only; omega, n2.2⟩
        · rw [List.drop_of_length_le (by omega)]; trivial
      · rw [hsp, has_append, has_append, has_append, has_cons, has_cons, has_nil]
        apply Bool.eq_iff_iff.2
        simp [isin, btw]
        constructor
        · rintro ((h | h) | h)
          · simp [h]
          · have hm : ((rn l (i - 1)).a ≤ k ∧ k < (rn l (i - 1)).a + (rn l (i - 1)).n) ∨ (X ≤ k ∧ k < X + N) := by omega
            rcases hm with hm | hm <;> simp [hm]
          · simp [h]
        · rintro (((h | h) | h) | h)
          · simp [h]
          · exact .inl (.inr (by omega))
          · simp [h]
          · exact .inl (.inr (by omega))
      · dsimp only; omega
  · have hF : giveF l i X = i := if_neg tp
    have hX : giveX l i X N = ⟨X, N⟩ := if_neg tp
    have hp : nxt 0 (l.take i) ≤ X := by
      by_cases h0 : 0 < i
      · rw [nxt_take h0 hi]
        have := c1 h0
        have : ¬ (0 < i ∧ (rn l (i - 1)).a + (rn l (i - 1)).n = X) := fun h2 => tp (decide_eq_true h2)
        omega
      · obtain rfl : i = 0 := by omega
        exact Nat.zero_le _
    by_cases tn : touchN l i X N = true
    · obtain ⟨q1, q2⟩ := of_decide_eq_true tn
      have hT : giveT l i X N = i + 1 := if_pos tn
      have hY : giveY l i X N = ⟨X, N + (rn l i).n⟩ := by unfold giveY; rw [if_pos tn, hX]
      rw [drop_post q1] at n2
      rw [hF, hT, hY]
      refine ⟨?_, fun k => ?_, fun e he _ => ?_, hno⟩
      · rw [List.append_assoc, norm_append]
        refine ⟨n1, hp, by dsimp only; omega, norm_mono n2.2.2 (by dsimp only; omega)⟩
      · rw [hsp, drop_post q1, has_append, has_append, has_cons, has_cons, has_nil]
        apply Bool.eq_iff_iff.2
        simp [isin, btw]
        constructor
        · rintro ((h | h) | h)
          · simp [h]
          · have hm : ((rn l i).a ≤ k ∧ k < (rn l i).a + (rn l i).n) ∨ (X ≤ k ∧ k < X + N) := by omega
            rcases hm with hm | hm <;> simp [hm]
          · simp [h]
        · rintro ((h | (h | h)) | h)
          · simp [h]
          · exact .inl (.inr (by omega))
          · simp [h]
          · exact .inl (.inr (by omega))
      · have := he _ (mem_rn q1); dsimp only; omega
    · have hT : giveT l i X N = i := if_neg tn
      have hY : giveY l i X N = ⟨X, N⟩ := by unfold giveY; rw [if_neg tn, hX]
      have hq : i < l.length → X + N + 1 ≤ (rn l i).a := fun h => by
        have := c2 h
        have : ¬ (i < l.length ∧ X + N = (rn l i).a) := fun h2 => tn (decide_eq_true h2)
        omega
      rw [hF, hT, hY]
      refine ⟨?_, fun k => ?_, fun e he h2 => h2, hno⟩
      · rw [List.append_assoc, norm_append]
        refine ⟨n1, hp, h1, ?_⟩
        show norm _ (l.drop i)
        by_cases h0 : i < l.length
        · rw [drop_post h0] at n2 ⊢
          exact ⟨hq h0, n2.2⟩
        · rw [List.drop_of_length_le (by omega)]; trivial
      · rw [hsp, has_append, has_append, has_cons, has_nil]
        apply Bool.eq_iff_iff.2
        simp [isin, btw]
        constructor
        · rintro ((h | h) | h) <;> simp [h]
        · rintro ((h | h) | h) <;> simp [h]
theorem give_known {bl : Nat} {l : List Rn} {X N : Nat} (hr : giveR bl l X N = true) : knownB bl X N = true ∧ clash l (giveI l X) X N = false := by
  unfold giveR at hr
  rw [Bool.and_eq_true, Bool.not_eq_true'] at hr
  simpa using hr
theorem give_list {bl : Nat} {l : List Rn} {X N : Nat} (hr : giveR bl l X N = true) : giveL bl l X N = l.take (giveF l (giveI l X) X) ++ [giveY l (giveI l X) X N] ++ l.drop (giveT l (giveI l X) X N) := by
  unfold giveL; rw [if_pos hr]; simp only [Int.toNat_natCast]
theorem give_wf {bl : Nat} {l : List Rn} (h : Wf bl l) (X N : Nat) : Wf bl (giveL bl l X N) := by
  cases hr : giveR bl l X N with
  | false => unfold giveL; rw [if_neg (by rw [hr]; decide)]; exact h
  | true =>
    obtain ⟨h1, h2⟩ := give_known hr
    have hk := known_iff.1 h1
    obtain ⟨s1, s2, s3, s4⟩ := give_shape h.2.1 (X := X) (N := N) (by omega) h2
    rw [give_list hr]
    refine ⟨h.1, s1, fun r hr2 => ?_⟩
    rw [List.mem_append, List.mem_append] at hr2
    rcases hr2 with (hr2 | hr2) | hr2
    · exact h.2.2 _ (List.mem_of_mem_take hr2)
    · rw [List.mem_singleton] at hr2
      subst hr2
      exact s3 bl h.2.2 (by omega)
    · exact h.2.2 _ (List.mem_of_mem_drop hr2)
theorem give_has {bl : Nat} {l : List Rn} (h : Wf bl l) {X N : Nat} (hr : giveR bl l X N = true) (k : Nat) : has (giveL bl l X N) k = (has l k || btw X N k) := by
  obtain ⟨h1, h2⟩ := give_known hr
  have hk := known_iff.1 h1
  rw [give_list hr]
  exact (give_shape h.2.1 (X := X) (N := N) (by omega) h2).2.1 k
theorem give_iff {bl : Nat} {l : List Rn} (h : Wf bl l) (X N : Nat) : giveR bl l X N = true ↔ knownB bl X N = true ∧ ∀ k, X ≤ k → k < X + N → has l k = false := by
  constructor
  · intro hr
    obtain ⟨h1, h2⟩ := give_known hr
    have hk := known_iff.1 h1
    exact ⟨h1, fun k k1 k2 => (give_shape h.2.1 (X := X) (N := N) (by omega) h2).2.2.2 k (btw_iff.2 ⟨k1, k2⟩)⟩
  · rintro ⟨h1, h2⟩
    have hk := known_iff.1 h1
    unfold giveR
    rw [h1]
    simp only [Int.toNat_natCast, Bool.true_and, Bool.not_eq_true']
    cases hc : clash l (giveI l X) X N with
    | false => rfl
    | true =>
      have hc2 := of_decide_eq_true hc
      rcases hc2 with ⟨c1, c2⟩ | ⟨c1, c2⟩
      · have hi := giveI_le l X
        have := giveI_lt (l := l) (X := X) (j := giveI l X - 1) (by omega)
        have h3 := h2 X (Nat.le_refl _) (by omega)
        rw [has_split (i := giveI l X - 1) (by omega), show isin (rn l (giveI l X - 1)) X = true from isin_iff.2 ⟨by omega, by omega⟩] at h3
        simp at h3
      · have := giveI_ge c1
        have hn := norm_n h.2.1 c1
        have h3 := h2 (rn l (giveI l X)).a (by omega) (by omega)
        rw [has_split (i := giveI l X) c1, show isin (rn l (giveI l X)) (rn l (giveI l X)).a = true from isin_iff.2 ⟨by omega, by omega⟩] at h3
        simp at h3
theorem give_not {bl : Nat} {l : List Rn} {X N : Nat} (hr : giveR bl l X N = false) : giveL bl l X N = l := by unfold giveL; rw [if_neg (by rw [hr]; decide)]
end Go.Proofs.Ytgoghmblfdlnbaa
end

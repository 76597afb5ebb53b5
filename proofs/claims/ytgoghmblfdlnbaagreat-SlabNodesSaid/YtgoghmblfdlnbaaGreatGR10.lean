/- The texts VRnL, VRnPL of this proof, one behind the other. Conditions: those of each. -/
import Derived.Deep.QuietTactic
import Derived.BigQuiet
import Derived.Test.YtgoghmblfdlnbaaGreatGR8
import Derived.Test.YtgoghmblfdlnbaaGreatGR9
section
/- Runs: List, Free, Greatest, Copy. -/
set_option linter.unusedSimpArgs false
set_option linter.unusedVariables false
namespace Go.Proofs.YtgoghmblfdlnbaaGreat
open Go.RowKit
theorem list_ok (T : Nat → Prop) (pb bl : Nat) (l : List Rn) (w : World) (h : Rs w T pb bl l) (hl : l.length ≤ 100000) :
    Calls Tryz.prog 45 #[.pointer (some ⟨pb, 0, none⟩)] w fun e w' => ∃ A c, e = .returned (.slice A l.length c) ∧ Row w' (New w) 39 2 (.slice A l.length c) l.length (dbl l) ∧ Fr Nil w w' := by
  obtain ⟨hT1, sv, hb, hr⟩ := h
  obtain ⟨A, c, rfl⟩ := hr.slice
  have c1 := hb.cell 1
  clear hb
  go_enter Tryz.func45, Tryz.ntmps45
  go_wp2_with fail
  refine (clone_ok T A l.length c l (by omega) w hr.view).mono ?_
  rintro e w1 ⟨A1, c1, rfl, h1, h2⟩
  go_wp2
  go_ret
  exact ⟨A1, c1, rfl, h1, h2⟩
def frN (l : List Rn) (i : Nat) : Nat := ((l.take i).map Rn.n).sum
def mxN (l : List Rn) (i : Nat) : Nat := ((l.take i).map Rn.n).foldl max 0
theorem frN_succ {l : List Rn} {i : Nat} (h : i < l.length) : frN l (i + 1) = frN l i + (rn l i).n := by
  unfold frN; rw [List.take_succ_eq_append_getElem h, List.map_append, List.sum_append, rn_eq h]; simp
theorem mxN_succ {l : List Rn} {i : Nat} (h : i < l.length) : mxN l (i + 1) = max (mxN l i) (rn l i).n := by
  unfold mxN; rw [List.take_succ_eq_append_getElem h, List.map_append, List.foldl_append, rn_eq h]; simp
theorem frN_le {bl : Nat} {l : List Rn} (h : Lok bl l) : ∀ i, i ≤ l.length → frN l i ≤ i * 8192
  | 0, _ => by simp [frN]
  | i + 1, hi => by
    have := frN_le h i (by omega)
    have h2 := h.2.2 i (by omega)
    have h3 := h.1
    rw [frN_succ (by omega)]; omega
theorem mxN_le {bl : Nat} {l : List Rn} (h : Lok bl l) : ∀ i, i ≤ l.length → mxN l i ≤ 8192
  | 0, _ => by simp [mxN]
  | i + 1, hi => by
    have := mxN_le h i (by omega)
    have h2 := h.2.2 i (by omega)
    have h3 := h.1
    rw [mxN_succ (by omega)]; omega
def sumN (l : List Rn) : Nat := frN l l.length
def topN (l : List Rn) : Nat := mxN l l.length
theorem free_ok (T : Nat → Prop) (pb bl : Nat) (l : List Rn) (w : World) (h : Rs w T pb bl l) (hl : Lok bl l) :
    Calls Tryz.prog 17 #[.pointer (some ⟨pb, 0, none⟩)] w fun e w' => e = .returned (.int .i64 (sumN l : Nat)) ∧ Fr Nil w w' := by
  have HL := hid hl; clear hl
  have Hli := hid (list_ok T pb bl l w h (Nat.le_trans HL.out.2.1 (by decide)))
  clear h
  go_enter Tryz.func17, Tryz.ntmps17
  go_wp2_with fail
  refine Hli.out.mono ?_
  rintro e w1 ⟨A, c, rfl, h1, h2⟩
  obtain ⟨L, hL⟩ : ∃ L, L = l.length := ⟨_, rfl⟩
  have HLl := hid hL
  have hL9 : L ≤ 8192 := by rw [hL]; exact HL.out.2.1
  have hv := h1.view
  rw [← hL] at hv ⊢
  have Hv := hid hv
  clear hL h1 hv
  go_wp2_with fail
  go_loopw [3, 9] (fun v3 v9 wr => ∃ i : Nat, v3 = .int .i64 (frN l i : Nat) ∧ v9 = .int .i64 i ∧ i ≤ L ∧ Fr Nil w1 wr) (fun _ v9 _ => L - (intOf v9).toNat)
  case atStart => exact ⟨0, by simp [frN], rfl, by omega, Fr.refl _ _⟩
  case round =>
    obtain ⟨i, rfl, rfl, hi, hfw⟩ := hrel
    by_cases hlt : i < L
    · obtain ⟨b, o, rfl, -, hbl, q0, q1⟩ := rn_at (Hv.out.fr hfw fun _ _ _ h => h) hlt
      have hS := hid (frN_succ (l := l) (i := i) (by rw [← HLl.out]; exact hlt))
      have hB := frN_le HL.out i (by rw [← HLl.out]; exact hi)
      have hbo := HL.out.2.2 i (by rw [← HLl.out]; exact hlt)
      have hbl8 := HL.out.1
      have hn8 : (rn l i).n ≤ 8192 := by omega
      have hB2 : frN l i ≤ 100000000 := by omega
      clear hB hbo hbl8
      have hal : Fr Nil wr (wr.alloc (.cells #[.int .i64 ((rn l i).a : Nat), .int .i64 ((rn l i).n : Nat)] 39)) := (Fr.refl _ _).alloc _
      go_wp2_with fail
      go_roundw
      case rel => exact ⟨i + 1, by rw [hS.out]; simp; try (split <;> omega), by go_num, by omega, hfw.then hal⟩
      case measure => simp [intOf]; omega
    · have hE := hid (show sumN l = frN l i from by unfold sumN; rw [show i = l.length by rw [← HLl.out]; omega])
      go_wp2
      go_ret
      rw [hE.out]
      exact ⟨rfl, h2.then hfw⟩
end Go.Proofs.YtgoghmblfdlnbaaGreat
end

section
/- Runs: plain laws (no program): a list of runs that is in order is the only one for its blocks. -/
set_option linter.unusedSimpArgs false
set_option linter.unusedVariables false
namespace Go.Proofs.YtgoghmblfdlnbaaGreat
/-- In order, none empty, none that touch; all at lo or behind. -/
def norm : Nat → List Rn → Prop
  | _, [] => True
  | lo, r :: l => lo ≤ r.a ∧ 1 ≤ r.n ∧ norm (r.a + r.n + 1) l
def nxt : Nat → List Rn → Nat
  | lo, [] => lo
  | _, r :: l => nxt (r.a + r.n + 1) l
def isin (r : Rn) (k : Nat) : Bool := decide (r.a ≤ k ∧ k < r.a + r.n)
def has (l : List Rn) (k : Nat) : Bool := l.any (fun r => isin r k)
theorem has_nil (k : Nat) : has [] k = false := rfl
theorem has_cons (r : Rn) (l : List Rn) (k : Nat) : has (r :: l) k = (isin r k || has l k) := rfl
theorem has_append (a b : List Rn) (k : Nat) : has (a ++ b) k = (has a k || has b k) := by simp [has]
theorem isin_iff {r : Rn} {k : Nat} : isin r k = true ↔ r.a ≤ k ∧ k < r.a + r.n := by simp [isin]
theorem norm_append : ∀ {lo : Nat} {a b : List Rn}, norm lo (a ++ b) ↔ norm lo a ∧ norm (nxt lo a) b
  | lo, [], b => by simp [norm, nxt]
  | lo, r :: a, b => by
    show lo ≤ r.a ∧ 1 ≤ r.n ∧ norm (r.a + r.n + 1) (a ++ b) ↔ (lo ≤ r.a ∧ 1 ≤ r.n ∧ norm (r.a + r.n + 1) a) ∧ norm (nxt (r.a + r.n + 1) a) b
    rw [norm_append, and_assoc, and_assoc]
theorem norm_mono {lo lo' : Nat} {l : List Rn} (h : norm lo l) (hl : lo' ≤ lo) : norm lo' l := by
  cases l with
  | nil => trivial
  | cons r l => exact ⟨Nat.le_trans hl h.1, h.2⟩
theorem nxt_ge : ∀ {lo : Nat} {l : List Rn}, norm lo l → lo ≤ nxt lo l
  | _, [], _ => Nat.le_refl _
  | lo, r :: l, h => by
    have := nxt_ge h.2.2
    have := h.1
    show lo ≤ nxt (r.a + r.n + 1) l
    omega
theorem nxt_le {e : Nat} : ∀ {lo : Nat} {l : List Rn}, (∀ r ∈ l, r.a + r.n ≤ e) → lo ≤ e + 1 → nxt lo l ≤ e + 1
  | _, [], _, h => h
  | lo, r :: l, h, _ => by
    show nxt (r.a + r.n + 1) l ≤ e + 1
    exact nxt_le (fun x hx => h x (List.mem_cons_of_mem _ hx)) (by have := h r List.mem_cons_self; omega)
theorem nxt_append : ∀ (lo : Nat) (a b : List Rn), nxt lo (a ++ b) = nxt (nxt lo a) b
  | _, [], _ => rfl
  | _, r :: a, b => nxt_append _ a b
theorem has_ge : ∀ {lo : Nat} {l : List Rn} {k : Nat}, norm lo l → has l k = true → lo ≤ k
  | _, [], _, _, h => by simp [has] at h
  | lo, r :: l, k, hn, h => by
    rw [has_cons, Bool.or_eq_true] at h
    rcases h with h | h
    · have := isin_iff.1 h; have := hn.1; omega
    · have := has_ge hn.2.2 h; have := hn.1; omega
theorem has_lt : ∀ {lo : Nat} {l : List Rn} {k : Nat}, norm lo l → has l k = true → k + 2 ≤ nxt lo l
  | _, [], _, _, h => by simp [has] at h
  | lo, r :: l, k, hn, h => by
    rw [has_cons, Bool.or_eq_true] at h
    show k + 2 ≤ nxt (r.a + r.n + 1) l
    rcases h with h | h
    · have := isin_iff.1 h; have := nxt_ge hn.2.2; omega
    · exact has_lt hn.2.2 h
/-- The only list for its blocks. -/
theorem norm_unique : ∀ {lo : Nat} {a b : List Rn}, norm lo a → norm lo b → (∀ k, has a k = has b k) → a = b
  | _, [], [], _, _, _ => rfl
  | _, [], r :: b, _, hb, h => by
    have := h r.a
    rw [has_cons, has_nil, show isin r r.a = true from isin_iff.2 ⟨Nat.le_refl _, by have := hb.2.1; omega⟩] at this
    simp at this
  | _, r :: a, [], ha, _, h => by
    have := h r.a
    rw [has_cons, has_nil, show isin r r.a = true from isin_iff.2 ⟨Nat.le_refl _, by have := ha.2.1; omega⟩] at this
    simp at this
  | lo, r :: a, s :: b, ha, hb, h => by
    have hra := ha.2.1
    have hsa := hb.2.1
    have e1 : r.a = s.a := by
      rcases Nat.lt_trichotomy r.a s.a with h1 | h1 | h1
      · have h2 := h r.a
        rw [has_cons, show isin r r.a = true from isin_iff.2 ⟨Nat.le_refl _, by omega⟩, Bool.true_or] at h2
        have h3 : s.a ≤ r.a := by
          have := has_ge (lo := s.a) (l := s :: b) ⟨Nat.le_refl _, hb.2⟩ h2.symm
          exact this
        omega
      · exact h1
      · have h2 := h s.a
        rw [has_cons s, show isin s s.a = true from isin_iff.2 ⟨Nat.le_refl _, by omega⟩, Bool.true_or] at h2
        have h3 : r.a ≤ s.a := has_ge (lo := r.a) (l := r :: a) ⟨Nat.le_refl _, ha.2⟩ h2
        omega
    have e2 : r.n = s.n := by
      rcases Nat.lt_trichotomy r.n s.n with h1 | h1 | h1
      · have h2 := h (r.a + r.n)
        rw [has_cons, has_cons, show isin s (r.a + r.n) = true from isin_iff.2 ⟨by omega, by omega⟩, Bool.true_or, show isin r (r.a + r.n) = false by simp [isin], Bool.false_or] at h2
        have := has_ge ha.2.2 h2
        omega
      · exact h1
      · have h2 := h (s.a + s.n)
        rw [has_cons, has_cons, show isin r (s.a + s.n) = true from isin_iff.2 ⟨by omega, by omega⟩, Bool.true_or, show isin s (s.a + s.n) = false by simp [isin], Bool.false_or] at h2
        have := has_ge hb.2.2 h2.symm
        omega
    have e : r = s := by cases r; cases s; simp_all
    subst e
    rw [norm_unique (lo := r.a + r.n + 1) ha.2.2 hb.2.2 (fun k => by
      have h2 := h k
      rw [has_cons, has_cons] at h2
      by_cases hk : isin r k = true
      · have hk2 := isin_iff.1 hk
        have n1 : has a k = false := by
          cases h3 : has a k with
          | false => rfl
          | true => have := has_ge ha.2.2 h3; omega
        have n2 : has b k = false := by
          cases h3 : has b k with
          | false => rfl
          | true => have := has_ge hb.2.2 h3; omega
        rw [n1, n2]
      · simpa [hk] using h2)]

/-- A list of runs on so many blocks. -/
def Wf (bl : Nat) (l : List Rn) : Prop := bl ≤ 8192 ∧ norm 0 l ∧ ∀ r ∈ l, r.a + r.n ≤ bl
theorem norm_len {bl : Nat} : ∀ {lo : Nat} {l : List Rn}, norm lo l → (∀ r ∈ l, r.a + r.n ≤ bl) → l ≠ [] → lo + l.length ≤ bl
  | _, [], _, _, h => absurd rfl h
  | lo, [r], hn, he, _ => by
    have := he r List.mem_cons_self; have := hn.1; have := hn.2.1
    simp; omega
  | lo, r :: s :: l, hn, he, _ => by
    have := norm_len hn.2.2 (fun x hx => he x (List.mem_cons_of_mem _ hx)) (by simp)
    have := hn.1
    simp at *; omega
theorem mem_rn {l : List Rn} {i : Nat} (h : i < l.length) : rn l i ∈ l := by rw [rn_eq h]; exact List.getElem_mem h
theorem Wf.lok {bl : Nat} {l : List Rn} (h : Wf bl l) : Lok bl l := by
  refine ⟨h.1, ?_, fun i hi => h.2.2 _ (mem_rn hi)⟩
  by_cases h0 : l = []
  · subst h0; simp
  · have := norm_len h.2.1 h.2.2 h0
    have := h.1
    omega
theorem Wf.unique {bl : Nat} {a b : List Rn} (ha : Wf bl a) (hb : Wf bl b) (h : ∀ k, has a k = has b k) : a = b := norm_unique ha.2.1 hb.2.1 h
theorem split_at {l : List Rn} {i : Nat} (h : i < l.length) : l = l.take i ++ rn l i :: l.drop (i + 1) := by
  rw [rn_eq h, ← List.drop_eq_getElem_cons h, List.take_append_drop]
theorem has_filter (l : List Rn) (k : Nat) : has (l.filter nz) k = has l k := by
  induction l with
  | nil => rfl
  | cons r l ih =>
    rw [List.filter_cons]
    by_cases h : nz r = true
    · rw [if_pos h, has_cons, has_cons, ih]
    · rw [if_neg h, has_cons, ih]
      have : r.n = 0 := by simpa [nz] using h
      simp [isin, this]
      intro h1; omega
/-- What put does. -/
theorem putl_norm {lo : Nat} {l ys : List Rn} {i : Nat} (hi : i < l.length) (hn : norm lo l) (hy : norm (rn l i).a (ys.filter nz)) (he : ∀ y ∈ ys.filter nz, y.a + y.n ≤ (rn l i).a + (rn l i).n) : norm lo (putl l i ys) := by
  have h1 := hn
  rw [split_at hi, norm_append] at h1
  obtain ⟨a1, a2, a3, a4⟩ := h1
  unfold putl
  rw [List.append_assoc, norm_append]
  refine ⟨a1, ?_⟩
  rw [norm_append]
  refine ⟨norm_mono hy a2, norm_mono a4 ?_⟩
  exact nxt_le he (by omega)
theorem putl_mem {bl : Nat} {l ys : List Rn} {i : Nat} (hi : i < l.length) (hb : ∀ r ∈ l, r.a + r.n ≤ bl) (he : ∀ y ∈ ys.filter nz, y.a + y.n ≤ (rn l i).a + (rn l i).n) : ∀ r ∈ putl l i ys, r.a + r.n ≤ bl := by
  intro r hr
  unfold putl at hr
  rw [List.mem_append, List.mem_append] at hr
  rcases hr with (hr | hr) | hr
  · exact hb _ (List.mem_of_mem_take hr)
  · exact Nat.le_trans (he _ hr) (hb _ (mem_rn hi))
  · exact hb _ (List.mem_of_mem_drop hr)
theorem has_in {lo : Nat} {l : List Rn} {i k : Nat} (hi : i < l.length) (hn : norm lo l) (hk : isin (rn l i) k = true) : has (l.take i) k = false ∧ has (l.drop (i + 1)) k = false := by
  rw [split_at hi, norm_append] at hn
  obtain ⟨a1, a2, a3, a4⟩ := hn
  have hk2 := isin_iff.1 hk
  constructor
  · cases h : has (l.take i) k with
    | false => rfl
    | true => have := has_lt a1 h; omega
  · cases h : has (l.drop (i + 1)) k with
    | false => rfl
    | true => have := has_ge a4 h; omega
theorem has_split {l : List Rn} {i : Nat} (hi : i < l.length) (k : Nat) : has l k = (has (l.take i) k || isin (rn l i) k || has (l.drop (i + 1)) k) := by
  conv => lhs; rw [split_at hi]
  rw [has_append, has_cons, Bool.or_assoc]
theorem putl_has {lo : Nat} {l ys : List Rn} {i : Nat} (hi : i < l.length) (hn : norm lo l) (he : ∀ k, has ys k = true → isin (rn l i) k = true) (k : Nat) : has (putl l i ys) k = if isin (rn l i) k = true then has ys k else has l k := by
  unfold putl
  rw [has_append, has_append, has_filter]
  by_cases hk : isin (rn l i) k = true
  · obtain ⟨h1, h2⟩ := has_in hi hn hk
    rw [if_pos hk, h1, h2]; simp
  · have h3 : has ys k = false := by
      cases h : has ys k with
      | false => rfl
      | true => exact absurd (he k h) hk
    rw [if_neg hk, has_split hi, h3]
    simp [hk]
end Go.Proofs.YtgoghmblfdlnbaaGreat
end

/- The texts VRnPM, VRnA of this proof, one behind the other. Conditions: those of each. -/
import Derived.Test.YtgoghmblfdlnbaaGreatGR10
section
/- Runs: plain laws of Take, Mark, Give. -/
set_option linter.unusedSimpArgs false
set_option linter.unusedVariables false
namespace Go.Proofs.YtgoghmblfdlnbaaGreat
theorem idx_is {p : Rn → Bool} {l : List Rn} (h : l.findIdx p < l.length) : p (rn l (l.findIdx p)) = true := by
  rw [rn_eq h]; exact List.findIdx_getElem (w := h)
theorem idx_not {p : Rn → Bool} {l : List Rn} {j : Nat} (h : j < l.findIdx p) : p (rn l j) = false := by
  have h2 : j < l.length := Nat.lt_of_lt_of_le h List.findIdx_le_length
  have := List.not_of_lt_findIdx h
  rw [rn_eq h2]; simpa using this
theorem idx_all {p : Rn → Bool} {l : List Rn} (h : ¬ l.findIdx p < l.length) {j : Nat} (hj : j < l.length) : p (rn l j) = false := by
  have h2 := List.findIdx_le_length (p := p) (xs := l)
  exact idx_not (by omega)
/-- Is k one of n from a on? -/
def btw (a n k : Nat) : Bool := decide (a ≤ k ∧ k < a + n)
theorem btw_iff {a n k : Nat} : btw a n k = true ↔ a ≤ k ∧ k < a + n := by simp [btw]
theorem norm_n {lo : Nat} {l : List Rn} (hn : norm lo l) {i : Nat} (hi : i < l.length) : 1 ≤ (rn l i).n := by
  rw [split_at hi, norm_append] at hn; exact hn.2.2.1

/-- Where put's runs lie within the old one. -/
theorem put_wf {bl : Nat} {l ys : List Rn} {i : Nat} (h : Wf bl l) (hi : i < l.length) (hy : norm (rn l i).a (ys.filter nz)) (he : ∀ y ∈ ys.filter nz, y.a + y.n ≤ (rn l i).a + (rn l i).n) : Wf bl (putl l i ys) :=
  ⟨h.1, putl_norm hi h.2.1 hy he, putl_mem hi h.2.2 he⟩

theorem take_wf {bl : Nat} {l : List Rn} (h : Wf bl l) (n : Int) : Wf bl (takeL l n) := by
  unfold takeL
  split
  · rename_i hi
    have hn := norm_n h.2.1 hi
    have hf : n.toNat ≤ (rn l (takeI l n)).n := by
      unfold takeI at hi ⊢
      split at hi
      · rename_i h1
        rw [if_pos h1]
        have := idx_is hi
        simp [fits] at this
        omega
      · exact absurd hi (Nat.lt_irrefl _)
    refine put_wf h hi ?_ ?_
    · rw [List.filter_cons, List.filter_nil]
      split
      · rename_i h2
        refine ⟨by dsimp only; omega, ?_, trivial⟩
        simp [nz] at h2 ⊢; omega
      · trivial
    · intro y hy
      have hy2 := (List.mem_filter.1 hy).1
      simp at hy2
      subst hy2
      dsimp only; omega
  · exact h
theorem take_has {bl : Nat} {l : List Rn} (h : Wf bl l) (n : Int) (hi : takeI l n < l.length) (k : Nat) :
    has (takeL l n) k = (has l k && !btw (rn l (takeI l n)).a n.toNat k) ∧ (∀ j, btw (rn l (takeI l n)).a n.toNat j = true → has l j = true) := by
  have hf : n.toNat ≤ (rn l (takeI l n)).n := by
    unfold takeI at hi ⊢
    split at hi
    · rename_i h1
      rw [if_pos h1]
      have := idx_is hi
      simp [fits] at this
      omega
    · exact absurd hi (Nat.lt_irrefl _)
  have hb : ∀ j, btw (rn l (takeI l n)).a n.toNat j = true → isin (rn l (takeI l n)) j = true := fun j hj => by
    have := btw_iff.1 hj
    exact isin_iff.2 ⟨this.1, by omega⟩
  have hh : ∀ j, isin (rn l (takeI l n)) j = true → has l j = true := fun j hj => by rw [has_split hi, hj]; simp
  refine ⟨?_, fun j hj => hh j (hb j hj)⟩
  unfold takeL
  rw [if_pos hi, putl_has hi h.2.1 (fun j hj => by
    simp [has, isin] at hj ⊢; omega)]
  by_cases hk : isin (rn l (takeI l n)) k = true
  · rw [if_pos hk, hh k hk]
    have := isin_iff.1 hk
    apply Bool.eq_iff_iff.2
    simp [has, isin, btw]
    omega
  · rw [if_neg hk]
    have : btw (rn l (takeI l n)).a n.toNat k = false := by
      cases h1 : btw (rn l (takeI l n)).a n.toNat k with
      | false => rfl
      | true => exact absurd (hb k h1) hk
    rw [this]; simp

theorem known_iff {bl : Nat} {a n : Int} : knownB bl a n = true ↔ 0 ≤ a ∧ 1 ≤ n ∧ n ≤ bl ∧ a ≤ bl - n := by simp [knownB]
/-- Blocks that follow each other lie in one run. -/
theorem run_of {lo : Nat} {l : List Rn} (hn : norm lo l) {a n : Nat} (h1 : 1 ≤ n) (h : ∀ k, a ≤ k → k < a + n → has l k = true) : ∃ i, i < l.length ∧ (rn l i).a ≤ a ∧ a + n ≤ (rn l i).a + (rn l i).n := by
  have h0 := h a (Nat.le_refl _) (by omega)
  unfold has at h0
  rw [List.any_eq_true] at h0
  obtain ⟨r, hr, hra⟩ := h0
  obtain ⟨i, hi, rfl⟩ := List.mem_iff_getElem.1 hr
  rw [← rn_eq hi] at hra
  have hra2 := isin_iff.1 hra
  refine ⟨i, hi, hra2.1, ?_⟩
  rcases Nat.lt_or_ge ((rn l i).a + (rn l i).n) (a + n) with h2 | h2
  · have h3 := h ((rn l i).a + (rn l i).n) (by omega) h2
    rw [has_split hi, Bool.or_eq_true, Bool.or_eq_true] at h3
    rw [split_at hi, norm_append] at hn
    obtain ⟨a1, a2, a3, a4⟩ := hn
    rcases h3 with (h3 | h3) | h3
    · have := has_lt a1 h3; omega
    · have := isin_iff.1 h3; omega
    · have := has_ge a4 h3; omega
  · exact h2
theorem mark_iff {bl : Nat} {l : List Rn} (h : Wf bl l) (X N : Nat) : markR bl l X N = true ↔ knownB bl X N = true ∧ ∀ k, X ≤ k → k < X + N → has l k = true := by
  unfold markR
  rw [Bool.and_eq_true, decide_eq_true_eq]
  constructor
  · rintro ⟨h1, h2⟩
    refine ⟨h1, fun k k1 k2 => ?_⟩
    have h3 := idx_is (p := holds X N) (l := l) h2
    simp [holds] at h3
    rw [has_split (i := markI l X N) h2, show isin (rn l (markI l X N)) k = true from isin_iff.2 ⟨by unfold markI; omega, by unfold markI; omega⟩]
    simp
  · rintro ⟨h1, h2⟩
    refine ⟨h1, ?_⟩
    have hk := known_iff.1 h1
    obtain ⟨i, hi, h3, h4⟩ := run_of h.2.1 (a := X) (n := N) (by omega) h2
    by_cases h5 : markI l X N < l.length
    · exact h5
    · have := idx_all (p := holds X N) (l := l) h5 hi
      simp [holds] at this
      omega
theorem mark_at {bl : Nat} {l : List Rn} {X N : Nat} (hr : markR bl l X N = true) : markI l X N < l.length ∧ (rn l (markI l X N)).a ≤ X ∧ X + N ≤ (rn l (markI l X N)).a + (rn l (markI l X N)).n ∧ 1 ≤ N := by
  unfold markR at hr
  rw [Bool.and_eq_true, decide_eq_true_eq] at hr
  have h3 := idx_is (p := holds X N) (l := l) hr.2
  simp [holds] at h3
  have hk := known_iff.1 hr.1
  unfold markI at *
  exact ⟨hr.2, by omega, by omega, by omega⟩
theorem mark_wf {bl : Nat} {l : List Rn} (h : Wf bl l) (X N : Nat) : Wf bl (markL bl l X N) := by
  unfold markL
  split
  · rename_i hr
    obtain ⟨hi, h1, h2, h3⟩ := mark_at hr
    generalize markI l X N = i at *
    refine put_wf h hi ?_ ?_
    · show norm _ ((markY (rn l i) X N).filter nz)
      unfold markY
      rw [List.filter_cons, List.filter_cons, List.filter_nil]
      by_cases e1 : X - (rn l i).a = 0 <;> by_cases e2 : (rn l i).a + (rn l i).n - X - N = 0
      · rw [if_neg (by simp [nz, e1]), if_neg (by simp [nz, e2])]; trivial
      · rw [if_neg (by simp [nz, e1]), if_pos (by simp [nz, e2])]; exact ⟨by dsimp only; omega, by dsimp only; omega, trivial⟩
      · rw [if_pos (by simp [nz, e1]), if_neg (by simp [nz, e2])]; exact ⟨by dsimp only; omega, by dsimp only; omega, trivial⟩
      · rw [if_pos (by simp [nz, e1]), if_pos (by simp [nz, e2])]; exact ⟨by dsimp only; omega, by dsimp only; omega, by dsimp only; omega, by dsimp only; omega, trivial⟩
    · intro y hy
      have hy2 : y ∈ markY (rn l i) X N := (List.mem_filter.1 hy).1
      simp [markY] at hy2
      rcases hy2 with rfl | rfl <;> dsimp only <;> omega
  · exact h
theorem mark_has {bl : Nat} {l : List Rn} (h : Wf bl l) {X N : Nat} (hr : markR bl l X N = true) (k : Nat) : has (markL bl l X N) k = (has l k && !btw X N k) := by
  obtain ⟨hi, h1, h2, h3⟩ := mark_at hr
  unfold markL
  rw [if_pos hr]
  simp only [Int.toNat_natCast]
  generalize markI l X N = i at *
  have hh : ∀ j, isin (rn l i) j = true → has l j = true := fun j hj => by rw [has_split hi, hj]; simp
  rw [putl_has hi h.2.1 (fun j hj => by simp [markY, has, isin] at hj ⊢; omega)]
  by_cases hk : isin (rn l i) k = true
  · rw [if_pos hk, hh k hk]
    have := isin_iff.1 hk
    apply Bool.eq_iff_iff.2
    simp [markY, has, isin, btw]
    omega
  · rw [if_neg hk]
    have : btw X N k = false := by
      cases h1 : btw X N k with
      | false => rfl
      | true => have := btw_iff.1 h1; exact absurd (isin_iff.2 ⟨by omega, by omega⟩) hk
    rw [this]; simp
theorem mark_not {bl : Nat} {l : List Rn} {X N : Nat} (hr : markR bl l X N = false) : markL bl l X N = l := by unfold markL; rw [if_neg (by rw [hr]; decide)]

/-! ### Give -/
theorem nxt_take {lo : Nat} {l : List Rn} {i : Nat} (h0 : 0 < i) (hi : i ≤ l.length) : nxt lo (l.take i) = (rn l (i - 1)).a + (rn l (i - 1)).n + 1 := by
  obtain ⟨j, rfl⟩ : ∃ j, i = j + 1 := ⟨i - 1, by omega⟩
  rw [List.take_succ_eq_append_getElem (show j < l.length by omega), nxt_append, ← rn_eq (show j < l.length by omega)]
  rfl
theorem take_pre {l : List Rn} {i : Nat} (h0 : 0 < i) (hi : i ≤ l.length) : l.take i = l.take (i - 1) ++ [rn l (i - 1)] := by
  obtain ⟨j, rfl⟩ : ∃ j, i = j + 1 := ⟨i - 1, by omega⟩
  rw [List.take_succ_eq_append_getElem (show j < l.length by omega), ← rn_eq (show j < l.length by omega)]; rfl
theorem drop_post {l : List Rn} {i : Nat} (hi : i < l.length) : l.drop i = rn l i :: l.drop (i + 1) := by
  rw [rn_eq hi, ← List.drop_eq_getElem_cons hi]
theorem giveI_le (l : List Rn) (a : Int) : giveI l a ≤ l.length := List.findIdx_le_length
theorem giveI_lt {l : List Rn} {X j : Nat} (h : j < giveI l X) : (rn l j).a < X := by
  have := idx_not (l := l) h
  simp at this; omega
theorem giveI_ge {l : List Rn} {X : Nat} (h : giveI l X < l.length) : X ≤ (rn l (giveI l X)).a := by
  have h1 : decide ((X : Int) ≤ ((rn l (giveI l X)).a : Int)) = true := idx_is (l := l) (p := fun r => decide ((X : Int) ≤ (r.a : Int))) h
  have h2 := of_decide_eq_true h1
  omega
theorem norm_take {lo : Nat} {l : List Rn} (h : norm lo l) (i : Nat) : norm lo (l.take i) ∧ norm (nxt lo (l.take i)) (l.drop i) := by
  rw [← norm_append, List.take_append_drop]; exact h
/-- What Give does, where there is no clash. -/
theorem give_shape {l : List Rn} {X N : Nat} (hn : norm 0 l) (h1 : 1 ≤ N) (hc : clash l (giveI l X) X N = false) :
    norm 0 (l.take (giveF l (giveI l X) X) ++ [giveY l (giveI l X) X N] ++ l.drop (giveT l (giveI l X) X N)) ∧
    (∀ k, has (l.take (giveF l (giveI l X) X) ++ [giveY l (giveI l X) X N] ++ l.drop (giveT l (giveI l X) X N)) k = (has l k || btw X N k)) ∧
    (∀ e, (∀ r ∈ l, r.a + r.n ≤ e) → X + N ≤ e → (giveY l (giveI l X) X N).a + (giveY l (giveI l X) X N).n ≤ e) ∧
    (∀ k, btw X N k = true → has l k = false) := by
  have hi := giveI_le l X
  have hlt := fun j => giveI_lt (l := l) (X := X) (j := j)
  have hge := giveI_ge (l := l) (X := X)
  generalize giveI l X = i at *
  obtain ⟨n1, n2⟩ := norm_take hn i
  simp only [clash, decide_eq_false_iff_not, not_or, not_and, Nat.not_lt] at hc
  obtain ⟨c1, c2⟩ := hc
  have hsp : ∀ k, has l k = (has (l.take i) k || has (l.drop i) k) := fun k => by rw [← has_append, List.take_append_drop]
  have hno : ∀ k, btw X N k = true → has l k = false := by
    intro k hk
    have hk2 := btw_iff.1 hk
    rw [hsp]
    have a1 : has (l.take i) k = false := by
      cases h : has (l.take i) k with
      | false => rfl
      | true =>
        have h3 := has_lt n1 h
        by_cases h0 : 0 < i
        · rw [nxt_take h0 hi] at h3; have := c1 h0; omega
        · obtain rfl : i = 0 := by omega
          simp [has] at h
    have a2 : has (l.drop i) k = false := by
      cases h : has (l.drop i) k with
      | false => rfl
      | true =>
        by_cases h0 : i < l.length
        · rw [drop_post h0] at n2 h
          have := has_ge (lo := (rn l i).a) (l := rn l i :: l.drop (i + 1)) ⟨Nat.le_refl _, n2.2⟩ h
          have := c2 h0; omega
        · rw [List.drop_of_length_le (by omega)] at h; simp [has] at h
    rw [a1, a2]; rfl
  by_cases tp : touchP l i X = true
  · obtain ⟨p1, p2⟩ := of_decide_eq_true tp
    have hF : giveF l i X = i - 1 := if_pos tp
    have hX : giveX l i X N = ⟨(rn l (i - 1)).a, (rn l (i - 1)).n + N⟩ := if_pos tp
    have hpn := norm_n hn (i := i - 1) (by omega)
    rw [take_pre p1 hi, norm_append] at n1
    rw [take_pre p1 hi] at hsp
    by_cases tn : touchN l i X N = true
    · obtain ⟨q1, q2⟩ := of_decide_eq_true tn
      have hT : giveT l i X N = i + 1 := if_pos tn
      have hY : giveY l i X N = ⟨(rn l (i - 1)).a, (rn l (i - 1)).n + N + (rn l i).n⟩ := by unfold giveY; rw [if_pos tn, hX]
      rw [drop_post q1] at n2
      rw [hF, hT, hY]
      refine ⟨?_, fun k => ?_, fun e he _ => ?_, hno⟩
      · rw [List.append_assoc, norm_append]
        refine ⟨n1.1, n1.2.1, by dsimp only; omega, norm_mono n2.2.2 (by dsimp only; omega)⟩
      · rw [hsp, drop_post q1, has_append, has_append, has_append, has_cons, has_cons, has_cons, has_nil]
        apply Bool.eq_iff_iff.2
        simp [isin, btw]
        constructor
        · rintro ((h | h) | h)
          · simp [h]
          · have hm : ((rn l (i - 1)).a ≤ k ∧ k < (rn l (i - 1)).a + (rn l (i - 1)).n) ∨ ((rn l i).a ≤ k ∧ k < (rn l i).a + (rn l i).n) ∨ (X ≤ k ∧ k < X + N) := by omega
            rcases hm with hm | hm | hm <;> simp [hm]
          · simp [h]
        · rintro (((h | h) | (h | h)) | h)
          · simp [h]
          · exact .inl (.inr (by omega))
          · exact .inl (.inr (by omega))
          · simp [h]
          · exact .inl (.inr (by omega))
      · have := he _ (mem_rn q1); dsimp only; omega
    · have hT : giveT l i X N = i := if_neg tn
      have hY : giveY l i X N = ⟨(rn l (i - 1)).a, (rn l (i - 1)).n + N⟩ := by unfold giveY; rw [if_neg tn, hX]
      have hq : i < l.length → X + N + 1 ≤ (rn l i).a := fun h => by
        have := c2 h
        have : ¬ (i < l.length ∧ X + N = (rn l i).a) := fun h2 => tn (decide_eq_true h2)
        omega
      rw [hF, hT, hY]
      refine ⟨?_, fun k => ?_, fun e he h2 => ?_, hno⟩
      · rw [List.append_assoc, norm_append]
        refine ⟨n1.1, n1.2.1, by dsimp only; omega, ?_⟩
        show norm _ (l.drop i)
        by_cases h0 : i < l.length
        · rw [drop_post h0] at n2 ⊢
          exact ⟨by have := hq h0; dsimp only; omega, n2.2⟩
        · rw [List.drop_of_length_le (by omega)]; trivial
      · rw [hsp, has_append, has_append, has_append, has_cons, has_cons, has_nil]
        apply Bool.eq_iff_iff.2
        simp [isin, btw]
        constructor
        · rintro ((h | h) | h)
          · simp [h]
          · have hm : ((rn l (i - 1)).a ≤ k ∧ k < (rn l (i - 1)).a + (rn l (i - 1)).n) ∨ (X ≤ k ∧ k < X + N) := by omega
            rcases hm with hm | hm <;> simp [hm]
          · simp [h]
        · rintro (((h | h) | h) | h)
          · simp [h]
          · exact .inl (.inr (by omega))
          · simp [h]
          · exact .inl (.inr (by omega))
      · dsimp only; omega
  · have hF : giveF l i X = i := if_neg tp
    have hX : giveX l i X N = ⟨X, N⟩ := if_neg tp
    have hp : nxt 0 (l.take i) ≤ X := by
      by_cases h0 : 0 < i
      · rw [nxt_take h0 hi]
        have := c1 h0
        have : ¬ (0 < i ∧ (rn l (i - 1)).a + (rn l (i - 1)).n = X) := fun h2 => tp (decide_eq_true h2)
        omega
      · obtain rfl : i = 0 := by omega
        exact Nat.zero_le _
    by_cases tn : touchN l i X N = true
    · obtain ⟨q1, q2⟩ := of_decide_eq_true tn
      have hT : giveT l i X N = i + 1 := if_pos tn
      have hY : giveY l i X N = ⟨X, N + (rn l i).n⟩ := by unfold giveY; rw [if_pos tn, hX]
      rw [drop_post q1] at n2
      rw [hF, hT, hY]
      refine ⟨?_, fun k => ?_, fun e he _ => ?_, hno⟩
      · rw [List.append_assoc, norm_append]
        refine ⟨n1, hp, by dsimp only; omega, norm_mono n2.2.2 (by dsimp only; omega)⟩
      · rw [hsp, drop_post q1, has_append, has_append, has_cons, has_cons, has_nil]
        apply Bool.eq_iff_iff.2
        simp [isin, btw]
        constructor
        · rintro ((h | h) | h)
          · simp [h]
          · have hm : ((rn l i).a ≤ k ∧ k < (rn l i).a + (rn l i).n) ∨ (X ≤ k ∧ k < X + N) := by omega
            rcases hm with hm | hm <;> simp [hm]
          · simp [h]
        · rintro ((h | (h | h)) | h)
          · simp [h]
          · exact .inl (.inr (by omega))
          · simp [h]
          · exact .inl (.inr (by omega))
      · have := he _ (mem_rn q1); dsimp only; omega
    · have hT : giveT l i X N = i := if_neg tn
      have hY : giveY l i X N = ⟨X, N⟩ := by unfold giveY; rw [if_neg tn, hX]
      have hq : i < l.length → X + N + 1 ≤ (rn l i).a := fun h => by
        have := c2 h
        have : ¬ (i < l.length ∧ X + N = (rn l i).a) := fun h2 => tn (decide_eq_true h2)
        omega
      rw [hF, hT, hY]
      refine ⟨?_, fun k => ?_, fun e he h2 => h2, hno⟩
      · rw [List.append_assoc, norm_append]
        refine ⟨n1, hp, h1, ?_⟩
        show norm _ (l.drop i)
        by_cases h0 : i < l.length
        · rw [drop_post h0] at n2 ⊢
          exact ⟨hq h0, n2.2⟩
        · rw [List.drop_of_length_le (by omega)]; trivial
      · rw [hsp, has_append, has_append, has_cons, has_nil]
        apply Bool.eq_iff_iff.2
        simp [isin, btw]
        constructor
        · rintro ((h | h) | h) <;> simp [h]
        · rintro ((h | h) | h) <;> simp [h]
theorem give_known {bl : Nat} {l : List Rn} {X N : Nat} (hr : giveR bl l X N = true) : knownB bl X N = true ∧ clash l (giveI l X) X N = false := by
  unfold giveR at hr
  rw [Bool.and_eq_true, Bool.not_eq_true'] at hr
  simpa using hr
theorem give_list {bl : Nat} {l : List Rn} {X N : Nat} (hr : giveR bl l X N = true) : giveL bl l X N = l.take (giveF l (giveI l X) X) ++ [giveY l (giveI l X) X N] ++ l.drop (giveT l (giveI l X) X N) := by
  unfold giveL; rw [if_pos hr]; simp only [Int.toNat_natCast]
theorem give_wf {bl : Nat} {l : List Rn} (h : Wf bl l) (X N : Nat) : Wf bl (giveL bl l X N) := by
  cases hr : giveR bl l X N with
  | false => unfold giveL; rw [if_neg (by rw [hr]; decide)]; exact h
  | true =>
    obtain ⟨h1, h2⟩ := give_known hr
    have hk := known_iff.1 h1
    obtain ⟨s1, s2, s3, s4⟩ := give_shape h.2.1 (X := X) (N := N) (by omega) h2
    rw [give_list hr]
    refine ⟨h.1, s1, fun r hr2 => ?_⟩
    rw [List.mem_append, List.mem_append] at hr2
    rcases hr2 with (hr2 | hr2) | hr2
    · exact h.2.2 _ (List.mem_of_mem_take hr2)
    · rw [List.mem_singleton] at hr2
      subst hr2
      exact s3 bl h.2.2 (by omega)
    · exact h.2.2 _ (List.mem_of_mem_drop hr2)
theorem give_has {bl : Nat} {l : List Rn} (h : Wf bl l) {X N : Nat} (hr : giveR bl l X N = true) (k : Nat) : has (giveL bl l X N) k = (has l k || btw X N k) := by
  obtain ⟨h1, h2⟩ := give_known hr
  have hk := known_iff.1 h1
  rw [give_list hr]
  exact (give_shape h.2.1 (X := X) (N := N) (by omega) h2).2.1 k
theorem give_iff {bl : Nat} {l : List Rn} (h : Wf bl l) (X N : Nat) : giveR bl l X N = true ↔ knownB bl X N = true ∧ ∀ k, X ≤ k → k < X + N → has l k = false := by
  constructor
  · intro hr
    obtain ⟨h1, h2⟩ := give_known hr
    have hk := known_iff.1 h1
    exact ⟨h1, fun k k1 k2 => (give_shape h.2.1 (X := X) (N := N) (by omega) h2).2.2.2 k (btw_iff.2 ⟨k1, k2⟩)⟩
  · rintro ⟨h1, h2⟩
    have hk := known_iff.1 h1
    unfold giveR
    rw [h1]
    simp only [Int.toNat_natCast, Bool.true_and, Bool.not_eq_true']
    cases hc : clash l (giveI l X) X N with
    | false => rfl
    | true =>
      have hc2 := of_decide_eq_true hc
      rcases hc2 with ⟨c1, c2⟩ | ⟨c1, c2⟩
      · have hi := giveI_le l X
        have := giveI_lt (l := l) (X := X) (j := giveI l X - 1) (by omega)
        have h3 := h2 X (Nat.le_refl _) (by omega)
        rw [has_split (i := giveI l X - 1) (by omega), show isin (rn l (giveI l X - 1)) X = true from isin_iff.2 ⟨by omega, by omega⟩] at h3
        simp at h3
      · have := giveI_ge c1
        have hn := norm_n h.2.1 c1
        have h3 := h2 (rn l (giveI l X)).a (by omega) (by omega)
        rw [has_split (i := giveI l X) c1, show isin (rn l (giveI l X)) (rn l (giveI l X)).a = true from isin_iff.2 ⟨by omega, by omega⟩] at h3
        simp at h3
theorem give_not {bl : Nat} {l : List Rn} {X N : Nat} (hr : giveR bl l X N = false) : giveL bl l X N = l := by unfold giveL; rw [if_neg (by rw [hr]; decide)]
end Go.Proofs.YtgoghmblfdlnbaaGreat
end

section
/- Runs: contracts with an allowed set; the law's awake. -/
set_option linter.unusedSimpArgs false
set_option linter.unusedVariables false
namespace Go.Proofs.YtgoghmblfdlnbaaGreat
open Go.RowKit
/-- Runs that lie in the set A. -/
def RsA (w : World) (A : Nat → Prop) (pb bl : Nat) (l : List Rn) : Prop := Rs w (fun k => A k ∧ k < w.heap.size) pb bl l ∧ Wf bl l
theorem RsA.mono {w : World} {A A' : Nat → Prop} {pb bl : Nat} {l : List Rn} (h : RsA w A pb bl l) (ha : ∀ k, A k → k < w.heap.size → A' k) : RsA w A' pb bl l :=
  ⟨h.1.mono fun k hk => ⟨ha k hk.1 hk.2, hk.2⟩, h.2⟩
theorem RsA.fr {w w1 : World} {A S1 : Nat → Prop} {pb bl : Nat} {l : List Rn} (h : RsA w A pb bl l) (hf : Fr S1 w w1) (hn : ∀ k, A k → k < w.heap.size → ¬ S1 k) : RsA w1 A pb bl l :=
  ⟨(h.1.fr hf fun k hk _ => hn k hk.1 hk.2).mono fun k hk => ⟨hk.1, Nat.lt_of_lt_of_le hk.2 hf.size⟩, h.2⟩
theorem RsA.nil {w w1 : World} {A : Nat → Prop} {pb bl : Nat} {l : List Rn} (h : RsA w A pb bl l) (hf : Fr Nil w w1) : RsA w1 A pb bl l := h.fr hf fun _ _ _ h => h
theorem RsA.of {w w1 : World} {A T : Nat → Prop} {pb bl : Nat} {l : List Rn} (h : Rs w1 T pb bl l) (hw : Wf bl l) (ha : ∀ k, T k → A k) : RsA w1 A pb bl l :=
  ⟨h.bd.mono fun k hk => ⟨ha k hk.1, hk.2⟩, hw⟩
/-- What an operation may change. -/
def Own (w : World) (A : Nat → Prop) : Nat → Prop := fun k => A k ∧ k < w.heap.size
theorem newL_wf (b : Int) : Wf (newBl b) (newL b) := by
  unfold newBl newL
  split
  · rename_i h
    exact ⟨by omega, ⟨Nat.le_refl _, by dsimp only; omega, trivial⟩, fun r hr => by rw [List.mem_singleton] at hr; subst hr; dsimp only; omega⟩
  · exact ⟨by omega, trivial, fun r hr => by simp at hr⟩
section
variable {w : World} {A : Nat → Prop} {pb bl : Nat} {l : List Rn}
theorem new_a (b : Int) (w : World) : Calls Tryz.prog 27 #[.int .i64 b] w fun e w' => ∃ pb, e = .returned (.pointer (some ⟨pb, 0, none⟩)) ∧ RsA w' (New w) pb (newBl b) (newL b) ∧ Fr Nil w w' :=
  (new_ok b w).mono fun e w' ⟨pb, h1, h2, h3⟩ => ⟨pb, h1, RsA.of h2 (newL_wf b) (w := w) fun _ h => h, h3⟩
theorem take_a (h : RsA w A pb bl l) (hA : ∀ k, w.heap.size ≤ k → A k) (n : Int) :
    Calls Tryz.prog 32 #[.pointer (some ⟨pb, 0, none⟩), .int .i64 n] w fun e w' => e = .returned (.tuple #[.int .i64 (takeR l n).1, .bool (takeR l n).2]) ∧ RsA w' A pb bl (takeL l n) ∧ Fr (Own w A) w w' :=
  (take_ok _ pb bl l n w h.1 h.2.lok fun k hk => hk.2).mono fun e w' ⟨h1, h2, h3⟩ => ⟨h1, RsA.of h2 (take_wf h.2 n) (w := w) fun k hk => hk.elim (fun h => h.1) (hA k), h3⟩
theorem mark_wf' (h : Wf bl l) (a n : Int) : Wf bl (markL bl l a n) := by
  cases hr : markR bl l a n with
  | false => unfold markL; rw [if_neg (by rw [hr]; decide)]; exact h
  | true =>
    have hk : knownB bl a n = true := by unfold markR at hr; rw [Bool.and_eq_true] at hr; exact hr.1
    have hk := known_iff.1 hk
    obtain ⟨X, rfl⟩ : ∃ X : Nat, a = X := ⟨a.toNat, by omega⟩
    obtain ⟨N, rfl⟩ : ∃ N : Nat, n = N := ⟨n.toNat, by omega⟩
    exact mark_wf h X N
theorem give_wf' (h : Wf bl l) (a n : Int) : Wf bl (giveL bl l a n) := by
  cases hr : giveR bl l a n with
  | false => unfold giveL; rw [if_neg (by rw [hr]; decide)]; exact h
  | true =>
    have hk : knownB bl a n = true := by unfold giveR at hr; rw [Bool.and_eq_true] at hr; exact hr.1
    have hk := known_iff.1 hk
    obtain ⟨X, rfl⟩ : ∃ X : Nat, a = X := ⟨a.toNat, by omega⟩
    obtain ⟨N, rfl⟩ : ∃ N : Nat, n = N := ⟨n.toNat, by omega⟩
    exact give_wf h X N
theorem mark_a (h : RsA w A pb bl l) (hA : ∀ k, w.heap.size ≤ k → A k) (a n : Int) :
    Calls Tryz.prog 28 #[.pointer (some ⟨pb, 0, none⟩), .int .i64 a, .int .i64 n] w fun e w' => e = .returned (.bool (markR bl l a n)) ∧ RsA w' A pb bl (markL bl l a n) ∧ Fr (Own w A) w w' :=
  (mark_ok _ pb bl l a n w h.1 h.2.lok fun k hk => hk.2).mono fun e w' ⟨h1, h2, h3⟩ => ⟨h1, RsA.of h2 (mark_wf' h.2 a n) (w := w) fun k hk => hk.elim (fun h => h.1) (hA k), h3⟩
theorem give_a (h : RsA w A pb bl l) (hA : ∀ k, w.heap.size ≤ k → A k) (a n : Int) :
    Calls Tryz.prog 36 #[.pointer (some ⟨pb, 0, none⟩), .int .i64 a, .int .i64 n] w fun e w' => e = .returned (.bool (giveR bl l a n)) ∧ RsA w' A pb bl (giveL bl l a n) ∧ Fr (Own w A) w w' :=
  (give_ok _ pb bl l a n w h.1 h.2.lok fun k hk => hk.2).mono fun e w' ⟨h1, h2, h3⟩ => ⟨h1, RsA.of h2 (give_wf' h.2 a n) (w := w) fun k hk => hk.elim (fun h => h.1) (hA k), h3⟩
theorem list_a (h : RsA w A pb bl l) : Calls Tryz.prog 45 #[.pointer (some ⟨pb, 0, none⟩)] w fun e w' => ∃ A c, e = .returned (.slice A l.length c) ∧ Row w' (New w) 39 2 (.slice A l.length c) l.length (dbl l) ∧ Fr Nil w w' :=
  list_ok _ pb bl l w h.1 (Nat.le_trans h.2.lok.2.1 (by decide))
theorem free_a (h : RsA w A pb bl l) : Calls Tryz.prog 17 #[.pointer (some ⟨pb, 0, none⟩)] w fun e w' => e = .returned (.int .i64 (sumN l : Nat)) ∧ Fr Nil w w' := free_ok _ pb bl l w h.1 h.2.lok
end
/-- From w on: what is new since w. -/
theorem Own.new {w w1 w2 : World} (h : Fr (Own w1 (New w)) w1 w2) (h1 : Fr Nil w w1) : Fr Nil w w2 := h1.trans h (fun k hk => .inr hk.1)
theorem New.up {w w1 : World} (h : Fr Nil w w1) : ∀ k, w1.heap.size ≤ k → New w k := fun k hk => Nat.le_trans h.size hk
/-- Runs that have just the blocks T (all of them are there). -/
structure RsT (w : World) (T : Nat → Prop) (pb bl : Nat) (l : List Rn) : Prop where
  rs : Rs w T pb bl l
  wf : Wf bl l
  lt : ∀ k, T k → k < w.heap.size
theorem RsT.fr {w w1 : World} {T S1 : Nat → Prop} {pb bl : Nat} {l : List Rn} (h : RsT w T pb bl l) (hf : Fr S1 w w1) (hn : ∀ k, T k → ¬ S1 k) : RsT w1 T pb bl l :=
  ⟨h.rs.fr hf fun k hk _ => hn k hk, h.wf, fun k hk => Nat.lt_of_lt_of_le (h.lt k hk) hf.size⟩
theorem RsT.nil {w w1 : World} {T : Nat → Prop} {pb bl : Nat} {l : List Rn} (h : RsT w T pb bl l) (hf : Fr Nil w w1) : RsT w1 T pb bl l := h.fr hf fun _ _ h => h
theorem RsT.of {w w1 : World} {T : Nat → Prop} {pb bl : Nat} {l : List Rn} (h : Rs w1 (fun j => T j ∨ w.heap.size ≤ j) pb bl l) (hw : Wf bl l) : ∃ T', RsT w1 T' pb bl l ∧ ∀ k, T' k → T k ∨ w.heap.size ≤ k :=
  ⟨_, ⟨h.bd, hw, fun k hk => hk.2⟩, fun k hk => hk.1⟩
theorem new_t (b : Int) (w : World) : Calls Tryz.prog 27 #[.int .i64 b] w fun e w' => ∃ pb T, e = .returned (.pointer (some ⟨pb, 0, none⟩)) ∧ RsT w' T pb (newBl b) (newL b) ∧ (∀ k, T k → w.heap.size ≤ k) ∧ Fr Nil w w' :=
  (new_ok b w).mono fun e w' ⟨pb, h1, h2, h3⟩ => ⟨pb, _, h1, ⟨h2.bd, newL_wf b, fun k hk => hk.2⟩, fun k hk => hk.1, h3⟩
section
variable {w : World} {T : Nat → Prop} {pb bl : Nat} {l : List Rn}
theorem take_t (h : RsT w T pb bl l) (n : Int) : Calls Tryz.prog 32 #[.pointer (some ⟨pb, 0, none⟩), .int .i64 n] w fun e w' =>
    e = .returned (.tuple #[.int .i64 (takeR l n).1, .bool (takeR l n).2]) ∧ (∃ T', RsT w' T' pb bl (takeL l n) ∧ ∀ k, T' k → T k ∨ w.heap.size ≤ k) ∧ Fr T w w' :=
  (take_ok T pb bl l n w h.rs h.wf.lok h.lt).mono fun e w' ⟨h1, h2, h3⟩ => ⟨h1, RsT.of h2 (take_wf h.wf n), h3⟩
theorem mark_t (h : RsT w T pb bl l) (a n : Int) : Calls Tryz.prog 28 #[.pointer (some ⟨pb, 0, none⟩), .int .i64 a, .int .i64 n] w fun e w' =>
    e = .returned (.bool (markR bl l a n)) ∧ (∃ T', RsT w' T' pb bl (markL bl l a n) ∧ ∀ k, T' k → T k ∨ w.heap.size ≤ k) ∧ Fr T w w' :=
  (mark_ok T pb bl l a n w h.rs h.wf.lok h.lt).mono fun e w' ⟨h1, h2, h3⟩ => ⟨h1, RsT.of h2 (mark_wf' h.wf a n), h3⟩
theorem give_t (h : RsT w T pb bl l) (a n : Int) : Calls Tryz.prog 36 #[.pointer (some ⟨pb, 0, none⟩), .int .i64 a, .int .i64 n] w fun e w' =>
    e = .returned (.bool (giveR bl l a n)) ∧ (∃ T', RsT w' T' pb bl (giveL bl l a n) ∧ ∀ k, T' k → T k ∨ w.heap.size ≤ k) ∧ Fr T w w' :=
  (give_ok T pb bl l a n w h.rs h.wf.lok h.lt).mono fun e w' ⟨h1, h2, h3⟩ => ⟨h1, RsT.of h2 (give_wf' h.wf a n), h3⟩
theorem list_t (h : RsT w T pb bl l) : Calls Tryz.prog 45 #[.pointer (some ⟨pb, 0, none⟩)] w fun e w' => ∃ A c, e = .returned (.slice A l.length c) ∧ Row w' (New w) 39 2 (.slice A l.length c) l.length (dbl l) ∧ Fr Nil w w' :=
  list_ok _ pb bl l w h.rs (Nat.le_trans h.wf.lok.2.1 (by decide))
theorem free_t (h : RsT w T pb bl l) : Calls Tryz.prog 17 #[.pointer (some ⟨pb, 0, none⟩)] w fun e w' => e = .returned (.int .i64 (sumN l : Nat)) ∧ Fr Nil w w' := free_ok _ pb bl l w h.rs h.wf.lok
end
end Go.Proofs.YtgoghmblfdlnbaaGreat
end

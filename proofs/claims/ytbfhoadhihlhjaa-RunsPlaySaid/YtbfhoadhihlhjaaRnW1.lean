/- Runs: plain laws for RunsGrow: runs one behind the other are taken and given back. -/
import Derived.Test.YtbfhoadhihlhjaaRnF1
set_option linter.unusedSimpArgs false
set_option linter.unusedVariables false
namespace Go.Proofs.Ytbfhoadhihlhjaa
/-- What is free when so many of 200 are taken from the beginning. -/
def grow (t : Nat) : List Rn := if t < 200 then [⟨t, 200 - t⟩] else []
theorem grow_take {t n : Nat} (ht : t ≤ 200) (hn : 1 ≤ n) : takeR (grow t) n = (if t + n ≤ 200 then ((t : Int), true) else (0, false)) ∧ takeL (grow t) n = (if t + n ≤ 200 then grow (t + n) else grow t) := by
  unfold takeR takeL takeI grow
  rw [if_pos (show (1 : Int) ≤ (n : Int) by omega)]
  by_cases h : t < 200
  · rw [if_pos h]
    by_cases h2 : t + n ≤ 200
    · rw [if_pos h2, if_pos h2]
      have hf : fits n ⟨t, 200 - t⟩ = true := by simp [fits]; omega
      have hi : [(⟨t, 200 - t⟩ : Rn)].findIdx (fits n) = 0 := by rw [List.findIdx_cons, hf]; rfl
      rw [hi, if_pos (by simp), if_pos (by simp)]
      refine ⟨rfl, ?_⟩
      show [] ++ [(⟨t + n, 200 - t - n⟩ : Rn)].filter nz ++ [] = _
      rw [List.filter_cons, List.filter_nil]
      by_cases h3 : t + n < 200
      · rw [if_pos h3, if_pos (by simp [nz]; omega)]
        show [(⟨t + n, 200 - t - n⟩ : Rn)] = _
        rw [show 200 - t - n = 200 - (t + n) by omega]
      · rw [if_neg h3, if_neg (by simp [nz]; omega)]; rfl
    · rw [if_neg h2, if_neg h2]
      have hf : fits n ⟨t, 200 - t⟩ = false := by simp [fits]; omega
      have hi : [(⟨t, 200 - t⟩ : Rn)].findIdx (fits n) = 1 := by rw [List.findIdx_cons, hf]; rfl
      rw [hi, if_neg (by simp), if_neg (by simp)]
      exact ⟨rfl, rfl⟩
  · rw [if_neg h, if_neg (show ¬ t + n ≤ 200 by omega), if_neg (show ¬ t + n ≤ 200 by omega)]
    exact ⟨rfl, rfl⟩
theorem grow_has (t k : Nat) (ht : t ≤ 200) : has (grow t) k = decide (t ≤ k ∧ k < 200) := by
  unfold grow
  split
  · rw [has_cons, has_nil, Bool.or_false]
    apply Bool.eq_iff_iff.2
    simp [isin]; omega
  · rw [has_nil]; symm; simp; omega
theorem grow_wf (t : Nat) : Wf 200 (grow t) := by
  unfold grow
  split
  · exact ⟨by decide, ⟨Nat.zero_le _, by dsimp only; omega, trivial⟩, fun r hr => by rw [List.mem_singleton] at hr; subst hr; dsimp only; omega⟩
  · exact ⟨by decide, trivial, fun r hr => by simp at hr⟩
/-- Runs that cut [0, t) into pieces. -/
structure Cuts (t : Nat) (m : List Rn) : Prop where
  b : ∀ i, i < m.length → (rn m i).a + (rn m i).n ≤ t ∧ 1 ≤ (rn m i).n
  d : ∀ i j, i < m.length → j < m.length → i ≠ j → ∀ k, isin (rn m i) k = true → isin (rn m j) k = false
  c : ∀ k, k < t → ∃ i, i < m.length ∧ isin (rn m i) k = true
theorem rn_snoc {m : List Rn} {r : Rn} {i : Nat} : rn (m ++ [r]) i = if i < m.length then rn m i else if i = m.length then r else ⟨0, 0⟩ := by
  unfold rn
  rw [List.getD_eq_getElem?_getD, List.getD_eq_getElem?_getD, List.getElem?_append]
  split
  · rfl
  · split
    · rename_i h; subst h; simp
    · rw [List.getElem?_eq_none (by simp; omega)]; rfl
theorem Cuts.nil : Cuts 0 [] := ⟨fun i h => absurd h (by simp), fun i j h => absurd h (by simp), fun k h => absurd h (by simp)⟩
theorem Cuts.snoc {t n : Nat} {m : List Rn} (h : Cuts t m) (hn : 1 ≤ n) : Cuts (t + n) (m ++ [⟨t, n⟩]) := by
  refine ⟨fun i hi => ?_, fun i j hi hj hij k hk => ?_, fun k hk => ?_⟩
  · rw [List.length_append, List.length_singleton] at hi
    rw [rn_snoc]
    split
    · rename_i h1; have := h.b i h1; omega
    · rw [if_pos (by omega)]; dsimp only; omega
  · rw [List.length_append, List.length_singleton] at hi hj
    rw [rn_snoc] at hk ⊢
    by_cases h1 : i < m.length
    · rw [if_pos h1] at hk
      by_cases h2 : j < m.length
      · rw [if_pos h2]; exact h.d i j h1 h2 hij k hk
      · rw [if_neg h2, if_pos (by omega)]
        have := h.b i h1
        have := isin_iff.1 hk
        simp [isin]; omega
    · rw [if_neg h1, if_pos (by omega)] at hk
      have h3 := isin_iff.1 hk
      dsimp only at h3
      rw [if_pos (by omega)]
      have := h.b j (by omega)
      simp [isin]; omega
  · by_cases h1 : k < t
    · obtain ⟨i, hi, h2⟩ := h.c k h1
      exact ⟨i, by simp; omega, by rw [rn_snoc, if_pos hi]; exact h2⟩
    · refine ⟨m.length, by simp, ?_⟩
      rw [rn_snoc, if_neg (Nat.lt_irrefl _), if_pos rfl]
      exact isin_iff.2 ⟨by dsimp only; omega, by dsimp only; omega⟩
/-- Two change places. -/
def swp (m : List Rn) (i k : Nat) : List Rn := (m.set i (rn m k)).set k (rn m i)
theorem swp_length (m : List Rn) (i k : Nat) : (swp m i k).length = m.length := by simp [swp]
theorem rn_swp {m : List Rn} {i k j : Nat} (hi : i < m.length) (hk : k < m.length) : rn (swp m i k) j = if j = k then rn m i else if j = i then rn m k else rn m j := by
  unfold swp
  conv => lhs; unfold rn
  rw [List.getD_eq_getElem?_getD, List.getElem?_set, List.getElem?_set]
  by_cases h1 : k = j
  · rw [if_pos h1, if_pos (show j = k from h1.symm), if_pos (by simp; omega)]; rfl
  · rw [if_neg h1, if_neg (show ¬ j = k from fun h => h1 h.symm)]
    by_cases h2 : i = j
    · rw [if_pos h2, if_pos (show j = i from h2.symm), if_pos (by omega)]; rfl
    · rw [if_neg h2, if_neg (show ¬ j = i from fun h => h2 h.symm)]
      unfold rn; rw [List.getD_eq_getElem?_getD]
/-- Which one stands there behind the change. -/
def sw (i k j : Nat) : Nat := if j = k then i else if j = i then k else j
theorem sw_sw (i k j : Nat) : sw i k (sw i k j) = j := by unfold sw; by_cases h1 : j = k <;> by_cases h2 : j = i <;> by_cases h3 : i = k <;> simp [h1, h2, h3] <;> omega
theorem sw_inj {i k a b : Nat} (h : sw i k a = sw i k b) : a = b := by
  have h1 : sw i k (sw i k a) = sw i k (sw i k b) := by rw [h]
  rwa [sw_sw, sw_sw] at h1
theorem rn_sw {m : List Rn} {i k j : Nat} (hi : i < m.length) (hk : k < m.length) : rn (swp m i k) j = rn m (sw i k j) := by
  rw [rn_swp hi hk]; unfold sw; split
  · rfl
  · split <;> rfl
theorem Cuts.swap {t i k : Nat} {m : List Rn} (h : Cuts t m) (hi : i < m.length) (hk : k < m.length) : Cuts t (swp m i k) := by
  have hs : ∀ j, j < m.length → sw i k j < m.length := fun j hj => by unfold sw; split <;> (try split) <;> omega
  refine ⟨fun j hj => ?_, fun a b ha hb hab x hx => ?_, fun x hx => ?_⟩
  · rw [swp_length] at hj; rw [rn_sw hi hk]; exact h.b _ (hs j hj)
  · rw [swp_length] at ha hb
    rw [rn_sw hi hk] at hx ⊢
    exact h.d _ _ (hs a ha) (hs b hb) (fun he => hab (sw_inj he)) x hx
  · obtain ⟨j, hj, h2⟩ := h.c x hx
    refine ⟨sw i k j, by rw [swp_length]; exact hs j hj, ?_⟩
    rw [rn_sw hi hk, sw_sw]
    exact h2
end Go.Proofs.Ytbfhoadhihlhjaa

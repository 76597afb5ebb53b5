/- Runs: plain laws for RunsGrow, the second part. -/
import Derived.Test.YtbfhoadhihlhjaaRnW1
import Derived.Test.YtbfhoadhihlhjaaRnF
import Derived.Deep.Cut
import Derived.Deep.CutRange
import Derived.Deep.QuietTactic
import Derived.BigQuiet
set_option linter.unusedSimpArgs false
set_option linter.unusedVariables false
namespace Go.Proofs.Ytbfhoadhihlhjaa
open Go.RowKit
/-- What Give does at place i of the second loop. -/
theorem grow_give {t i : Nat} {m l : List Rn} (hc : Cuts t m) (ht : t ≤ 200) (hi : i < m.length) (hw : Wf 200 l) (hh : ∀ k, has l k = (decide (t ≤ k ∧ k < 200) || (List.range i).any fun j => isin (rn m j) k)) :
    giveR 200 l ((rn m i).a : Nat) ((rn m i).n : Nat) = true ∧ (∀ k, has (giveL 200 l ((rn m i).a : Nat) ((rn m i).n : Nat)) k = (decide (t ≤ k ∧ k < 200) || (List.range (i + 1)).any fun j => isin (rn m j) k)) ∧
    giveR 200 (giveL 200 l ((rn m i).a : Nat) ((rn m i).n : Nat)) ((rn m i).a : Nat) ((rn m i).n : Nat) = false := by
  obtain ⟨b1, b2⟩ := hc.b i hi
  have hg : giveR 200 l ((rn m i).a : Nat) ((rn m i).n : Nat) = true := (give_iff hw _ _).2 ⟨known_iff.2 (by omega), fun k k1 k2 => by
    rw [hh k, Bool.or_eq_false_iff]
    refine ⟨by simp; omega, ?_⟩
    rw [List.any_eq_false]
    intro j hj
    have hj2 := List.mem_range.1 hj
    have := hc.d i j hi (by omega) (by omega) k (isin_iff.2 ⟨k1, k2⟩)
    rw [this]; decide⟩
  have hh2 := fun k => give_has hw hg k
  refine ⟨hg, fun k => ?_, ?_⟩
  · rw [hh2, hh, List.range_succ, List.any_append, Bool.or_assoc]
    congr 2
    simp [isin, btw]
  · cases h : giveR 200 (giveL 200 l ((rn m i).a : Nat) ((rn m i).n : Nat)) ((rn m i).a : Nat) ((rn m i).n : Nat) with
    | false => rfl
    | true =>
      have h3 := ((give_iff (give_wf hw _ _) _ _).1 h).2 (rn m i).a (Nat.le_refl _) (by omega)
      rw [hh2, btw_iff.2 ⟨Nat.le_refl _, by omega⟩] at h3
      simp at h3
theorem grow_end {t : Nat} {m l : List Rn} (hc : Cuts t m) (ht : t ≤ 200) (hw : Wf 200 l) (hh : ∀ k, has l k = (decide (t ≤ k ∧ k < 200) || (List.range m.length).any fun j => isin (rn m j) k)) : l = [⟨0, 200⟩] := by
  refine Wf.unique (bl := 200) hw (grow_wf 0) fun k => ?_
  rw [hh, show ([⟨0, 200⟩] : List Rn) = grow 0 from rfl, grow_has 0 k (by omega)]
  apply Bool.eq_iff_iff.2
  rw [Bool.or_eq_true, List.any_eq_true, decide_eq_true_eq, decide_eq_true_eq]
  constructor
  · rintro (h | ⟨j, hj, h⟩)
    · omega
    · have := hc.b j (List.mem_range.1 hj)
      have := isin_iff.1 h
      omega
  · intro h
    by_cases h1 : k < t
    · obtain ⟨j, hj, h2⟩ := hc.c k h1
      exact .inr ⟨j, List.mem_range.2 hj, h2⟩
    · exact .inl (by omega)
end Go.Proofs.Ytbfhoadhihlhjaa

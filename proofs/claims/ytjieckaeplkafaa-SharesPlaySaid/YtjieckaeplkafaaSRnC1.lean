/- Runs: plain laws for RunsCopies: what is free against an array of Booleans. -/
import Derived.Test.YtjieckaeplkafaaSRnA
import Derived.Test.YtjieckaeplkafaaUntil
import Derived.Deep.WholeRow
set_option linter.unusedSimpArgs false
set_option linter.unusedVariables false
namespace Go.Proofs.Ytjieckaeplkafaa
open Go.RowKit
def bools (tk : List Bool) : Array Value := (tk.map Value.bool).toArray
theorem bools_size (tk : List Bool) : (bools tk).size = tk.length := by simp [bools]
theorem bools_at {tk : List Bool} {k : Nat} (h : k < tk.length) : (bools tk)[k]? = some (.bool (tk.getD k false)) := by
  simp [bools, List.getElem?_eq_getElem h]
theorem bools_set (tk : List Bool) (k : Nat) (v : Bool) : (bools tk).setIfInBounds k (.bool v) = bools (tk.set k v) := by
  simp [bools, List.map_set]
theorem bools_cell (tk : List Bool) : (bools tk).all (·.oneCell') = true := by
  simp [bools, Value.oneCell']
theorem getD_set {tk : List Bool} {k : Nat} {v : Bool} {j : Nat} (hk : k < tk.length) : (tk.set k v).getD j false = if j = k then v else tk.getD j false := by
  rw [List.getD_eq_getElem?_getD, List.getD_eq_getElem?_getD, List.getElem?_set]
  by_cases h : k = j
  · subst h; simp [hk]
  · rw [if_neg h, if_neg (fun e => h e.symm)]
/-- Free is just what is not taken. -/
def Free (bl : Nat) (L : List Rn) (tk : List Bool) : Prop := Wf bl L ∧ tk.length = bl ∧ ∀ j, has L j = (decide (j < bl) && !tk.getD j false)
theorem btw_one {k j : Nat} : btw k 1 j = decide (j = k) := by
  unfold btw; apply decide_eq_decide.2; omega
theorem Free.mark {bl k : Nat} {L : List Rn} {tk : List Bool} (h : Free bl L tk) (hk : k < bl) : markR bl L (k : Nat) 1 = !tk.getD k false ∧ Free bl (markL bl L (k : Nat) 1) (tk.set k true) := by
  obtain ⟨h1, h2, h3⟩ := h
  show markR bl L (k : Nat) ((1 : Nat) : Int) = _ ∧ Free bl (markL bl L (k : Nat) ((1 : Nat) : Int)) _
  have hkn : knownB bl (k : Nat) ((1 : Nat) : Int) = true := known_iff.2 (by omega)
  cases hb : tk.getD k false with
  | false =>
    have hr : markR bl L (k : Nat) ((1 : Nat) : Int) = true := (mark_iff h1 _ _).2 ⟨hkn, fun j j1 j2 => by
      obtain rfl : j = k := by omega
      rw [h3, hb]; simp [hk]⟩
    refine ⟨hr, mark_wf h1 _ _, by simpa using h2, fun j => ?_⟩
    rw [mark_has h1 hr, h3, btw_one, getD_set (by omega)]
    by_cases hj : j = k
    · simp [hj]
    · simp [hj]
  | true =>
    have hr : markR bl L (k : Nat) ((1 : Nat) : Int) = false := by
      cases hr : markR bl L (k : Nat) ((1 : Nat) : Int) with
      | false => rfl
      | true =>
        have := ((mark_iff h1 _ _).1 hr).2 k (Nat.le_refl _) (by omega)
        rw [h3, hb] at this
        simp at this
    refine ⟨hr, mark_wf h1 _ _, by simpa using h2, fun j => ?_⟩
    rw [mark_not hr, h3, getD_set (by omega)]
    by_cases hj : j = k
    · subst hj; rw [hb, if_pos rfl]
    · rw [if_neg hj]
theorem Free.give {bl k : Nat} {L : List Rn} {tk : List Bool} (h : Free bl L tk) (hk : k < bl) : giveR bl L (k : Nat) 1 = tk.getD k false ∧ Free bl (giveL bl L (k : Nat) 1) (tk.set k false) := by
  obtain ⟨h1, h2, h3⟩ := h
  show giveR bl L (k : Nat) ((1 : Nat) : Int) = _ ∧ Free bl (giveL bl L (k : Nat) ((1 : Nat) : Int)) _
  have hkn : knownB bl (k : Nat) ((1 : Nat) : Int) = true := known_iff.2 (by omega)
  cases hb : tk.getD k false with
  | true =>
    have hr : giveR bl L (k : Nat) ((1 : Nat) : Int) = true := (give_iff h1 _ _).2 ⟨hkn, fun j j1 j2 => by
      obtain rfl : j = k := by omega
      rw [h3, hb]; simp⟩
    refine ⟨hr, give_wf h1 _ _, by simpa using h2, fun j => ?_⟩
    rw [give_has h1 hr, h3, btw_one, getD_set (by omega)]
    by_cases hj : j = k
    · simp [hj, hk]
    · simp [hj]
  | false =>
    have hr : giveR bl L (k : Nat) ((1 : Nat) : Int) = false := by
      cases hr : giveR bl L (k : Nat) ((1 : Nat) : Int) with
      | false => rfl
      | true =>
        have := ((give_iff h1 _ _).1 hr).2 k (Nat.le_refl _) (by omega)
        rw [h3, hb] at this
        simp [hk] at this
    refine ⟨hr, give_wf h1 _ _, by simpa using h2, fun j => ?_⟩
    rw [give_not hr, h3, getD_set (by omega)]
    by_cases hj : j = k
    · subst hj; rw [hb, if_pos rfl]
    · rw [if_neg hj]
theorem Free.start : Free 50 [⟨0, 50⟩] (List.replicate 50 false) := by
  refine ⟨⟨by decide, ⟨Nat.zero_le _, by decide, trivial⟩, fun r hr => by rw [List.mem_singleton] at hr; subst hr; decide⟩, by simp, fun j => ?_⟩
  rw [has_cons, has_nil, Bool.or_false, show (List.replicate 50 false).getD j false = false by
    rw [List.getD_eq_getElem?_getD, List.getElem?_replicate]; split <;> rfl]
  by_cases hj : j < 50
  · simp [isin, hj]
  · simp [isin, hj]
/-- Marked up to k. -/
def Mkd (k : Nat) (ck was : List Bool) : Prop := ∀ j, j < 50 → ck.getD j false = (decide (j < k) || was.getD j false)
theorem Mkd.zero (tk : List Bool) : Mkd 0 tk tk := fun j _ => by simp
theorem Mkd.at {k : Nat} {ck was : List Bool} (h : Mkd k ck was) (hk : k < 50) : ck.getD k false = was.getD k false := by rw [h k hk]; simp
theorem Mkd.succ {k : Nat} {ck was : List Bool} (h : Mkd k ck was) (hk : k < 50) (hl : ck.length = 50) : Mkd (k + 1) (ck.set k true) was := fun j hj => by
  rw [getD_set (by omega), h j hj]
  by_cases h1 : j = k
  · simp [h1]
  · rw [if_neg h1]; congr 1; apply decide_eq_decide.2; omega
theorem Free.full {L : List Rn} {ck was : List Bool} (h : Free 50 L ck) (hm : Mkd 50 ck was) : L = [] := by
  refine Wf.unique (bl := 50) h.1 ⟨by decide, trivial, fun r hr => by simp at hr⟩ fun j => ?_
  rw [h.2.2, has_nil]
  by_cases hj : j < 50
  · rw [hm j hj]; simp [hj]
  · simp [hj]
/-- How many are not taken. -/
def cntF (tk : List Bool) : Nat := tk.countP (fun b => !b)
theorem cnt_set : ∀ {tk : List Bool} {k : Nat}, k < tk.length → tk.getD k false = false → cntF (tk.set k true) + 1 = cntF tk
  | [], k, h, _ => absurd h (by simp)
  | b :: tk, 0, _, h => by
    obtain rfl : b = false := h
    simp [cntF]
  | b :: tk, k + 1, h, h2 => by
    have ih := cnt_set (tk := tk) (k := k) (by simpa using h) h2
    unfold cntF at ih ⊢
    cases b <;> simp at ih ⊢ <;> omega
theorem set_same : ∀ {tk : List Bool} {k : Nat} {b : Bool}, k < tk.length → tk.getD k false = b → tk.set k b = tk
  | [], k, _, h, _ => absurd h (by simp)
  | a :: tk, 0, b, _, h => by
    obtain rfl : a = b := h
    rfl
  | a :: tk, k + 1, b, h, h2 => by
    show a :: tk.set k b = _
    rw [set_same (tk := tk) (k := k) (by simpa using h) h2]
theorem cnt_le (tk : List Bool) : cntF tk ≤ tk.length := List.countP_le_length
theorem run_load_blk {P : Program} {w : World} {g : Nat} {c : Array Value} {t : TypeId} {n : Nat} {e : TypeId} (h : Blk w g c t) (hu : P.underlying t = some (.array n e)) (hi : (P.info? t).map (·.size) = some c.size) :
    (Instr.loadAt t (.pointer (some ⟨g, 0, none⟩))).run P w = .ok (.agg c) w ∧ (loadVar t ⟨g, 0, none⟩).run P w = .ok (.agg c) w := by
  have h1 := run_loadVar_row w g t t c (0, 0) _ h hu rfl hi
  refine ⟨?_, h1⟩
  simp only [Instr.loadAt, Instr.sureAddr, Sem.run_bind, Sem.run_pure, Result.andThen]
  exact h1
end Go.Proofs.Ytjieckaeplkafaa

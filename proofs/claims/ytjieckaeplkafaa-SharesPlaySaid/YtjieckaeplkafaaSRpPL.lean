/- Runs: plain laws for the reference's Runs: an array of Booleans against a list of runs. -/
import Derived.Test.YtjieckaeplkafaaSRnC1
set_option linter.unusedSimpArgs false
set_option linter.unusedVariables false
namespace Go.Proofs.Ytjieckaeplkafaa
open Go.RowKit
theorem sumN_eq (l : List Rn) : sumN l = (l.map Rn.n).sum := by unfold sumN frN; rw [List.take_length]
theorem getD_ge {F : List Bool} {j : Nat} (h : F.length ≤ j) : F.getD j false = false := by
  rw [List.getD_eq_getElem?_getD, List.getElem?_eq_none h]; rfl
/-- The list has just the blocks that are true. -/
def Fre (bl : Nat) (L : List Rn) (F : List Bool) : Prop := Wf bl L ∧ F.length = bl ∧ ∀ j, has L j = F.getD j false
/-- From a on k are set. -/
def SetR (F F' : List Bool) (a k : Nat) (v : Bool) : Prop := F'.length = F.length ∧ ∀ j, F'.getD j false = if a ≤ j ∧ j < a + k then v else F.getD j false
theorem SetR.zero (F : List Bool) (a : Nat) (v : Bool) : SetR F F a 0 v := ⟨rfl, fun j => by rw [if_neg (by omega)]⟩
theorem SetR.succ {F F' : List Bool} {a k : Nat} {v : Bool} (h : SetR F F' a k v) (hk : a + k < F.length) : SetR F (F'.set (a + k) v) a (k + 1) v := by
  refine ⟨by rw [List.length_set, h.1], fun j => ?_⟩
  rw [getD_set (by rw [h.1]; exact hk), h.2]
  by_cases h1 : j = a + k
  · rw [if_pos h1, if_pos (by omega)]
  · rw [if_neg h1]
    by_cases h2 : a ≤ j ∧ j < a + k
    · rw [if_pos h2, if_pos (by omega)]
    · rw [if_neg h2, if_neg (by omega)]
/-- What 'all' answers. -/
def allB (F : List Bool) (a n : Int) (v : Bool) : Bool := decide (0 ≤ a ∧ 1 ≤ n ∧ a < F.length ∧ n ≤ F.length - a) && (List.range n.toNat).all fun j => F.getD (a.toNat + j) false == v
theorem all_iff {F : List Bool} {a n : Nat} {v : Bool} : allB F (a : Nat) (n : Nat) v = true ↔ (1 ≤ n ∧ a + n ≤ F.length) ∧ ∀ k, a ≤ k → k < a + n → F.getD k false = v := by
  unfold allB
  rw [Bool.and_eq_true, decide_eq_true_eq, List.all_eq_true]
  simp only [Int.toNat_natCast, List.mem_range, beq_iff_eq]
  constructor
  · rintro ⟨h1, h2⟩
    refine ⟨by omega, fun k k1 k2 => ?_⟩
    have := h2 (k - a) (by omega)
    rwa [show a + (k - a) = k by omega] at this
  · rintro ⟨h1, h2⟩
    exact ⟨by omega, fun j hj => h2 _ (by omega) (by omega)⟩
theorem nats_of {F : List Bool} {bl : Nat} {a n : Int} (hF : F.length = bl) (h : ¬ (0 ≤ a ∧ 1 ≤ n ∧ n ≤ bl ∧ a ≤ bl - n)) (v : Bool) : allB F a n v = false := by
  unfold allB
  rw [decide_eq_false (by omega), Bool.false_and]
theorem Fre.all_mark {bl : Nat} {L : List Rn} {F : List Bool} (h : Fre bl L F) (a n : Int) : allB F a n true = markR bl L a n := by
  by_cases hk : 0 ≤ a ∧ 1 ≤ n ∧ n ≤ bl ∧ a ≤ bl - n
  · obtain ⟨X, rfl⟩ : ∃ X : Nat, a = X := ⟨a.toNat, by omega⟩
    obtain ⟨N, rfl⟩ : ∃ N : Nat, n = N := ⟨n.toNat, by omega⟩
    apply Bool.eq_iff_iff.2
    rw [all_iff, mark_iff h.1, known_iff, h.2.1]
    constructor
    · rintro ⟨h1, h2⟩; exact ⟨hk, fun k k1 k2 => by rw [h.2.2]; exact h2 k k1 k2⟩
    · rintro ⟨h1, h2⟩; exact ⟨by omega, fun k k1 k2 => by rw [← h.2.2]; exact h2 k k1 k2⟩
  · rw [nats_of h.2.1 hk]
    unfold markR
    rw [show knownB bl a n = false from by unfold knownB; exact decide_eq_false hk, Bool.false_and]
theorem Fre.all_give {bl : Nat} {L : List Rn} {F : List Bool} (h : Fre bl L F) (a n : Int) : allB F a n false = giveR bl L a n := by
  by_cases hk : 0 ≤ a ∧ 1 ≤ n ∧ n ≤ bl ∧ a ≤ bl - n
  · obtain ⟨X, rfl⟩ : ∃ X : Nat, a = X := ⟨a.toNat, by omega⟩
    obtain ⟨N, rfl⟩ : ∃ N : Nat, n = N := ⟨n.toNat, by omega⟩
    apply Bool.eq_iff_iff.2
    rw [all_iff, give_iff h.1, known_iff, h.2.1]
    constructor
    · rintro ⟨h1, h2⟩; exact ⟨hk, fun k k1 k2 => by rw [h.2.2]; exact h2 k k1 k2⟩
    · rintro ⟨h1, h2⟩; exact ⟨by omega, fun k k1 k2 => by rw [← h.2.2]; exact h2 k k1 k2⟩
  · rw [nats_of h.2.1 hk]
    unfold giveR
    rw [show knownB bl a n = false from by unfold knownB; exact decide_eq_false hk, Bool.false_and]
theorem Fre.mark {bl a n : Nat} {L : List Rn} {F F' : List Bool} (h : Fre bl L F) (hr : allB F (a : Nat) (n : Nat) true = true) (hs : SetR F F' a n false) : Fre bl (markL bl L (a : Nat) (n : Nat)) F' := by
  rw [h.all_mark] at hr
  refine ⟨mark_wf h.1 _ _, by rw [hs.1]; exact h.2.1, fun j => ?_⟩
  rw [mark_has h.1 hr, hs.2, h.2.2]
  unfold btw
  by_cases hj : a ≤ j ∧ j < a + n
  · rw [if_pos hj, decide_eq_true hj]; simp
  · rw [if_neg hj, decide_eq_false hj]; simp
theorem Fre.give {bl a n : Nat} {L : List Rn} {F F' : List Bool} (h : Fre bl L F) (hr : allB F (a : Nat) (n : Nat) false = true) (hs : SetR F F' a n true) : Fre bl (giveL bl L (a : Nat) (n : Nat)) F' := by
  rw [h.all_give] at hr
  refine ⟨give_wf h.1 _ _, by rw [hs.1]; exact h.2.1, fun j => ?_⟩
  rw [give_has h.1 hr, hs.2, h.2.2]
  unfold btw
  by_cases hj : a ≤ j ∧ j < a + n
  · rw [if_pos hj, decide_eq_true hj]; simp
  · rw [if_neg hj, decide_eq_false hj]; simp
theorem Fre.mark0 {bl : Nat} {a n : Int} {L : List Rn} {F : List Bool} (h : Fre bl L F) (hr : allB F a n true = false) : Fre bl (markL bl L a n) F := by
  rw [h.all_mark] at hr
  unfold markL
  rw [if_neg (by rw [hr]; decide)]
  exact h
theorem Fre.give0 {bl : Nat} {a n : Int} {L : List Rn} {F : List Bool} (h : Fre bl L F) (hr : allB F a n false = false) : Fre bl (giveL bl L a n) F := by
  rw [h.all_give] at hr
  unfold giveL
  rw [if_neg (by rw [hr]; decide)]
  exact h
theorem Fre.take {bl n : Nat} {L : List Rn} {F F' : List Bool} (h : Fre bl L F) (hi : takeI L (n : Nat) < L.length) (hs : SetR F F' (rn L (takeI L (n : Nat))).a n false) : Fre bl (takeL L (n : Nat)) F' := by
  refine ⟨take_wf h.1 _, by rw [hs.1]; exact h.2.1, fun j => ?_⟩
  rw [(take_has h.1 _ hi j).1, hs.2, h.2.2, Int.toNat_natCast]
  unfold btw
  by_cases hj : (rn L (takeI L (n : Nat))).a ≤ j ∧ j < (rn L (takeI L (n : Nat))).a + n
  · rw [if_pos hj, decide_eq_true hj]; simp
  · rw [if_neg hj, decide_eq_false hj]; simp
theorem Fre.take0 {bl : Nat} {n : Int} {L : List Rn} {F : List Bool} (h : Fre bl L F) (hi : ¬ takeI L n < L.length) : Fre bl (takeL L n) F := by
  unfold takeL
  rw [if_neg hi]
  exact h
/-- Where a run is looked for. -/
theorem takeI_at {L : List Rn} {n : Int} {i : Nat} (hn : 1 ≤ n) (hi : i < L.length) (h : ∀ j, j < i → ¬ n ≤ ((rn L j).n : Int)) (h2 : n ≤ ((rn L i).n : Int)) : takeI L n = i := by
  unfold takeI
  rw [if_pos hn]
  have h3 : ∀ j, j < i → fits n (rn L j) = false := fun j hj => decide_eq_false (h j hj)
  have h4 : fits n (rn L i) = true := decide_eq_true h2
  apply Nat.le_antisymm
  · refine Nat.le_of_not_lt fun hc => ?_
    have := List.not_of_lt_findIdx hc
    rw [← rn_eq hi, h4] at this
    simp at this
  · refine Nat.le_of_not_lt fun hc => ?_
    have h5 := List.findIdx_getElem (xs := L) (p := fits n) (w := Nat.lt_trans hc hi)
    rw [← rn_eq, h3 _ hc] at h5
    cases h5
theorem takeI_no {L : List Rn} {n : Int} (h : ∀ j, j < L.length → ¬ (1 ≤ n ∧ n ≤ ((rn L j).n : Int))) : ¬ takeI L n < L.length := by
  unfold takeI
  split
  · rename_i h1
    intro hc
    have h5 := List.findIdx_getElem (xs := L) (p := fits n) (w := hc)
    rw [← rn_eq] at h5
    exact h _ hc ⟨h1, of_decide_eq_true h5⟩
  · exact Nat.lt_irrefl _
/-- The list that is made, up to place i. -/
def LInv (F : List Bool) (i : Nat) (l : List Rn) : Prop := norm 0 l ∧ (∀ r ∈ l, r.a + r.n ≤ i) ∧ (∀ j, has l j = (decide (j < i) && F.getD j false)) ∧ l.length ≤ i
theorem LInv.zero (F : List Bool) : LInv F 0 [] := ⟨trivial, fun r hr => by simp at hr, fun j => by simp [has_nil], by simp⟩
theorem LInv.skip {F : List Bool} {i : Nat} {l : List Rn} (h : LInv F i l) (hf : F.getD i false = false) : LInv F (i + 1) l := by
  obtain ⟨h1, h2, h3, h4⟩ := h
  refine ⟨h1, fun r hr => by have := h2 r hr; omega, fun j => ?_, by omega⟩
  rw [h3]
  by_cases hj : j = i
  · subst hj; rw [hf]; simp
  · congr 1; apply decide_eq_decide.2; omega
theorem nxt_last {lo : Nat} {l : List Rn} (h : 0 < l.length) : nxt lo l = (rn l (l.length - 1)).a + (rn l (l.length - 1)).n + 1 := by
  have := nxt_take (lo := lo) (l := l) (i := l.length) h (Nat.le_refl _)
  rwa [List.take_length] at this
theorem LInv.add {F : List Bool} {i : Nat} {l : List Rn} (h : LInv F i l) (hf : F.getD i false = true) (he : 0 < l.length → (rn l (l.length - 1)).a + (rn l (l.length - 1)).n ≠ i) : LInv F (i + 1) (l ++ [⟨i, 1⟩]) := by
  obtain ⟨h1, h2, h3, h4⟩ := h
  refine ⟨norm_append.2 ⟨h1, ?_, Nat.le_refl _, trivial⟩, fun r hr => ?_, fun j => ?_, by rw [List.length_append, List.length_singleton]; omega⟩
  · show nxt 0 l ≤ i
    by_cases h0 : 0 < l.length
    · rw [nxt_last h0]
      have := he h0
      have := h2 _ (mem_rn (show l.length - 1 < l.length by omega))
      omega
    · obtain rfl : l = [] := List.eq_nil_of_length_eq_zero (by omega)
      exact Nat.zero_le _
  · rcases List.mem_append.1 hr with h | h
    · have := h2 r h; omega
    · rw [List.mem_singleton] at h; subst h; exact Nat.le_refl _
  · rw [has_append, h3, has_cons, has_nil, Bool.or_false]
    by_cases hj : j = i
    · subst hj; rw [hf]; simp [isin]
    · rw [show isin ⟨i, 1⟩ j = false from decide_eq_false (by dsimp only; omega), Bool.or_false]
      congr 1; apply decide_eq_decide.2; omega
theorem LInv.grow {F : List Bool} {i : Nat} {l : List Rn} (h : LInv F i l) (hf : F.getD i false = true) (h0 : 0 < l.length) (he : (rn l (l.length - 1)).a + (rn l (l.length - 1)).n = i) :
    LInv F (i + 1) (l.set (l.length - 1) ⟨(rn l (l.length - 1)).a, (rn l (l.length - 1)).n + 1⟩) := by
  obtain ⟨h1, h2, h3, h4⟩ := h
  obtain ⟨p, r, rfl⟩ : ∃ p r, l = p ++ [r] := ⟨l.dropLast, l.getLast (by intro h; subst h; simp at h0), (List.dropLast_concat_getLast _).symm⟩
  have hlen : (p ++ [r]).length - 1 = p.length := by simp
  rw [hlen] at he ⊢
  have hr : rn (p ++ [r]) p.length = r := by unfold rn; rw [List.getD_eq_getElem?_getD]; simp
  rw [hr] at he ⊢
  have hs : (p ++ [r]).set p.length ⟨r.a, r.n + 1⟩ = p ++ [⟨r.a, r.n + 1⟩] := by
    rw [List.set_append_right _ _ (Nat.le_refl _), Nat.sub_self]; rfl
  rw [hs]
  obtain ⟨n1, n2⟩ := norm_append.1 h1
  refine ⟨norm_append.2 ⟨n1, n2.1, by show 1 ≤ r.n + 1; omega, trivial⟩, fun x hx => ?_, fun j => ?_, by simp at h4 ⊢; omega⟩
  · rcases List.mem_append.1 hx with h | h
    · have := h2 x (List.mem_append_left _ h); omega
    · rw [List.mem_singleton] at h; subst h; dsimp only; omega
  · have h5 := h3 j
    rw [has_append, has_cons, has_nil, Bool.or_false] at h5 ⊢
    by_cases hj : j = i
    · subst hj
      rw [hf, show isin ⟨r.a, r.n + 1⟩ j = true from decide_eq_true (by dsimp only; omega)]; simp
    · rw [show isin ⟨r.a, r.n + 1⟩ j = isin r j from decide_eq_decide.2 (by dsimp only; omega), h5]
      congr 1; apply decide_eq_decide.2; omega
theorem LInv.end {bl : Nat} {F : List Bool} {l L : List Rn} (h : LInv F bl l) (hF : Fre bl L F) : l = L := by
  refine Wf.unique (bl := bl) ⟨hF.1.1, h.1, h.2.1⟩ hF.1 fun j => ?_
  rw [h.2.2.1, hF.2.2]
  by_cases hj : j < bl
  · rw [decide_eq_true hj, Bool.true_and]
  · rw [getD_ge (by rw [hF.2.1]; omega), Bool.and_false]
/-- How many are true. -/
def cntT (F : List Bool) (i : Nat) : Nat := (List.range i).countP fun j => F.getD j false
theorem cntT_succ (F : List Bool) (i : Nat) : cntT F (i + 1) = cntT F i + if F.getD i false = true then 1 else 0 := by
  unfold cntT
  rw [List.range_succ, List.countP_append]
  simp [List.countP_cons]
theorem cntT_le (F : List Bool) (i : Nat) : cntT F i ≤ i := by
  have := List.countP_le_length (p := fun j => F.getD j false) (l := List.range i)
  rwa [List.length_range] at this
theorem count_in (a n : Nat) : ∀ b, (List.range b).countP (fun j => isin ⟨a, n⟩ j) = min (b - a) n
  | 0 => by simp
  | b + 1 => by
    rw [List.range_succ, List.countP_append, count_in a n b, List.countP_cons, List.countP_nil]
    by_cases h : a ≤ b ∧ b < a + n
    · rw [if_pos (isin_iff.2 h)]; omega
    · rw [if_neg (fun e => h (isin_iff.1 e))]; omega
theorem count_or {p q : Nat → Bool} : ∀ (xs : List Nat), (∀ x, p x = true → q x = false) → xs.countP (fun x => p x || q x) = xs.countP p + xs.countP q
  | [], _ => rfl
  | x :: xs, h => by
    rw [List.countP_cons, List.countP_cons, List.countP_cons, count_or xs h]
    cases hp : p x with
    | true => rw [h x hp]; simp; omega
    | false => cases q x <;> simp <;> omega
theorem count_has {bl : Nat} : ∀ {lo : Nat} {l : List Rn}, norm lo l → (∀ r ∈ l, r.a + r.n ≤ bl) → (List.range bl).countP (has l) = (l.map Rn.n).sum
  | _, [], _, _ => by
    rw [List.map_nil, List.sum_nil, List.countP_eq_zero]; intro x _; rw [has_nil]; decide
  | lo, r :: l, hn, he => by
    have hd : ∀ x, isin r x = true → has l x = false := fun x hx => by
      cases h : has l x with
      | false => rfl
      | true => have := has_ge hn.2.2 h; have := isin_iff.1 hx; omega
    have e1 : (List.range bl).countP (has (r :: l)) = (List.range bl).countP (fun x => isin r x || has l x) := rfl
    have := he r List.mem_cons_self
    rw [e1, count_or _ hd, count_has hn.2.2 (fun x hx => he x (List.mem_cons_of_mem _ hx)), List.map_cons, List.sum_cons, count_in r.a r.n]
    omega
theorem Fre.sum {bl : Nat} {L : List Rn} {F : List Bool} (h : Fre bl L F) : cntT F bl = sumN L := by
  rw [sumN_eq, ← count_has h.1.2.1 h.1.2.2]
  unfold cntT
  congr 1
  funext j
  exact (h.2.2 j).symm
theorem Fre.new (b : Int) : Fre (newBl b) (newL b) (List.replicate (newBl b) true) := by
  refine ⟨newL_wf b, by simp, fun j => ?_⟩
  rw [List.getD_eq_getElem?_getD, List.getElem?_replicate]
  unfold newL newBl
  split
  · rw [has_cons, has_nil, Bool.or_false]
    by_cases hj : j < b.toNat
    · rw [if_pos hj]; exact decide_eq_true ⟨Nat.zero_le _, by dsimp only; omega⟩
    · rw [if_neg hj]; exact decide_eq_false (by dsimp only; omega)
  · rw [if_neg (by omega)]; rfl
end Go.Proofs.Ytjieckaeplkafaa

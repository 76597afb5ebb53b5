/- The texts VSRpPL, VShP of this proof, one behind the other. Conditions: those of each. -/
import Derived.Test.YtgoghmblfdlnbaaGreatGR14
import Derived.Test.YtgoghmblfdlnbaaGreatGR15
section
/- Runs: plain laws for the reference's Runs: an array of Booleans against a list of runs. -/
set_option linter.unusedSimpArgs false
set_option linter.unusedVariables false
namespace Go.Proofs.YtgoghmblfdlnbaaGreat
open Go.RowKit
theorem sumN_eq (l : List Rn) : sumN l = (l.map Rn.n).sum := by unfold sumN frN; rw [List.take_length]
theorem getD_ge {F : List Bool} {j : Nat} (h : F.length ≤ j) : F.getD j false = false := by
  rw [List.getD_eq_getElem?_getD, List.getElem?_eq_none h]; rfl
/-- The list has just the blocks that are true. -/
def Fre (bl : Nat) (L : List Rn) (F : List Bool) : Prop := Wf bl L ∧ F.length = bl ∧ ∀ j, has L j = F.getD j false
/-- From a on k are set. -/
def SetR (F F' : List Bool) (a k : Nat) (v : Bool) : Prop := F'.length = F.length ∧ ∀ j, F'.getD j false = if a ≤ j ∧ j < a + k then v else F.getD j false
theorem SetR.zero (F : List Bool) (a : Nat) (v : Bool) : SetR F F a 0 v := ⟨rfl, fun j => by rw [if_neg (by omega)]⟩
theorem SetR.succ {F F' : List Bool} {a k : Nat} {v : Bool} (h : SetR F F' a k v) (hk : a + k < F.length) : SetR F (F'.set (a + k) v) a (k + 1) v := by
  refine ⟨by rw [List.length_set, h.1], fun j => ?_⟩
  rw [getD_set (by rw [h.1]; exact hk), h.2]
  by_cases h1 : j = a + k
  · rw [if_pos h1, if_pos (by omega)]
  · rw [if_neg h1]
    by_cases h2 : a ≤ j ∧ j < a + k
    · rw [if_pos h2, if_pos (by omega)]
    · rw [if_neg h2, if_neg (by omega)]
/-- What 'all' answers. -/
def allB (F : List Bool) (a n : Int) (v : Bool) : Bool := decide (0 ≤ a ∧ 1 ≤ n ∧ a < F.length ∧ n ≤ F.length - a) && (List.range n.toNat).all fun j => F.getD (a.toNat + j) false == v
theorem all_iff {F : List Bool} {a n : Nat} {v : Bool} : allB F (a : Nat) (n : Nat) v = true ↔ (1 ≤ n ∧ a + n ≤ F.length) ∧ ∀ k, a ≤ k → k < a + n → F.getD k false = v := by
  unfold allB
  rw [Bool.and_eq_true, decide_eq_true_eq, List.all_eq_true]
  simp only [Int.toNat_natCast, List.mem_range, beq_iff_eq]
  constructor
  · rintro ⟨h1, h2⟩
    refine ⟨by omega, fun k k1 k2 => ?_⟩
    have := h2 (k - a) (by omega)
    rwa [show a + (k - a) = k by omega] at this
  · rintro ⟨h1, h2⟩
    exact ⟨by omega, fun j hj => h2 _ (by omega) (by omega)⟩
theorem nats_of {F : List Bool} {bl : Nat} {a n : Int} (hF : F.length = bl) (h : ¬ (0 ≤ a ∧ 1 ≤ n ∧ n ≤ bl ∧ a ≤ bl - n)) (v : Bool) : allB F a n v = false := by
  unfold allB
  rw [decide_eq_false (by omega), Bool.false_and]
theorem Fre.all_mark {bl : Nat} {L : List Rn} {F : List Bool} (h : Fre bl L F) (a n : Int) : allB F a n true = markR bl L a n := by
  by_cases hk : 0 ≤ a ∧ 1 ≤ n ∧ n ≤ bl ∧ a ≤ bl - n
  · obtain ⟨X, rfl⟩ : ∃ X : Nat, a = X := ⟨a.toNat, by omega⟩
    obtain ⟨N, rfl⟩ : ∃ N : Nat, n = N := ⟨n.toNat, by omega⟩
    apply Bool.eq_iff_iff.2
    rw [all_iff, mark_iff h.1, known_iff, h.2.1]
    constructor
    · rintro ⟨h1, h2⟩; exact ⟨hk, fun k k1 k2 => by rw [h.2.2]; exact h2 k k1 k2⟩
    · rintro ⟨h1, h2⟩; exact ⟨by omega, fun k k1 k2 => by rw [← h.2.2]; exact h2 k k1 k2⟩
  · rw [nats_of h.2.1 hk]
    unfold markR
    rw [show knownB bl a n = false from by unfold knownB; exact decide_eq_false hk, Bool.false_and]
theorem Fre.all_give {bl : Nat} {L : List Rn} {F : List Bool} (h : Fre bl L F) (a n : Int) : allB F a n false = giveR bl L a n := by
  by_cases hk : 0 ≤ a ∧ 1 ≤ n ∧ n ≤ bl ∧ a ≤ bl - n
  · obtain ⟨X, rfl⟩ : ∃ X : Nat, a = X := ⟨a.toNat, by omega⟩
    obtain ⟨N, rfl⟩ : ∃ N : Nat, n = N := ⟨n.toNat, by omega⟩
    apply Bool.eq_iff_iff.2
    rw [all_iff, give_iff h.1, known_iff, h.2.1]
    constructor
    · rintro ⟨h1, h2⟩; exact ⟨hk, fun k k1 k2 => by rw [h.2.2]; exact h2 k k1 k2⟩
    · rintro ⟨h1, h2⟩; exact ⟨by omega, fun k k1 k2 => by rw [← h.2.2]; exact h2 k k1 k2⟩
  · rw [nats_of h.2.1 hk]
    unfold giveR
    rw [show knownB bl a n = false from by unfold knownB; exact decide_eq_false hk, Bool.false_and]
theorem Fre.mark {bl a n : Nat} {L : List Rn} {F F' : List Bool} (h : Fre bl L F) (hr : allB F (a : Nat) (n : Nat) true = true) (hs : SetR F F' a n false) : Fre bl (markL bl L (a : Nat) (n : Nat)) F' := by
  rw [h.all_mark] at hr
  refine ⟨mark_wf h.1 _ _, by rw [hs.1]; exact h.2.1, fun j => ?_⟩
  rw [mark_has h.1 hr, hs.2, h.2.2]
  unfold btw
  by_cases hj : a ≤ j ∧ j < a + n
  · rw [if_pos hj, decide_eq_true hj]; simp
  · rw [if_neg hj, decide_eq_false hj]; simp
theorem Fre.give {bl a n : Nat} {L : List Rn} {F F' : List Bool} (h : Fre bl L F) (hr : allB F (a : Nat) (n : Nat) false = true) (hs : SetR F F' a n true) : Fre bl (giveL bl L (a : Nat) (n : Nat)) F' := by
  rw [h.all_give] at hr
  refine ⟨give_wf h.1 _ _, by rw [hs.1]; exact h.2.1, fun j => ?_⟩
  rw [give_has h.1 hr, hs.2, h.2.2]
  unfold btw
  by_cases hj : a ≤ j ∧ j < a + n
  · rw [if_pos hj, decide_eq_true hj]; simp
  · rw [if_neg hj, decide_eq_false hj]; simp
theorem Fre.mark0 {bl : Nat} {a n : Int} {L : List Rn} {F : List Bool} (h : Fre bl L F) (hr : allB F a n true = false) : Fre bl (markL bl L a n) F := by
  rw [h.all_mark] at hr
  unfold markL
  rw [if_neg (by rw [hr]; decide)]
  exact h
theorem Fre.give0 {bl : Nat} {a n : Int} {L : List Rn} {F : List Bool} (h : Fre bl L F) (hr : allB F a n false = false) : Fre bl (giveL bl L a n) F := by
  rw [h.all_give] at hr
  unfold giveL
  rw [if_neg (by rw [hr]; decide)]
  exact h
theorem Fre.take {bl n : Nat} {L : List Rn} {F F' : List Bool} (h : Fre bl L F) (hi : takeI L (n : Nat) < L.length) (hs : SetR F F' (rn L (takeI L (n : Nat))).a n false) : Fre bl (takeL L (n : Nat)) F' := by
  refine ⟨take_wf h.1 _, by rw [hs.1]; exact h.2.1, fun j => ?_⟩
  rw [(take_has h.1 _ hi j).1, hs.2, h.2.2, Int.toNat_natCast]
  unfold btw
  by_cases hj : (rn L (takeI L (n : Nat))).a ≤ j ∧ j < (rn L (takeI L (n : Nat))).a + n
  · rw [if_pos hj, decide_eq_true hj]; simp
  · rw [if_neg hj, decide_eq_false hj]; simp
theorem Fre.take0 {bl : Nat} {n : Int} {L : List Rn} {F : List Bool} (h : Fre bl L F) (hi : ¬ takeI L n < L.length) : Fre bl (takeL L n) F := by
  unfold takeL
  rw [if_neg hi]
  exact h
/-- Where a run is looked for. -/
theorem takeI_at {L : List Rn} {n : Int} {i : Nat} (hn : 1 ≤ n) (hi : i < L.length) (h : ∀ j, j < i → ¬ n ≤ ((rn L j).n : Int)) (h2 : n ≤ ((rn L i).n : Int)) : takeI L n = i := by
  unfold takeI
  rw [if_pos hn]
  have h3 : ∀ j, j < i → fits n (rn L j) = false := fun j hj => decide_eq_false (h j hj)
  have h4 : fits n (rn L i) = true := decide_eq_true h2
  apply Nat.le_antisymm
  · refine Nat.le_of_not_lt fun hc => ?_
    have := List.not_of_lt_findIdx hc
    rw [← rn_eq hi, h4] at this
    simp at this
  · refine Nat.le_of_not_lt fun hc => ?_
    have h5 := List.findIdx_getElem (xs := L) (p := fits n) (w := Nat.lt_trans hc hi)
    rw [← rn_eq, h3 _ hc] at h5
    cases h5
theorem takeI_no {L : List Rn} {n : Int} (h : ∀ j, j < L.length → ¬ (1 ≤ n ∧ n ≤ ((rn L j).n : Int))) : ¬ takeI L n < L.length := by
  unfold takeI
  split
  · rename_i h1
    intro hc
    have h5 := List.findIdx_getElem (xs := L) (p := fits n) (w := hc)
    rw [← rn_eq] at h5
    exact h _ hc ⟨h1, of_decide_eq_true h5⟩
  · exact Nat.lt_irrefl _
/-- The list that is made, up to place i. -/
def LInv (F : List Bool) (i : Nat) (l : List Rn) : Prop := norm 0 l ∧ (∀ r ∈ l, r.a + r.n ≤ i) ∧ (∀ j, has l j = (decide (j < i) && F.getD j false)) ∧ l.length ≤ i
theorem LInv.zero (F : List Bool) : LInv F 0 [] := ⟨trivial, fun r hr => by simp at hr, fun j => by simp [has_nil], by simp⟩
theorem LInv.skip {F : List Bool} {i : Nat} {l : List Rn} (h : LInv F i l) (hf : F.getD i false = false) : LInv F (i + 1) l := by
  obtain ⟨h1, h2, h3, h4⟩ := h
  refine ⟨h1, fun r hr => by have := h2 r hr; omega, fun j => ?_, by omega⟩
  rw [h3]
  by_cases hj : j = i
  · subst hj; rw [hf]; simp
  · congr 1; apply decide_eq_decide.2; omega
theorem nxt_last {lo : Nat} {l : List Rn} (h : 0 < l.length) : nxt lo l = (rn l (l.length - 1)).a + (rn l (l.length - 1)).n + 1 := by
  have := nxt_take (lo := lo) (l := l) (i := l.length) h (Nat.le_refl _)
  rwa [List.take_length] at this
theorem LInv.add {F : List Bool} {i : Nat} {l : List Rn} (h : LInv F i l) (hf : F.getD i false = true) (he : 0 < l.length → (rn l (l.length - 1)).a + (rn l (l.length - 1)).n ≠ i) : LInv F (i + 1) (l ++ [⟨i, 1⟩]) := by
  obtain ⟨h1, h2, h3, h4⟩ := h
  refine ⟨norm_append.2 ⟨h1, ?_, Nat.le_refl _, trivial⟩, fun r hr => ?_, fun j => ?_, by rw [List.length_append, List.length_singleton]; omega⟩
  · show nxt 0 l ≤ i
    by_cases h0 : 0 < l.length
    · rw [nxt_last h0]
      have := he h0
      have := h2 _ (mem_rn (show l.length - 1 < l.length by omega))
      omega
    · obtain rfl : l = [] := List.eq_nil_of_length_eq_zero (by omega)
      exact Nat.zero_le _
  · rcases List.mem_append.1 hr with h | h
    · have := h2 r h; omega
    · rw [List.mem_singleton] at h; subst h; exact Nat.le_refl _
  · rw [has_append, h3, has_cons, has_nil, Bool.or_false]
    by_cases hj : j = i
    · subst hj; rw [hf]; simp [isin]
    · rw [show isin ⟨i, 1⟩ j = false from decide_eq_false (by dsimp only; omega), Bool.or_false]
      congr 1; apply decide_eq_decide.2; omega
theorem LInv.grow {F : List Bool} {i : Nat} {l : List Rn} (h : LInv F i l) (hf : F.getD i false = true) (h0 : 0 < l.length) (he : (rn l (l.length - 1)).a + (rn l (l.length - 1)).n = i) :
    LInv F (i + 1) (l.set (l.length - 1) ⟨(rn l (l.length - 1)).a, (rn l (l.length - 1)).n + 1⟩) := by
  obtain ⟨h1, h2, h3, h4⟩ := h
  obtain ⟨p, r, rfl⟩ : ∃ p r, l = p ++ [r] := ⟨l.dropLast, l.getLast (by intro h; subst h; simp at h0), (List.dropLast_concat_getLast _).symm⟩
  have hlen : (p ++ [r]).length - 1 = p.length := by simp
  rw [hlen] at he ⊢
  have hr : rn (p ++ [r]) p.length = r := by unfold rn; rw [List.getD_eq_getElem?_getD]; simp
  rw [hr] at he ⊢
  have hs : (p ++ [r]).set p.length ⟨r.a, r.n + 1⟩ = p ++ [⟨r.a, r.n + 1⟩] := by
    rw [List.set_append_right _ _ (Nat.le_refl _), Nat.sub_self]; rfl
  rw [hs]
  obtain ⟨n1, n2⟩ := norm_append.1 h1
  refine ⟨norm_append.2 ⟨n1, n2.1, by show 1 ≤ r.n + 1; omega, trivial⟩, fun x hx => ?_, fun j => ?_, by simp at h4 ⊢; omega⟩
  · rcases List.mem_append.1 hx with h | h
    · have := h2 x (List.mem_append_left _ h); omega
    · rw [List.mem_singleton] at h; subst h; dsimp only; omega
  · have h5 := h3 j
    rw [has_append, has_cons, has_nil, Bool.or_false] at h5 ⊢
    by_cases hj : j = i
    · subst hj
      rw [hf, show isin ⟨r.a, r.n + 1⟩ j = true from decide_eq_true (by dsimp only; omega)]; simp
    · rw [show isin ⟨r.a, r.n + 1⟩ j = isin r j from decide_eq_decide.2 (by dsimp only; omega), h5]
      congr 1; apply decide_eq_decide.2; omega
theorem LInv.end {bl : Nat} {F : List Bool} {l L : List Rn} (h : LInv F bl l) (hF : Fre bl L F) : l = L := by
  refine Wf.unique (bl := bl) ⟨hF.1.1, h.1, h.2.1⟩ hF.1 fun j => ?_
  rw [h.2.2.1, hF.2.2]
  by_cases hj : j < bl
  · rw [decide_eq_true hj, Bool.true_and]
  · rw [getD_ge (by rw [hF.2.1]; omega), Bool.and_false]
/-- How many are true. -/
def cntT (F : List Bool) (i : Nat) : Nat := (List.range i).countP fun j => F.getD j false
theorem cntT_succ (F : List Bool) (i : Nat) : cntT F (i + 1) = cntT F i + if F.getD i false = true then 1 else 0 := by
  unfold cntT
  rw [List.range_succ, List.countP_append]
  simp [List.countP_cons]
theorem cntT_le (F : List Bool) (i : Nat) : cntT F i ≤ i := by
  have := List.countP_le_length (p := fun j => F.getD j false) (l := List.range i)
  rwa [List.length_range] at this
theorem count_in (a n : Nat) : ∀ b, (List.range b).countP (fun j => isin ⟨a, n⟩ j) = min (b - a) n
  | 0 => by simp
  | b + 1 => by
    rw [List.range_succ, List.countP_append, count_in a n b, List.countP_cons, List.countP_nil]
    by_cases h : a ≤ b ∧ b < a + n
    · rw [if_pos (isin_iff.2 h)]; omega
    · rw [if_neg (fun e => h (isin_iff.1 e))]; omega
theorem count_or {p q : Nat → Bool} : ∀ (xs : List Nat), (∀ x, p x = true → q x = false) → xs.countP (fun x => p x || q x) = xs.countP p + xs.countP q
  | [], _ => rfl
  | x :: xs, h => by
    rw [List.countP_cons, List.countP_cons, List.countP_cons, count_or xs h]
    cases hp : p x with
    | true => rw [h x hp]; simp; omega
    | false => cases q x <;> simp <;> omega
theorem count_has {bl : Nat} : ∀ {lo : Nat} {l : List Rn}, norm lo l → (∀ r ∈ l, r.a + r.n ≤ bl) → (List.range bl).countP (has l) = (l.map Rn.n).sum
  | _, [], _, _ => by
    rw [List.map_nil, List.sum_nil, List.countP_eq_zero]; intro x _; rw [has_nil]; decide
  | lo, r :: l, hn, he => by
    have hd : ∀ x, isin r x = true → has l x = false := fun x hx => by
      cases h : has l x with
      | false => rfl
      | true => have := has_ge hn.2.2 h; have := isin_iff.1 hx; omega
    have e1 : (List.range bl).countP (has (r :: l)) = (List.range bl).countP (fun x => isin r x || has l x) := rfl
    have := he r List.mem_cons_self
    rw [e1, count_or _ hd, count_has hn.2.2 (fun x hx => he x (List.mem_cons_of_mem _ hx)), List.map_cons, List.sum_cons, count_in r.a r.n]
    omega
theorem Fre.sum {bl : Nat} {L : List Rn} {F : List Bool} (h : Fre bl L F) : cntT F bl = sumN L := by
  rw [sumN_eq, ← count_has h.1.2.1 h.1.2.2]
  unfold cntT
  congr 1
  funext j
  exact (h.2.2 j).symm
theorem Fre.new (b : Int) : Fre (newBl b) (newL b) (List.replicate (newBl b) true) := by
  refine ⟨newL_wf b, by simp, fun j => ?_⟩
  rw [List.getD_eq_getElem?_getD, List.getElem?_replicate]
  unfold newL newBl
  split
  · rw [has_cons, has_nil, Bool.or_false]
    by_cases hj : j < b.toNat
    · rw [if_pos hj]; exact decide_eq_true ⟨Nat.zero_le _, by dsimp only; omega⟩
    · rw [if_neg hj]; exact decide_eq_false (by dsimp only; omega)
  · rw [if_neg (by omega)]; rfl
end Go.Proofs.YtgoghmblfdlnbaaGreat
end

section
/- Shares: plain laws: the runs that are not free are apart; taken, given back. No program. -/
set_option linter.unusedSimpArgs false
set_option linter.unusedVariables false
namespace Go.Proofs.YtgoghmblfdlnbaaGreat
open Go.RowKit
def Apt (x y : Rn) : Prop := x.a + x.n ≤ y.a ∨ y.a + y.n ≤ x.a
theorem Apt.symm {x y : Rn} (h : Apt x y) : Apt y x := h.elim .inr .inl
/-- The runs R are just what is not free. -/
structure InvR0 (bl : Nat) (R l : List Rn) : Prop where
  dis : R.Pairwise Apt
  pos : ∀ r ∈ R, 1 ≤ r.n ∧ r.a + r.n ≤ bl
  wf : Wf bl l
  fr : ∀ j, has l j = (decide (j < bl) && !has R j)
theorem has_perm {R S : List Rn} (h : R.Perm S) (j : Nat) : has R j = has S j := by
  unfold has
  rw [Bool.eq_iff_iff, List.any_eq_true, List.any_eq_true]
  exact ⟨fun ⟨x, h1, h2⟩ => ⟨x, h.mem_iff.1 h1, h2⟩, fun ⟨x, h1, h2⟩ => ⟨x, h.mem_iff.2 h1, h2⟩⟩
theorem InvR0.perm {bl : Nat} {R S l : List Rn} (h : InvR0 bl R l) (hp : R.Perm S) : InvR0 bl S l :=
  ⟨(hp.pairwise_iff (fun h => Apt.symm h)).1 h.dis, fun r hr => h.pos r (hp.mem_iff.2 hr), h.wf, fun j => by rw [h.fr j, has_perm hp]⟩
theorem has_iff {R : List Rn} {j : Nat} : has R j = true ↔ ∃ r ∈ R, r.a ≤ j ∧ j < r.a + r.n := by
  unfold has
  rw [List.any_eq_true]
  exact ⟨fun ⟨x, h1, h2⟩ => ⟨x, h1, isin_iff.1 h2⟩, fun ⟨x, h1, h2⟩ => ⟨x, h1, isin_iff.2 h2⟩⟩
theorem has_off {R : List Rn} {j : Nat} (h : ∀ r ∈ R, ¬ (r.a ≤ j ∧ j < r.a + r.n)) : has R j = false := by
  cases hh : has R j with
  | false => rfl
  | true => obtain ⟨r, h1, h2⟩ := has_iff.1 hh; exact absurd h2 (h r h1)
theorem wf_lt {bl : Nat} {l : List Rn} (h : Wf bl l) {j : Nat} (hj : has l j = true) : j < bl := by
  obtain ⟨r, h1, h2, h3⟩ := has_iff.1 hj
  have := h.2.2 r h1
  omega
theorem InvR0.take {bl : Nat} {R l : List Rn} (h : InvR0 bl R l) {n : Nat} (hn : 1 ≤ n) (hi : takeI l (n : Int) < l.length) : InvR0 bl (R ++ [⟨(rn l (takeI l (n : Int))).a, n⟩]) (takeL l (n : Int)) := by
  obtain ⟨a, ha⟩ : ∃ a, a = (rn l (takeI l (n : Int))).a := ⟨_, rfl⟩
  have hh := fun k => take_has h.wf (n : Int) hi k
  rw [← ha] at hh ⊢
  simp only [Int.toNat_natCast] at hh
  have hf : ∀ j, a ≤ j → j < a + n → has l j = true := fun j h1 h2 => (hh j).2 j (btw_iff.2 ⟨h1, h2⟩)
  have hd : ∀ r ∈ R, Apt r ⟨a, n⟩ := by
    intro r hr
    have hp := h.pos r hr
    refine Classical.byContradiction fun hc => ?_
    have h1 : ¬ r.a + r.n ≤ a := fun h => hc (.inl h)
    have h2 : ¬ a + n ≤ r.a := fun h => hc (.inr h)
    have h3 := hf (max a r.a) (by omega) (by omega)
    rw [h.fr] at h3
    have h4 : has R (max a r.a) = true := has_iff.2 ⟨r, hr, by omega, by omega⟩
    rw [h4] at h3
    simp at h3
  have hb := wf_lt h.wf (hf (a + n - 1) (by omega) (by omega))
  refine ⟨List.pairwise_append.2 ⟨h.dis, List.pairwise_singleton _ _, fun x hx y hy => by rw [List.mem_singleton] at hy; subst hy; exact hd x hx⟩, ?_, take_wf h.wf _, fun j => ?_⟩
  · intro r hr
    rcases List.mem_append.1 hr with hr | hr
    · exact h.pos r hr
    · rw [List.mem_singleton] at hr; subst hr; exact ⟨hn, by dsimp only; omega⟩
  · rw [(hh j).1, h.fr j, has_append]
    have : has [⟨a, n⟩] j = btw a n j := by rw [has_cons, has_nil, Bool.or_false]; rfl
    rw [this]
    cases decide (j < bl) <;> cases has R j <;> cases btw a n j <;> rfl
theorem InvR0.give {bl : Nat} {R l : List Rn} {s : Rn} (h : InvR0 bl (s :: R) l) : InvR0 bl R (giveL bl l (s.a : Nat) (s.n : Nat)) := by
  have hp := h.pos s List.mem_cons_self
  have hd := (List.pairwise_cons.1 h.dis).1
  have hr : giveR bl l (s.a : Nat) (s.n : Nat) = true := (give_iff h.wf s.a s.n).2 ⟨known_iff.2 ⟨by omega, by omega, by omega, by omega⟩, fun k h1 h2 => by
    rw [h.fr, has_cons, isin_iff.2 ⟨h1, h2⟩]
    simp⟩
  refine ⟨(List.pairwise_cons.1 h.dis).2, fun r hr => h.pos r (List.mem_cons_of_mem _ hr), give_wf h.wf _ _, fun j => ?_⟩
  rw [give_has h.wf hr, h.fr j, has_cons]
  by_cases hj : isin s j = true
  · have hj2 := isin_iff.1 hj
    have h1 : btw s.a s.n j = true := btw_iff.2 hj2
    have h2 : has R j = false := has_off fun r hr h => by
      have h3 := hd r hr
      rcases h3 with h3 | h3 <;> omega
    rw [h1, h2, hj, decide_eq_true (show j < bl by omega)]
    rfl
  · have h1 : btw s.a s.n j = false := by
      cases h2 : btw s.a s.n j with
      | false => rfl
      | true => exact absurd (isin_iff.2 (btw_iff.1 h2)) hj
    rw [h1, Bool.or_false]
    cases h2 : isin s j with
    | false => simp
    | true => exact absurd h2 hj
theorem InvR0.givs {bl : Nat} : ∀ {S R l : List Rn}, InvR0 bl (S ++ R) l → InvR0 bl R (givs bl l S)
  | [], R, l, h => h
  | s :: S, R, l, h => (InvR0.give (s := s) h).givs
theorem InvR0.free {bl : Nat} {R : List Rn} (hd : R.Pairwise Apt) (hp : ∀ r ∈ R, 1 ≤ r.n ∧ r.a + r.n ≤ bl) : (List.range bl).countP (has R) = (R.map Rn.n).sum := by
  induction R with
  | nil => rw [List.map_nil, List.sum_nil, List.countP_eq_zero]; intro x _; rw [has_nil]; decide
  | cons r R ih =>
    have h1 := (List.pairwise_cons.1 hd).1
    have hx : ∀ x, isin r x = true → has R x = false := fun x hx => has_off fun y hy h => by
      have := isin_iff.1 hx
      rcases h1 y hy with h3 | h3 <;> omega
    have e1 : (List.range bl).countP (has (r :: R)) = (List.range bl).countP (fun x => isin r x || has R x) := rfl
    have := hp r List.mem_cons_self
    rw [e1, count_or _ hx, ih (List.pairwise_cons.1 hd).2 (fun x hx => hp x (List.mem_cons_of_mem _ hx)), List.map_cons, List.sum_cons, count_in r.a r.n]
    omega
theorem count_not (p : Nat → Bool) : ∀ xs : List Nat, xs.countP p + xs.countP (fun x => !p x) = xs.length
  | [] => rfl
  | x :: xs => by
    have := count_not p xs
    rw [List.countP_cons, List.countP_cons, List.length_cons]
    cases p x <;> simp <;> omega
theorem InvR0.sum {bl : Nat} {R l : List Rn} (h : InvR0 bl R l) : sumN l + (R.map Rn.n).sum = bl := by
  rw [sumN_eq, ← count_has h.wf.2.1 h.wf.2.2, ← InvR0.free h.dis h.pos]
  have h1 : (List.range bl).countP (has l) = (List.range bl).countP (fun x => !has R x) := by
    refine List.countP_congr fun x hx => ?_
    rw [h.fr x, decide_eq_true (List.mem_range.1 hx)]
    simp
  rw [h1]
  have := count_not (has R) (List.range bl)
  rw [List.length_range] at this
  omega
/-- Two free lists beside the same runs are one. -/
theorem InvR0.unique {bl : Nat} {R l l' : List Rn} (h : InvR0 bl R l) (h' : InvR0 bl R l') : l = l' := Wf.unique h.wf h'.wf fun k => by rw [h.fr, h'.fr]
theorem InvR0.new {bl : Nat} (h : bl ≤ 8192) (h1 : 1 ≤ bl) : InvR0 bl [] [⟨0, bl⟩] :=
  ⟨List.Pairwise.nil, fun r hr => by simp at hr, ⟨h, ⟨by dsimp only; omega, by dsimp only; omega, trivial⟩, fun r hr => by rw [List.mem_singleton] at hr; subst hr; dsimp only; omega⟩, fun j => by
    rw [has_cons, has_nil, Bool.or_false]
    simp [isin]⟩
/-- Beside blocks 0 and 1, which were marked ahead. -/
def InvR (bl : Nat) (R l : List Rn) : Prop := InvR0 bl (⟨0, 2⟩ :: R) l
section
variable {bl : Nat} {R S l l' : List Rn}
theorem InvR.dis (h : InvR bl R l) : R.Pairwise Apt := (List.pairwise_cons.1 (InvR0.dis h)).2
theorem InvR.pos (h : InvR bl R l) : ∀ r ∈ R, 1 ≤ r.n ∧ r.a + r.n ≤ bl := fun r hr => InvR0.pos h r (List.mem_cons_of_mem _ hr)
theorem InvR.low (h : InvR bl R l) : ∀ r ∈ R, 2 ≤ r.a := fun r hr => by
  have h1 := (List.pairwise_cons.1 (InvR0.dis h)).1 r hr
  have h2 := (h.pos r hr).1
  rcases h1 with h1 | h1 <;> (dsimp only at h1; omega)
theorem InvR.wf (h : InvR bl R l) : Wf bl l := InvR0.wf h
theorem InvR.fr (h : InvR bl R l) (j : Nat) : has l j = (decide (2 ≤ j ∧ j < bl) && !has R j) := by
  rw [InvR0.fr h j, has_cons]
  by_cases h2 : 2 ≤ j
  · have : isin ⟨0, 2⟩ j = false := by
      cases h9 : isin ⟨0, 2⟩ j with
      | false => rfl
      | true => have := isin_iff.1 h9; dsimp only at this; omega
    rw [this]; simp [h2]
  · have : isin ⟨0, 2⟩ j = true := isin_iff.2 ⟨Nat.zero_le _, by dsimp only; omega⟩
    rw [this]; simp [h2]
theorem InvR.perm (h : InvR bl R l) (hp : R.Perm S) : InvR bl S l := InvR0.perm h (hp.cons _)
theorem InvR.take (h : InvR bl R l) {n : Nat} (hn : 1 ≤ n) (hi : takeI l (n : Int) < l.length) : InvR bl (R ++ [⟨(rn l (takeI l (n : Int))).a, n⟩]) (takeL l (n : Int)) := InvR0.take h hn hi
theorem InvR.give {s : Rn} (h : InvR bl (s :: R) l) : InvR bl R (giveL bl l (s.a : Nat) (s.n : Nat)) := InvR0.give (InvR0.perm h (List.Perm.swap _ _ _))
theorem InvR.givs : ∀ {S R l : List Rn}, InvR bl (S ++ R) l → InvR bl R (givs bl l S)
  | [], _, _, h => h
  | s :: _, _, _, h => (InvR.give (s := s) h).givs
theorem InvR.sum (h : InvR bl R l) : sumN l + (R.map Rn.n).sum + 2 = bl := by
  have := InvR0.sum h
  rw [List.map_cons, List.sum_cons] at this
  have e : (⟨0, 2⟩ : Rn).n = 2 := rfl
  omega
theorem InvR.unique (h : InvR bl R l) (h' : InvR bl R l') : l = l' := InvR0.unique h h'
theorem InvR.new (h : bl ≤ 8192) (h1 : 3 ≤ bl) : InvR bl [] [⟨2, bl - 2⟩] :=
  ⟨List.pairwise_singleton _ _, fun r hr => by rw [List.mem_singleton] at hr; subst hr; exact ⟨by decide, by dsimp only; omega⟩, ⟨h, ⟨by dsimp only; omega, by dsimp only; omega, trivial⟩, fun r hr => by rw [List.mem_singleton] at hr; subst hr; dsimp only; omega⟩, fun j => by
    rw [has_cons, has_nil, Bool.or_false, has_cons, has_nil, Bool.or_false]
    rw [Bool.eq_iff_iff, isin_iff, Bool.and_eq_true, decide_eq_true_iff, Bool.not_eq_true', ← Bool.not_eq_true, isin_iff]
    dsimp only
    omega⟩
end
/-! ### uses -/
theorem mem_uput {U : List Us} {u x : Us} : x ∈ uput U u ↔ x = u ∨ (x ∈ U ∧ x.a ≠ u.a) := by
  unfold uput
  cases hg : uget U u.a with
  | none =>
    have := uget_none.1 hg
    rw [if_neg (by simp), List.mem_append, List.mem_singleton]
    constructor
    · rintro (h | h)
      · exact .inr ⟨h, fun e => this x h (by rw [e])⟩
      · exact .inl h
    · rintro (h | h)
      · exact .inr h
      · exact .inl h.1
  | some y =>
    obtain ⟨hy, hya⟩ := uget_mem hg
    rw [if_pos (by simp), List.mem_map]
    constructor
    · rintro ⟨z, hz, rfl⟩
      by_cases h : ((z.a : Int) == (u.a : Int)) = true
      · rw [if_pos h]; exact .inl rfl
      · rw [if_neg h]; exact .inr ⟨hz, fun e => h (by rw [e]; simp)⟩
    · rintro (rfl | ⟨h1, h2⟩)
      · exact ⟨y, hy, by rw [if_pos (by simp [hya])]⟩
      · exact ⟨x, h1, by rw [if_neg (by simp; omega)]⟩
theorem uput_runs {U : List Us} {u x : Us} (hn : (ukeys U).Nodup) (hx : x ∈ U) (hr : x.r = u.r) : (uput U u).map Us.r = U.map Us.r := by
  have ha : x.a = u.a := congrArg Rn.a hr
  have hg := uget_some hn hx
  rw [ha] at hg
  unfold uput
  rw [hg, if_pos (by rfl), List.map_map]
  refine List.map_congr_left fun y hy => ?_
  dsimp only [Function.comp]
  by_cases h : ((y.a : Int) == (u.a : Int)) = true
  · rw [if_pos h]
    have h2 : y.a = u.a := by simp at h; omega
    have := uget_some hn hy
    rw [h2, hg] at this
    injection this with this
    rw [← this, hr]
  · rw [if_neg h]
theorem uput_new {U : List Us} {u : Us} (h : uget U u.a = none) : uput U u = U ++ [u] := by
  unfold uput
  rw [h, if_neg (by simp)]
theorem udel_perm : ∀ {U : List Us} {x : Us}, (ukeys U).Nodup → x ∈ U → U.Perm (udel U (x.a : Nat) ++ [x])
  | [], x, _, h => by simp at h
  | y :: U, x, hn, h => by
    have hn' : ((y.a : Int) :: ukeys U).Nodup := hn
    obtain ⟨h1, h2⟩ := List.nodup_cons.1 hn'
    have hd : udel (y :: U) (x.a : Nat) = if (!((y.a : Int) == (x.a : Int))) = true then y :: udel U (x.a : Nat) else udel U (x.a : Nat) := by
      unfold udel
      rw [List.filter_cons]
    rw [hd]
    by_cases hxy : x = y
    · subst hxy
      rw [if_neg (by simp)]
      have : udel U (x.a : Nat) = U := by
        unfold udel
        refine List.filter_eq_self.2 fun z hz => ?_
        simp only [Bool.not_eq_true', beq_eq_false_iff_ne, ne_eq]
        exact fun e => h1 (List.mem_map.2 ⟨z, hz, e⟩)
      rw [this]
      exact List.perm_append_comm (l₁ := [x])
    · have hx : x ∈ U := (List.mem_cons.1 h).resolve_left hxy
      have hne : (!((y.a : Int) == (x.a : Int))) = true := by
        simp only [Bool.not_eq_true', beq_eq_false_iff_ne, ne_eq]
        exact fun e => h1 (List.mem_map.2 ⟨x, hx, e.symm⟩)
      rw [if_pos hne]
      exact (udel_perm h2 hx).cons y
theorem keys_of {bl : Nat} {U : List Us} {l S : List Rn} (h : InvR bl (U.map Us.r ++ S) l) : (ukeys U).Nodup := by
  have h1 := (List.pairwise_append.1 h.dis).1
  rw [List.pairwise_map] at h1
  rw [ukeys, List.Nodup, List.pairwise_map]
  refine (List.Pairwise.and_mem.1 h1).imp fun {x y} ⟨hx, hy, h2⟩ e => ?_
  have p1 := h.pos x.r (List.mem_append_left _ (List.mem_map.2 ⟨x, hx, rfl⟩))
  have p2 := h.pos y.r (List.mem_append_left _ (List.mem_map.2 ⟨y, hy, rfl⟩))
  have e' : x.a = y.a := by omega
  unfold Us.r at p1 p2 h2
  rcases h2 with h2 | h2 <;> (dsimp only at p1 p2 h2; omega)
/-- All of it: used, late; as it was, added since. -/
structure Inv (bl N : Nat) (U L H : List Us) (A l : List Rn) : Prop where
  r : InvR bl (U.map Us.r ++ L.map Us.r) l
  b : InvR bl (H.map Us.r ++ A) l
  ku : ∀ u ∈ U, 1 ≤ u.k ∧ u.k ≤ N
  kl : ∀ u ∈ L, 1 ≤ u.k ∧ u.k ≤ N
  kh : ∀ u ∈ H, 1 ≤ u.k ∧ u.k ≤ N
section
variable {bl N : Nat} {U L H : List Us} {A l : List Rn}
theorem Inv.nu (h : Inv bl N U L H A l) : (ukeys U).Nodup := keys_of h.r
theorem Inv.nl (h : Inv bl N U L H A l) : (ukeys L).Nodup := keys_of (h.r.perm List.perm_append_comm)
theorem Inv.uses_pos (h : Inv bl N U L H A l) {i : Int} : usesI U i = 0 ↔ uget U i = none := usesI_pos fun u hu => (h.ku u hu).1
/-- A free block is no one's first. -/
theorem Inv.no_key (h : Inv bl N U L H A l) {a : Nat} (ha : has l a = true) : uget U (a : Nat) = none ∧ uget L (a : Nat) = none := by
  have hh := h.r.fr a
  rw [ha, has_append] at hh
  constructor
  · refine uget_none.2 fun u hu e => ?_
    have hp := h.r.pos u.r (List.mem_append_left _ (List.mem_map.2 ⟨u, hu, rfl⟩))
    have : has (U.map Us.r) a = true := has_iff.2 ⟨u.r, List.mem_map.2 ⟨u, hu, rfl⟩, by unfold Us.r at *; dsimp only at *; omega, by unfold Us.r at *; dsimp only at *; omega⟩
    rw [this] at hh
    simp at hh
  · refine uget_none.2 fun u hu e => ?_
    have hp := h.r.pos u.r (List.mem_append_right _ (List.mem_map.2 ⟨u, hu, rfl⟩))
    have : has (L.map Us.r) a = true := has_iff.2 ⟨u.r, List.mem_map.2 ⟨u, hu, rfl⟩, by unfold Us.r at *; dsimp only at *; omega, by unfold Us.r at *; dsimp only at *; omega⟩
    rw [this] at hh
    simp at hh
theorem Inv.add (h : Inv bl N U L H A l) (hN : 1 ≤ N) {n : Nat} (hn : 1 ≤ n) (hi : takeI l (n : Int) < l.length) :
    has l (rn l (takeI l (n : Int))).a = true ∧ Inv bl N (uput U ⟨(rn l (takeI l (n : Int))).a, n, 1⟩) L H (A ++ [⟨(rn l (takeI l (n : Int))).a, n⟩]) (takeL l (n : Int)) := by
  have h1 := h.r.take hn hi
  have h2 := h.b.take hn hi
  have hf : has l (rn l (takeI l (n : Int))).a = true := (take_has h.r.wf (n : Int) hi 0).2 _ (btw_iff.2 ⟨Nat.le_refl _, by simp; omega⟩)
  obtain ⟨a, ha⟩ : ∃ a, a = (rn l (takeI l (n : Int))).a := ⟨_, rfl⟩
  rw [← ha] at h1 h2 hf ⊢
  refine ⟨hf, ?_⟩
  rw [uput_new (h.no_key hf).1]
  refine ⟨h1.perm ?_, by rw [← List.append_assoc]; exact h2, ?_, h.kl, h.kh⟩
  · rw [List.map_append, List.append_assoc, List.append_assoc]
    exact List.Perm.append_left _ List.perm_append_comm
  · intro u hu
    rcases List.mem_append.1 hu with hu | hu
    · exact h.ku u hu
    · rw [List.mem_singleton] at hu; subst hu; exact ⟨Nat.le_refl _, hN⟩
theorem Inv.mono {N' : Nat} (h : Inv bl N U L H A l) (hN : N ≤ N') : Inv bl N' U L H A l :=
  ⟨h.r, h.b, fun u hu => ⟨(h.ku u hu).1, by have := (h.ku u hu).2; omega⟩, fun u hu => ⟨(h.kl u hu).1, by have := (h.kl u hu).2; omega⟩, fun u hu => ⟨(h.kh u hu).1, by have := (h.kh u hu).2; omega⟩⟩
theorem Inv.more (h : Inv bl N U L H A l) (i : Int) : Inv bl (N + 1) (moreU U i) L H A l := by
  have h' := h.mono (Nat.le_succ N)
  unfold moreU
  split
  · exact h'
  · rename_i h0
    obtain ⟨hg, ha, hm⟩ := ux_pos h0
    refine ⟨by rw [uput_runs (u := ⟨(ux U i).a, (ux U i).n, (ux U i).k + 1⟩) h.nu hm rfl]; exact h'.r, h'.b, ?_, h'.kl, h'.kh⟩
    intro u hu
    rcases mem_uput.1 hu with rfl | ⟨hu, _⟩
    · have := h.ku _ hm; exact ⟨by dsimp only; omega, by dsimp only; omega⟩
    · exact h'.ku u hu
theorem Inv.no_late (h : Inv bl N U L H A l) {u : Us} (hu : u ∈ U) : uget L (u.a : Nat) = none := by
  refine uget_none.2 fun v hv e => ?_
  have hd := (List.pairwise_append.1 h.r.dis).2.2 u.r (List.mem_map.2 ⟨u, hu, rfl⟩) v.r (List.mem_map.2 ⟨v, hv, rfl⟩)
  have p1 := h.r.pos u.r (List.mem_append_left _ (List.mem_map.2 ⟨u, hu, rfl⟩))
  have p2 := h.r.pos v.r (List.mem_append_right _ (List.mem_map.2 ⟨v, hv, rfl⟩))
  unfold Us.r at hd p1 p2
  rcases hd with hd | hd <;> (dsimp only at hd p1 p2; omega)
theorem Inv.less (h : Inv bl N U L H A l) (i : Int) : Inv bl N (lessU U i) (lessL U L i) H A l := by
  unfold lessU lessL
  by_cases h0 : usesI U i = 0
  · rw [if_pos h0, if_neg (by omega)]; exact h
  · rw [if_neg h0]
    obtain ⟨hg, ha, hm⟩ := ux_pos h0
    by_cases h1 : usesI U i = 1
    · have e1 : uput L (ux U i) = L ++ [ux U i] := uput_new (h.no_late hm)
      have e2 : udel U i = udel U ((ux U i).a : Nat) := by rw [ha]
      rw [if_pos h1, if_pos h1, e1, e2]
      have hp := udel_perm h.nu hm
      refine ⟨h.r.perm ?_, h.b, fun u hu => h.ku u (List.mem_filter.1 hu).1, ?_, h.kh⟩
      · have hp2 := hp.map Us.r
        rw [List.map_append] at hp2
        refine (List.Perm.append_right _ hp2).trans ?_
        rw [List.append_assoc, List.map_append]
        exact List.Perm.append_left _ List.perm_append_comm
      · intro u hu
        rcases List.mem_append.1 hu with hu | hu
        · exact h.kl u hu
        · rw [List.mem_singleton] at hu; subst hu; exact h.ku _ hm
    · rw [if_neg h1, if_neg h1]
      refine ⟨by rw [uput_runs (u := ⟨(ux U i).a, (ux U i).n, (ux U i).k - 1⟩) h.nu hm rfl]; exact h.r, h.b, ?_, h.kl, h.kh⟩
      intro u hu
      have hk : usesI U i = (ux U i).k := usesI_ux U i
      rcases mem_uput.1 hu with rfl | ⟨hu, _⟩
      · have := h.ku _ hm; exact ⟨by dsimp only; omega, by dsimp only; omega⟩
      · exact h.ku u hu
theorem lst_perm (U : List Us) : (lst U).Perm (U.map Us.r) := (srtU_perm U).map _
theorem Inv.settle (h : Inv bl N U L H A l) : Inv bl N U [] U [] (givs bl l (lst L)) := by
  have h1 : InvR bl (U.map Us.r) (givs bl l (lst L)) := InvR.givs (h.r.perm (List.perm_append_comm.trans ((lst_perm L).symm.append_right _)))
  exact ⟨by simpa using h1, by simpa using h1, h.ku, fun u hu => by simp at hu, h.ku⟩
theorem Inv.back (h : Inv bl N U L H A l) : Inv bl N H [] H [] (givs bl l A) := by
  have h1 : InvR bl (H.map Us.r) (givs bl l A) := InvR.givs (h.b.perm List.perm_append_comm)
  exact ⟨by simpa using h1, by simpa using h1, h.kh, fun u hu => by simp at hu, h.kh⟩
theorem Inv.new (h1 : 3 ≤ bl) (h : bl ≤ 8192) : Inv bl N [] [] [] [] [⟨2, bl - 2⟩] :=
  ⟨InvR.new h h1, InvR.new h h1, fun u hu => by simp at hu, fun u hu => by simp at hu, fun u hu => by simp at hu⟩
theorem runs_len {bl : Nat} {R l : List Rn} (h : InvR bl R l) : R.length ≤ bl := by
  have := h.sum
  have h2 : ∀ R : List Rn, (∀ r ∈ R, 1 ≤ r.n) → R.length ≤ (R.map Rn.n).sum := by
    intro R
    induction R with
    | nil => intro _; simp
    | cons r R ih =>
      intro hp
      have h3 := ih fun x hx => hp x (List.mem_cons_of_mem _ hx)
      have h4 := hp r List.mem_cons_self
      rw [List.length_cons, List.map_cons, List.sum_cons]; omega
  have := h2 R fun r hr => (h.pos r hr).1
  omega
theorem Inv.len (h : Inv bl N U L H A l) : U.length ≤ bl ∧ L.length ≤ bl ∧ A.length ≤ bl := by
  have h1 := runs_len h.r
  have h2 := runs_len h.b
  simp at h1 h2
  exact ⟨by omega, by omega, by omega⟩
theorem Inv.runs (h : Inv bl N U L H A l) : (∀ r ∈ lst U, r.a ≤ bl ∧ r.n ≤ bl) ∧ (∀ r ∈ lst L, r.a ≤ bl ∧ r.n ≤ bl) ∧ ∀ r ∈ A, r.a ≤ bl ∧ r.n ≤ bl := by
  refine ⟨fun r hr => ?_, fun r hr => ?_, fun r hr => ?_⟩
  · have := h.r.pos r (List.mem_append_left _ ((lst_perm U).mem_iff.1 hr)); omega
  · have := h.r.pos r (List.mem_append_right _ ((lst_perm L).mem_iff.1 hr)); omega
  · have := h.b.pos r (List.mem_append_right _ hr); omega
end
end Go.Proofs.YtgoghmblfdlnbaaGreat
end

/- Runs: plain laws for RunsFirst: holes. -/
import Derived.Test.YtbfhoadhihlhjaaRnA
set_option linter.unusedSimpArgs false
set_option linter.unusedVariables false
namespace Go.Proofs.Ytbfhoadhihlhjaa
theorem sumN_eq (l : List Rn) : sumN l = (l.map Rn.n).sum := by unfold sumN frN; rw [List.take_length]
theorem topN_eq (l : List Rn) : topN l = (l.map Rn.n).foldl max 0 := by unfold topN mxN; rw [List.take_length]
theorem sum_filter (l : List Rn) : ((l.filter nz).map Rn.n).sum = (l.map Rn.n).sum := by
  induction l with
  | nil => rfl
  | cons r l ih =>
    rw [List.filter_cons]
    by_cases h : nz r = true
    · rw [if_pos h, List.map_cons, List.map_cons, List.sum_cons, List.sum_cons, ih]
    · have h0 : r.n = 0 := by simpa [nz] using h
      rw [if_neg h, List.map_cons, List.sum_cons, ih, h0, Nat.zero_add]
theorem top_filter (l : List Rn) (m : Nat) : ((l.filter nz).map Rn.n).foldl max m = (l.map Rn.n).foldl max m := by
  induction l generalizing m with
  | nil => rfl
  | cons r l ih =>
    rw [List.filter_cons]
    by_cases h : nz r = true
    · rw [if_pos h, List.map_cons, List.map_cons, List.foldl_cons, List.foldl_cons, ih]
    · have h0 : r.n = 0 := by simpa [nz] using h
      rw [if_neg h, List.map_cons, List.foldl_cons, ih, h0, Nat.max_eq_left (Nat.zero_le _)]
/-- Holes of these sizes from a on, a block between each two. -/
def hl : Nat → List Nat → List Rn
  | _, [] => []
  | a, s :: t => ⟨a, s⟩ :: hl (a + s + 1) t
/-- Where the next hole begins. -/
def hend : Nat → List Nat → Nat
  | a, [] => a
  | a, s :: t => hend (a + s + 1) t
theorem hl_append : ∀ (a : Nat) (x y : List Nat), hl a (x ++ y) = hl a x ++ hl (hend a x) y
  | _, [], _ => rfl
  | a, s :: t, y => by show _ :: hl _ (t ++ y) = _ :: hl _ t ++ _; rw [hl_append]; rfl
theorem hend_append : ∀ (a : Nat) (x y : List Nat), hend a (x ++ y) = hend (hend a x) y
  | _, [], _ => rfl
  | a, s :: t, y => hend_append _ t y
theorem hend_eq : ∀ (a : Nat) (x : List Nat), hend a x = a + x.sum + x.length
  | _, [] => rfl
  | a, s :: t => by show hend _ t = _; rw [hend_eq, List.sum_cons, List.length_cons]; omega
theorem hl_map : ∀ (a : Nat) (x : List Nat), (hl a x).map Rn.n = x
  | _, [] => rfl
  | a, s :: t => by show s :: (hl _ t).map Rn.n = _; rw [hl_map]
theorem hl_norm : ∀ (a : Nat) (x : List Nat), norm a ((hl a x).filter nz) ∧ nxt a ((hl a x).filter nz) ≤ hend a x
  | a, [] => ⟨trivial, Nat.le_refl _⟩
  | a, s :: t => by
    obtain ⟨h1, h2⟩ := hl_norm (a + s + 1) t
    show norm a ((⟨a, s⟩ :: hl (a + s + 1) t).filter nz) ∧ nxt a ((⟨a, s⟩ :: hl (a + s + 1) t).filter nz) ≤ hend (a + s + 1) t
    rw [List.filter_cons]
    by_cases h : nz ⟨a, s⟩ = true
    · rw [if_pos h]
      have h0 : s ≠ 0 := by simpa [nz] using h
      exact ⟨⟨Nat.le_refl _, by dsimp only; omega, h1⟩, h2⟩
    · rw [if_neg h]
      refine ⟨norm_mono h1 (by omega), ?_⟩
      have h3 := hend_eq (a + s + 1) t
      cases hf : (hl (a + s + 1) t).filter nz with
      | nil => show a ≤ _; omega
      | cons r l => rw [hf] at h2; exact h2
theorem hl_end {a e : Nat} {x : List Nat} (h : hend a x ≤ e + 1) : ∀ r ∈ (hl a x).filter nz, r.a + r.n ≤ e := by
  intro r hr
  replace hr := (List.mem_filter.1 hr).1
  induction x generalizing a with
  | nil => simp [hl] at hr
  | cons s t ih =>
    have h3 := hend_eq (a + s + 1) t
    have h4 : hend (a + s + 1) t ≤ e + 1 := h
    rcases List.mem_cons.1 hr with rfl | hr
    · dsimp only; omega
    · exact ih h4 hr
/-- What is free when so many holes are made. -/
def hst (x : List Nat) : List Rn := (hl 0 x).filter nz ++ [⟨hend 0 x, 400 - hend 0 x⟩]
theorem hst_wf {x : List Nat} (h : hend 0 x < 400) : Wf 400 (hst x) := by
  obtain ⟨h1, h2⟩ := hl_norm 0 x
  refine ⟨by decide, norm_append.2 ⟨h1, h2, by dsimp only; omega, trivial⟩, fun r hr => ?_⟩
  rcases List.mem_append.1 hr with hr | hr
  · exact hl_end (by omega) r hr
  · rw [List.mem_singleton] at hr; subst hr; dsimp only; omega
theorem hl_wf {x : List Nat} (h : hend 0 x < 400) : Wf 400 ((hl 0 x).filter nz) :=
  ⟨by decide, (hl_norm 0 x).1, hl_end (by omega)⟩
theorem hl_has {x : List Nat} {k : Nat} (h : has ((hl 0 x).filter nz) k = true) : k + 1 < hend 0 x := by
  obtain ⟨h1, h2⟩ := hl_norm 0 x
  have := has_lt h1 h
  omega
theorem hst_has (x : List Nat) (h : hend 0 x ≤ 400) (k : Nat) : has (hst x) k = (has ((hl 0 x).filter nz) k || decide (hend 0 x ≤ k ∧ k < 400)) := by
  unfold hst
  rw [has_append, has_cons, has_nil, Bool.or_false]
  apply Bool.eq_iff_iff.2
  simp [isin]
  constructor
  · rintro (h1 | h1)
    · exact .inl h1
    · exact .inr (by omega)
  · rintro (h1 | h1)
    · exact .inl h1
    · exact .inr (by omega)
/-- A hole more. -/
theorem hst_mark {x : List Nat} {s : Nat} (h : hend 0 (x ++ [s]) < 400) : markR 400 (hst x) ((hend 0 x + s : Nat) : Int) 1 = true ∧ markL 400 (hst x) ((hend 0 x + s : Nat) : Int) 1 = hst (x ++ [s]) := by
  have e1 : hend 0 (x ++ [s]) = hend 0 x + s + 1 := by rw [hend_append]; rfl
  have hw := hst_wf (x := x) (by omega)
  have hr : markR 400 (hst x) ((hend 0 x + s : Nat) : Int) ((1 : Nat) : Int) = true := (mark_iff hw _ _).2 ⟨known_iff.2 (by omega), fun k k1 k2 => by
    rw [hst_has x (by omega)]; simp; right; omega⟩
  refine ⟨hr, Wf.unique (bl := 400) (mark_wf' hw _ _) (hst_wf h) fun k => ?_⟩
  have := mark_has hw hr k
  rw [show ((1 : Nat) : Int) = 1 from rfl] at this
  rw [this, hst_has x (by omega), hst_has _ (by omega), e1, hl_append, List.filter_append, has_append, has_filter (hl (hend 0 x) [s])]
  show _ = (_ || has [⟨hend 0 x, s⟩] k || _)
  rw [has_cons, has_nil, Bool.or_false]
  cases hk : has ((hl 0 x).filter nz) k with
  | true =>
    have := hl_has hk
    simp [btw]; omega
  | false =>
    apply Bool.eq_iff_iff.2
    simp [btw, isin]; omega
/-- The rest is taken. -/
theorem hst_last {x : List Nat} (h : hend 0 x < 400) : markR 400 (hst x) ((hend 0 x : Nat) : Int) ((400 - hend 0 x : Nat) : Int) = true ∧ markL 400 (hst x) ((hend 0 x : Nat) : Int) ((400 - hend 0 x : Nat) : Int) = (hl 0 x).filter nz := by
  have hw := hst_wf h
  have hr : markR 400 (hst x) ((hend 0 x : Nat) : Int) ((400 - hend 0 x : Nat) : Int) = true := (mark_iff hw _ _).2 ⟨known_iff.2 (by omega), fun k k1 k2 => by
    rw [hst_has x (by omega)]; simp; right; omega⟩
  refine ⟨hr, Wf.unique (bl := 400) (mark_wf' hw _ _) (hl_wf h) fun k => ?_⟩
  rw [mark_has hw hr k, hst_has x (by omega)]
  cases hk : has ((hl 0 x).filter nz) k with
  | true =>
    have := hl_has hk
    simp [btw]; omega
  | false =>
    apply Bool.eq_iff_iff.2
    simp [btw]; omega
theorem hl_sum (x : List Nat) : sumN ((hl 0 x).filter nz) = x.sum := by rw [sumN_eq, sum_filter, hl_map]
theorem hl_top (x : List Nat) : topN ((hl 0 x).filter nz) = x.foldl max 0 := by rw [topN_eq, top_filter, hl_map]
/-- The first hole that has room. -/
def wantF (k : Nat) : Nat → List Nat → Int
  | _, [] => -1
  | a, s :: t => if k ≤ s then (a : Nat) else wantF k (a + s + 1) t
theorem wantF_append (k : Nat) : ∀ (a : Nat) (x : List Nat) (s : Nat), wantF k a (x ++ [s]) = if wantF k a x < 0 then (if k ≤ s then ((hend a x : Nat) : Int) else -1) else wantF k a x
  | a, [], s => by simp [wantF, hend]
  | a, y :: t, s => by
    show (if k ≤ y then ((a : Nat) : Int) else wantF k (a + y + 1) (t ++ [s])) = if (if k ≤ y then ((a : Nat) : Int) else wantF k (a + y + 1) t) < 0 then (if k ≤ s then ((hend (a + y + 1) t : Nat) : Int) else -1) else (if k ≤ y then ((a : Nat) : Int) else wantF k (a + y + 1) t)
    by_cases h : k ≤ y
    · rw [if_pos h, if_pos h, if_neg (by omega)]
    · rw [if_neg h, if_neg h, wantF_append]

theorem takeR_eq {l : List Rn} {k : Nat} (hk : 1 ≤ k) : takeR l k = match l.find? (fits k) with | some r => ((r.a : Int), true) | none => (0, false) := by
  have hi : ∀ l, takeI l k = l.findIdx (fits k) := fun l => by unfold takeI; rw [if_pos (by omega)]
  unfold takeR
  rw [hi]
  clear hi
  induction l with
  | nil => rfl
  | cons r l ih =>
    rw [List.find?_cons, List.findIdx_cons]
    cases h : fits k r with
    | true => simp [rn]
    | false =>
      simp only [cond_false, List.length_cons, Nat.add_lt_add_iff_right]
      rw [← ih]
      have : rn (r :: l) (l.findIdx (fits k) + 1) = rn l (l.findIdx (fits k)) := rfl
      rw [this]
theorem hl_find {k : Nat} (hk : 1 ≤ k) : ∀ (a : Nat) (x : List Nat), (match ((hl a x).filter nz).find? (fits k) with | some r => ((r.a : Int), true) | none => ((0 : Int), false)) = if wantF k a x < 0 then (0, false) else (wantF k a x, true)
  | a, [] => rfl
  | a, s :: t => by
    have ih := hl_find hk (a + s + 1) t
    show (match ((⟨a, s⟩ :: hl (a + s + 1) t).filter nz).find? (fits k) with | some r => ((r.a : Int), true) | none => ((0 : Int), false)) = _
    rw [List.filter_cons]
    unfold wantF
    by_cases h : k ≤ s
    · rw [if_pos (show nz ⟨a, s⟩ = true by simp [nz]; omega), List.find?_cons, show fits k ⟨a, s⟩ = true by simp [fits]; omega, if_pos h, if_neg (by omega)]
    · rw [if_neg h, ← ih]
      by_cases h2 : nz ⟨a, s⟩ = true
      · rw [if_pos h2, List.find?_cons, show fits k ⟨a, s⟩ = false by simp [fits]; omega]
      · rw [if_neg h2]
theorem hl_take {k : Nat} (hk : 1 ≤ k) (x : List Nat) : takeR ((hl 0 x).filter nz) k = if wantF k 0 x < 0 then (0, false) else (wantF k 0 x, true) := by
  rw [takeR_eq hk, hl_find hk]
/-- What Take does to the sum; what it takes can be given back. -/
theorem take_sum {l : List Rn} {k : Nat} (h : (takeR l k).2 = true) : sumN (takeL l k) + k = sumN l := by
  have hi : takeI l k < l.length := by
    unfold takeR at h; split at h
    · assumption
    · cases h
  have hk : 1 ≤ k ∧ k ≤ (rn l (takeI l k)).n := by
    unfold takeI at hi ⊢
    split at hi
    · rename_i h1
      rw [if_pos h1]
      have := idx_is hi
      simp [fits] at this
      omega
    · exact absurd hi (Nat.lt_irrefl _)
  unfold takeL
  rw [if_pos hi, sumN_eq, sumN_eq]
  unfold putl
  conv => rhs; rw [split_at hi]
  simp only [List.map_append, List.sum_append, List.map_cons, List.sum_cons, sum_filter, List.map_nil, List.sum_nil, Int.toNat_natCast]
  omega
theorem take_back {bl : Nat} {l : List Rn} (hw : Wf bl l) {k : Nat} {a : Nat} (h : takeR l k = ((a : Int), true)) (hb : bl = 400) :
    markR bl (takeL l k) a 1 = false ∧ giveR bl (takeL l k) a k = true ∧ giveL bl (takeL l k) a k = l := by
  have hi : takeI l k < l.length := by
    unfold takeR at h; split at h
    · assumption
    · cases h
  have ha : (rn l (takeI l k)).a = a := by
    unfold takeR at h; rw [if_pos hi] at h
    injection h with h1; omega
  have hk : 1 ≤ k ∧ k ≤ (rn l (takeI l k)).n := by
    unfold takeI at hi ⊢
    split at hi
    · rename_i h1
      rw [if_pos h1]
      have := idx_is hi
      simp [fits] at this
      omega
    · exact absurd hi (Nat.lt_irrefl _)
  have hend := hw.2.2 _ (mem_rn hi)
  have hth := take_has hw k hi
  rw [ha] at hth
  simp only [Int.toNat_natCast] at hth
  have hwt := take_wf hw k
  have hg : giveR bl (takeL l k) a k = true := (give_iff hwt a k).2 ⟨known_iff.2 (by omega), fun j j1 j2 => by
    rw [(hth j).1, btw_iff.2 ⟨j1, j2⟩]; simp⟩
  refine ⟨?_, hg, Wf.unique (bl := bl) (give_wf hwt a k) hw fun j => ?_⟩
  · cases hm : markR bl (takeL l k) a 1 with
    | false => rfl
    | true =>
      have := ((mark_iff hwt a 1).1 hm).2 a (Nat.le_refl _) (by omega)
      rw [(hth a).1, btw_iff.2 ⟨Nat.le_refl _, by omega⟩] at this
      simp at this
  · rw [give_has hwt hg, (hth j).1]
    cases hj : btw a k j with
    | true => rw [(hth j).2 j hj]; rfl
    | false => simp
end Go.Proofs.Ytbfhoadhihlhjaa

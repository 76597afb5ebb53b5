/- The texts VNdPL, SlL of this proof, one behind the other. Conditions: those of each. -/
import Derived.Test.YtgoghmblfdlnbaaGreatGR30
import Derived.Test.YtgoghmblfdlnbaaGreatGR35
section
/- Nodes: what is encoded is decoded, and the other way round; what is cut, and what is longer (no program). -/
set_option linter.unusedSimpArgs false
set_option linter.unusedVariables false
namespace Go.Proofs.YtgoghmblfdlnbaaGreat.nd
open Go.RowKit

theorem numF_inv : ∀ (f i x : Nat) (bs : List Nat) (y : Nat) (r : List Nat), Byt bs → numF f i x bs = .ok y r → ∃ z, y = x + z * 128 ^ i ∧ bs = enc z ++ r ∧ (0 < z ∨ i = 0) ∧ z < 128 ^ f
  | 0, i, x, bs, y, r, _, h => by simp [numF] at h
  | f + 1, i, x, [], y, r, _, h => by simp [numF] at h
  | f + 1, i, x, c :: t, y, r, hB, h => by
    rw [numF] at h
    by_cases h1 : c < 128
    · rw [if_pos h1] at h
      by_cases h2 : c = 0 ∧ 0 < i
      · rw [if_pos h2] at h; cases h
      · rw [if_neg h2] at h
        injection h with ha hb
        refine ⟨c, by rw [← ha, Nat.mod_eq_of_lt h1], by rw [enc_lo h1, hb]; rfl, by omega, ?_⟩
        have : 128 ≤ 128 ^ (f + 1) := by rw [Nat.pow_succ]; exact Nat.le_mul_of_pos_left _ (Nat.pow_pos (by decide))
        omega
    · rw [if_neg h1] at h
      obtain ⟨z, e1, e2, e3, e4⟩ := numF_inv f (i + 1) _ t y r (fun c hc => hB c (List.mem_cons_of_mem _ hc)) h
      have hc : c < 256 := hB c (List.mem_cons_self ..)
      have hz : 0 < z := by omega
      refine ⟨c % 128 + 128 * z, ?_, ?_, .inl (by omega), ?_⟩
      · rw [e1, Nat.pow_succ, Nat.add_mul, ← Nat.add_assoc]
        congr 1
        rw [← Nat.mul_assoc, Nat.mul_comm 128 z, Nat.mul_assoc, Nat.mul_assoc, Nat.mul_comm 128 (128 ^ i)]
      · rw [enc_hi (show ¬ c % 128 + 128 * z < 128 by omega), e2]
        have a1 : (c % 128 + 128 * z) % 128 + 128 = c := by omega
        have a2 : (c % 128 + 128 * z) / 128 = z := by omega
        rw [a1, a2]; rfl
      · rw [Nat.pow_succ]
        have : c % 128 < 128 := Nat.mod_lt _ (by decide)
        have h5 : z + 1 ≤ 128 ^ f := e4
        have h6 := Nat.mul_le_mul_left 128 h5
        omega
theorem num_inv {bs : List Nat} {y : Nat} {r : List Nat} (hB : Byt bs) (h : num bs = .ok y r) : bs = enc y ++ r ∧ y < 268435456 := by
  obtain ⟨z, e1, e2, _, e4⟩ := numF_inv 4 0 0 bs y r hB h
  have : y = z := by simpa using e1
  subst this
  exact ⟨e2, e4⟩
theorem nums_inv : ∀ (c : Nat) (bs l r : List Nat), Byt bs → nums' c bs = .ok l r → bs = encs l ++ r ∧ l.length = c ∧ (∀ n ∈ l, n < 268435456) ∧ Byt r
  | 0, bs, l, r, hB, h => by
    unfold nums' at h
    injection h with h1 h2
    subst h1; subst h2
    exact ⟨rfl, rfl, (fun _ h => by cases h), hB⟩
  | c + 1, bs, l, r, hB, h => by
    unfold nums' at h
    cases h1 : num bs with
    | bad e => rw [h1] at h; cases h
    | ok n r1 =>
      rw [h1] at h
      dsimp only at h
      obtain ⟨e1, e2⟩ := num_inv hB h1
      cases h2 : nums' c r1 with
      | bad e => rw [h2] at h; cases h
      | ok l' r' =>
        rw [h2] at h
        injection h with h3 h4
        subst h3; subst h4
        obtain ⟨f1, f2, f3, f4⟩ := nums_inv c r1 l' r' (num_byt h1 hB) h2
        refine ⟨by rw [encs_cons, List.append_assoc, ← f1, ← e1], by simp [f2], ?_, f4⟩
        intro m hm
        rcases List.mem_cons.1 hm with rfl | hm
        · exact e2
        · exact f3 m hm
theorem nums_enc : ∀ (l rest : List Nat), (∀ n ∈ l, n < 268435456) → nums' l.length (encs l ++ rest) = .ok l rest
  | [], rest, _ => rfl
  | n :: l, rest, h => by
    show nums' (l.length + 1) _ = _
    unfold nums'
    rw [encs_cons, List.append_assoc, num_enc n (h n (List.mem_cons_self ..))]
    dsimp only
    rw [nums_enc l rest fun m hm => h m (List.mem_cons_of_mem _ hm)]
theorem take_app {α : Type} (a b : List α) {k : Nat} (h : a.length ≤ k) : (a ++ b).take k = a ++ b.take (k - a.length) := by
  rw [List.take_append, List.take_of_length_le h]
theorem take_left {α : Type} (a b : List α) {k : Nat} (h : k < a.length) : (a ++ b).take k = a.take k := by
  rw [List.take_append, show k - a.length = 0 by omega]; simp
theorem nums_cut : ∀ (l : List Nat) (k : Nat), (∀ n ∈ l, n < 268435456) → k < (encs l).length → nums' l.length ((encs l).take k) = .bad 2
  | [], k, _, h => by simp [encs_nil] at h
  | n :: l, k, h, hk => by
    show nums' (l.length + 1) _ = _
    unfold nums'
    have hn := h n (List.mem_cons_self ..)
    rw [encs_cons] at hk ⊢
    rw [List.length_append] at hk
    by_cases h1 : k < (enc n).length
    · rw [take_left _ _ h1, num_short n k hn h1]
    · rw [take_app _ _ (by omega), num_enc n hn]
      dsimp only
      rw [nums_cut l (k - (enc n).length) (fun m hm => h m (List.mem_cons_of_mem _ hm)) (by omega)]

/-! ### the entries -/
theorem ent_length (x : Nd) (i : Nat) : (ent x i).length = wd x := by unfold ent entZ wd; split <;> simp
/-- The first i entries. -/
def ptake (x : Nd) (i : Nat) : Nd := if x.h = 0 then ⟨x.h, x.ks.take i, x.ps.take i, x.gs.take i, x.ds⟩ else ⟨x.h, x.ks.take i, x.ps, x.gs, x.ds.take i⟩
theorem ptake_h (x : Nd) (i : Nat) : (ptake x i).h = x.h := by unfold ptake; split <;> rfl
theorem ptake_wd (x : Nd) (i : Nat) : wd (ptake x i) = wd x := by unfold wd; rw [ptake_h]
theorem kd_eta (k : Kd) : (⟨k.a, k.n, k.g⟩ : Kd) = k := rfl
theorem addE_ent {x : Nd} (h : MayNd x) {i : Nat} (hi : i < x.ks.length) : addE (ptake x i) (ent x i) = ptake x (i + 1) := by
  have hk := may_key h hi
  unfold addE
  rw [ptake_h]
  by_cases h0 : x.h = 0
  · obtain ⟨l1, l2, l3⟩ := may_leaf h h0 hi
    have n1 := l3 _ (List.mem_cons_self ..)
    have n2 := l3 _ (List.mem_cons_of_mem _ (List.mem_cons_self ..))
    have n3 := l3 _ (List.mem_cons_of_mem _ (List.mem_cons_of_mem _ (List.mem_cons_self ..)))
    have n4 := l3 _ (List.mem_cons_of_mem _ (List.mem_cons_of_mem _ (List.mem_cons_of_mem _ (List.mem_cons_self ..))))
    unfold Nm at hk n1 n2 n3 n4
    rw [if_pos h0]
    unfold ptake ent entZ at5
    simp only [if_pos h0, List.map_cons, List.map_nil, List.getD_cons_zero, List.getD_cons_succ]
    rw [Int.toNat_of_nonneg hk.1, Int.toNat_of_nonneg n1.1, Int.toNat_of_nonneg n2.1, Int.toNat_of_nonneg n3.1, Int.toNat_of_nonneg n4.1]
    rw [List.take_succ_eq_append_getElem hi, List.take_succ_eq_append_getElem (show i < x.ps.length by omega), List.take_succ_eq_append_getElem (show i < x.gs.length by omega), kz_eq hi, kd_eta, kd_eq, kz_eq]
  · obtain ⟨l1, l3⟩ := may_inner h h0 hi
    have n1 := l3 _ (List.mem_cons_self ..)
    have n2 := l3 _ (List.mem_cons_of_mem _ (List.mem_cons_self ..))
    have n3 := l3 _ (List.mem_cons_of_mem _ (List.mem_cons_of_mem _ (List.mem_cons_self ..)))
    unfold Nm at hk n1 n2 n3
    rw [if_neg h0]
    unfold ptake ent entZ at5
    simp only [if_neg h0, List.map_cons, List.map_nil, List.getD_cons_zero, List.getD_cons_succ]
    rw [Int.toNat_of_nonneg hk.1, Int.toNat_of_nonneg n1.1, Int.toNat_of_nonneg n2.1, Int.toNat_of_nonneg n3.1]
    rw [List.take_succ_eq_append_getElem hi, List.take_succ_eq_append_getElem (show i < x.ds.length by omega), kz_eq hi, kd_eta, kd_eq]
theorem ptake_zero {x : Nd} (h : MayNd x) : ptake x 0 = ⟨x.h, [], [], [], []⟩ := by
  unfold ptake
  by_cases h0 : x.h = 0
  · obtain ⟨_, _, c, _⟩ := h.2.2.1 h0
    rw [if_pos h0]
    simp [List.length_eq_zero_iff.1 c]
  · obtain ⟨_, _, c, d, _⟩ := h.2.2.2 h0
    rw [if_neg h0]
    simp [List.length_eq_zero_iff.1 c, List.length_eq_zero_iff.1 d]
theorem ptake_all {x : Nd} (h : MayNd x) : ptake x x.ks.length = x := by
  unfold ptake
  by_cases h0 : x.h = 0
  · obtain ⟨a, b, _, _⟩ := h.2.2.1 h0
    rw [if_pos h0, List.take_of_length_le (Nat.le_refl _), List.take_of_length_le (by omega), List.take_of_length_le (by omega)]
  · obtain ⟨_, b, _, _, _⟩ := h.2.2.2 h0
    rw [if_neg h0, List.take_of_length_le (Nat.le_refl _), List.take_of_length_le (by omega)]
/-- The numbers of m entries from i on. -/
def body (x : Nd) (i m : Nat) : List Nat := (List.range' i m).flatMap (ent x)
theorem body_succ (x : Nd) (i m : Nat) : body x i (m + 1) = ent x i ++ body x (i + 1) m := by
  unfold body
  rw [List.range'_succ, List.flatMap_cons]
theorem pre_body (x : Nd) (n : Nat) : encs (pre x n) = enc x.h.toNat ++ (enc x.ks.length ++ encs (body x 0 n)) := by
  unfold pre body
  rw [encs_cons, encs_cons, List.range_eq_range']
theorem encs_app (a b : List Nat) : encs (a ++ b) = encs a ++ encs b := by unfold encs; rw [List.flatMap_append]
theorem rdN_body {x : Nd} (h : MayNd x) (rest : List Nat) : ∀ (m i : Nat), i + m ≤ x.ks.length → rdN m (ptake x i) (encs (body x i m) ++ rest) = .ok (ptake x (i + m)) rest
  | 0, i, _ => rfl
  | m + 1, i, hi => by
    unfold rdN
    rw [body_succ, encs_app, List.append_assoc, ptake_wd, ← ent_length x i, nums_enc _ _ (ent_lt h (by omega))]
    dsimp only
    rw [addE_ent h (by omega), rdN_body h rest m (i + 1) (by omega), show i + 1 + m = i + (m + 1) by omega]
theorem rdN_cut {x : Nd} (h : MayNd x) : ∀ (m i k : Nat), i + m ≤ x.ks.length → k < (encs (body x i m)).length → rdN m (ptake x i) ((encs (body x i m)).take k) = .bad 2
  | 0, i, k, _, hk => by simp [body, encs_nil] at hk
  | m + 1, i, k, hi, hk => by
    unfold rdN
    rw [body_succ, encs_app] at hk ⊢
    rw [List.length_append] at hk
    rw [ptake_wd, ← ent_length x i]
    by_cases h1 : k < (encs (ent x i)).length
    · rw [take_left _ _ h1, nums_cut _ k (ent_lt h (by omega)) h1]
    · rw [take_app _ _ (by omega), nums_enc _ _ (ent_lt h (by omega))]
      dsimp only
      rw [addE_ent h (by omega)]
      exact rdN_cut h m (i + 1) _ (by omega) (by omega)
theorem may_h {x : Nd} (h : MayNd x) : x.h.toNat < 268435456 ∧ ((x.h.toNat : Nat) : Int) = x.h ∧ x.ks.length < 268435456 ∧ ¬ 8 < x.ks.length := by
  have h1 := h.1
  have h2 := h.2.1.1
  omega
theorem outc_pre {x : Nd} (h : MayNd x) (rest : List Nat) : outc (encs (pre x x.ks.length) ++ rest) = .good x rest := by
  obtain ⟨a, b, c, d⟩ := may_h h
  unfold outc
  rw [pre_body, List.append_assoc, num_enc _ a]
  dsimp only
  rw [List.append_assoc, num_enc _ c]
  dsimp only
  rw [if_neg d, b, ← ptake_zero h, rdN_body h rest _ 0 (by omega), Nat.zero_add, ptake_all h]
  rfl
theorem decd_pre {x : Nd} (h : MayNd x) : decd (encs (pre x x.ks.length)) = .inl x := by
  have := outc_pre h []
  rw [List.append_nil] at this
  unfold decd
  rw [this]
  simp [h]
theorem decd_long {x : Nd} (h : MayNd x) : decd (encs (pre x x.ks.length) ++ [0]) = .inr 3 := by
  unfold decd
  rw [outc_pre h]
  simp
theorem decd_cut {x : Nd} (h : MayNd x) {k : Nat} (hk : k < (encs (pre x x.ks.length)).length) : decd ((encs (pre x x.ks.length)).take k) = .inr 2 := by
  obtain ⟨a, b, c, d⟩ := may_h h
  have : outc ((encs (pre x x.ks.length)).take k) = .bad 2 := by
    unfold outc
    rw [pre_body] at hk ⊢
    rw [List.length_append, List.length_append] at hk
    by_cases h1 : k < (enc x.h.toNat).length
    · rw [take_left _ _ h1, num_short _ _ a h1]
    · rw [take_app _ _ (by omega), num_enc _ a]
      dsimp only
      by_cases h2 : k - (enc x.h.toNat).length < (enc x.ks.length).length
      · rw [take_left _ _ h2, num_short _ _ c h2]
      · rw [take_app _ _ (by omega), num_enc _ c]
        dsimp only
        rw [if_neg d, b, ← ptake_zero h, rdN_cut h _ 0 _ (by omega) (by omega)]
        rfl
  unfold decd
  rw [this]

/-! ### what is decoded is encoded to the same bytes -/
/-- y goes on from x. -/
structure Ext (x y : Nd) : Prop where
  h : y.h = x.h
  k : ∀ j, j < x.ks.length → kz y.ks j = kz x.ks j
  p : x.h = 0 → ∀ j, j < x.ks.length → kd y.ps j = kd x.ps j ∧ kz y.gs j = kz x.gs j
  d : x.h ≠ 0 → ∀ j, j < x.ks.length → kd y.ds j = kd x.ds j
theorem Ext.refl (x : Nd) : Ext x x := ⟨rfl, fun _ _ => rfl, fun _ _ _ => ⟨rfl, rfl⟩, fun _ _ _ => rfl⟩
theorem Ext.trans {x y z : Nd} (h1 : Ext x y) (h2 : Ext y z) (hl : x.ks.length ≤ y.ks.length) : Ext x z :=
  ⟨h2.h.trans h1.h, fun j hj => (h2.k j (by omega)).trans (h1.k j hj), fun h0 j hj => ⟨(h2.p (by rw [h1.h]; exact h0) j (by omega)).1.trans (h1.p h0 j hj).1, (h2.p (by rw [h1.h]; exact h0) j (by omega)).2.trans (h1.p h0 j hj).2⟩,
   fun h0 j hj => (h2.d (by rw [h1.h]; exact h0) j (by omega)).trans (h1.d h0 j hj)⟩
theorem Ext.ent {x y : Nd} (h : Ext x y) {j : Nat} (hj : j < x.ks.length) : ent y j = ent x j := by
  unfold Go.Proofs.YtgoghmblfdlnbaaGreat.nd.ent entZ
  rw [h.h, h.k j hj]
  by_cases h0 : x.h = 0
  · rw [if_pos h0, if_pos h0, (h.p h0 j hj).1, (h.p h0 j hj).2]
  · rw [if_neg h0, if_neg h0, h.d h0 j hj]
/-- Its lists are as long as its keys. -/
def Lens (x : Nd) : Prop := (x.h = 0 → x.ps.length = x.ks.length ∧ x.gs.length = x.ks.length) ∧ (x.h ≠ 0 → x.ds.length = x.ks.length)
theorem kz_app (l : List Int) (z : Int) {j : Nat} (hj : j < l.length) : kz (l ++ [z]) j = kz l j := by unfold kz; rw [List.getD_eq_getElem?_getD, List.getD_eq_getElem?_getD, List.getElem?_append_left hj]
theorem kd_app (l : List Kd) (z : Kd) {j : Nat} (hj : j < l.length) : kd (l ++ [z]) j = kd l j := by unfold kd; rw [List.getD_eq_getElem?_getD, List.getD_eq_getElem?_getD, List.getElem?_append_left hj]
theorem kz_last (l : List Int) (z : Int) : kz (l ++ [z]) l.length = z := by simp [kz]
theorem kd_last (l : List Kd) (z : Kd) : kd (l ++ [z]) l.length = z := by simp [kd]
theorem addE_ext {x : Nd} (hl : Lens x) (l : List Nat) : Ext x (addE x l) ∧ Lens (addE x l) ∧ (addE x l).ks.length = x.ks.length + 1 := by
  unfold addE
  by_cases h0 : x.h = 0
  · obtain ⟨a, b⟩ := hl.1 h0
    rw [if_pos h0]
    refine ⟨⟨rfl, fun j hj => kz_app _ _ hj, fun _ j hj => ⟨kd_app _ _ (by omega), kz_app _ _ (by omega)⟩, fun h => absurd h0 h⟩, ⟨fun _ => by simp [a, b], fun h => absurd h0 h⟩, by simp⟩
  · have a := hl.2 h0
    rw [if_neg h0]
    refine ⟨⟨rfl, fun j hj => kz_app _ _ hj, fun h => absurd h h0, fun _ j hj => kd_app _ _ (by omega)⟩, ⟨fun h => absurd h h0, fun _ => by simp [a]⟩, by simp⟩
theorem addE_last {x : Nd} (hl : Lens x) {l : List Nat} (hw : l.length = wd x) : ent (addE x l) x.ks.length = l := by
  unfold wd at hw
  by_cases h0 : x.h = 0
  · obtain ⟨a, b⟩ := hl.1 h0
    rw [if_pos h0] at hw
    match l, hw with
    | [c1, c2, c3, c4, c5], _ =>
      unfold ent entZ addE
      simp only [if_pos h0]
      rw [kz_last, ← a, kd_last, a, ← b, kz_last]
      simp [at5]
  · have a := hl.2 h0
    rw [if_neg h0] at hw
    match l, hw with
    | [c1, c2, c3, c4], _ =>
      unfold ent entZ addE
      simp only [if_neg h0]
      rw [kz_last, ← a, kd_last]
      simp [at5]
theorem rdN_inv : ∀ (m : Nat) (x : Nd) (bs : List Nat) (y : Nd) (rest : List Nat), Byt bs → Lens x → rdN m x bs = .ok y rest → bs = encs (body y x.ks.length m) ++ rest ∧ y.ks.length = x.ks.length + m ∧ Ext x y
  | 0, x, bs, y, rest, _, _, h => by
    unfold rdN at h
    injection h with h1 h2
    subst h1; subst h2
    exact ⟨rfl, rfl, Ext.refl x⟩
  | m + 1, x, bs, y, rest, hB, hl, h => by
    unfold rdN at h
    cases hn : nums' (wd x) bs with
    | bad e => rw [hn] at h; cases h
    | ok l r =>
      rw [hn] at h
      dsimp only at h
      obtain ⟨f1, f2, _, f4⟩ := nums_inv _ _ _ _ hB hn
      obtain ⟨e1, e2, e3⟩ := addE_ext hl l
      obtain ⟨g1, g2, g3⟩ := rdN_inv m (addE x l) r y rest f4 e2 h
      rw [e3] at g1 g2
      refine ⟨?_, by omega, e1.trans g3 (by omega)⟩
      rw [body_succ, encs_app, List.append_assoc, ← g1, g3.ent (show x.ks.length < (addE x l).ks.length by omega), addE_last hl f2]
      exact f1
theorem decd_inv {xs : List Nat} {x : Nd} (hB : Byt xs) (h : decd xs = .inl x) : MayNd x ∧ encs (pre x x.ks.length) = xs := by
  unfold decd at h
  cases ho : outc xs with
  | bad e => rw [ho] at h; cases h
  | big r => rw [ho] at h; cases h
  | good y rest =>
    rw [ho] at h
    dsimp only at h
    by_cases hr : rest = []
    · rw [if_neg (by simp [hr])] at h
      by_cases hm : MayNd y
      · rw [if_pos hm] at h
        injection h with h
        subst h
        refine ⟨hm, ?_⟩
        unfold outc at ho
        cases h1 : num xs with
        | bad e => rw [h1] at ho; cases ho
        | ok a r =>
          rw [h1] at ho
          dsimp only at ho
          obtain ⟨e1, e2⟩ := num_inv hB h1
          have hB1 := num_byt h1 hB
          cases h2 : num r with
          | bad e => rw [h2] at ho; cases ho
          | ok m r2 =>
            rw [h2] at ho
            dsimp only at ho
            obtain ⟨f1, f2⟩ := num_inv hB1 h2
            have hB2 := num_byt h2 hB1
            split at ho
            · cases ho
            · cases h3 : rdN m ⟨(a : Nat), [], [], [], []⟩ r2 with
              | bad e => rw [h3] at ho; cases ho
              | ok y' rest' =>
                rw [h3] at ho
                injection ho with ho1 ho2
                subst ho1; subst ho2
                obtain ⟨g1, g2, g3⟩ := rdN_inv m ⟨(a : Nat), [], [], [], []⟩ r2 y' rest' hB2 ⟨fun _ => ⟨rfl, rfl⟩, fun _ => rfl⟩ h3
                have hh : y'.h = (a : Nat) := g3.h
                simp only [List.length_nil, Nat.zero_add] at g1 g2
                rw [pre_body, hh, Int.toNat_natCast, g2, e1, f1, g1, hr, List.append_nil]
      · rw [if_neg hm] at h; cases h
    · rw [if_pos hr] at h; cases h
end Go.Proofs.YtgoghmblfdlnbaaGreat.nd
end

section
/- Slab: Load of what was saved. Conditions: no faults. -/
set_option linter.unusedSimpArgs false
set_option linter.unusedVariables false
namespace Go.Proofs.YtgoghmblfdlnbaaGreat
open Go.RowKit
open nd (Nd Kd Vs MayNd pre ncells)
theorem chunks_all : ∀ (n : Nat) (xs : List Nat), xs.length = 64 * n → (List.range n).flatMap (chunk xs) = xs := by
  intro n
  induction n with
  | zero => intro xs h; have : xs = [] := List.length_eq_zero_iff.1 (by omega); subst this; rfl
  | succ n ih =>
    intro xs h
    rw [List.range_succ, List.flatMap_append, List.flatMap_singleton]
    have h1 := ih (xs.take (64 * n)) (by rw [List.length_take]; omega)
    have h2 : (List.range n).flatMap (chunk xs) = (List.range n).flatMap (chunk (xs.take (64 * n))) := by
      rw [List.flatMap_def, List.flatMap_def]
      congr 1
      refine List.map_congr_left fun i hi => ?_
      have hi2 := List.mem_range.1 hi
      unfold chunk
      rw [List.drop_take, List.take_take, Nat.min_eq_left (by omega)]
    rw [h2, h1]
    unfold chunk
    rw [List.take_of_length_le (l := xs.drop (64 * n)) (by rw [List.length_drop]; omega), List.take_append_drop]
theorem frm_chunks {p : Pl} {a n : Nat} {xs : List Nat} (hl : xs.length = 64 * n) (hg : ∀ i, i < n → p.get (a + i) = chunk xs i) : frm p a n = xs := by
  refine Eq.trans ?_ (chunks_all n xs hl)
  unfold frm
  rw [List.flatMap_def, List.flatMap_def]
  congr 1
  exact List.map_congr_left fun i hi => hg i (List.mem_range.1 hi)
set_option maxRecDepth 20000 in
set_option maxHeartbeats 1600000 in
theorem sload_k {Q TP : Nat → Prop} {w0 w : World} {lb plb sb pb bl N gen m : Nat} {p : Pl} {U L H : List Us} {A l : List Rn} (h : Sl Q TP w0 w lb plb sb pb bl N gen m p U L H A l) (a g : Nat) (x : Nd) (hx : MayNd x) (hg : g ≤ 2147483647) (hfa : p.fa = []) (hm : m ≤ 900000) (hab : a + nN x ≤ bl) (hget : ∀ i, i < nN x → p.get (a + i) = chunk (frameF 78 g (datN x)) i) (hlt : 16 + (datN x).length < 64 * nN x) (Post : Ending → World → Prop)
    (hP : ∀ (q' : nd.Ptr) (p' : Pl) (w' : World), Vs w' (New w) q' x ∧ Sl Q TP w0 w' lb plb sb pb bl N gen (m + nN x) p' U L H A l ∧ After p p' (fun _ => False) ∧ Fr TP w w' → Post (.returned (.tuple #[.agg (ncells x q'), .int .i64 0])) w') :
    Calls Tryz.prog 14 #[.pointer (some ⟨lb, 0, none⟩), .agg #[.int .i64 (a : Nat), .int .i64 (nN x : Nat), .int .i64 (g : Nat)]] w Post := by
  have HPost := hid hP
  have HS0 := hid h
  have Hx := hid hx
  have Hfa := hid hfa
  have Hm := hid hm
  have Hab := hid hab
  have Hlt := hid hlt
  have Hfr := hid (frm_chunks (p := p) (a := a) (frameF_length 78 g (datN x)) hget)
  clear hP h hx hfa hm hab hget hlt
  have Hdl := hid (datN_len Hx.out)
  have Hn1 := hid (nN_pos x)
  have Hn4 := hid (nN_le Hx.out)
  go_enter Tryz.func14, Tryz.ntmps14
  go_wp2_with fail
  obtain ⟨W1, hW1⟩ : ∃ W1, W1 = (w.alloc (.cells #[.int .i64 (a : Nat), .int .i64 (nN x : Nat), .int .i64 (g : Nat)] 57)).alloc (.cells nd.nil5 62) := ⟨_, rfl⟩
  obtain ⟨kb, hkb⟩ : ∃ kb, kb = w.heap.size := ⟨_, rfl⟩
  obtain ⟨rb, hrb⟩ : ∃ rb, rb = w.heap.size + 1 := ⟨_, rfl⟩
  have f1 : Fr Nil w W1 := by rw [hW1]; exact ((Fr.refl _ _).alloc _).alloc _
  have hK1 : Blk W1 kb #[.int .i64 (a : Nat), .int .i64 (nN x : Nat), .int .i64 (g : Nat)] 57 := by rw [hW1, hkb]; exact (Blk.new _ _ _).alloc _
  have hR1 : Blk W1 rb nd.nil5 62 := by
    rw [hW1, hrb]
    have := Blk.new (w.alloc (.cells #[.int .i64 (a : Nat), .int .i64 (nN x : Nat), .int .i64 (g : Nat)] 57)) nd.nil5 62
    rwa [World.size_alloc] at this
  rw [show (#[.int .i64 0, .slice none 0 0, .slice none 0 0, .slice none 0 0, .slice none 0 0] : Array Value) = nd.nil5 from rfl, ← hW1, ← hrb, ← hkb]
  have H1 := hid (HS0.out.drop (Q := fun k => Q k ∨ k = kb ∨ k = rb) f1 (fun k hk => hk.imp id fun e => by omega) fun k hk => by
    have h1 := hK1.lt
    have h2 := hR1.lt
    rcases hk with hk | hk | hk
    · exact Nat.lt_of_lt_of_le (HS0.out.tlt k (.inl hk)) f1.size
    · omega
    · omega)
  have HR1 := hid hR1
  have HK1 := hid hK1
  have F1 := hid f1
  have Hrb := hid (show w.heap.size ≤ rb ∧ w.heap.size ≤ kb from by omega)
  have Hw0 := hid (show w0.heap.size ≤ rb ∧ ¬ Q rb from ⟨by have := HS0.out.g.fr0.size; omega, fun hq => by have := HS0.out.tlt rb (.inl hq); omega⟩)
  clear hW1 hrb hkb f1 hR1 hK1 HS0
  refine (sread_ok H1.out a (nN x) Hn1.out Hab.out Hm.out).mono ?_
  rintro e w2 ⟨er, k, c, xs, B, p', rfl, hrow, hS, hA, hcase, hok, hF⟩
  obtain rfl : er = 0 := hok Hfa.out
  obtain ⟨rfl, rfl⟩ : k = 64 * nN x ∧ xs = frm p a (nN x) := by
    rcases hcase with h | h
    · exact h.2
    · exact absurd h.1 (by decide)
  rw [Hfr.out] at hrow
  have hn64 : 0 < 64 * nN x := by have := Hn1.out; omega
  have hk64 : 64 * nN x ≤ 256 := by have := Hn4.out; omega
  obtain ⟨gb, cc, hBe, hgb, hgl⟩ := hrow.form hn64
  injection hBe with hBe _ hcc
  subst hBe; subst hcc
  have HT := hid (fun j (hj : TP j) => (H1.out.q j (.inl hj)).2)
  have HK2 := hid (HK1.out.fr hF fun h => HT.out _ h (.inr (.inl rfl)))
  have HR2 := hid (HR1.out.fr hF fun h => HT.out _ h (.inr (.inr rfl)))
  have H2 := hid hS
  have HA := hid hA
  have HW := hid hrow
  have F2 := hid ((F1.out.nil (S := TP)).then hF)
  clear hrow hS hA hcase hok hF HK1 HR1 H1
  go_wp2_with fail
  have hne : c ≠ 16 + (datN x).length := by
    obtain ⟨_, _, _, e, h, _⟩ := HW.out.view
    injection e with _ _ e
    have := Hlt.out
    omega
  refine (lopen_ok _ 78 g (by decide) hg gb 0 (64 * nN x) c (datN x) (datN x).length rfl (by have := Hdl.out; omega) rfl hne w2 HW.out.view (encs_byt _)).mono ?_
  rintro e w3 ⟨D, dc, rfl, hD, hf3⟩
  obtain ⟨d, hd⟩ : ∃ d, d = (datN x).length := ⟨_, rfl⟩
  rw [← hd] at hD
  rw [← hd]
  have Hd := hid hd
  have HD := hid hD
  have H3 := hid (H2.out.nil hf3)
  have HK3 := hid (HK2.out.fr hf3 fun h => h)
  have HR3 := hid (HR2.out.fr hf3 fun h => h)
  have F3 := hid (F2.out.thenNil hf3)
  have k2 : w3.cell? ⟨kb, 2, none⟩ = some (.int .i64 (g : Nat)) := HK3.out.cell 2
  clear hd hD hf3 hne HK2 HR2 H2
  go_wp2_with fail
  refine (nd.dec_ok _ (.slice D d dc) d (datN x) (by have := Hdl.out; have := Hd.out; omega) (encs_byt _) w3 HD.out.view).mono ?_
  rintro e w4 hpost
  rw [nd.decd_pre Hx.out] at hpost
  obtain ⟨q', rfl, hV, hf4⟩ := hpost
  have H4 := hid (H3.out.nil hf4)
  have hr7 := HR3.out.fr hf4 fun h => h
  have F4 := hid (F3.out.thenNil hf4)
  have HV := hid hV
  have k0 : w4.cell? ⟨rb, 0, none⟩ = some (.int .i64 0) := hr7.cell 0
  have k1 : w4.cell? ⟨rb, 1, none⟩ = some (.slice none 0 0) := hr7.cell 1
  have k2 : w4.cell? ⟨rb, 2, none⟩ = some (.slice none 0 0) := hr7.cell 2
  have k3 : w4.cell? ⟨rb, 3, none⟩ = some (.slice none 0 0) := hr7.cell 3
  have k4 : w4.cell? ⟨rb, 4, none⟩ = some (.slice none 0 0) := hr7.cell 4
  have z0 := hr7.frozen 0
  have z1 := hr7.frozen 1
  have z2 := hr7.frozen 2
  have z3 := hr7.frozen 3
  have z4 := hr7.frozen 4
  have hrl := hr7.lt
  have HR7 := hid hr7
  clear hr7 hV hf4
  unfold ncells
  go_wp2
  have hfs := nd.st5_fr w4 rb (.int .i64 x.h) (.slice q'.A1 x.ks.length q'.c1) (.slice q'.A2 x.ps.length q'.c2) (.slice q'.A3 x.gs.length q'.c3) (.slice q'.A4 x.ds.length q'.c4)
  have hb9 := nd.st5_blk HR7.out (.int .i64 x.h) (.slice q'.A1 x.ks.length q'.c1) (.slice q'.A2 x.ps.length q'.c2) (.slice q'.A3 x.gs.length q'.c3) (.slice q'.A4 x.ds.length q'.c4)
  unfold nd.st5 at hfs hb9
  generalize ((((w4.setCell ⟨rb, 0, none⟩ (.int .i64 x.h)).setCell ⟨rb, 1, none⟩ (.slice q'.A1 x.ks.length q'.c1)).setCell ⟨rb, 2, none⟩ (.slice q'.A2 x.ps.length q'.c2)).setCell ⟨rb, 3, none⟩ (.slice q'.A3 x.gs.length q'.c3)).setCell ⟨rb, 4, none⟩ (.slice q'.A4 x.ds.length q'.c4) = W9 at *
  have r0 : W9.cell? ⟨rb, 0, none⟩ = some (.int .i64 x.h) := hb9.cell 0
  have r1 : W9.cell? ⟨rb, 1, none⟩ = some (.slice q'.A1 x.ks.length q'.c1) := hb9.cell 1
  have r2 : W9.cell? ⟨rb, 2, none⟩ = some (.slice q'.A2 x.ps.length q'.c2) := hb9.cell 2
  have r3 : W9.cell? ⟨rb, 3, none⟩ = some (.slice q'.A3 x.gs.length q'.c3) := hb9.cell 3
  have r4 : W9.cell? ⟨rb, 4, none⟩ = some (.slice q'.A4 x.ds.length q'.c4) := hb9.cell 4
  have HFS := hid hfs
  clear hfs hb9
  simp [bodyPost, results, Tryz.results14, go_sem, r0, r1, r2, r3, r4]
  have hlr := HR3.out.lt
  have hsz : w.heap.size ≤ w3.heap.size := F3.out.size
  refine HPost.out _ _ _ ⟨(HV.out.fr HFS.out fun k hk _ e => ?_).mono fun k hk => Nat.le_trans hsz hk, H4.out.own (Q := Q) HFS.out (fun k hk => .inl (.inr (.inr hk))) (fun k hk => by rw [hk]; exact Hw0.out.1) (fun k hk => .inl (.inl hk)), HA.out, F4.out.trans HFS.out fun k hk => .inr (by rw [hk]; exact Hrb.out.1)⟩
  have : w3.heap.size ≤ k := hk
  omega
end Go.Proofs.YtgoghmblfdlnbaaGreat
end

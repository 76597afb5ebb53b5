/- Shares: plain laws for SharesLate: how often each run is used. No program. -/
import Derived.Test.YtjieckaeplkafaaShP
set_option linter.unusedSimpArgs false
set_option linter.unusedVariables false
namespace Go.Proofs.Ytjieckaeplkafaa
open Go.RowKit
theorem uget_uput (U : List Us) (u : Us) (j : Int) : uget (uput U u) j = if j = u.a then some u else uget U j := by
  unfold uput
  cases hg : uget U u.a with
  | none =>
    rw [if_neg (by simp)]
    unfold uget at hg ⊢
    rw [List.find?_append]
    by_cases hj : j = u.a
    · rw [if_pos hj, hj, hg]; simp
    · rw [if_neg hj, List.find?_cons, List.find?_nil]
      have : ((u.a : Int) == j) = false := by simp; omega
      rw [this]
      cases List.find? (fun u => (u.a : Int) == j) U <;> rfl
  | some y =>
    rw [if_pos (by rfl)]
    obtain ⟨hy, hya⟩ := uget_mem hg
    have hp : ((fun x : Us => (x.a : Int) == j) ∘ fun x => if ((x.a : Int) == (u.a : Int)) = true then u else x) = fun x : Us => (x.a : Int) == j := by
      funext x
      dsimp only [Function.comp]
      by_cases h : ((x.a : Int) == (u.a : Int)) = true
      · rw [if_pos h]
        have : (x.a : Int) = u.a := by simpa using h
        rw [this]
      · rw [if_neg h]
    unfold uget
    rw [List.find?_map, hp]
    by_cases hj : j = u.a
    · rw [if_pos hj, hj]
      unfold uget at hg
      rw [hg]
      simp [hya]
    · rw [if_neg hj]
      cases hf : List.find? (fun x : Us => (x.a : Int) == j) U with
      | none => rfl
      | some z =>
        have h1 : (z.a : Int) = j := by simpa using List.find?_some hf
        simp only [Option.map_some]
        rw [if_neg (by simp; omega)]
theorem usesI_uput (U : List Us) (u : Us) (j : Int) : usesI (uput U u) j = if j = u.a then u.k else usesI U j := by
  unfold usesI
  rw [uget_uput]
  by_cases h : j = u.a
  · rw [if_pos h, if_pos h]
  · rw [if_neg h, if_neg h]
theorem uget_udel (U : List Us) (i j : Int) : uget (udel U i) j = if j = i then none else uget U j := by
  by_cases h : j = i
  · rw [if_pos h, uget_none]
    intro u hu e
    have := (List.mem_filter.1 hu).2
    simp at this
    omega
  · rw [if_neg h]
    unfold uget udel
    induction U with
    | nil => rfl
    | cons u U ih =>
      rw [List.filter_cons, List.find?_cons]
      by_cases hu : (u.a : Int) = i
      · rw [if_neg (by simp [hu]), ih]
        have : ((u.a : Int) == j) = false := by simp; omega
        rw [this]
      · rw [if_pos (by simp [hu]), List.find?_cons, ih]
theorem usesI_udel (U : List Us) (i j : Int) : usesI (udel U i) j = if j = i then 0 else usesI U j := by
  unfold usesI
  rw [uget_udel]
  by_cases h : j = i
  · rw [if_pos h, if_pos h]
  · rw [if_neg h, if_neg h]
theorem usesI_more (U : List Us) (i j : Int) : usesI (moreU U i) j = if j = i ∧ usesI U i ≠ 0 then usesI U i + 1 else usesI U j := by
  unfold moreU
  by_cases h0 : usesI U i = 0
  · rw [if_pos h0, if_neg (fun h => h.2 h0)]
  · rw [if_neg h0, usesI_uput]
    obtain ⟨hg, ha, hm⟩ := ux_pos h0
    dsimp only
    rw [ha]
    by_cases h : j = i
    · rw [if_pos h, if_pos ⟨h, h0⟩, usesI_ux]
    · rw [if_neg h, if_neg (fun h' => h h'.1)]
theorem usesI_less (U : List Us) (i j : Int) : usesI (lessU U i) j = if j = i then usesI U i - 1 else usesI U j := by
  unfold lessU
  by_cases h0 : usesI U i = 0
  · rw [if_pos h0]
    by_cases h : j = i
    · rw [if_pos h, h, h0]
    · rw [if_neg h]
  · rw [if_neg h0]
    by_cases h1 : usesI U i = 1
    · rw [if_pos h1, usesI_udel]
      by_cases h : j = i
      · rw [if_pos h, if_pos h, h1]
      · rw [if_neg h, if_neg h]
    · rw [if_neg h1, usesI_uput]
      obtain ⟨hg, ha, hm⟩ := ux_pos h0
      dsimp only
      rw [ha]
      by_cases h : j = i
      · rw [if_pos h, if_pos h, usesI_ux]
      · rw [if_neg h, if_neg h]
section
variable {bl N : Nat} {U L H : List Us} {A l : List Rn}
theorem Inv.more_runs (h : Inv bl N U L H A l) (i : Int) : (moreU U i).map Us.r = U.map Us.r := by
  unfold moreU
  split
  · rfl
  · rename_i h0
    obtain ⟨hg, ha, hm⟩ := ux_pos h0
    exact uput_runs (u := ⟨(ux U i).a, (ux U i).n, (ux U i).k + 1⟩) h.nu hm rfl
theorem Inv.less_runs (h : Inv bl N U L H A l) (i : Int) : ((lessU U i).map Us.r ++ (lessL U L i).map Us.r).Perm (U.map Us.r ++ L.map Us.r) := by
  unfold lessU lessL
  by_cases h0 : usesI U i = 0
  · rw [if_pos h0, if_neg (by omega)]
  · rw [if_neg h0]
    obtain ⟨hg, ha, hm⟩ := ux_pos h0
    by_cases h1 : usesI U i = 1
    · have e1 : uput L (ux U i) = L ++ [ux U i] := uput_new (h.no_late hm)
      have e2 : udel U i = udel U ((ux U i).a : Nat) := by rw [ha]
      rw [if_pos h1, if_pos h1, e1, e2]
      have hp2 := (udel_perm h.nu hm).map Us.r
      rw [List.map_append] at hp2
      refine List.Perm.symm ((List.Perm.append_right _ hp2).trans ?_)
      rw [List.append_assoc, List.map_append]
      exact List.Perm.append_left _ List.perm_append_comm
    · rw [if_neg h1, if_neg h1, uput_runs (u := ⟨(ux U i).a, (ux U i).n, (ux U i).k - 1⟩) h.nu hm rfl]
theorem Inv.less_len (h : Inv bl N U L H A l) (i : Int) : (lessU U i).length + (if usesI U i = 1 then 1 else 0) = U.length := by
  unfold lessU
  by_cases h0 : usesI U i = 0
  · rw [if_pos h0, if_neg (by omega)]; omega
  · rw [if_neg h0]
    obtain ⟨hg, ha, hm⟩ := ux_pos h0
    by_cases h1 : usesI U i = 1
    · have e2 : udel U i = udel U ((ux U i).a : Nat) := by rw [ha]
      rw [if_pos h1, if_pos h1, e2]
      have := (udel_perm h.nu hm).length_eq
      simp at this
      omega
    · rw [if_neg h1, if_neg h1]
      have := congrArg List.length (uput_runs (u := ⟨(ux U i).a, (ux U i).n, (ux U i).k - 1⟩) h.nu hm rfl)
      simp at this
      omega
end
/-! ### SharesLate -/
def cntP (lf : List Nat) : Nat := lf.countP fun x => decide (0 < x)
theorem cntP_set : ∀ {lf : List Nat} {k v : Nat}, k < lf.length → cntP (lf.set k v) + (if 0 < lf.getD k 0 then 1 else 0) = cntP lf + (if 0 < v then 1 else 0)
  | [], k, v, h => by simp at h
  | x :: lf, 0, v, _ => by
    unfold cntP
    rw [List.set_cons_zero, List.countP_cons, List.countP_cons]
    simp only [decide_eq_true_eq, List.getD_cons_zero]
    omega
  | x :: lf, k + 1, v, h => by
    have := cntP_set (lf := lf) (k := k) (v := v) (by simpa using h)
    unfold cntP at this ⊢
    rw [List.set_cons_succ, List.countP_cons, List.countP_cons]
    simp only [List.getD_cons_succ]
    omega
theorem cntP_zero (m : Nat) : cntP (List.replicate m 0) = 0 := by unfold cntP; rw [List.countP_eq_zero]; intro x hx; simp [List.eq_of_mem_replicate hx]
theorem getDN_set {lf : List Nat} {k j v : Nat} (h : k < lf.length) : (lf.set k v).getD j 0 = if j = k then v else lf.getD j 0 := by
  by_cases e : j = k
  · rw [if_pos e, e]; simp [h]
  · rw [if_neg e]; simp [List.getElem?_set_ne (show k ≠ j by omega)]
/-- i runs of three are taken; what is left of each. -/
structure LS (m i : Nat) (lf : List Nat) (U L : List Us) : Prop where
  len : lf.length = m
  us : ∀ j, j < i → usesI U ((3 * j : Nat) : Int) = lf.getD j 0
  z : ∀ j, i ≤ j → lf.getD j 0 = 0
  n3 : ∀ r ∈ U.map Us.r ++ L.map Us.r, r.n = 3
  cu : U.length = cntP lf
  cl : U.length + L.length = i
theorem LS.zero (m : Nat) : LS m 0 (List.replicate m 0) [] [] :=
  ⟨by simp, fun j hj => by omega, fun j _ => by
    by_cases h : j < m <;> simp [h, List.getElem?_replicate], fun r hr => by simp at hr, by rw [cntP_zero]; rfl, rfl⟩
theorem uput_len_new {U : List Us} {u : Us} (h : uget U u.a = none) : (uput U u).length = U.length + 1 := by rw [uput_new h]; simp
theorem LS.add {m i : Nat} {lf : List Nat} {U : List Us} (h : LS m i lf U []) (him : i < m) (hg : uget U ((3 * i : Nat) : Int) = none) {c : Nat} (hc : 0 < c) {U' : List Us}
    (hr : U'.map Us.r = (uput U ⟨3 * i, 3, 1⟩).map Us.r) (hu : ∀ j : Int, usesI U' j = if j = (3 * i : Nat) then c else usesI U j) : LS m (i + 1) (lf.set i c) U' [] := by
  have hlen := h.len
  have hl : U'.length = U.length + 1 := by
    have := congrArg List.length hr
    simp only [List.length_map] at this
    rw [this]; exact uput_len_new hg
  have hcs := cntP_set (lf := lf) (k := i) (v := c) (by omega)
  rw [h.z i (Nat.le_refl _), if_neg (by omega), if_pos hc] at hcs
  refine ⟨by simp [hlen], fun j hj => ?_, fun j hj => ?_, ?_, ?_, ?_⟩
  · rw [hu, getDN_set (by omega)]
    by_cases e : j = i
    · rw [if_pos (by rw [e]), if_pos e]
    · rw [if_neg (by omega), if_neg e, h.us j (by omega)]
  · rw [getDN_set (by omega), if_neg (by omega)]; exact h.z j (by omega)
  · rw [hr, uput_new hg, List.map_append]
    intro r hr
    rw [List.map_nil, List.append_nil] at hr
    rcases List.mem_append.1 hr with hr | hr
    · exact h.n3 r (List.mem_append_left _ hr)
    · simp [Us.r] at hr; subst hr; rfl
  · rw [hl, h.cu]; omega
  · rw [hl]; have := h.cl; simp at this ⊢; omega
theorem LS.less {bl N m : Nat} {lf : List Nat} {U L H : List Us} {A l : List Rn} (h : LS m m lf U L) (hi : Inv bl N U L H A l) {k : Nat} (hk : k < m) :
    LS m m (lf.set k (lf.getD k 0 - 1)) (lessU U ((3 * k : Nat) : Int)) (lessL U L ((3 * k : Nat) : Int)) := by
  have hlen := h.len
  have hp := hi.less_runs ((3 * k : Nat) : Int)
  have hl := hi.less_len ((3 * k : Nat) : Int)
  rw [h.us k hk] at hl
  have hcs := cntP_set (lf := lf) (k := k) (v := lf.getD k 0 - 1) (by omega)
  have hpl := hp.length_eq
  simp only [List.length_append, List.length_map] at hpl
  have hcu := h.cu
  have hcl := h.cl
  refine ⟨by simp [hlen], fun j hj => ?_, fun j hj => ?_, fun r hr => h.n3 r (hp.mem_iff.1 hr), ?_, by omega⟩
  · rw [usesI_less, getDN_set (by omega)]
    by_cases e : j = k
    · rw [if_pos (by rw [e]), if_pos e, h.us k hk]
    · rw [if_neg (by omega), if_neg e, h.us j hj]
  · rw [getDN_set (by omega), if_neg (by omega)]; exact h.z j hj
  · generalize lf.getD k 0 = x at *
    by_cases h1 : x = 1
    · subst h1
      rw [if_pos rfl] at hl
      rw [if_pos (by decide), if_neg (by decide)] at hcs
      omega
    · rw [if_neg h1] at hl
      by_cases h0 : 0 < x
      · rw [if_pos h0, if_pos (by omega)] at hcs; omega
      · rw [if_neg h0, if_neg (by omega)] at hcs; omega
theorem sum3 : ∀ {R : List Rn}, (∀ r ∈ R, r.n = 3) → (R.map Rn.n).sum = 3 * R.length
  | [], _ => rfl
  | r :: R, h => by
    have := sum3 (R := R) fun x hx => h x (List.mem_cons_of_mem _ hx)
    have h2 := h r List.mem_cons_self
    rw [List.map_cons, List.sum_cons, List.length_cons, this, h2]; omega
theorem LS.free {bl N m i : Nat} {lf : List Nat} {U L H : List Us} {A l : List Rn} (h : LS m i lf U L) (hi : Inv bl N U L H A l) : sumN l + 3 * i = bl := by
  have := hi.r.sum
  rw [sum3 h.n3, List.length_append, List.length_map, List.length_map, h.cl] at this
  exact this
theorem LS.late {m i : Nat} {lf : List Nat} {U L : List Us} (h : LS m i lf U L) : sumN (lst L) = 3 * L.length := by
  rw [sumN_eq, ((lst_perm L).map Rn.n).sum_nat, sum3 fun r hr => h.n3 r (List.mem_append_right _ hr), List.length_map]
/-- so many are nought -/
def cntZ (lf : List Nat) : Nat := lf.countP fun x => x == 0
theorem cntZ_add (lf : List Nat) : cntZ lf + cntP lf = lf.length := by
  unfold cntZ cntP
  induction lf with
  | nil => rfl
  | cons x lf ih =>
    rw [List.countP_cons, List.countP_cons, List.length_cons]
    by_cases h : x = 0
    · subst h; simp; omega
    · have : 0 < x := by omega
      simp [h, this]; omega
theorem cntZ_take {lf : List Nat} {i : Nat} (h : i < lf.length) : cntZ (lf.take (i + 1)) = cntZ (lf.take i) + if lf.getD i 0 = 0 then 1 else 0 := by
  unfold cntZ
  rw [List.take_succ_eq_append_getElem h, List.countP_append, List.countP_cons, List.countP_nil]
  simp [List.getElem?_eq_getElem h]
end Go.Proofs.Ytjieckaeplkafaa

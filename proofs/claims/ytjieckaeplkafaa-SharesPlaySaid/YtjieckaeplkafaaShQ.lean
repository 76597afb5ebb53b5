/- Shares: the reference's list against the two maps: plain laws. No program. -/
import Derived.Test.YtjieckaeplkafaaShPL2
import Derived.Test.YtjieckaeplkafaaRzD
import Derived.Test.YtjieckaeplkafaaRzK
set_option linter.unusedSimpArgs false
set_option linter.unusedVariables false
namespace Go.Proofs.Ytjieckaeplkafaa
open Go.RowKit
def zr (v : Us) : Us := ⟨v.a, v.n, 0⟩
/-- N: in order, what is used and (with no uses) what is late. -/
structure Rel (N U L : List Us) : Prop where
  srt : N.Pairwise fun x y => x.a < y.a
  mem : ∀ u, u ∈ N ↔ u ∈ U ∨ ∃ v ∈ L, u = zr v
theorem srt_keys {N : List Us} (h : N.Pairwise fun x y => x.a < y.a) : (ukeys N).Nodup := by
  rw [ukeys, List.Nodup, List.pairwise_map]
  exact h.imp fun h => by omega
theorem keys_nodup {U : List Us} (h : (ukeys U).Nodup) : U.Nodup := by
  rw [ukeys, List.Nodup, List.pairwise_map] at h
  exact h.imp fun h e => h (by rw [e])
theorem same_key {N : List Us} (hn : (ukeys N).Nodup) {x y : Us} (hx : x ∈ N) (hy : y ∈ N) (h : x.a = y.a) : x = y := by
  have h1 := uget_some hn hx
  have h2 := uget_some hn hy
  rw [h, h2] at h1
  exact (Option.some.inj h1).symm
section
variable {bl B : Nat} {N U L H : List Us} {A l : List Rn}
theorem Rel.uses (h : Rel N U L) (hi : Inv bl B U L H A l) (i : Int) : usesI N i = usesI U i := by
  have hn := srt_keys h.srt
  cases hg : uget U i with
  | some u =>
    obtain ⟨hu, ha⟩ := uget_mem hg
    have h1 := uget_some hn ((h.mem u).2 (.inl hu))
    rw [ha] at h1
    unfold usesI; rw [hg, h1]
  | none =>
    rw [usesI_none hg]
    cases hx : uget N i with
    | none => exact usesI_none hx
    | some x =>
      obtain ⟨hx1, hxa⟩ := uget_mem hx
      rcases (h.mem x).1 hx1 with h2 | ⟨v, _, rfl⟩
      · exact absurd hxa (uget_none.1 hg x h2)
      · unfold usesI; rw [hx]; rfl
theorem Rel.used (h : Rel N U L) (hi : Inv bl B U L H A l) (u : Us) : u ∈ kpN N ↔ u ∈ U := by
  unfold kpN
  rw [List.mem_filter, h.mem]
  constructor
  · rintro ⟨h1 | ⟨v, _, rfl⟩, h2⟩
    · exact h1
    · simp [lateP, zr] at h2
  · intro h1
    have := (hi.ku u h1).1
    exact ⟨.inl h1, by simp [lateP]; omega⟩
theorem Rel.lateM (h : Rel N U L) (hi : Inv bl B U L H A l) (u : Us) : u ∈ N.filter (lateP true) ↔ ∃ v ∈ L, u = zr v := by
  rw [List.mem_filter, h.mem]
  constructor
  · rintro ⟨h1 | h1, h2⟩
    · have := (hi.ku u h1).1
      simp [lateP] at h2; omega
    · exact h1
  · intro h1
    refine ⟨.inr h1, ?_⟩
    obtain ⟨v, _, rfl⟩ := h1
    simp [lateP, zr]
theorem Rel.list (h : Rel N U L) (hi : Inv bl B U L H A l) : lsN N false = lst U := by
  have hs : (kpN N).Pairwise fun x y => x.a < y.a := h.srt.filter _
  have hp : U.Perm (kpN N) := (List.perm_ext_iff_of_nodup (keys_nodup hi.nu) (keys_nodup (srt_keys hs))).2 fun u => (h.used hi u).symm
  have := srtU_unique hi.nu hp (hs.imp fun h => by omega)
  unfold lst lsN
  rw [this]; rfl
theorem Rel.late (h : Rel N U L) (hi : Inv bl B U L H A l) : lsN N true = lst L := by
  have hs : (N.filter (lateP true)).Pairwise fun x y => x.a < y.a := h.srt.filter _
  have hkz : ukeys (L.map zr) = ukeys L := by unfold ukeys; rw [List.map_map]; rfl
  have hnz : (ukeys (L.map zr)).Nodup := by rw [hkz]; exact hi.nl
  have hp : (L.map zr).Perm (N.filter (lateP true)) := (List.perm_ext_iff_of_nodup (keys_nodup hnz) (keys_nodup (srt_keys hs))).2 fun u => by
    rw [h.lateM hi u, List.mem_map]
    exact ⟨fun ⟨v, h1, h2⟩ => ⟨v, h1, h2.symm⟩, fun ⟨v, h1, h2⟩ => ⟨v, h1, h2.symm⟩⟩
  have h1 := srtU_unique hnz hp (hs.imp fun h => by omega)
  have h2 : srtU (L.map zr) = (srtU L).map zr := by
    unfold srtU
    rw [List.map_mergeSort (s := leU)]
    intro a _ b _
    rfl
  unfold lst lsN
  rw [← h1, h2, List.map_map]
  rfl
theorem Rel.chg (h : Rel N U L) (hi : Inv bl B U L H A l) (i : Int) : chgB N i = decide (usesI U i ≠ 0) := by
  rw [← h.uses hi i]
  unfold chgB
  by_cases hl : atN N i < N.length
  · rw [(usesI_at hl).1]
    by_cases hk : 1 ≤ (us N (atN N i)).k
    · rw [decide_eq_true ⟨hl, hk⟩, decide_eq_true (by omega)]
    · rw [decide_eq_false (fun h => hk h.2), decide_eq_false (by omega)]
  · rw [decide_eq_false (fun h => hl h.1), decide_eq_false (by rw [(usesI_no hl).1]; simp)]
theorem mem_set_us {N : List Us} (hn : (ukeys N).Nodup) {j : Nat} (hj : j < N.length) {y : Us} (hy : y.a = (us N j).a) (u : Us) : u ∈ N.set j y ↔ u = y ∨ (u ∈ N ∧ u.a ≠ y.a) := by
  rw [us_eq hj] at hy
  constructor
  · intro h
    obtain ⟨q, hq, rfl⟩ := List.getElem_of_mem h
    rw [List.length_set] at hq
    rw [List.getElem_set]
    by_cases e : j = q
    · rw [if_pos e]; exact .inl rfl
    · rw [if_neg e]
      refine .inr ⟨List.getElem_mem hq, fun h2 => e ?_⟩
      rw [hy] at h2
      have h3 := same_key hn (List.getElem_mem hq) (List.getElem_mem hj) h2
      exact ((List.getElem_inj (keys_nodup hn)).1 h3).symm
  · rintro (rfl | ⟨h1, h2⟩)
    · exact List.mem_iff_getElem.2 ⟨j, by rw [List.length_set]; exact hj, by rw [List.getElem_set, if_pos rfl]⟩
    · obtain ⟨q, hq, rfl⟩ := List.getElem_of_mem h1
      have hjq : j ≠ q := fun e => by subst e; exact h2 hy.symm
      exact List.mem_iff_getElem.2 ⟨q, by rw [List.length_set]; exact hq, by rw [List.getElem_set, if_neg hjq]⟩
theorem srt_set {N : List Us} (h : N.Pairwise fun x y => x.a < y.a) {j : Nat} (hj : j < N.length) {y : Us} (hy : y.a = (us N j).a) : (N.set j y).Pairwise fun x y => x.a < y.a := by
  rw [us_eq hj] at hy
  have e : (N.set j y).map Us.a = N.map Us.a := by
    rw [List.map_set]
    refine List.ext_getElem (by simp) fun q h1 h2 => ?_
    rw [List.getElem_set]
    split
    · rename_i e; subst e; rw [List.getElem_map, hy]
    · rfl
  have h1 : (N.map Us.a).Pairwise (· < ·) := List.pairwise_map.2 h
  rw [← e] at h1
  exact List.pairwise_map.1 h1
/-- What is used is where the reference finds it. -/
theorem Rel.found (h : Rel N U L) (hi : Inv bl B U L H A l) {i : Int} (h0 : usesI U i ≠ 0) : atN N i < N.length ∧ us N (atN N i) = ux U i ∧ ((ux U i).a : Int) = i ∧ ux U i ∈ U := by
  obtain ⟨hg, ha, hm⟩ := ux_pos h0
  have hn := srt_keys h.srt
  have h1 := uget_some hn ((h.mem _).2 (.inl hm))
  rw [ha] at h1
  have hl : atN N i < N.length := Classical.byContradiction fun hc => by rw [(usesI_no hc).2] at h1; cases h1
  have h2 := (usesI_at hl).2
  rw [h1] at h2
  exact ⟨hl, (Option.some.inj h2).symm, ha, hm⟩
theorem Rel.change (h : Rel N U L) (hi : Inv bl B U L H A l) {i z : Int} {U' L' : List Us} (h0 : usesI U i ≠ 0) (k' : Nat) (hz : (((ux U i).k : Int) + z).toNat = k')
    (hm : ∀ u, (u ∈ U' ∨ ∃ v ∈ L', u = zr v) ↔ (u = ⟨(ux U i).a, (ux U i).n, k'⟩ ∨ ((u ∈ U ∨ ∃ v ∈ L, u = zr v) ∧ u.a ≠ (ux U i).a))) : Rel (chgN N i z) U' L' := by
  obtain ⟨hl, hx, ha, hxm⟩ := h.found hi h0
  have hb : chgB N i = true := by rw [h.chg hi]; exact decide_eq_true h0
  unfold chgN
  rw [if_pos hb, hx, hz]
  have hy : (⟨(ux U i).a, (ux U i).n, k'⟩ : Us).a = (us N (atN N i)).a := by rw [hx]
  refine ⟨srt_set h.srt hl hy, fun u => ?_⟩
  rw [mem_set_us (srt_keys h.srt) hl hy, hm, h.mem]
theorem Rel.late_key (h : Rel N U L) (hi : Inv bl B U L H A l) {x : Us} (hx : x ∈ U) : ∀ v ∈ L, v.a ≠ x.a := fun v hv e => uget_none.1 (hi.no_late hx) v hv (by rw [e])
theorem Rel.more (h : Rel N U L) (hi : Inv bl B U L H A l) (i : Int) : Rel (chgN N i 1) (moreU U i) L := by
  by_cases h0 : usesI U i = 0
  · have hb : chgB N i = false := by rw [h.chg hi]; simp [h0]
    unfold chgN moreU
    rw [if_neg (by rw [hb]; decide), if_pos h0]
    exact h
  · obtain ⟨hl, hx, ha, hxm⟩ := h.found hi h0
    refine h.change hi h0 ((ux U i).k + 1) (by omega) fun u => ?_
    unfold moreU
    rw [if_neg h0, mem_uput]
    have hk := h.late_key hi hxm
    constructor
    · rintro ((h1 | ⟨h1, h2⟩) | ⟨v, h1, rfl⟩)
      · exact .inl h1
      · exact .inr ⟨.inl h1, h2⟩
      · exact .inr ⟨.inr ⟨v, h1, rfl⟩, hk v h1⟩
    · rintro (h1 | ⟨h1 | h1, h2⟩)
      · exact .inl (.inl h1)
      · exact .inl (.inr ⟨h1, h2⟩)
      · exact .inr h1
theorem Rel.less (h : Rel N U L) (hi : Inv bl B U L H A l) (i : Int) : Rel (chgN N i (-1)) (lessU U i) (lessL U L i) := by
  by_cases h0 : usesI U i = 0
  · have hb : chgB N i = false := by rw [h.chg hi]; simp [h0]
    unfold chgN lessU lessL
    rw [if_neg (by rw [hb]; decide), if_pos h0, if_neg (by omega)]
    exact h
  · obtain ⟨hl, hx, ha, hxm⟩ := h.found hi h0
    have hkk : usesI U i = (ux U i).k := usesI_ux U i
    have hk := h.late_key hi hxm
    refine h.change hi h0 ((ux U i).k - 1) (by omega) fun u => ?_
    unfold lessU lessL
    rw [if_neg h0]
    by_cases h1 : usesI U i = 1
    · have e1 : uput L (ux U i) = L ++ [ux U i] := uput_new (hi.no_late hxm)
      rw [if_pos h1, if_pos h1, e1]
      have hz : (⟨(ux U i).a, (ux U i).n, (ux U i).k - 1⟩ : Us) = zr (ux U i) := by unfold zr; congr 1; omega
      rw [hz]
      have hd : u ∈ udel U i ↔ u ∈ U ∧ u.a ≠ (ux U i).a := by
        unfold udel
        rw [List.mem_filter]
        refine and_congr_right fun _ => ?_
        simp only [Bool.not_eq_true', beq_eq_false_iff_ne, ne_eq]
        exact ⟨fun h e => h (by omega), fun h e => h (by omega)⟩
      rw [hd]
      constructor
      · rintro (⟨h2, h3⟩ | ⟨v, h2, rfl⟩)
        · exact .inr ⟨.inl h2, h3⟩
        · rcases List.mem_append.1 h2 with h2 | h2
          · exact .inr ⟨.inr ⟨v, h2, rfl⟩, hk v h2⟩
          · rw [List.mem_singleton] at h2; subst h2; exact .inl rfl
      · rintro (h2 | ⟨h2 | ⟨v, h2, rfl⟩, h3⟩)
        · exact .inr ⟨_, List.mem_append_right _ (List.mem_singleton.2 rfl), h2⟩
        · exact .inl ⟨h2, h3⟩
        · exact .inr ⟨v, List.mem_append_left _ h2, rfl⟩
    · rw [if_neg h1, if_neg h1, mem_uput]
      constructor
      · rintro ((h2 | ⟨h2, h3⟩) | ⟨v, h2, rfl⟩)
        · exact .inl h2
        · exact .inr ⟨.inl h2, h3⟩
        · exact .inr ⟨.inr ⟨v, h2, rfl⟩, hk v h2⟩
      · rintro (h2 | ⟨h2 | h2, h3⟩)
        · exact .inl (.inl h2)
        · exact .inl (.inr ⟨h2, h3⟩)
        · exact .inr h2
theorem ins_mem (N : List Us) (a n : Nat) (u : Us) : u ∈ insN N a n ↔ u = ⟨a, n, 1⟩ ∨ u ∈ N := by
  unfold insN
  rw [List.mem_append, List.mem_append, List.mem_singleton]
  have h1 : u ∈ N ↔ u ∈ N.take (ahead N a) ∨ u ∈ N.drop (ahead N a) := by
    rw [← List.mem_append, List.take_append_drop]
  rw [h1]
  constructor
  · rintro ((h | h) | h)
    · exact .inr (.inl h)
    · exact .inl h
    · exact .inr (.inr h)
  · rintro (h | h | h)
    · exact .inl (.inr h)
    · exact .inl (.inl h)
    · exact .inr h
theorem ins_srt : ∀ {N : List Us} {a n : Nat}, N.Pairwise (fun x y => x.a < y.a) → (∀ u ∈ N, u.a ≠ a) → (insN N a n).Pairwise fun x y => x.a < y.a
  | [], a, n, _, _ => List.pairwise_singleton _ _
  | x :: N, a, n, h, hk => by
    obtain ⟨h1, h2⟩ := List.pairwise_cons.1 h
    have hx := hk x List.mem_cons_self
    unfold insN ahead
    by_cases hxa : x.a < a
    · rw [List.takeWhile_cons, if_pos (by simpa using hxa)]
      have ih := ins_srt (n := n) h2 fun u hu => hk u (List.mem_cons_of_mem _ hu)
      unfold insN ahead at ih
      rw [List.length_cons, List.take_succ_cons, List.drop_succ_cons, List.cons_append, List.cons_append]
      refine List.pairwise_cons.2 ⟨fun y hy => ?_, ih⟩
      have := (ins_mem N a n y).1 (by unfold insN ahead; exact hy)
      rcases this with rfl | h3
      · exact hxa
      · exact h1 y h3
    · rw [List.takeWhile_cons, if_neg (by simpa using hxa)]
      show (([] ++ [(⟨a, n, 1⟩ : Us)]) ++ (x :: N)).Pairwise _
      refine List.pairwise_cons.2 ⟨fun y hy => ?_, h⟩
      rcases List.mem_cons.1 hy with rfl | hy
      · show a < y.a; omega
      · have := h1 y hy; show a < y.a; omega
theorem Rel.add (h : Rel N U L) {a n : Nat} (hU : uget U (a : Nat) = none) (hL : uget L (a : Nat) = none) : Rel (insN N a n) (uput U ⟨a, n, 1⟩) L ∧ ¬ atN N (a : Nat) < N.length := by
  have hk : ∀ u ∈ N, u.a ≠ a := fun u hu e => by
    rcases (h.mem u).1 hu with h1 | ⟨v, h1, rfl⟩
    · exact uget_none.1 hU u h1 (by rw [e])
    · exact uget_none.1 hL v h1 (by rw [← e]; rfl)
  refine ⟨⟨ins_srt h.srt hk, fun u => ?_⟩, fun hl => ?_⟩
  · rw [ins_mem, h.mem, uput_new hU, List.mem_append, List.mem_singleton]
    constructor
    · rintro (h1 | h1 | h1)
      · exact .inl (.inr h1)
      · exact .inl (.inl h1)
      · exact .inr h1
    · rintro ((h1 | h1) | h1)
      · exact .inr (.inl h1)
      · exact .inl h1
      · exact .inr (.inr h1)
  · obtain ⟨hx, ha⟩ := uget_mem (usesI_at hl).2
    exact hk _ hx (by omega)
theorem Rel.settle (h : Rel N U L) (hi : Inv bl B U L H A l) : Rel (kpN N) U [] :=
  ⟨h.srt.filter _, fun u => by rw [h.used hi u]; exact ⟨.inl, fun h => h.elim id fun ⟨v, hv, _⟩ => by simp at hv⟩⟩
theorem Rel.perm (h : Rel N U L) (hi : Inv bl B U L H A l) : (N.map Us.r).Perm (U.map Us.r ++ L.map Us.r) := by
  have hn : (U ++ L.map zr).Nodup := by
    refine List.nodup_append.2 ⟨keys_nodup hi.nu, ?_, fun x hx y hy e => ?_⟩
    · have hkz : ukeys (L.map zr) = ukeys L := by unfold ukeys; rw [List.map_map]; rfl
      exact keys_nodup (by rw [hkz]; exact hi.nl)
    · obtain ⟨v, hv, rfl⟩ := List.mem_map.1 hy
      exact h.late_key hi hx v hv (by rw [e]; rfl)
  have hp : N.Perm (U ++ L.map zr) := (List.perm_ext_iff_of_nodup (keys_nodup (srt_keys h.srt)) hn).2 fun u => by
    rw [h.mem, List.mem_append, List.mem_map]
    exact or_congr_right ⟨fun ⟨v, h1, h2⟩ => ⟨v, h1, h2.symm⟩, fun ⟨v, h1, h2⟩ => ⟨v, h1, h2.symm⟩⟩
  have := hp.map Us.r
  rw [List.map_append, List.map_map] at this
  exact this
theorem old_iff {W : List Us} {a : Nat} : oldB W a = true ↔ ∃ u ∈ W, u.a = a := by
  unfold oldB
  rw [List.any_eq_true]
  exact ⟨fun ⟨u, h1, h2⟩ => ⟨u, h1, by simpa using h2⟩, fun ⟨u, h1, h2⟩ => ⟨u, h1, by simpa using h2⟩⟩
/-- What the reference gives back is what was added. -/
theorem Rel.back {W : List Us} (h : Rel N U L) (hi : Inv bl B U L H A l) (hW : Rel W H []) (hp : (U.map Us.r ++ L.map Us.r).Perm (H.map Us.r ++ A)) : givs bl l (gvN N W) = givs bl l A := by
  have hm : ∀ u, u ∈ W ↔ u ∈ H := fun u => by rw [hW.mem]; exact ⟨fun h => h.elim id fun ⟨v, hv, _⟩ => by simp at hv, .inl⟩
  have h1 : gvN N W = (N.map Us.r).filter (fun r => !oldB W r.a) := by
    unfold gvN
    rw [List.filter_map]
    rfl
  have h2 : ((N.map Us.r).filter (fun r => !oldB W r.a)).Perm ((H.map Us.r ++ A).filter (fun r => !oldB W r.a)) := ((h.perm hi).trans hp).filter _
  have h3 : (H.map Us.r ++ A).filter (fun r => !oldB W r.a) = A := by
    rw [List.filter_append]
    have e1 : (H.map Us.r).filter (fun r => !oldB W r.a) = [] := List.filter_eq_nil_iff.2 fun r hr => by
      obtain ⟨u, hu, rfl⟩ := List.mem_map.1 hr
      show ¬ (!oldB W u.a) = true
      rw [old_iff.2 ⟨u, (hm u).2 hu, rfl⟩]; simp
    have e2 : A.filter (fun r => !oldB W r.a) = A := List.filter_eq_self.2 fun r hr => by
      cases ho : oldB W r.a with
      | false => rfl
      | true =>
        obtain ⟨u, hu, ha⟩ := old_iff.1 ho
        have hd := (List.pairwise_append.1 hi.b.dis).2.2 u.r (List.mem_map.2 ⟨u, (hm u).1 hu, rfl⟩) r hr
        have p1 := hi.b.pos u.r (List.mem_append_left _ (List.mem_map.2 ⟨u, (hm u).1 hu, rfl⟩))
        have p2 := hi.b.pos r (List.mem_append_right _ hr)
        unfold Us.r at hd p1
        rcases hd with hd | hd <;> (dsimp only at hd p1; omega)
    rw [e1, e2, List.nil_append]
  have h4 : (gvN N W ++ H.map Us.r).Perm (H.map Us.r ++ A) := by
    rw [h1]
    exact List.perm_append_comm.trans (List.Perm.append_left _ (h2.trans (List.Perm.of_eq h3)))
  have g1 : InvR bl (H.map Us.r) (givs bl l (gvN N W)) := InvR.givs (hi.b.perm h4.symm)
  have g2 : InvR bl (H.map Us.r) (givs bl l A) := InvR.givs (hi.b.perm List.perm_append_comm)
  exact g1.unique g2
theorem Rel.len (h : Rel N U L) (hi : Inv bl B U L H A l) : N.length ≤ bl := by
  have h1 := (h.perm hi).length_eq
  have h2 := runs_len hi.r
  rw [List.length_map] at h1
  omega
theorem Rel.bd (h : Rel N U L) (hi : Inv bl B U L H A l) : ∀ u ∈ N, u.a ≤ bl ∧ u.n ≤ bl ∧ u.k ≤ B := by
  intro u hu
  have hr : u.r ∈ U.map Us.r ++ L.map Us.r := (h.perm hi).mem_iff.1 (List.mem_map.2 ⟨u, hu, rfl⟩)
  have hp := hi.r.pos u.r hr
  unfold Us.r at hp
  dsimp only at hp
  refine ⟨by omega, by omega, ?_⟩
  rcases (h.mem u).1 hu with h1 | ⟨v, _, rfl⟩
  · exact (hi.ku u h1).2
  · unfold zr; dsimp only; omega
end
end Go.Proofs.Ytjieckaeplkafaa

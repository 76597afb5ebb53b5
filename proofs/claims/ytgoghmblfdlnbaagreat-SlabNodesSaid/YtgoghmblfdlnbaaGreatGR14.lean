/- The texts VShL, VShC of this proof, one behind the other. Conditions: those of each. -/
import Derived.Test.YtgoghmblfdlnbaaGreatGR13
section
/- Shares: listed, Late, List. Conditions: the bounds of its lists. -/
set_option linter.unusedSimpArgs false
set_option linter.unusedVariables false
namespace Go.Proofs.YtgoghmblfdlnbaaGreat
open Go.RowKit
theorem int_at {w : World} {S : Nat → Prop} {A : Option Addr} {n c : Nat} {l : List Int} (h : View w S 1 (.slice A n c) n (ints .i64 l)) {i : Nat} (hi : i < n) :
    ∃ b o, A = some ⟨b, o, none⟩ ∧ S b ∧ b < w.heap.size ∧ w.cell? ⟨b, o + i, none⟩ = some (.int .i64 (l.getD i 0)) := by
  obtain ⟨hl, A', c', e, _, _, _, _, h5⟩ := h
  injection e with ea _ ec
  subst ea; subst ec
  obtain ⟨b, o, hA, hS, hb, hc⟩ := h5 (by omega)
  have hl' : i < l.length := by rw [ints_length] at hl; omega
  exact ⟨b, o, hA, hS, hb, hc _ _ (by rw [ints_at _ _ _ hl']; simp [List.getElem?_eq_getElem hl'])⟩
def us (U : List Us) (i : Nat) : Us := U.getD i ⟨0, 0, 0⟩
theorem us_eq {U : List Us} {i : Nat} (h : i < U.length) : us U i = U[i] := by simp [us, List.getElem?_eq_getElem h]
theorem ukeys_get {U : List Us} {i : Nat} (h : i < U.length) : (ukeys U).getD i 0 = ((us U i).a : Nat) := by
  rw [us_eq h]
  simp [ukeys, List.getElem?_eq_getElem h]
theorem ux_srt {U : List Us} (hn : (ukeys U).Nodup) {i : Nat} (h : i < U.length) : ux U ((us (srtU U) i).a : Nat) = us (srtU U) i := by
  have hs : i < (srtU U).length := by rw [srtU_length]; exact h
  have hm : us (srtU U) i ∈ U := by
    rw [us_eq hs]
    exact (srtU_perm U).mem_iff.1 (List.getElem_mem hs)
  unfold ux
  rw [uget_some hn hm]
  rfl
theorem lst_take {U : List Us} {i : Nat} (h : i < U.length) : (lst U).take (i + 1) = (lst U).take i ++ [(us (srtU U) i).r] := by
  have hs : i < (srtU U).length := by rw [srtU_length]; exact h
  have hl : i < (lst U).length := by rw [lst_length]; exact h
  rw [List.take_succ_eq_append_getElem hl, us_eq hs]
  congr 2
  simp [lst]
set_option maxRecDepth 20000 in
theorem listed_ok (b : Nat) (U : List Us) (w : World) (h : KV w b (U.map ent)) (hl : U.length ≤ 100000) :
    Calls Tryz.prog 63 #[.map (some b)] w fun e w' => ∃ A c, e = .returned (.slice A U.length c) ∧ Row w' (New w) 39 2 (.slice A U.length c) U.length (dbl (lst U)) ∧ Fr Nil w w' := by
  have hn : (ukeys U).Nodup := by rw [← ent_keys]; exact h.nodup
  have Hn := hid hn
  have Hl := hid hl
  have Hk := hid h
  have Hwf : ∀ p ∈ U.map ent, (Lit.int .i64 p.1).wf = true := by obtain ⟨_, _, _, _, _, _, hw⟩ := h; exact hw
  have HW := hid Hwf
  clear hn hl Hwf
  have hlt := h.lt
  have Hb := hid hlt
  clear hlt
  go_enter Tryz.func63, Tryz.ntmps63
  go_wp2_with fail
  refine (keys_ok (some b) w).mono ?_
  rintro e w1 ⟨rfl, rfl⟩
  go_wp2_with fail
  refine (sorted_ok b _ w h (by rw [List.length_map]; have := Hl.out; omega)).mono ?_
  clear h
  rintro e w2 ⟨A, c, rfl, hR, hF⟩
  rw [List.length_map] at hR ⊢
  rw [ent_keys, srtU_keys] at hR
  obtain ⟨L, hL⟩ : ∃ L, L = U.length := ⟨_, rfl⟩
  have hv := hR.view
  rw [← hL] at hv ⊢
  have HV := hid hv
  have HL := hid hL
  have HF := hid hF
  have hL9 : L ≤ 100000 := by have := Hl.out; omega
  clear hR hv hL hF
  go_wp2_with fail
  go_loopw [3, 10] (fun v3 v10 wr => ∃ i : Nat, ∃ A3 c3, v3 = .slice A3 i c3 ∧ v10 = .int .i64 i ∧ i ≤ L ∧ Fr Nil w2 wr ∧ Row wr (New w2) 39 2 (.slice A3 i c3) i (dbl ((lst U).take i))) (fun _ v10 _ => L - (intOf v10).toNat)
  case atStart => exact ⟨0, none, 0, rfl, rfl, by omega, Fr.refl _ _, by simpa [dbl] using Row.nil w2 (New w2) 39 2⟩
  case round =>
    obtain ⟨i, A3, c3, rfl, rfl, hi, hfw, hrow⟩ := hrel
    by_cases hlt : i < L
    · obtain ⟨xb, xo, rfl, -, hbl, q0⟩ := int_at (HV.out.fr hfw fun _ _ _ h => h) hlt
      have hiU : i < U.length := by have := HL.out; omega
      have his : i < (srtU U).length := by rw [srtU_length]; exact hiU
      rw [ukeys_get his] at q0
      have hkr : KV wr b (U.map ent) := (Hk.out.fr HF.out fun h => h).fr hfw fun h => h
      have hmem : ent (us (srtU U) i) ∈ U.map ent := List.mem_map.2 ⟨_, by rw [us_eq his]; exact (srtU_perm U).mem_iff.1 (List.getElem_mem his), rfl⟩
      have hlk := look_use hkr (HW.out _ hmem)
      rw [show (ent (us (srtU U) i)).1 = ((us (srtU U) i).a : Int) from rfl, ux_srt Hn.out hiU] at hlk
      have htk := hid (lst_take hiU)
      obtain ⟨x, hx⟩ : ∃ x, x = us (srtU U) i := ⟨_, rfl⟩
      rw [← hx] at q0 hlk htk
      have Hr := hid hrow
      have Hf := hid hfw
      have HiU := hid hiU
      clear hx hmem hkr his hiU hrow hfw
      go_wp2_with (at_builtin; refine wp_app_view rfl _ _ 37 rfl (.agg #[.int .i64 0, .int .i64 0]) 16 Tryz.underlying37 info_run2 rfl (by decide) (Hr.out.alloc _) rfl (View.lit (s := 2) wr #[.int .i64 (x.a : Nat), .int .i64 (x.n : Nat)] 39 (0, 0) 1 rfl (by decide)) rfl (rcells_cell ⟨x.a, x.n⟩) (by omega) (by decide) ?_)
      rintro A6 c6 w6 q1 q2 -
      have hf0 := Hf.out
      have f6 : Fr Nil w2 w6 := ((hf0.alloc _)).trans q2 fun k hk => .inr (Hr.out.2 k hk)
      go_wp2
      go_roundw
      case rel => exact ⟨i + 1, A6, c6, rfl, by go_num, by omega, f6, by
        rw [htk.out, dbl_append, dbl_one]
        exact q1.mono fun k hk => hk.elim (fun h => Hr.out.2 k h) (fun h => Nat.le_trans ((hf0.alloc _).size) h)⟩
      case measure => simp [intOf]; omega
    · have hE : i = L := by omega
      subst hE
      go_wp2
      go_ret
      rw [List.take_of_length_le (by rw [lst_length, ← HL.out]; exact Nat.le_refl _)] at hrow
      exact ⟨A3, c3, by rw [← HL.out]; rfl, by rw [← HL.out]; exact hrow.mono fun k hk => Nat.le_trans HF.out.size hk, HF.out.then hfw⟩
set_option maxRecDepth 20000 in
theorem late_ok (T : Nat → Prop) (sb pb : Nat) (U L H : List Us) (A : List Rn) (w : World) (h : IsS w T sb pb U L H A) (hl : L.length ≤ 100000) :
    Calls Tryz.prog 35 #[.pointer (some ⟨sb, 0, none⟩)] w fun e w' => ∃ A c, e = .returned (.slice A L.length c) ∧ Row w' (New w) 39 2 (.slice A L.length c) L.length (dbl (lst L)) ∧ Fr Nil w w' := by
  obtain ⟨⟨ub, lb, hb, v, hs⟩, hlt⟩ := h
  have hc1 : w.cell? ⟨sb, 2, none⟩ = some (.map (some lb)) := hs.blk.cell 2
  have Hs := hid hs
  have Hl := hid hl
  clear hs hl hlt
  go_enter Tryz.func35, Tryz.ntmps35
  go_wp2_with fail
  refine (made_ok T sb pb ub lb hb v U L H A _ Hs.out).mono ?_
  rintro e w1 ⟨rfl, rfl⟩
  go_wp2_with fail
  refine (listed_ok lb L w Hs.out.l Hl.out).mono ?_
  rintro e w2 ⟨B, c, rfl, hR, hF⟩
  go_wp2
  go_ret
  exact ⟨B, c, rfl, hR, hF⟩
end Go.Proofs.YtgoghmblfdlnbaaGreat
end

section
/- Shares: Settle, Back. Conditions: the bounds of its lists. -/
set_option linter.unusedSimpArgs false
set_option linter.unusedVariables false
namespace Go.Proofs.YtgoghmblfdlnbaaGreat
open Go.RowKit
def givs (bl : Nat) (l rs : List Rn) : List Rn := rs.foldl (fun l r => giveL bl l (r.a : Nat) (r.n : Nat)) l
theorem givs_take (bl : Nat) (l rs : List Rn) {i : Nat} (h : i < rs.length) : givs bl l (rs.take (i + 1)) = giveL bl (givs bl l (rs.take i)) ((rn rs i).a : Nat) ((rn rs i).n : Nat) := by
  unfold givs
  rw [List.take_succ_eq_append_getElem h, List.foldl_append, rn_eq h]
  rfl
theorem frN_bd {l : List Rn} (h : ∀ r ∈ l, r.a ≤ 8192 ∧ r.n ≤ 8192) : ∀ i, i ≤ l.length → frN l i ≤ i * 8192
  | 0, _ => by simp [frN]
  | i + 1, hi => by
    have := frN_bd h i (by omega)
    have h2 := h _ (mem_rn (l := l) (i := i) (by omega))
    rw [frN_succ (by omega)]; omega
set_option maxRecDepth 20000 in
theorem settle_ok (T TR : Nat → Prop) (sb pb bl : Nat) (U L H : List Us) (A l : List Rn) (w : World) (h : IsS w T sb pb U L H A) (hr : RsT w TR pb bl l) (hap : ∀ k, TR k → ¬ T k) (hU : U.length ≤ 100000) (hL : L.length ≤ 10000) (hLn : ∀ r ∈ lst L, r.a ≤ 8192 ∧ r.n ≤ 8192) :
    Calls Tryz.prog 10 #[.pointer (some ⟨sb, 0, none⟩)] w fun e w' => e = .returned (.int .i64 (sumN (lst L) : Nat)) ∧ (∃ T', IsS w' T' sb pb U [] U [] ∧ (∀ k, T' k → T k ∨ w.heap.size ≤ k) ∧ ∃ TR', RsT w' TR' pb bl (givs bl l (lst L)) ∧ (∀ k, TR' k → TR k ∨ w.heap.size ≤ k) ∧ ∀ k, TR' k → ¬ T' k) ∧ Fr (fun k => T k ∨ TR k) w w' := by
  obtain ⟨⟨ub, lb, hb, v, hs⟩, hlt⟩ := id h
  have Hla := hid (late_ok T sb pb U L H A w h (by omega))
  have Hs := hid hs
  have Hlt := hid hlt
  have Hr := hid hr
  have Hap := hid hap
  have HU := hid hU
  obtain ⟨RL, hRL⟩ : ∃ RL, RL = lst L := ⟨_, rfl⟩
  have hLl : L.length = RL.length := by rw [hRL, lst_length]
  rw [← hRL] at hLn ⊢
  have Hla2 := Hla.out
  rw [← hRL, hLl] at Hla2
  have HLa := hid Hla2
  obtain ⟨M, hM⟩ : ∃ M, M = RL.length := ⟨_, rfl⟩
  have HM := hid hM
  have HLn := hid hLn
  have hM9 : M ≤ 10000 := by omega
  clear Hla Hla2 h hs hlt hr hap hU hRL hLl hLn hL hM
  go_enter Tryz.func10, Tryz.ntmps10
  go_wp2_with fail
  refine HLa.out.mono ?_
  rintro e w2 ⟨AL, cL, rfl, hRow, hF⟩
  rw [← HM.out] at hRow ⊢
  have HV := hid hRow.view
  have HF := hid hF
  clear hRow hF
  have Hs2 := hid (Hs.out.fr HF.out fun _ _ h => h)
  have HTl : Hid (∀ k, TR k → k < w.heap.size) := hid Hr.out.lt
  go_wp2_with fail
  go_loopw [3, 9] (fun v3 v9 wr => ∃ i : Nat, v3 = .int .i64 (frN RL i : Nat) ∧ v9 = .int .i64 i ∧ i ≤ M ∧ Fr TR w2 wr ∧ ∃ TR', RsT wr TR' pb bl (givs bl l (RL.take i)) ∧ ∀ k, TR' k → TR k ∨ w2.heap.size ≤ k) (fun _ v9 _ => M - (intOf v9).toNat)
  case atStart => exact ⟨0, by simp [frN], rfl, by omega, Fr.refl _ _, TR, by simpa [givs] using Hr.out.nil HF.out, fun k hk => .inl hk⟩
  case round =>
    obtain ⟨i, rfl, rfl, hi, hfw, TR', hRr, hTR'⟩ := hrel
    have Hs3 := hid (Hs2.out.fr hfw fun k hk h => Hap.out k h hk)
    have HBr := hid Hs3.out.blk
    by_cases hlt : i < M
    · obtain ⟨b, o, rfl, -, hbl, q0, q1⟩ := rn_at (HV.out.fr hfw fun k hk _ h => by have := HTl.out k h; have : w.heap.size ≤ k := hk; omega) hlt
      have hS := hid (frN_succ (l := RL) (i := i) (by rw [← HM.out]; exact hlt))
      have hB := frN_bd HLn.out i (by rw [← HM.out]; exact hi)
      have hbo := HLn.out _ (mem_rn (l := RL) (i := i) (by rw [← HM.out]; exact hlt))
      have hB2 : frN RL i ≤ 100000000 := by omega
      have ha8 : (rn RL i).a ≤ 8192 := hbo.1
      have hn8 : (rn RL i).n ≤ 8192 := hbo.2
      clear hB hbo
      go_upto_region 5 with (fail)
      obtain ⟨W1, hW1⟩ : ∃ W1, W1 = wr.alloc (.cells #[.int .i64 ((rn RL i).a : Nat), .int .i64 ((rn RL i).n : Nat)] 39) := ⟨_, rfl⟩
      have f1 : Fr Nil wr W1 := by rw [hW1]; exact (Fr.refl _ _).alloc _
      have hX0 : Blk W1 wr.heap.size #[.int .i64 ((rn RL i).a : Nat), .int .i64 ((rn RL i).n : Nat)] 39 := by rw [hW1]; exact Blk.new _ _ _
      rw [← hW1]
      clear hW1
      obtain ⟨xb, hxb⟩ : ∃ xb, xb = wr.heap.size := ⟨_, rfl⟩
      rw [← hxb] at hX0 ⊢
      have HX := hid hX0
      have F1 := hid f1
      have Hxb := hid hxb
      have HB1 := hid (HBr.out.fr f1 fun h => h)
      have hRl : ∀ k, TR' k → k < wr.heap.size := hRr.lt
      have HR1 := hid (hRr.nil f1)
      have hSK : (fun w' : World => w'.cell? ⟨sb, 0, none⟩ = some (.pointer (some ⟨pb, 0, none⟩)) ∧ w'.cell? ⟨xb, 0, none⟩ = some (.int .i64 ((rn RL i).a : Nat)) ∧ w'.cell? ⟨xb, 1, none⟩ = some (.int .i64 ((rn RL i).n : Nat))) W1.drew := ⟨HB1.out.drew.cell 0, HX.out.drew.cell 0, HX.out.drew.cell 1⟩
      have HRl := hid hRl
      clear hX0 f1 hxb hRl q0 q1
      refine wpU_region (k := 8) (S := (fun w' : World => w'.cell? ⟨sb, 0, none⟩ = some (.pointer (some ⟨pb, 0, none⟩)) ∧ w'.cell? ⟨xb, 0, none⟩ = some (.int .i64 ((rn RL i).a : Nat)) ∧ w'.cell? ⟨xb, 1, none⟩ = some (.int .i64 ((rn RL i).n : Nat)))) (by kernel_rfl) ?_
      refine wpU_take (i := 0) (v := ?_) rfl (by kernel_rfl) (by kernel_rfl) (fun _ _ _ h => h) _ _ _ _ (by kernel_rfl) (by kernel_rfl) (by kernel_rfl) (Or.inl ⟨by kernel_rfl, ?_⟩) hSK ?_
      rotate_left
      · (intro w9 hS9; obtain ⟨s0, s1, s2⟩ := hS9; go_simp); (try with_reducible rfl)
      try simp only [Act.put, List.getElem_toArray, List.getElem_cons_succ, List.getElem_cons_zero, List.setIfInBounds_toArray, List.set_cons_zero, List.set_cons_succ]
      refine wpU_take (i := 1) (v := ?_) rfl (by kernel_rfl) (by kernel_rfl) (fun _ _ _ h => h) _ _ _ _ (by kernel_rfl) (by kernel_rfl) (by kernel_rfl) (Or.inl ⟨by kernel_rfl, ?_⟩) hSK ?_
      rotate_left
      · (intro w9 hS9; obtain ⟨s0, s1, s2⟩ := hS9; go_simp); (try with_reducible rfl)
      try simp only [Act.put, List.getElem_toArray, List.getElem_cons_succ, List.getElem_cons_zero, List.setIfInBounds_toArray, List.set_cons_zero, List.set_cons_succ]
      refine wpU_take (i := 2) (v := ?_) rfl (by kernel_rfl) (by kernel_rfl) (fun _ _ _ h => h) _ _ _ _ (by kernel_rfl) (by kernel_rfl) (by kernel_rfl) (Or.inl ⟨by kernel_rfl, ?_⟩) hSK ?_
      rotate_left
      · (intro w9 hS9; obtain ⟨s0, s1, s2⟩ := hS9; go_simp); (try with_reducible rfl)
      try simp only [Act.put, List.getElem_toArray, List.getElem_cons_succ, List.getElem_cons_zero, List.setIfInBounds_toArray, List.set_cons_zero, List.set_cons_succ]
      refine wpU_take (i := 3) (v := ?_) rfl (by kernel_rfl) (by kernel_rfl) (fun _ _ _ h => h) _ _ _ _ (by kernel_rfl) (by kernel_rfl) (by kernel_rfl) (Or.inl ⟨by kernel_rfl, ?_⟩) hSK ?_
      rotate_left
      · (intro w9 hS9; obtain ⟨s0, s1, s2⟩ := hS9; go_simp); (try with_reducible rfl)
      try simp only [Act.put, List.getElem_toArray, List.getElem_cons_succ, List.getElem_cons_zero, List.setIfInBounds_toArray, List.set_cons_zero, List.set_cons_succ]
      refine wpU_take (i := 4) (v := ?_) rfl (by kernel_rfl) (by kernel_rfl) (fun _ _ _ h => h) _ _ _ _ (by kernel_rfl) (by kernel_rfl) (by kernel_rfl) (Or.inl ⟨by kernel_rfl, ?_⟩) hSK ?_
      rotate_left
      · (intro w9 hS9; obtain ⟨s0, s1, s2⟩ := hS9; go_simp); (try with_reducible rfl)
      try simp only [Act.put, List.getElem_toArray, List.getElem_cons_succ, List.getElem_cons_zero, List.setIfInBounds_toArray, List.set_cons_zero, List.set_cons_succ]
      refine wpU_take (i := 5) (v := ?_) rfl (by kernel_rfl) (by kernel_rfl) (fun _ _ _ h => h) _ _ _ _ (by kernel_rfl) (by kernel_rfl) (by kernel_rfl) (Or.inl ⟨by kernel_rfl, ?_⟩) hSK ?_
      rotate_left
      · (intro w9 hS9; obtain ⟨s0, s1, s2⟩ := hS9; go_simp); (try with_reducible rfl)
      try simp only [Act.put, List.getElem_toArray, List.getElem_cons_succ, List.getElem_cons_zero, List.setIfInBounds_toArray, List.set_cons_zero, List.set_cons_succ]
      refine wpU_take (i := 6) (v := ?_) rfl (by kernel_rfl) (by kernel_rfl) (fun _ _ _ h => h) _ _ _ _ (by kernel_rfl) (by kernel_rfl) (by kernel_rfl) (Or.inl ⟨by kernel_rfl, ?_⟩) hSK ?_
      rotate_left
      · (intro w9 hS9; obtain ⟨s0, s1, s2⟩ := hS9; go_simp); (try with_reducible rfl)
      try simp only [Act.put, List.getElem_toArray, List.getElem_cons_succ, List.getElem_cons_zero, List.setIfInBounds_toArray, List.set_cons_zero, List.set_cons_succ]
      refine wpU_take (i := 7) (v := ?_) rfl (by kernel_rfl) (by kernel_rfl) (fun _ _ _ h => h) _ _ _ _ (by kernel_rfl) (by kernel_rfl) (by kernel_rfl) (Or.inl ⟨by kernel_rfl, ?_⟩) hSK ?_
      rotate_left
      · (intro w9 hS9; obtain ⟨s0, s1, s2⟩ := hS9; go_simp); (try with_reducible rfl)
      try simp only [Act.put, List.getElem_toArray, List.getElem_cons_succ, List.getElem_cons_zero, List.setIfInBounds_toArray, List.set_cons_zero, List.set_cons_succ]
      clear hSK
      refine wpU_next (i := 8) rfl (by kernel_rfl) (fun K hK => ?_)
      go_simp
      refine (give_t (HR1.out.fr ((Fr.refl Nil W1).drew) fun _ _ h => h) ((rn RL i).a : Nat) ((rn RL i).n : Nat)).mono ?_
      rintro e w3 ⟨rfl, ⟨T3, hR3, hT3⟩, hf3⟩
      have HX3 := hid (HX.out.drew.fr hf3 fun h => by have := HRl.out _ h; have := Hxb.out; omega)
      have F3 := hid (show Fr TR w2 w3 from hfw.trans ((F1.out.nil (S := TR')).then ((Fr.refl TR' W1).drew.then hf3)) hTR')
      have HR3 := hid hR3
      have HT3 := hid (show ∀ k, T3 k → TR k ∨ w2.heap.size ≤ k from fun k hk => by
        rcases hT3 k hk with h | h
        · exact hTR' k h
        · exact .inr (Nat.le_trans hfw.size (Nat.le_trans F1.out.size h)))
      refine hK.out _ _ (fun h => absurd rfl h.1) ?_
      refine wpU_done (by kernel_rfl) ?_ _
      clear hK K hR3 hT3 hf3
      have p1 : w3.cell? ⟨xb, 1, none⟩ = some (.int .i64 ((rn RL i).n : Nat)) := HX3.out.cell 1
      go_wp2
      go_roundw
      case rel => exact ⟨i + 1, by rw [hS.out]; simp, by go_num, by omega, F3.out, T3, by rw [givs_take bl l RL (by rw [← HM.out]; exact hlt)]; exact HR3.out, HT3.out⟩
      case measure => simp [intOf]; omega
    · have hE : i = M := by omega
      subst hE
      go_wp2_with fail
      refine (made_ok T sb pb ub lb hb v U L H A _ Hs3.out).mono ?_
      rintro e w3 ⟨rfl, rfl⟩
      have b1 : (wr.alloc (.map #[] 0)).cell? ⟨sb, 1, none⟩ = some (.map (some ub)) := ((Fr.refl Nil wr).alloc _).cell (HBr.out.cell 1) (fun h => h)
      go_wp2_with fail
      clear b1
      obtain ⟨W1, hW1⟩ : ∃ W1, W1 = wr.alloc (.map #[] 0) := ⟨_, rfl⟩
      have k1 : KV W1 wr.heap.size [] := by rw [hW1]; exact KV.made wr
      have f1 : Fr Nil wr W1 := by rw [hW1]; exact (Fr.refl _ _).alloc _
      have s1 : W1.heap.size = wr.heap.size + 1 := by rw [hW1]; simp
      rw [← hW1]
      clear hW1
      have K1 := hid k1
      have S1 := hid s1
      have Hs4 := hid (Hs3.out.fr f1 fun _ _ h => h)
      obtain ⟨nb, hnb⟩ : ∃ nb, nb = wr.heap.size := ⟨_, rfl⟩
      rw [← hnb] at K1 ⊢
      have Hnb := hid hnb
      have F1 := hid f1
      clear k1 f1 s1 hnb
      refine (mclone_ok ub (U.map ent) W1 Hs4.out.u).mono ?_
      rintro e w4 ⟨rfl, k4, f4⟩
      obtain ⟨hb', hhb'⟩ : ∃ hb', hb' = W1.heap.size := ⟨_, rfl⟩
      rw [← hhb'] at k4 ⊢
      have K4 := hid k4
      have F4 := hid f4
      have Hhb := hid hhb'
      have Hs5 := hid (Hs4.out.fr f4 fun _ _ h => h)
      have hB5 := Hs5.out.blk
      have HB5 := hid hB5
      have z2 := hB5.frozen 2
      have z3 := hB5.frozen 3
      have z4 := hB5.frozen 4
      have y2 := hB5.cell 2
      have y3 := hB5.cell 3
      have y4 := hB5.cell 4
      have hlt5 := hB5.lt
      clear k4 f4 hhb' hB5
      go_wp2
      go_ret
      have F2 := HF
      have hfs : Fr (fun k => k = sb) w4 (((w4.setCell ⟨sb, 2, none⟩ (.map (some nb))).setCell ⟨sb, 3, none⟩ (.map (some hb'))).setCell ⟨sb, 4, none⟩ (.slice none 0 0)) := (((Fr.refl (fun k => k = sb) w4).setCell (a := ⟨sb, 2, none⟩) (.inl rfl) _).setCell (a := ⟨sb, 3, none⟩) (.inl rfl) _).setCell (a := ⟨sb, 4, none⟩) (.inl rfl) _
      have hb9 := ((HB5.out.set 2 (.map (some nb))).set 3 (.map (some hb'))).set 4 (.slice none 0 0)
      have hnb := Hnb.out
      have hhb := Hhb.out
      have hs3 := Hs3.out
      have hs5 := Hs5.out
      have z1 := F1.out.size
      have z2 := F4.out.size
      have z3 := hfs.size
      have z4 := hfw.size
      have z5 := F2.out.size
      have hblt := HBr.out.lt
      have hap : ∀ k, TR' k → ¬ (T k ∨ k = nb ∨ k = hb') := fun k hk => by
        have h1 := hRr.lt k hk
        have h2 := hTR' k hk
        rintro (h | h | h)
        · rcases h2 with h2 | h2
          · exact Hap.out k h2 h
          · have := Hlt.out k h; omega
        · omega
        · omega
      have S1' := S1.out
      refine ⟨by unfold sumN; rw [← HM.out]; rfl, ⟨fun k => T k ∨ k = nb ∨ k = hb', ⟨⟨ub, nb, hb', .slice none 0 0, ?_⟩, ?_⟩, ?_, TR', ?_, ?_, hap⟩, ?_⟩
      · exact ⟨hb9, hs5.u.fr hfs (Ne.symm (blk_kv HB5.out hs5.u)), (K1.out.fr F4.out fun h => h).fr hfs (by omega), K4.out.fr hfs (by omega), Row.nil _ _ _ _, by have := hs3.u.lt; omega, by have := hs3.u.lt; omega, by omega, .inl hs5.ts, .inl hs5.tu, .inr (.inl rfl), .inr (.inr rfl)⟩
      · rintro k (h | h | h)
        · have := Hlt.out k h; omega
        · have := K1.out.lt; omega
        · have := K4.out.lt; omega
      · rintro k (h | h | h)
        · exact .inl h
        · exact .inr (by omega)
        · exact .inr (by omega)
      · rw [List.take_of_length_le (by rw [← HM.out]; exact Nat.le_refl _)] at hRr
        exact ((hRr.nil F1.out).nil F4.out).fr hfs fun k hk h => hap k hk (.inl (by rw [h]; exact hs5.ts))
      · exact fun k hk => (hTR' k hk).imp id fun h => by omega
      · exact ((((HF.out.nil.then (hfw.mono fun k hk => .inr hk)).then F1.out.nil).then F4.out.nil).then (hfs.mono fun k hk => by rw [hk]; exact .inl hs5.ts))
end Go.Proofs.YtgoghmblfdlnbaaGreat
end

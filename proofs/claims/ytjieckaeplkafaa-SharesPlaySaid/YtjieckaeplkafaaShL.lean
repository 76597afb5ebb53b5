/- Shares: listed, Late, List. Conditions: the bounds of its lists. -/
import Derived.Test.YtjieckaeplkafaaShB
set_option linter.unusedSimpArgs false
set_option linter.unusedVariables false
namespace Go.Proofs.Ytjieckaeplkafaa
open Go.RowKit
theorem int_at {w : World} {S : Nat → Prop} {A : Option Addr} {n c : Nat} {l : List Int} (h : View w S 1 (.slice A n c) n (ints .i64 l)) {i : Nat} (hi : i < n) :
    ∃ b o, A = some ⟨b, o, none⟩ ∧ S b ∧ b < w.heap.size ∧ w.cell? ⟨b, o + i, none⟩ = some (.int .i64 (l.getD i 0)) := by
  obtain ⟨hl, A', c', e, _, _, _, _, h5⟩ := h
  injection e with ea _ ec
  subst ea; subst ec
  obtain ⟨b, o, hA, hS, hb, hc⟩ := h5 (by omega)
  have hl' : i < l.length := by rw [ints_length] at hl; omega
  exact ⟨b, o, hA, hS, hb, hc _ _ (by rw [ints_at _ _ _ hl']; simp [List.getElem?_eq_getElem hl'])⟩
def us (U : List Us) (i : Nat) : Us := U.getD i ⟨0, 0, 0⟩
theorem us_eq {U : List Us} {i : Nat} (h : i < U.length) : us U i = U[i] := by simp [us, List.getElem?_eq_getElem h]
theorem ukeys_get {U : List Us} {i : Nat} (h : i < U.length) : (ukeys U).getD i 0 = ((us U i).a : Nat) := by
  rw [us_eq h]
  simp [ukeys, List.getElem?_eq_getElem h]
theorem ux_srt {U : List Us} (hn : (ukeys U).Nodup) {i : Nat} (h : i < U.length) : ux U ((us (srtU U) i).a : Nat) = us (srtU U) i := by
  have hs : i < (srtU U).length := by rw [srtU_length]; exact h
  have hm : us (srtU U) i ∈ U := by
    rw [us_eq hs]
    exact (srtU_perm U).mem_iff.1 (List.getElem_mem hs)
  unfold ux
  rw [uget_some hn hm]
  rfl
theorem lst_take {U : List Us} {i : Nat} (h : i < U.length) : (lst U).take (i + 1) = (lst U).take i ++ [(us (srtU U) i).r] := by
  have hs : i < (srtU U).length := by rw [srtU_length]; exact h
  have hl : i < (lst U).length := by rw [lst_length]; exact h
  rw [List.take_succ_eq_append_getElem hl, us_eq hs]
  congr 2
  simp [lst]
set_option maxRecDepth 20000 in
theorem listed_ok (b : Nat) (U : List Us) (w : World) (h : KV w b (U.map ent)) (hl : U.length ≤ 100000) :
    Calls Try.prog 35 #[.map (some b)] w fun e w' => ∃ A c, e = .returned (.slice A U.length c) ∧ Row w' (New w) 33 2 (.slice A U.length c) U.length (dbl (lst U)) ∧ Fr Nil w w' := by
  have hn : (ukeys U).Nodup := by rw [← ent_keys]; exact h.nodup
  have Hn := hid hn
  have Hl := hid hl
  have Hk := hid h
  have Hwf : ∀ p ∈ U.map ent, (Lit.int .i64 p.1).wf = true := by obtain ⟨_, _, _, _, _, _, hw⟩ := h; exact hw
  have HW := hid Hwf
  clear hn hl Hwf
  have hlt := h.lt
  have Hb := hid hlt
  clear hlt
  go_enter Try.func35, Try.ntmps35
  go_wp2_with fail
  refine (keys_ok (some b) w).mono ?_
  rintro e w1 ⟨rfl, rfl⟩
  go_wp2_with fail
  refine (sorted_ok b _ w h (by rw [List.length_map]; have := Hl.out; omega)).mono ?_
  clear h
  rintro e w2 ⟨A, c, rfl, hR, hF⟩
  rw [List.length_map] at hR ⊢
  rw [ent_keys, srtU_keys] at hR
  obtain ⟨L, hL⟩ : ∃ L, L = U.length := ⟨_, rfl⟩
  have hv := hR.view
  rw [← hL] at hv ⊢
  have HV := hid hv
  have HL := hid hL
  have HF := hid hF
  have hL9 : L ≤ 100000 := by have := Hl.out; omega
  clear hR hv hL hF
  go_wp2_with fail
  go_loopw [3, 10] (fun v3 v10 wr => ∃ i : Nat, ∃ A3 c3, v3 = .slice A3 i c3 ∧ v10 = .int .i64 i ∧ i ≤ L ∧ Fr Nil w2 wr ∧ Row wr (New w2) 33 2 (.slice A3 i c3) i (dbl ((lst U).take i))) (fun _ v10 _ => L - (intOf v10).toNat)
  case atStart => exact ⟨0, none, 0, rfl, rfl, by omega, Fr.refl _ _, by simpa [dbl] using Row.nil w2 (New w2) 33 2⟩
  case round =>
    obtain ⟨i, A3, c3, rfl, rfl, hi, hfw, hrow⟩ := hrel
    by_cases hlt : i < L
    · obtain ⟨xb, xo, rfl, -, hbl, q0⟩ := int_at (HV.out.fr hfw fun _ _ _ h => h) hlt
      have hiU : i < U.length := by have := HL.out; omega
      have his : i < (srtU U).length := by rw [srtU_length]; exact hiU
      rw [ukeys_get his] at q0
      have hkr : KV wr b (U.map ent) := (Hk.out.fr HF.out fun h => h).fr hfw fun h => h
      have hmem : ent (us (srtU U) i) ∈ U.map ent := List.mem_map.2 ⟨_, by rw [us_eq his]; exact (srtU_perm U).mem_iff.1 (List.getElem_mem his), rfl⟩
      have hlk := look_use hkr (HW.out _ hmem)
      rw [show (ent (us (srtU U) i)).1 = ((us (srtU U) i).a : Int) from rfl, ux_srt Hn.out hiU] at hlk
      have htk := hid (lst_take hiU)
      obtain ⟨x, hx⟩ : ∃ x, x = us (srtU U) i := ⟨_, rfl⟩
      rw [← hx] at q0 hlk htk
      have Hr := hid hrow
      have Hf := hid hfw
      have HiU := hid hiU
      clear hx hmem hkr his hiU hrow hfw
      go_wp2_with (at_builtin; refine wp_app_view rfl _ _ 37 rfl (.agg #[.int .i64 0, .int .i64 0]) 16 Try.underlying37 info_run2 rfl (by decide) (Hr.out.alloc _) rfl (View.lit (s := 2) wr #[.int .i64 (x.a : Nat), .int .i64 (x.n : Nat)] 33 (0, 0) 1 rfl (by decide)) rfl (rcells_cell ⟨x.a, x.n⟩) (by omega) (by decide) ?_)
      rintro A6 c6 w6 q1 q2 -
      have hf0 := Hf.out
      have f6 : Fr Nil w2 w6 := ((hf0.alloc _)).trans q2 fun k hk => .inr (Hr.out.2 k hk)
      go_wp2
      go_roundw
      case rel => exact ⟨i + 1, A6, c6, rfl, by go_num, by omega, f6, by
        rw [htk.out, dbl_append, dbl_one]
        exact q1.mono fun k hk => hk.elim (fun h => Hr.out.2 k h) (fun h => Nat.le_trans ((hf0.alloc _).size) h)⟩
      case measure => simp [intOf]; omega
    · have hE : i = L := by omega
      subst hE
      go_wp2
      go_ret
      rw [List.take_of_length_le (by rw [lst_length, ← HL.out]; exact Nat.le_refl _)] at hrow
      exact ⟨A3, c3, by rw [← HL.out]; rfl, by rw [← HL.out]; exact hrow.mono fun k hk => Nat.le_trans HF.out.size hk, HF.out.then hfw⟩
set_option maxRecDepth 20000 in
theorem late_ok (T : Nat → Prop) (sb pb : Nat) (U L H : List Us) (A : List Rn) (w : World) (h : IsS w T sb pb U L H A) (hl : L.length ≤ 100000) :
    Calls Try.prog 16 #[.pointer (some ⟨sb, 0, none⟩)] w fun e w' => ∃ A c, e = .returned (.slice A L.length c) ∧ Row w' (New w) 33 2 (.slice A L.length c) L.length (dbl (lst L)) ∧ Fr Nil w w' := by
  obtain ⟨⟨ub, lb, hb, v, hs⟩, hlt⟩ := h
  have hc1 : w.cell? ⟨sb, 2, none⟩ = some (.map (some lb)) := hs.blk.cell 2
  have Hs := hid hs
  have Hl := hid hl
  clear hs hl hlt
  go_enter Try.func16, Try.ntmps16
  go_wp2_with fail
  refine (made_ok T sb pb ub lb hb v U L H A _ Hs.out).mono ?_
  rintro e w1 ⟨rfl, rfl⟩
  go_wp2_with fail
  refine (listed_ok lb L w Hs.out.l Hl.out).mono ?_
  rintro e w2 ⟨B, c, rfl, hR, hF⟩
  go_wp2
  go_ret
  exact ⟨B, c, rfl, hR, hF⟩
set_option maxRecDepth 20000 in
theorem slist_ok (T : Nat → Prop) (sb pb : Nat) (U L H : List Us) (A : List Rn) (w : World) (h : IsS w T sb pb U L H A) (hl : U.length ≤ 100000) :
    Calls Try.prog 17 #[.pointer (some ⟨sb, 0, none⟩)] w fun e w' => ∃ A c, e = .returned (.slice A U.length c) ∧ Row w' (New w) 33 2 (.slice A U.length c) U.length (dbl (lst U)) ∧ Fr Nil w w' := by
  obtain ⟨⟨ub, lb, hb, v, hs⟩, hlt⟩ := h
  have hc1 : w.cell? ⟨sb, 1, none⟩ = some (.map (some ub)) := hs.blk.cell 1
  have Hs := hid hs
  have Hl := hid hl
  clear hs hl hlt
  go_enter Try.func17, Try.ntmps17
  go_wp2_with fail
  refine (made_ok T sb pb ub lb hb v U L H A _ Hs.out).mono ?_
  rintro e w1 ⟨rfl, rfl⟩
  go_wp2_with fail
  refine (listed_ok ub U w Hs.out.u Hl.out).mono ?_
  rintro e w2 ⟨B, c, rfl, hR, hF⟩
  go_wp2
  go_ret
  exact ⟨B, c, rfl, hR, hF⟩
end Go.Proofs.Ytjieckaeplkafaa

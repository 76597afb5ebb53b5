/- The reference's Shares: Uses, List. Conditions: the bounds of its lists. -/
import Derived.Test.YtjieckaeplkafaaRzA
set_option linter.unusedSimpArgs false
set_option linter.unusedVariables false
namespace Go.Proofs.Ytjieckaeplkafaa
open Go.RowKit
theorem uget_at : ∀ (N : List Us) (i : Int), uget N i = N[atN N i]?
  | [], i => rfl
  | u :: N, i => by
    have ih := uget_at N i
    unfold uget atN at ih ⊢
    rw [List.find?_cons, List.findIdx_cons]
    cases h : ((u.a : Int) == i) with
    | true => rfl
    | false => simpa [h] using ih
theorem usesI_at {N : List Us} {i : Int} (h : atN N i < N.length) : usesI N i = (us N (atN N i)).k ∧ uget N i = some (us N (atN N i)) := by
  have e : uget N i = some (us N (atN N i)) := by rw [uget_at, us_eq h, List.getElem?_eq_getElem h]
  exact ⟨by unfold usesI; rw [e], e⟩
theorem usesI_no {N : List Us} {i : Int} (h : ¬ atN N i < N.length) : usesI N i = 0 ∧ uget N i = none := by
  have e : uget N i = none := by rw [uget_at, List.getElem?_eq_none (by omega)]
  exact ⟨by unfold usesI; rw [e], e⟩
set_option maxRecDepth 20000 in
theorem rz_uses (T : Nat → Prop) (sb mb : Nat) (N W : List Us) (w : World) (h : Rz w T sb mb N W) (hN : N.length ≤ 100000) (i : Int) :
    Calls Try.prog 30 #[.pointer (some ⟨sb, 0, none⟩), .int .i64 i] w fun e w' => e = .returned (.int .i64 (usesI N i : Nat)) ∧ w = w' := by
  have Hat := hid (rz_at T sb mb N W w h hN i)
  obtain ⟨⟨v1, v2, h1, h2, h3⟩, h4, h5⟩ := h
  obtain ⟨A, c, rfl⟩ := h2.slice
  have c1 : w.cell? ⟨sb, 1, none⟩ = some (.slice A N.length c) := h1.cell 1
  have HV := hid h2.view
  clear h1 h2 h3 h4 h5
  by_cases hl : atN N i < N.length
  · obtain ⟨b, o, rfl, -, hbl, -, -, q2, -⟩ := uz_at HV.out hl
    have hat : atI N i = (atN N i : Int) := if_pos hl
    rw [(usesI_at hl).1]
    generalize us N (atN N i) = x at *
    rw [hat] at Hat
    generalize atN N i = j at *
    generalize N.length = M at *
    clear hat
    go_enter Try.func30, Try.ntmps30
    go_wp2_with fail
    refine Hat.out.mono ?_
    rintro e w1 ⟨rfl, rfl⟩
    go_wp2
    go_ret
    exact ⟨rfl, rfl⟩
  · have hat : atI N i = -1 := if_neg hl
    rw [(usesI_no hl).1]
    rw [hat] at Hat
    clear hat hl
    go_enter Try.func30, Try.ntmps30
    go_wp2_with fail
    refine Hat.out.mono ?_
    rintro e w1 ⟨rfl, rfl⟩
    go_wp2
    go_ret
    exact ⟨rfl, rfl⟩
def lateP (b : Bool) (u : Us) : Bool := decide (u.k = 0) == b
def lsN (N : List Us) (b : Bool) : List Rn := (N.filter (lateP b)).map Us.r
theorem lsN_take {N : List Us} {i : Nat} (h : i < N.length) (b : Bool) : lsN (N.take (i + 1)) b = lsN (N.take i) b ++ if lateP b (us N i) = true then [(us N i).r] else [] := by
  unfold lsN
  rw [List.take_succ_eq_append_getElem h, List.filter_append, List.map_append, us_eq h, List.filter_cons, List.filter_nil]
  congr 1
  split <;> rfl
theorem lsN_le (N : List Us) (i : Nat) (b : Bool) : (lsN (N.take i) b).length ≤ i := by
  unfold lsN
  rw [List.length_map]
  exact Nat.le_trans (List.length_filter_le _ _) (by rw [List.length_take]; omega)
set_option maxRecDepth 20000 in
theorem rz_list (T : Nat → Prop) (sb mb : Nat) (N W : List Us) (w : World) (h : Rz w T sb mb N W) (hN : N.length ≤ 100000) (lt : Bool) :
    Calls Try.prog 43 #[.pointer (some ⟨sb, 0, none⟩), .bool lt] w fun e w' => ∃ A c, e = .returned (.slice A (lsN N lt).length c) ∧ Row w' (New w) 33 2 (.slice A (lsN N lt).length c) (lsN N lt).length (dbl (lsN N lt)) ∧ Fr Nil w w' := by
  obtain ⟨⟨v1, v2, h1, h2, h3⟩, h4, h5⟩ := h
  obtain ⟨A, c, rfl⟩ := h2.slice
  have HB := hid h1
  have HV := hid h2.view
  obtain ⟨M, hM⟩ : ∃ M, M = N.length := ⟨_, rfl⟩
  rw [← hM] at HV HB
  have HM := hid hM
  have hM9 : M ≤ 100000 := by omega
  have hTs := hid h4
  clear h1 h2 h3 h5 hN hM h4
  go_enter Try.func43, Try.ntmps43
  go_wp2_with fail
  go_loopw [5, 6] (fun v5 v6 wr => ∃ (i m : Nat) (A3 : Option Addr) (c3 : Nat), v6 = .int .i64 i ∧ v5 = .slice A3 m c3 ∧ i ≤ M ∧ m ≤ i ∧ Hid (m = (lsN (N.take i) lt).length) ∧ Fr Nil w wr ∧ Row wr (New w) 33 2 (.slice A3 m c3) m (dbl (lsN (N.take i) lt))) (fun _ v6 _ => M - (intOf v6).toNat)
  case atStart => exact ⟨0, 0, none, 0, rfl, rfl, by omega, Nat.le_refl _, hid rfl, Fr.refl _ _, Row.nil w (New w) 33 2⟩
  case round =>
    obtain ⟨i, m, A3, c3, rfl, rfl, hi, hmi, hm, hfw, hrow⟩ := hrel
    have c1 : wr.cell? ⟨sb, 1, none⟩ = some (.slice A M c) := (HB.out.fr hfw fun h => h).cell 1
    by_cases hlt : i < M
    · obtain ⟨b, o, rfl, -, hbl, q0, q1, q2, q3⟩ := uz_at (HV.out.fr hfw fun _ _ _ h => h) hlt
      have hst := hid (lsN_take (show i < N.length by rw [← HM.out]; exact hlt) lt)
      obtain ⟨x, hx⟩ : ∃ x, x = us N i := ⟨_, rfl⟩
      rw [← hx] at q0 q1 q2 q3 hst
      have Hr := hid hrow
      have Hf := hid hfw
      clear hx hrow hfw
      by_cases hp : lateP lt x = true
      · have hpb : (decide (x.k = 0) == lt) = true := hp
        have HP := hid hp
        clear hp
        go_wp2_with (at_builtin; refine wp_app_view rfl _ _ 37 rfl (.agg #[.int .i64 0, .int .i64 0]) 16 Try.underlying37 info_run2 rfl (by decide) (Hr.out.alloc _) rfl (View.lit (s := 2) wr #[.int .i64 (x.a : Nat), .int .i64 (x.n : Nat)] 33 (0, 0) 1 rfl (by decide)) rfl (rcells_cell ⟨x.a, x.n⟩) (by omega) (by decide) ?_)
        rintro A6 c6 w6 q1 q2 -
        have hr0 := Hr.out
        have hf0 := Hf.out
        have f6 : Fr Nil w w6 := ((hf0.alloc _)).trans q2 fun k hk => .inr (hr0.2 k hk)
        have HQ := hid q1
        have F6 := hid f6
        clear q1 q2 f6 hr0 hf0
        go_wp2
        go_roundw
        case rel =>
          have e := hst.out
          rw [if_pos HP.out] at e
          refine ⟨i + 1, m + 1, A6, c6, by go_num, rfl, by omega, by omega, hid (by rw [e, List.length_append, ← hm.out]; rfl), F6.out, ?_⟩
          rw [e, dbl_append, dbl_one]
          exact HQ.out.mono fun k hk => hk.elim (fun h => Hr.out.2 k h) (fun h => Nat.le_trans ((Hf.out.alloc _).size) h)
        case measure => simp [intOf]; omega
      · have hpb : (decide (x.k = 0) == lt) = false := by simpa [lateP] using hp
        have HP := hid hp
        clear hp
        go_wp2_with fail
        go_roundw
        case rel =>
          have e := hst.out
          rw [if_neg HP.out, List.append_nil] at e
          exact ⟨i + 1, m, A3, c3, by go_num, rfl, by omega, by omega, hid (by rw [e]; exact hm.out), Hf.out, by rw [e]; exact Hr.out⟩
        case measure => simp [intOf]; omega
    · have hE : i = M := by omega
      go_wp2_with fail
      go_ret
      have e : N.take i = N := List.take_of_length_le (by rw [← HM.out]; omega)
      have hm' := hm.out
      rw [e] at hrow hm'
      exact ⟨A3, c3, by rw [← hm']; rfl, by rw [← hm']; exact hrow, hfw⟩
end Go.Proofs.Ytjieckaeplkafaa

/- slices.IndexFunc, slices.DeleteFunc and slices.Clone on runs. -/
import Derived.Test.YtjieckaeplkafaaProg
import Derived.Test.YtjieckaeplkafaaRnV
set_option linter.unusedSimpArgs false
set_option linter.unusedVariables false
namespace Go.Proofs.Ytjieckaeplkafaa
open Go.RowKit
theorem info_run : (Try.prog.info? 33).map (fun i => (i.zero, i.size, i.bytes)) = some (some (.agg #[.int .i64 0, .int .i64 0]), 2, 16) := by kernel_rfl
theorem size_run : (Try.prog.info? 33).map (·.size) = some 2 := by kernel_rfl
theorem zero_run (w : World) : (zeroValue 33).run Try.prog w = .ok (.agg #[.int .i64 0, .int .i64 0]) w := by kernel_rfl
/-- The function that put hands on. -/
theorem none_ok (r : Rn) (b : Bool) (hb : nz r = b) (w : World) : Calls Try.prog 48 #[.agg #[.int .i64 (r.a : Nat), .int .i64 (r.n : Nat)]] w fun e w' => e = .returned (.bool (!b)) ∧ Fr Nil w w' := by
  obtain ⟨a, n⟩ := r
  have hf : Fr Nil w (w.alloc (.cells #[.int .i64 (a : Nat), .int .i64 (n : Nat)] 33)) := (Fr.refl _ _).alloc _
  unfold nz at hb
  dsimp only at hb ⊢
  by_cases h0 : n = 0
  · subst h0
    obtain rfl : b = false := by simpa using hb.symm
    clear hb
    go_enter Try.func48, Try.ntmps48
    go_wp2
    go_ret
    exact ⟨rfl, hf⟩
  · have hz : ((n : Int) == 0) = false := by simp; omega
    obtain rfl : b = true := by rw [← hb]; simpa using h0
    clear hb
    have H0 := hid h0; clear h0
    go_enter Try.func48, Try.ntmps48
    go_wp2
    go_ret
    exact ⟨rfl, hf⟩

/-- The first run without blocks. -/
def fzi (l : List Rn) : Int := if zi l < l.length then (zi l : Nat) else -1
set_option maxRecDepth 100000 in
theorem index_ok (S : Nat → Prop) (A : Option Addr) (n c : Nat) (l : List Rn) (w : World) (hv : View w S 2 (.slice A n c) n (dbl l)) :
    Calls Try.prog 55 #[.slice A n c, .func (.func 48) #[] #[]] w fun e w' => e = .returned (.int .i64 (fzi l)) ∧ Fr Nil w w' := by
  have hln := hv.len2
  have Hln := hid hln
  clear hln
  have hle : n ≤ 9223372036854775807 := hv.le
  go_enter Try.func55, Try.ntmps55
  go_wp2_with fail
  go_loopw [8] (fun v8 wr => ∃ i : Nat, v8 = .int .i64 i ∧ i ≤ n ∧ Fr Nil w wr ∧ Hid (∀ j, j < i → nz (rn l j) = true)) (fun v8 _ => n - (intOf v8).toNat)
  case atStart => exact ⟨0, rfl, by omega, Fr.refl _ _, hid fun j hj => absurd hj (by omega)⟩
  case round =>
    obtain ⟨i, rfl, hi, hfw, hok⟩ := hrel
    by_cases hlt : i < n
    · obtain ⟨b, o, rfl, -, hbl, k0, k1⟩ := rn_at (hv.fr hfw fun _ _ _ h => h) hlt
      cases hz : nz (rn l i) with
      | true =>
        have Hz := hid hz; clear hz
        go_wp2_with fail
        refine (none_ok (rn l i) _ Hz.out _).mono ?_
        rintro e w1 ⟨rfl, hf1⟩
        clear k0 k1
        go_wp2
        go_roundw
        case rel =>
          refine ⟨i + 1, by go_num, by omega, hfw.then hf1, hid fun j hj => ?_⟩
          rcases Nat.lt_or_ge j i with h | h
          · exact hok.out j h
          · obtain rfl : j = i := by omega
            exact Hz.out
        case measure => simp [intOf]; omega
      | false =>
        have Hz := hid hz; clear hz
        have hF : Hid (fzi l = (i : Nat)) := hid (by
          have := zi_unique (l := l) (i := i) (by rw [Hln.out]; omega) hok.out (fun _ => Hz.out)
          unfold fzi; rw [this, if_pos (by rw [Hln.out]; exact hlt)])
        go_wp2_with fail
        refine (none_ok (rn l i) _ Hz.out _).mono ?_
        rintro e w1 ⟨rfl, hf1⟩
        clear k0 k1
        go_wp2
        go_ret
        rw [hF.out]
        exact ⟨rfl, hfw.then hf1⟩
    · have hF : Hid (fzi l = -1) := hid (by
        have := zi_unique (l := l) (i := i) (by rw [Hln.out]; omega) hok.out (fun h => absurd h (by rw [Hln.out]; omega))
        unfold fzi; rw [this, if_neg (by rw [Hln.out]; omega)])
      go_wp2
      go_ret
      rw [hF.out]
      exact ⟨rfl, hfw⟩

/-- A copy of its own. -/
theorem clone_ok (S : Nat → Prop) (A : Option Addr) (n c : Nat) (l : List Rn) (hn : n < 1000000000) (w : World) (hv : View w S 2 (.slice A n c) n (dbl l)) :
    Calls Try.prog 38 #[.slice A n c] w fun e w' => ∃ A' c', e = .returned (.slice A' n c') ∧ Row w' (New w) 33 2 (.slice A' n c') n (dbl l) ∧ Fr Nil w w' := by
  have hv0 := hv
  obtain ⟨hl, A', c', e, e1, e2, e3, e4, e5⟩ := hv
  injection e with ea _ ec
  subst ea; subst ec
  cases A with
  | none =>
    obtain rfl := e3 rfl
    obtain rfl : n = 0 := by omega
    have hx : dbl l = [] := List.eq_nil_of_length_eq_zero (by simpa using hl)
    go_enter Try.func38, Try.ntmps38
    go_wp2
    go_ret
    exact ⟨none, 0, rfl, Row.nil _ _ _ _, Fr.refl _ _⟩
  | some ad =>
    go_enter Try.func38, Try.ntmps38
    go_wp2_with (at_builtin; refine wp_app_view rfl _ _ 37 rfl (.agg #[.int .i64 0, .int .i64 0]) 16 Try.underlying37 info_run rfl (by decide) (Row.made w #[] 33 2 0 0 rfl (Nat.le_refl _) (by decide)) rfl (hv0.alloc _) rfl (dbl_cell l) (by omega) (by decide) ?_)
    intro A cap w' r1 r2 r3
    have r4 : Row w' (New w) 33 2 (.slice A (0 + n) cap) (0 + n) (dbl l) := by
      refine Row.mono (by simpa using r1) fun k hk => ?_
      rcases hk with hk | hk
      · simp [Value.ownBlock] at hk
        unfold New; omega
      · unfold New; omega
    have r5 : Fr Nil w w' := ((Fr.refl Nil w).alloc _).trans r2 (fun k hk => by simp [Value.ownBlock] at hk; exact .inr (by omega))
    clear r1 r2 r3
    rw [Nat.zero_add] at r4 ⊢
    go_wp2
    go_ret
    exact ⟨A, cap, rfl, r4, r5⟩
end Go.Proofs.Ytjieckaeplkafaa

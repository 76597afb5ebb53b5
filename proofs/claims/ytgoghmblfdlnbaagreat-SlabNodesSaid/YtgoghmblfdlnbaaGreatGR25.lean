/- The texts VNdM, VNdL of this proof, one behind the other. Conditions: those of each. -/
import Derived.BigQuiet
import Derived.Test.YtgoghmblfdlnbaaGreatGR3
import Derived.Test.YtgoghmblfdlnbaaGreatGR23
import Derived.Test.YtgoghmblfdlnbaaGreatGR24
section
/- node.May and what it calls: within, lies, keys, Entry, leaf, inner. -/
set_option linter.unusedSimpArgs false
set_option linter.unusedVariables false
namespace Go.Proofs.YtgoghmblfdlnbaaGreat.nd
open Go.RowKit

theorem within_ok (a b c : Int) (r : Bool) (hr : decide (b ≤ a ∧ a ≤ c) = r) (w : World) : Calls Tryz.prog 92 #[.int .i64 a, .int .i64 b, .int .i64 c] w fun e w' => e = .returned (.bool r) ∧ w = w' := by
  subst hr
  by_cases h1 : b ≤ a
  · by_cases h2 : a ≤ c
    · rw [decide_eq_true (show b ≤ a ∧ a ≤ c from ⟨h1, h2⟩)]
      go_enter Tryz.func92, Tryz.ntmps92
      go_wp2
      go_ret
      exact ⟨rfl, rfl⟩
    · rw [decide_eq_false (show ¬ (b ≤ a ∧ a ≤ c) from fun h => h2 h.2)]
      go_enter Tryz.func92, Tryz.ntmps92
      go_wp2
      go_ret
      exact ⟨rfl, rfl⟩
  · rw [decide_eq_false (show ¬ (b ≤ a ∧ a ≤ c) from fun h => h1 h.1)]
    go_enter Tryz.func92, Tryz.ntmps92
    go_wp2
    go_ret
    exact ⟨rfl, rfl⟩


theorem lies_ok (a n g : Int) (r : Bool) (hr : decide (lOk a n g) = r) (w : World) : Calls Tryz.prog 111 #[.int .i64 a, .int .i64 n, .int .i64 g] w fun e w' => e = .returned (.bool r) ∧ w = w' := by
  subst hr
  by_cases h1 : 0 ≤ a ∧ a ≤ 8191
  · by_cases h2 : 1 ≤ n ∧ n ≤ 128
    · by_cases h3 : a + n ≤ 8192
      · by_cases h4 : 0 ≤ g ∧ g ≤ 268435455
        · rw [decide_eq_true (show lOk a n g from ⟨h1, h2, h3, h4⟩)]
          go_enter Tryz.func111, Tryz.ntmps111
          go_wp2_with (go_at_call 92; first | (refine (within_ok _ _ _ true (decide_eq_true (by omega)) _).mono ?_; rintro e w9 ⟨rfl, rfl⟩) | (refine (within_ok _ _ _ false (decide_eq_false (by omega)) _).mono ?_; rintro e w9 ⟨rfl, rfl⟩))
          go_ret
          exact ⟨rfl, rfl⟩
        · rw [decide_eq_false (show ¬ lOk a n g from fun h => h4 h.2.2.2)]
          go_enter Tryz.func111, Tryz.ntmps111
          go_wp2_with (go_at_call 92; first | (refine (within_ok _ _ _ true (decide_eq_true (by omega)) _).mono ?_; rintro e w9 ⟨rfl, rfl⟩) | (refine (within_ok _ _ _ false (decide_eq_false (by omega)) _).mono ?_; rintro e w9 ⟨rfl, rfl⟩))
          go_ret
          exact ⟨rfl, rfl⟩
      · rw [decide_eq_false (show ¬ lOk a n g from fun h => h3 h.2.2.1)]
        go_enter Tryz.func111, Tryz.ntmps111
        go_wp2_with (go_at_call 92; first | (refine (within_ok _ _ _ true (decide_eq_true (by omega)) _).mono ?_; rintro e w9 ⟨rfl, rfl⟩) | (refine (within_ok _ _ _ false (decide_eq_false (by omega)) _).mono ?_; rintro e w9 ⟨rfl, rfl⟩))
        go_ret
        exact ⟨rfl, rfl⟩
    · rw [decide_eq_false (show ¬ lOk a n g from fun h => h2 h.2.1)]
      go_enter Tryz.func111, Tryz.ntmps111
      go_wp2_with (go_at_call 92; first | (refine (within_ok _ _ _ true (decide_eq_true (by omega)) _).mono ?_; rintro e w9 ⟨rfl, rfl⟩) | (refine (within_ok _ _ _ false (decide_eq_false (by omega)) _).mono ?_; rintro e w9 ⟨rfl, rfl⟩))
      go_ret
      exact ⟨rfl, rfl⟩
  · rw [decide_eq_false (show ¬ lOk a n g from fun h => h1 h.1)]
    go_enter Tryz.func111, Tryz.ntmps111
    go_wp2_with (go_at_call 92; first | (refine (within_ok _ _ _ true (decide_eq_true (by omega)) _).mono ?_; rintro e w9 ⟨rfl, rfl⟩) | (refine (within_ok _ _ _ false (decide_eq_false (by omega)) _).mono ?_; rintro e w9 ⟨rfl, rfl⟩))
    go_ret
    exact ⟨rfl, rfl⟩

theorem entry_ok (k : Kd) (g : Int) (r : Bool) (hr : decide (eOk k g) = r) (w : World) : Calls Tryz.prog 109 #[.agg #[.int .i64 k.a, .int .i64 k.n, .int .i64 k.g], .int .i64 g] w fun e w' => e = .returned (.bool r) ∧ Fr Nil w w' := by
  obtain ⟨a, n, s⟩ := k
  subst hr
  have hf : Fr Nil w (w.alloc (.cells #[.int .i64 a, .int .i64 n, .int .i64 s] 51)) := (Fr.refl Nil w).alloc _
  by_cases h1 : lOk a n g
  · by_cases h2 : 0 ≤ s ∧ s ≤ 7
    · rw [decide_eq_true (show eOk ⟨a, n, s⟩ g from ⟨h1, h2⟩)]
      have h1' := decide_eq_true h1
      have H1 := hid h1; clear h1
      go_enter Tryz.func109, Tryz.ntmps109
      go_wp2_with (first | (go_at_call 92; first | (refine (within_ok _ _ _ true (decide_eq_true (by omega)) _).mono ?_; rintro e w9 ⟨rfl, rfl⟩) | (refine (within_ok _ _ _ false (decide_eq_false (by omega)) _).mono ?_; rintro e w9 ⟨rfl, rfl⟩)) | (go_at_call 111; refine (lies_ok _ _ _ _ h1' _).mono ?_; rintro e w9 ⟨rfl, rfl⟩))
      go_ret
      exact ⟨rfl, hf⟩
    · rw [decide_eq_false (show ¬ eOk ⟨a, n, s⟩ g from fun h => h2 h.2)]
      have h1' := decide_eq_true h1
      have H1 := hid h1; clear h1
      go_enter Tryz.func109, Tryz.ntmps109
      go_wp2_with (first | (go_at_call 92; first | (refine (within_ok _ _ _ true (decide_eq_true (by omega)) _).mono ?_; rintro e w9 ⟨rfl, rfl⟩) | (refine (within_ok _ _ _ false (decide_eq_false (by omega)) _).mono ?_; rintro e w9 ⟨rfl, rfl⟩)) | (go_at_call 111; refine (lies_ok _ _ _ _ h1' _).mono ?_; rintro e w9 ⟨rfl, rfl⟩))
      go_ret
      exact ⟨rfl, hf⟩
  · rw [decide_eq_false (show ¬ eOk ⟨a, n, s⟩ g from fun h => h1 h.1)]
    have h1' := decide_eq_false h1
    have H1 := hid h1; clear h1
    go_enter Tryz.func109, Tryz.ntmps109
    go_wp2_with (first | (go_at_call 92; first | (refine (within_ok _ _ _ true (decide_eq_true (by omega)) _).mono ?_; rintro e w9 ⟨rfl, rfl⟩) | (refine (within_ok _ _ _ false (decide_eq_false (by omega)) _).mono ?_; rintro e w9 ⟨rfl, rfl⟩)) | (go_at_call 111; refine (lies_ok _ _ _ _ h1' _).mono ?_; rintro e w9 ⟨rfl, rfl⟩))
    go_ret
    exact ⟨rfl, hf⟩
set_option maxRecDepth 100000 in
theorem keys_ok (S : Nat → Prop) (A : Option Addr) (c : Nat) (ks : List Int) (r : Bool) (hr : decide (keysOk ks) = r) (w : World) (hv : View w S 1 (.slice A ks.length c) ks.length (ints .i64 ks)) :
    Calls Tryz.prog 93 #[.slice A ks.length c] w fun e w' => e = .returned (.bool r) ∧ w = w' := by
  subst hr
  have hfalse : ∀ i, i < ks.length → ¬ kOk ks i → decide (keysOk ks) = false := fun i hi h => decide_eq_false fun h9 => h (h9.2 i hi)
  obtain ⟨n, hn⟩ : ∃ n, n = ks.length := ⟨_, rfl⟩
  rw [← hn] at hv ⊢
  have Hn := hid hn; clear hn
  by_cases h8 : 8 < n
  · rw [decide_eq_false (show ¬ keysOk ks from fun h => by have := h.1; have := Hn.out; omega)]
    go_enter Tryz.func93, Tryz.ntmps93
    go_wp2
    go_ret
    exact ⟨rfl, rfl⟩
  go_enter Tryz.func93, Tryz.ntmps93
  go_wp2_with fail
  go_loop [10] (fun v10 => ∃ i : Nat, v10 = .int .i64 i ∧ i ≤ n ∧ Hid (∀ j, j < i → kOk ks j)) (fun v10 => n - (intOf v10).toNat)
  case atStart => exact ⟨0, rfl, by omega, hid fun j hj => absurd hj (by omega)⟩
  case round =>
    obtain ⟨i, rfl, hi, hok⟩ := hrel
    by_cases hlt : i < n
    · obtain ⟨b, o, rfl, -, -, hc⟩ := ints_cells hv (by omega)
      have c0 := hc i hlt
      by_cases hw : 0 ≤ kz ks i ∧ kz ks i ≤ 511
      · cases i with
        | zero =>
          rw [Nat.add_zero] at c0
          clear hc
          go_wp2_with (go_at_call 92; first | (refine (within_ok _ _ _ true (decide_eq_true (by omega)) _).mono ?_; rintro e w9 ⟨rfl, rfl⟩) | (refine (within_ok _ _ _ false (decide_eq_false (by omega)) _).mono ?_; rintro e w9 ⟨rfl, rfl⟩))
          go_round
          case rel => exact ⟨1, by go_num, by omega, hid fun j hj => by obtain rfl : j = 0 := by omega
                                                                        exact ⟨hw, fun h => absurd h (by omega)⟩⟩
          case measure => simp [intOf]; omega
        | succ m =>
          have c1 := hc m (by omega)
          clear hc
          by_cases hlt2 : kz ks m < kz ks (m + 1)
          · go_wp2_with (go_at_call 92; first | (refine (within_ok _ _ _ true (decide_eq_true (by omega)) _).mono ?_; rintro e w9 ⟨rfl, rfl⟩) | (refine (within_ok _ _ _ false (decide_eq_false (by omega)) _).mono ?_; rintro e w9 ⟨rfl, rfl⟩))
            go_round
            case rel => exact ⟨m + 2, by go_num, by omega, hid fun j hj => by
                                rcases Nat.lt_or_ge j (m + 1) with h | h
                                · exact hok.out j h
                                · obtain rfl : j = m + 1 := by omega
                                  exact ⟨hw, fun _ => hlt2⟩⟩
            case measure => simp [intOf]; omega
          · have hF := hid (hfalse (m + 1) (by rw [← Hn.out]; exact hlt) (fun h => hlt2 (h.2 (by omega))))
            clear hfalse
            go_wp2_with (go_at_call 92; first | (refine (within_ok _ _ _ true (decide_eq_true (by omega)) _).mono ?_; rintro e w9 ⟨rfl, rfl⟩) | (refine (within_ok _ _ _ false (decide_eq_false (by omega)) _).mono ?_; rintro e w9 ⟨rfl, rfl⟩))
            go_ret
            rw [hF.out]
            exact ⟨rfl, rfl⟩
      · have hF := hid (hfalse i (by rw [← Hn.out]; exact hlt) (fun h => hw h.1))
        clear hfalse hc
        go_wp2_with (go_at_call 92; first | (refine (within_ok _ _ _ true (decide_eq_true (by omega)) _).mono ?_; rintro e w9 ⟨rfl, rfl⟩) | (refine (within_ok _ _ _ false (decide_eq_false (by omega)) _).mono ?_; rintro e w9 ⟨rfl, rfl⟩))
        go_ret
        rw [hF.out]
        exact ⟨rfl, rfl⟩
    · have hT := hid (show decide (keysOk ks) = true from decide_eq_true ⟨by have := Hn.out; omega, fun j hj => hok.out j (by have := Hn.out; omega)⟩)
      clear hfalse
      go_wp2
      go_ret
      rw [hT.out]
      exact ⟨rfl, rfl⟩

end Go.Proofs.YtgoghmblfdlnbaaGreat.nd
end

section
/- node.leaf -/
set_option linter.unusedSimpArgs false
set_option linter.unusedVariables false
namespace Go.Proofs.YtgoghmblfdlnbaaGreat.nd
open Go.RowKit


set_option maxRecDepth 100000 in
theorem leaf_ok (S : Nat → Prop) (q : Ptr) (x : Nd) (r : Bool) (hr : decide (leafOk x) = r) (w : World) (hV : Vs w S q x) :
    Calls Tryz.prog 94 #[.agg #[.int .i64 x.h, .slice q.A1 x.ks.length q.c1, .slice q.A2 x.ps.length q.c2, .slice q.A3 x.gs.length q.c3, .slice q.A4 x.ds.length q.c4]] w fun e w' => e = .returned (.bool r) ∧ Fr Nil w w' := by
  subst hr
  obtain ⟨h, ks, ps, gs, ds⟩ := x
  obtain ⟨A1, c1, A2, c2, A3, c3, A4, c4⟩ := q
  obtain ⟨hk, hp, hg, hd⟩ := hV
  have hfalse : ∀ i, i < ks.length → ¬ eOk (kd ps i) (kz gs i) → decide (leafOk ⟨h, ks, ps, gs, ds⟩) = false := fun i hi h => decide_eq_false fun h9 => h (h9.2.2.2 i hi)
  have hf1 : ps.length ≠ ks.length → decide (leafOk ⟨h, ks, ps, gs, ds⟩) = false := fun h => decide_eq_false fun h9 => h h9.1
  have hf2 : gs.length ≠ ks.length → decide (leafOk ⟨h, ks, ps, gs, ds⟩) = false := fun h => decide_eq_false fun h9 => h h9.2.1
  have hf3 : ds.length ≠ 0 → decide (leafOk ⟨h, ks, ps, gs, ds⟩) = false := fun h => decide_eq_false fun h9 => h h9.2.2.1
  have htrue : ps.length = ks.length → gs.length = ks.length → ds.length = 0 → (∀ i, i < ks.length → eOk (kd ps i) (kz gs i)) → decide (leafOk ⟨h, ks, ps, gs, ds⟩) = true := fun a b c d => decide_eq_true ⟨a, b, c, d⟩
  generalize decide (leafOk ⟨h, ks, ps, gs, ds⟩) = r at *
  dsimp only at hk hp hg hd ⊢
  generalize ks.length = n at *
  generalize ps.length = n2 at *
  generalize gs.length = n3 at *
  generalize ds.length = n4 at *
  have hfr : Fr Nil w (w.alloc (.cells #[.int .i64 h, .slice A1 n c1, .slice A2 n2 c2, .slice A3 n3 c3, .slice A4 n4 c4] 62)) := (Fr.refl Nil w).alloc _
  by_cases e1 : n2 = n
  · by_cases e2 : n3 = n
    · by_cases e3 : n4 = 0
      · subst e1; subst e2; subst e3
        go_enter Tryz.func94, Tryz.ntmps94
        go_wp2_with fail
        obtain ⟨W1, hW1⟩ : ∃ W1, W1 = w.alloc (.cells #[.int .i64 h, .slice A1 n3 c1, .slice A2 n3 c2, .slice A3 n3 c3, .slice A4 0 c4] 62) := ⟨_, rfl⟩
        have hb : Blk W1 w.heap.size #[.int .i64 h, .slice A1 n3 c1, .slice A2 n3 c2, .slice A3 n3 c3, .slice A4 0 c4] 62 := by rw [hW1]; exact Blk.new _ _ _
        rw [← hW1] at hfr ⊢
        clear hW1
        have hle : n3 ≤ 9223372036854775807 := hg.le
        replace hp := hp.fr hfr fun _ _ _ h => h
        replace hg := hg.fr hfr fun _ _ _ h => h
        generalize w.heap.size = nb at *
        go_loopw [30] (fun v30 wr => ∃ i : Nat, v30 = .int .i64 i ∧ i ≤ n3 ∧ Fr Nil W1 wr ∧ Hid (∀ j, j < i → eOk (kd ps j) (kz gs j))) (fun v30 _ => n3 - (intOf v30).toNat)
        case atStart => exact ⟨0, rfl, by omega, Fr.refl _ _, hid fun j hj => absurd hj (by omega)⟩
        case round =>
          obtain ⟨i, rfl, hi, hfw, hok⟩ := hrel
          have hpw := hp.fr hfw fun _ _ _ h => h
          have hgw := hg.fr hfw fun _ _ _ h => h
          have hbw := hb.fr hfw fun h => h
          by_cases hlt : i < n3
          · obtain ⟨b, o, rfl, -, hbl, k0, k1, k2⟩ := kd_at hpw hlt
            obtain ⟨b2, o2, rfl, -, hbl2, k3⟩ := int_at hgw hlt
            have hz0 : (0 : Int) ≤ (i : Int) := by omega
            have hz1 : (i : Int) < (n3 : Int) := by omega
            have b3 : wr.cell? ⟨nb, 3, none⟩ = some (.slice (some ⟨b2, o2, none⟩) n3 c3) := hbw.cell 3
            go_wp2_with fail
            obtain ⟨W2, hW2⟩ : ∃ W2, W2 = wr.alloc (.cells #[.int .i64 (kd ps i).a, .int .i64 (kd ps i).n, .int .i64 (kd ps i).g] 51) := ⟨_, rfl⟩
            have hp2 : Blk W2 wr.heap.size #[.int .i64 (kd ps i).a, .int .i64 (kd ps i).n, .int .i64 (kd ps i).g] 51 := by rw [hW2]; exact Blk.new _ _ _
            have hf2w : Fr Nil wr W2 := by rw [hW2]; exact (Fr.refl _ _).alloc _
            rw [← hW2]
            clear hW2
            generalize wr.heap.size = pb at *
            have hS : (fun w' : World => w'.cell? ⟨pb, 0, none⟩ = some (.int .i64 (kd ps i).a) ∧ w'.cell? ⟨pb, 1, none⟩ = some (.int .i64 (kd ps i).n) ∧ w'.cell? ⟨pb, 2, none⟩ = some (.int .i64 (kd ps i).g) ∧ w'.cell? ⟨nb, 3, none⟩ = some (.slice (some ⟨b2, o2, none⟩) n3 c3) ∧ w'.cell? ⟨b2, o2 + i, none⟩ = some (.int .i64 (kz gs i))) W2.drew := ⟨hp2.drew.cell 0, hp2.drew.cell 1, hp2.drew.cell 2, (hbw.fr hf2w fun h => h).drew.cell 3, hf2w.drew.cell k3 fun h => h⟩
            by_cases hent : eOk (kd ps i) (kz gs i)
            · have hdec := decide_eq_true hent
              have Hent := hid hent
              clear hent hpw hgw hb hbw hp hg k0 k1 k2 k3 b3 hp2
              refine wpU_region (k := 7) (S := (fun w' : World => w'.cell? ⟨pb, 0, none⟩ = some (.int .i64 (kd ps i).a) ∧ w'.cell? ⟨pb, 1, none⟩ = some (.int .i64 (kd ps i).n) ∧ w'.cell? ⟨pb, 2, none⟩ = some (.int .i64 (kd ps i).g) ∧ w'.cell? ⟨nb, 3, none⟩ = some (.slice (some ⟨b2, o2, none⟩) n3 c3) ∧ w'.cell? ⟨b2, o2 + i, none⟩ = some (.int .i64 (kz gs i)))) (by kernel_rfl) ?_
              refine wpU_take (i := 0) (v := ?_) rfl (by kernel_rfl) (by kernel_rfl) (fun _ _ _ h => h) _ _ _ _ (by kernel_rfl) (by kernel_rfl) (by kernel_rfl) (Or.inl ⟨by kernel_rfl, ?_⟩) hS ?_
              rotate_left
              · (intro w9 hS9; obtain ⟨s0, s1, s2, s3, s4⟩ := hS9; go_simp); (try with_reducible rfl)
              try simp only [Act.put, List.setIfInBounds_toArray, List.set_cons_zero, List.set_cons_succ]
              refine wpU_take (i := 1) (v := ?_) rfl (by kernel_rfl) (by kernel_rfl) (fun _ _ _ h => h) _ _ _ _ (by kernel_rfl) (by kernel_rfl) (by kernel_rfl) (Or.inl ⟨by kernel_rfl, ?_⟩) hS ?_
              rotate_left
              · (intro w9 hS9; obtain ⟨s0, s1, s2, s3, s4⟩ := hS9; go_simp); (try with_reducible rfl)
              try simp only [Act.put, List.setIfInBounds_toArray, List.set_cons_zero, List.set_cons_succ]
              refine wpU_take (i := 2) (v := ?_) rfl (by kernel_rfl) (by kernel_rfl) (fun _ _ _ h => h) _ _ _ _ (by kernel_rfl) (by kernel_rfl) (by kernel_rfl) (Or.inl ⟨by kernel_rfl, ?_⟩) hS ?_
              rotate_left
              · (intro w9 hS9; obtain ⟨s0, s1, s2, s3, s4⟩ := hS9; go_simp); (try with_reducible rfl)
              try simp only [Act.put, List.setIfInBounds_toArray, List.set_cons_zero, List.set_cons_succ]
              refine wpU_take (i := 3) (v := ?_) rfl (by kernel_rfl) (by kernel_rfl) (fun _ _ _ h => h) _ _ _ _ (by kernel_rfl) (by kernel_rfl) (by kernel_rfl) (Or.inl ⟨by kernel_rfl, ?_⟩) hS ?_
              rotate_left
              · (intro w9 hS9; obtain ⟨s0, s1, s2, s3, s4⟩ := hS9; go_simp); (try with_reducible rfl)
              try simp only [Act.put, List.setIfInBounds_toArray, List.set_cons_zero, List.set_cons_succ]
              refine wpU_take (i := 4) (v := ?_) rfl (by kernel_rfl) (by kernel_rfl) (fun _ _ _ h => h) _ _ _ _ (by kernel_rfl) (by kernel_rfl) (by kernel_rfl) (Or.inl ⟨by kernel_rfl, ?_⟩) hS ?_
              rotate_left
              · (intro w9 hS9; obtain ⟨s0, s1, s2, s3, s4⟩ := hS9; go_simp); (try with_reducible rfl)
              try simp only [Act.put, List.setIfInBounds_toArray, List.set_cons_zero, List.set_cons_succ]
              refine wpU_take (i := 5) (v := ?_) rfl (by kernel_rfl) (by kernel_rfl) (fun _ _ _ h => h) _ _ _ _ (by kernel_rfl) (by kernel_rfl) (by kernel_rfl) (Or.inl ⟨by kernel_rfl, ?_⟩) hS ?_
              rotate_left
              · (intro w9 hS9; obtain ⟨s0, s1, s2, s3, s4⟩ := hS9; go_simp); (try with_reducible rfl)
              try simp only [Act.put, List.setIfInBounds_toArray, List.set_cons_zero, List.set_cons_succ]
              refine wpU_next (i := 6) rfl (by kernel_rfl) (fun K hK => ?_)
              go_simp
              refine (entry_ok (kd ps i) (kz gs i) _ hdec _).mono ?_
              rintro e w3 ⟨rfl, hf3⟩
              have hS3 : (fun w' : World => w'.cell? ⟨pb, 0, none⟩ = some (.int .i64 (kd ps i).a) ∧ w'.cell? ⟨pb, 1, none⟩ = some (.int .i64 (kd ps i).n) ∧ w'.cell? ⟨pb, 2, none⟩ = some (.int .i64 (kd ps i).g) ∧ w'.cell? ⟨nb, 3, none⟩ = some (.slice (some ⟨b2, o2, none⟩) n3 c3) ∧ w'.cell? ⟨b2, o2 + i, none⟩ = some (.int .i64 (kz gs i))) w3 := ⟨hf3.cell hS.1 fun h => h, hf3.cell hS.2.1 fun h => h, hf3.cell hS.2.2.1 fun h => h, hf3.cell hS.2.2.2.1 fun h => h, hf3.cell hS.2.2.2.2 fun h => h⟩
              refine hK.out _ _ (fun _ => hS3) ?_
              clear hK K
              try simp only [Act.put, List.setIfInBounds_toArray, List.set_cons_zero, List.set_cons_succ]
              refine wpU_next (i := 7) rfl (by kernel_rfl) (fun K hK => ?_)
              go_simp
              refine hK.out _ _ (fun h => absurd rfl h.1) ?_
              refine wpU_done (by kernel_rfl) ?_ _
              clear hK K
              go_wp2
              go_roundw
              case rel =>
                refine ⟨i + 1, by go_num, by omega, (hfw.then hf2w).drew.then hf3, hid fun j hj => ?_⟩
                rcases Nat.lt_or_ge j i with h | h
                · exact hok.out j h
                · obtain rfl : j = i := by omega
                  exact Hent.out
              case measure => simp [intOf]; omega
            · have hdec := decide_eq_false hent
              have hF := hid (hfalse i hlt hent)
              clear hent hpw hgw hb hbw hp hg k0 k1 k2 k3 b3 hp2 hfalse htrue hf1 hf2 hf3
              refine wpU_region (k := 7) (S := (fun w' : World => w'.cell? ⟨pb, 0, none⟩ = some (.int .i64 (kd ps i).a) ∧ w'.cell? ⟨pb, 1, none⟩ = some (.int .i64 (kd ps i).n) ∧ w'.cell? ⟨pb, 2, none⟩ = some (.int .i64 (kd ps i).g) ∧ w'.cell? ⟨nb, 3, none⟩ = some (.slice (some ⟨b2, o2, none⟩) n3 c3) ∧ w'.cell? ⟨b2, o2 + i, none⟩ = some (.int .i64 (kz gs i)))) (by kernel_rfl) ?_
              refine wpU_take (i := 0) (v := ?_) rfl (by kernel_rfl) (by kernel_rfl) (fun _ _ _ h => h) _ _ _ _ (by kernel_rfl) (by kernel_rfl) (by kernel_rfl) (Or.inl ⟨by kernel_rfl, ?_⟩) hS ?_
              rotate_left
              · (intro w9 hS9; obtain ⟨s0, s1, s2, s3, s4⟩ := hS9; go_simp); (try with_reducible rfl)
              try simp only [Act.put, List.setIfInBounds_toArray, List.set_cons_zero, List.set_cons_succ]
              refine wpU_take (i := 1) (v := ?_) rfl (by kernel_rfl) (by kernel_rfl) (fun _ _ _ h => h) _ _ _ _ (by kernel_rfl) (by kernel_rfl) (by kernel_rfl) (Or.inl ⟨by kernel_rfl, ?_⟩) hS ?_
              rotate_left
              · (intro w9 hS9; obtain ⟨s0, s1, s2, s3, s4⟩ := hS9; go_simp); (try with_reducible rfl)
              try simp only [Act.put, List.setIfInBounds_toArray, List.set_cons_zero, List.set_cons_succ]
              refine wpU_take (i := 2) (v := ?_) rfl (by kernel_rfl) (by kernel_rfl) (fun _ _ _ h => h) _ _ _ _ (by kernel_rfl) (by kernel_rfl) (by kernel_rfl) (Or.inl ⟨by kernel_rfl, ?_⟩) hS ?_
              rotate_left
              · (intro w9 hS9; obtain ⟨s0, s1, s2, s3, s4⟩ := hS9; go_simp); (try with_reducible rfl)
              try simp only [Act.put, List.setIfInBounds_toArray, List.set_cons_zero, List.set_cons_succ]
              refine wpU_take (i := 3) (v := ?_) rfl (by kernel_rfl) (by kernel_rfl) (fun _ _ _ h => h) _ _ _ _ (by kernel_rfl) (by kernel_rfl) (by kernel_rfl) (Or.inl ⟨by kernel_rfl, ?_⟩) hS ?_
              rotate_left
              · (intro w9 hS9; obtain ⟨s0, s1, s2, s3, s4⟩ := hS9; go_simp); (try with_reducible rfl)
              try simp only [Act.put, List.setIfInBounds_toArray, List.set_cons_zero, List.set_cons_succ]
              refine wpU_take (i := 4) (v := ?_) rfl (by kernel_rfl) (by kernel_rfl) (fun _ _ _ h => h) _ _ _ _ (by kernel_rfl) (by kernel_rfl) (by kernel_rfl) (Or.inl ⟨by kernel_rfl, ?_⟩) hS ?_
              rotate_left
              · (intro w9 hS9; obtain ⟨s0, s1, s2, s3, s4⟩ := hS9; go_simp); (try with_reducible rfl)
              try simp only [Act.put, List.setIfInBounds_toArray, List.set_cons_zero, List.set_cons_succ]
              refine wpU_take (i := 5) (v := ?_) rfl (by kernel_rfl) (by kernel_rfl) (fun _ _ _ h => h) _ _ _ _ (by kernel_rfl) (by kernel_rfl) (by kernel_rfl) (Or.inl ⟨by kernel_rfl, ?_⟩) hS ?_
              rotate_left
              · (intro w9 hS9; obtain ⟨s0, s1, s2, s3, s4⟩ := hS9; go_simp); (try with_reducible rfl)
              try simp only [Act.put, List.setIfInBounds_toArray, List.set_cons_zero, List.set_cons_succ]
              refine wpU_next (i := 6) rfl (by kernel_rfl) (fun K hK => ?_)
              go_simp
              refine (entry_ok (kd ps i) (kz gs i) _ hdec _).mono ?_
              rintro e w3 ⟨rfl, hf3⟩
              have hS3 : (fun w' : World => w'.cell? ⟨pb, 0, none⟩ = some (.int .i64 (kd ps i).a) ∧ w'.cell? ⟨pb, 1, none⟩ = some (.int .i64 (kd ps i).n) ∧ w'.cell? ⟨pb, 2, none⟩ = some (.int .i64 (kd ps i).g) ∧ w'.cell? ⟨nb, 3, none⟩ = some (.slice (some ⟨b2, o2, none⟩) n3 c3) ∧ w'.cell? ⟨b2, o2 + i, none⟩ = some (.int .i64 (kz gs i))) w3 := ⟨hf3.cell hS.1 fun h => h, hf3.cell hS.2.1 fun h => h, hf3.cell hS.2.2.1 fun h => h, hf3.cell hS.2.2.2.1 fun h => h, hf3.cell hS.2.2.2.2 fun h => h⟩
              refine hK.out _ _ (fun _ => hS3) ?_
              clear hK K
              try simp only [Act.put, List.setIfInBounds_toArray, List.set_cons_zero, List.set_cons_succ]
              refine wpU_next (i := 7) rfl (by kernel_rfl) (fun K hK => ?_)
              go_simp
              refine hK.out _ _ (fun h => absurd rfl h.1) ?_
              refine wpU_done (by kernel_rfl) ?_ _
              clear hK K
              go_wp2
              go_ret
              rw [hF.out]
              exact ⟨rfl, hfr.then ((hfw.then hf2w).drew.then hf3)⟩
          · have hT := htrue trivial trivial trivial (fun j hj => hok.out j (by omega))
            clear htrue hfalse hf1 hf2 hf3
            have HT := hid hT; clear hT
            go_wp2
            go_ret
            rw [HT.out]
            exact ⟨rfl, hfr.then hfw⟩
      · obtain rfl := hf3 e3
        subst e1; subst e2
        go_enter Tryz.func94, Tryz.ntmps94
        go_wp2
        go_ret
        exact ⟨rfl, hfr⟩
    · obtain rfl := hf2 e2
      subst e1
      go_enter Tryz.func94, Tryz.ntmps94
      go_wp2
      go_ret
      exact ⟨rfl, hfr⟩
  · obtain rfl := hf1 e1
    go_enter Tryz.func94, Tryz.ntmps94
    go_wp2
    go_ret
    exact ⟨rfl, hfr⟩
end Go.Proofs.YtgoghmblfdlnbaaGreat.nd
end

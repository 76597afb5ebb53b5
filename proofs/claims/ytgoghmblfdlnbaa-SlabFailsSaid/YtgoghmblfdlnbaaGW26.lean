/- The texts VNdL, VNdI of this proof, one behind the other. Conditions: those of each. -/
import Derived.BigQuiet
import Derived.Test.YtgoghmblfdlnbaaGW25
section
/- node.leaf -/
set_option linter.unusedSimpArgs false
set_option linter.unusedVariables false
namespace Go.Proofs.Ytgoghmblfdlnbaa.nd
open Go.RowKit


set_option maxRecDepth 100000 in
theorem leaf_ok (S : Nat → Prop) (q : Ptr) (x : Nd) (r : Bool) (hr : decide (leafOk x) = r) (w : World) (hV : Vs w S q x) :
    Calls Try.prog 71 #[.agg #[.int .i64 x.h, .slice q.A1 x.ks.length q.c1, .slice q.A2 x.ps.length q.c2, .slice q.A3 x.gs.length q.c3, .slice q.A4 x.ds.length q.c4]] w fun e w' => e = .returned (.bool r) ∧ Fr Nil w w' := by
  subst hr
  obtain ⟨h, ks, ps, gs, ds⟩ := x
  obtain ⟨A1, c1, A2, c2, A3, c3, A4, c4⟩ := q
  obtain ⟨hk, hp, hg, hd⟩ := hV
  have hfalse : ∀ i, i < ks.length → ¬ eOk (kd ps i) (kz gs i) → decide (leafOk ⟨h, ks, ps, gs, ds⟩) = false := fun i hi h => decide_eq_false fun h9 => h (h9.2.2.2 i hi)
  have hf1 : ps.length ≠ ks.length → decide (leafOk ⟨h, ks, ps, gs, ds⟩) = false := fun h => decide_eq_false fun h9 => h h9.1
  have hf2 : gs.length ≠ ks.length → decide (leafOk ⟨h, ks, ps, gs, ds⟩) = false := fun h => decide_eq_false fun h9 => h h9.2.1
  have hf3 : ds.length ≠ 0 → decide (leafOk ⟨h, ks, ps, gs, ds⟩) = false := fun h => decide_eq_false fun h9 => h h9.2.2.1
  have htrue : ps.length = ks.length → gs.length = ks.length → ds.length = 0 → (∀ i, i < ks.length → eOk (kd ps i) (kz gs i)) → decide (leafOk ⟨h, ks, ps, gs, ds⟩) = true := fun a b c d => decide_eq_true ⟨a, b, c, d⟩
  generalize decide (leafOk ⟨h, ks, ps, gs, ds⟩) = r at *
  dsimp only at hk hp hg hd ⊢
  generalize ks.length = n at *
  generalize ps.length = n2 at *
  generalize gs.length = n3 at *
  generalize ds.length = n4 at *
  have hfr : Fr Nil w (w.alloc (.cells #[.int .i64 h, .slice A1 n c1, .slice A2 n2 c2, .slice A3 n3 c3, .slice A4 n4 c4] 60)) := (Fr.refl Nil w).alloc _
  by_cases e1 : n2 = n
  · by_cases e2 : n3 = n
    · by_cases e3 : n4 = 0
      · subst e1; subst e2; subst e3
        go_enter Try.func71, Try.ntmps71
        go_wp2_with fail
        obtain ⟨W1, hW1⟩ : ∃ W1, W1 = w.alloc (.cells #[.int .i64 h, .slice A1 n3 c1, .slice A2 n3 c2, .slice A3 n3 c3, .slice A4 0 c4] 60) := ⟨_, rfl⟩
        have hb : Blk W1 w.heap.size #[.int .i64 h, .slice A1 n3 c1, .slice A2 n3 c2, .slice A3 n3 c3, .slice A4 0 c4] 60 := by rw [hW1]; exact Blk.new _ _ _
        rw [← hW1] at hfr ⊢
        clear hW1
        have hle : n3 ≤ 9223372036854775807 := hg.le
        replace hp := hp.fr hfr fun _ _ _ h => h
        replace hg := hg.fr hfr fun _ _ _ h => h
        generalize w.heap.size = nb at *
        go_loopw [30] (fun v30 wr => ∃ i : Nat, v30 = .int .i64 i ∧ i ≤ n3 ∧ Fr Nil W1 wr ∧ Hid (∀ j, j < i → eOk (kd ps j) (kz gs j))) (fun v30 _ => n3 - (intOf v30).toNat)
        case atStart => exact ⟨0, rfl, by omega, Fr.refl _ _, hid fun j hj => absurd hj (by omega)⟩
        case round =>
          obtain ⟨i, rfl, hi, hfw, hok⟩ := hrel
          have hpw := hp.fr hfw fun _ _ _ h => h
          have hgw := hg.fr hfw fun _ _ _ h => h
          have hbw := hb.fr hfw fun h => h
          by_cases hlt : i < n3
          · obtain ⟨b, o, rfl, -, hbl, k0, k1, k2⟩ := kd_at hpw hlt
            obtain ⟨b2, o2, rfl, -, hbl2, k3⟩ := int_at hgw hlt
            have hz0 : (0 : Int) ≤ (i : Int) := by omega
            have hz1 : (i : Int) < (n3 : Int) := by omega
            have b3 : wr.cell? ⟨nb, 3, none⟩ = some (.slice (some ⟨b2, o2, none⟩) n3 c3) := hbw.cell 3
            go_wp2_with fail
            obtain ⟨W2, hW2⟩ : ∃ W2, W2 = wr.alloc (.cells #[.int .i64 (kd ps i).a, .int .i64 (kd ps i).n, .int .i64 (kd ps i).g] 49) := ⟨_, rfl⟩
            have hp2 : Blk W2 wr.heap.size #[.int .i64 (kd ps i).a, .int .i64 (kd ps i).n, .int .i64 (kd ps i).g] 49 := by rw [hW2]; exact Blk.new _ _ _
            have hf2w : Fr Nil wr W2 := by rw [hW2]; exact (Fr.refl _ _).alloc _
            rw [← hW2]
            clear hW2
            generalize wr.heap.size = pb at *
            have hS : (fun w' : World => w'.cell? ⟨pb, 0, none⟩ = some (.int .i64 (kd ps i).a) ∧ w'.cell? ⟨pb, 1, none⟩ = some (.int .i64 (kd ps i).n) ∧ w'.cell? ⟨pb, 2, none⟩ = some (.int .i64 (kd ps i).g) ∧ w'.cell? ⟨nb, 3, none⟩ = some (.slice (some ⟨b2, o2, none⟩) n3 c3) ∧ w'.cell? ⟨b2, o2 + i, none⟩ = some (.int .i64 (kz gs i))) W2.drew := ⟨hp2.drew.cell 0, hp2.drew.cell 1, hp2.drew.cell 2, (hbw.fr hf2w fun h => h).drew.cell 3, hf2w.drew.cell k3 fun h => h⟩
            by_cases hent : eOk (kd ps i) (kz gs i)
            · have hdec := decide_eq_true hent
              have Hent := hid hent
              clear hent hpw hgw hb hbw hp hg k0 k1 k2 k3 b3 hp2
              refine wpU_region (k := 7) (S := (fun w' : World => w'.cell? ⟨pb, 0, none⟩ = some (.int .i64 (kd ps i).a) ∧ w'.cell? ⟨pb, 1, none⟩ = some (.int .i64 (kd ps i).n) ∧ w'.cell? ⟨pb, 2, none⟩ = some (.int .i64 (kd ps i).g) ∧ w'.cell? ⟨nb, 3, none⟩ = some (.slice (some ⟨b2, o2, none⟩) n3 c3) ∧ w'.cell? ⟨b2, o2 + i, none⟩ = some (.int .i64 (kz gs i)))) (by kernel_rfl) ?_
              refine wpU_take (i := 0) (v := ?_) rfl (by kernel_rfl) (by kernel_rfl) (fun _ _ _ h => h) _ _ _ _ (by kernel_rfl) (by kernel_rfl) (by kernel_rfl) (Or.inl ⟨by kernel_rfl, ?_⟩) hS ?_
              rotate_left
              · (intro w9 hS9; obtain ⟨s0, s1, s2, s3, s4⟩ := hS9; go_simp); (try with_reducible rfl)
              try simp only [Act.put, List.setIfInBounds_toArray, List.set_cons_zero, List.set_cons_succ]
              refine wpU_take (i := 1) (v := ?_) rfl (by kernel_rfl) (by kernel_rfl) (fun _ _ _ h => h) _ _ _ _ (by kernel_rfl) (by kernel_rfl) (by kernel_rfl) (Or.inl ⟨by kernel_rfl, ?_⟩) hS ?_
              rotate_left
              · (intro w9 hS9; obtain ⟨s0, s1, s2, s3, s4⟩ := hS9; go_simp); (try with_reducible rfl)
              try simp only [Act.put, List.setIfInBounds_toArray, List.set_cons_zero, List.set_cons_succ]
              refine wpU_take (i := 2) (v := ?_) rfl (by kernel_rfl) (by kernel_rfl) (fun _ _ _ h => h) _ _ _ _ (by kernel_rfl) (by kernel_rfl) (by kernel_rfl) (Or.inl ⟨by kernel_rfl, ?_⟩) hS ?_
              rotate_left
              · (intro w9 hS9; obtain ⟨s0, s1, s2, s3, s4⟩ := hS9; go_simp); (try with_reducible rfl)
              try simp only [Act.put, List.setIfInBounds_toArray, List.set_cons_zero, List.set_cons_succ]
              refine wpU_take (i := 3) (v := ?_) rfl (by kernel_rfl) (by kernel_rfl) (fun _ _ _ h => h) _ _ _ _ (by kernel_rfl) (by kernel_rfl) (by kernel_rfl) (Or.inl ⟨by kernel_rfl, ?_⟩) hS ?_
              rotate_left
              · (intro w9 hS9; obtain ⟨s0, s1, s2, s3, s4⟩ := hS9; go_simp); (try with_reducible rfl)
              try simp only [Act.put, List.setIfInBounds_toArray, List.set_cons_zero, List.set_cons_succ]
              refine wpU_take (i := 4) (v := ?_) rfl (by kernel_rfl) (by kernel_rfl) (fun _ _ _ h => h) _ _ _ _ (by kernel_rfl) (by kernel_rfl) (by kernel_rfl) (Or.inl ⟨by kernel_rfl, ?_⟩) hS ?_
              rotate_left
              · (intro w9 hS9; obtain ⟨s0, s1, s2, s3, s4⟩ := hS9; go_simp); (try with_reducible rfl)
              try simp only [Act.put, List.setIfInBounds_toArray, List.set_cons_zero, List.set_cons_succ]
              refine wpU_take (i := 5) (v := ?_) rfl (by kernel_rfl) (by kernel_rfl) (fun _ _ _ h => h) _ _ _ _ (by kernel_rfl) (by kernel_rfl) (by kernel_rfl) (Or.inl ⟨by kernel_rfl, ?_⟩) hS ?_
              rotate_left
              · (intro w9 hS9; obtain ⟨s0, s1, s2, s3, s4⟩ := hS9; go_simp); (try with_reducible rfl)
              try simp only [Act.put, List.setIfInBounds_toArray, List.set_cons_zero, List.set_cons_succ]
              refine wpU_next (i := 6) rfl (by kernel_rfl) (fun K hK => ?_)
              go_simp
              refine (entry_ok (kd ps i) (kz gs i) _ hdec _).mono ?_
              rintro e w3 ⟨rfl, hf3⟩
              have hS3 : (fun w' : World => w'.cell? ⟨pb, 0, none⟩ = some (.int .i64 (kd ps i).a) ∧ w'.cell? ⟨pb, 1, none⟩ = some (.int .i64 (kd ps i).n) ∧ w'.cell? ⟨pb, 2, none⟩ = some (.int .i64 (kd ps i).g) ∧ w'.cell? ⟨nb, 3, none⟩ = some (.slice (some ⟨b2, o2, none⟩) n3 c3) ∧ w'.cell? ⟨b2, o2 + i, none⟩ = some (.int .i64 (kz gs i))) w3 := ⟨hf3.cell hS.1 fun h => h, hf3.cell hS.2.1 fun h => h, hf3.cell hS.2.2.1 fun h => h, hf3.cell hS.2.2.2.1 fun h => h, hf3.cell hS.2.2.2.2 fun h => h⟩
              refine hK.out _ _ (fun _ => hS3) ?_
              clear hK K
              try simp only [Act.put, List.setIfInBounds_toArray, List.set_cons_zero, List.set_cons_succ]
              refine wpU_next (i := 7) rfl (by kernel_rfl) (fun K hK => ?_)
              go_simp
              refine hK.out _ _ (fun h => absurd rfl h.1) ?_
              refine wpU_done (by kernel_rfl) ?_ _
              clear hK K
              go_wp2
              go_roundw
              case rel =>
                refine ⟨i + 1, by go_num, by omega, (hfw.then hf2w).drew.then hf3, hid fun j hj => ?_⟩
                rcases Nat.lt_or_ge j i with h | h
                · exact hok.out j h
                · obtain rfl : j = i := by omega
                  exact Hent.out
              case measure => simp [intOf]; omega
            · have hdec := decide_eq_false hent
              have hF := hid (hfalse i hlt hent)
              clear hent hpw hgw hb hbw hp hg k0 k1 k2 k3 b3 hp2 hfalse htrue hf1 hf2 hf3
              refine wpU_region (k := 7) (S := (fun w' : World => w'.cell? ⟨pb, 0, none⟩ = some (.int .i64 (kd ps i).a) ∧ w'.cell? ⟨pb, 1, none⟩ = some (.int .i64 (kd ps i).n) ∧ w'.cell? ⟨pb, 2, none⟩ = some (.int .i64 (kd ps i).g) ∧ w'.cell? ⟨nb, 3, none⟩ = some (.slice (some ⟨b2, o2, none⟩) n3 c3) ∧ w'.cell? ⟨b2, o2 + i, none⟩ = some (.int .i64 (kz gs i)))) (by kernel_rfl) ?_
              refine wpU_take (i := 0) (v := ?_) rfl (by kernel_rfl) (by kernel_rfl) (fun _ _ _ h => h) _ _ _ _ (by kernel_rfl) (by kernel_rfl) (by kernel_rfl) (Or.inl ⟨by kernel_rfl, ?_⟩) hS ?_
              rotate_left
              · (intro w9 hS9; obtain ⟨s0, s1, s2, s3, s4⟩ := hS9; go_simp); (try with_reducible rfl)
              try simp only [Act.put, List.setIfInBounds_toArray, List.set_cons_zero, List.set_cons_succ]
              refine wpU_take (i := 1) (v := ?_) rfl (by kernel_rfl) (by kernel_rfl) (fun _ _ _ h => h) _ _ _ _ (by kernel_rfl) (by kernel_rfl) (by kernel_rfl) (Or.inl ⟨by kernel_rfl, ?_⟩) hS ?_
              rotate_left
              · (intro w9 hS9; obtain ⟨s0, s1, s2, s3, s4⟩ := hS9; go_simp); (try with_reducible rfl)
              try simp only [Act.put, List.setIfInBounds_toArray, List.set_cons_zero, List.set_cons_succ]
              refine wpU_take (i := 2) (v := ?_) rfl (by kernel_rfl) (by kernel_rfl) (fun _ _ _ h => h) _ _ _ _ (by kernel_rfl) (by kernel_rfl) (by kernel_rfl) (Or.inl ⟨by kernel_rfl, ?_⟩) hS ?_
              rotate_left
              · (intro w9 hS9; obtain ⟨s0, s1, s2, s3, s4⟩ := hS9; go_simp); (try with_reducible rfl)
              try simp only [Act.put, List.setIfInBounds_toArray, List.set_cons_zero, List.set_cons_succ]
              refine wpU_take (i := 3) (v := ?_) rfl (by kernel_rfl) (by kernel_rfl) (fun _ _ _ h => h) _ _ _ _ (by kernel_rfl) (by kernel_rfl) (by kernel_rfl) (Or.inl ⟨by kernel_rfl, ?_⟩) hS ?_
              rotate_left
              · (intro w9 hS9; obtain ⟨s0, s1, s2, s3, s4⟩ := hS9; go_simp); (try with_reducible rfl)
              try simp only [Act.put, List.setIfInBounds_toArray, List.set_cons_zero, List.set_cons_succ]
              refine wpU_take (i := 4) (v := ?_) rfl (by kernel_rfl) (by kernel_rfl) (fun _ _ _ h => h) _ _ _ _ (by kernel_rfl) (by kernel_rfl) (by kernel_rfl) (Or.inl ⟨by kernel_rfl, ?_⟩) hS ?_
              rotate_left
              · (intro w9 hS9; obtain ⟨s0, s1, s2, s3, s4⟩ := hS9; go_simp); (try with_reducible rfl)
              try simp only [Act.put, List.setIfInBounds_toArray, List.set_cons_zero, List.set_cons_succ]
              refine wpU_take (i := 5) (v := ?_) rfl (by kernel_rfl) (by kernel_rfl) (fun _ _ _ h => h) _ _ _ _ (by kernel_rfl) (by kernel_rfl) (by kernel_rfl) (Or.inl ⟨by kernel_rfl, ?_⟩) hS ?_
              rotate_left
              · (intro w9 hS9; obtain ⟨s0, s1, s2, s3, s4⟩ := hS9; go_simp); (try with_reducible rfl)
              try simp only [Act.put, List.setIfInBounds_toArray, List.set_cons_zero, List.set_cons_succ]
              refine wpU_next (i := 6) rfl (by kernel_rfl) (fun K hK => ?_)
              go_simp
              refine (entry_ok (kd ps i) (kz gs i) _ hdec _).mono ?_
              rintro e w3 ⟨rfl, hf3⟩
              have hS3 : (fun w' : World => w'.cell? ⟨pb, 0, none⟩ = some (.int .i64 (kd ps i).a) ∧ w'.cell? ⟨pb, 1, none⟩ = some (.int .i64 (kd ps i).n) ∧ w'.cell? ⟨pb, 2, none⟩ = some (.int .i64 (kd ps i).g) ∧ w'.cell? ⟨nb, 3, none⟩ = some (.slice (some ⟨b2, o2, none⟩) n3 c3) ∧ w'.cell? ⟨b2, o2 + i, none⟩ = some (.int .i64 (kz gs i))) w3 := ⟨hf3.cell hS.1 fun h => h, hf3.cell hS.2.1 fun h => h, hf3.cell hS.2.2.1 fun h => h, hf3.cell hS.2.2.2.1 fun h => h, hf3.cell hS.2.2.2.2 fun h => h⟩
              refine hK.out _ _ (fun _ => hS3) ?_
              clear hK K
              try simp only [Act.put, List.setIfInBounds_toArray, List.set_cons_zero, List.set_cons_succ]
              refine wpU_next (i := 7) rfl (by kernel_rfl) (fun K hK => ?_)
              go_simp
              refine hK.out _ _ (fun h => absurd rfl h.1) ?_
              refine wpU_done (by kernel_rfl) ?_ _
              clear hK K
              go_wp2
              go_ret
              rw [hF.out]
              exact ⟨rfl, hfr.then ((hfw.then hf2w).drew.then hf3)⟩
          · have hT := htrue trivial trivial trivial (fun j hj => hok.out j (by omega))
            clear htrue hfalse hf1 hf2 hf3
            have HT := hid hT; clear hT
            go_wp2
            go_ret
            rw [HT.out]
            exact ⟨rfl, hfr.then hfw⟩
      · obtain rfl := hf3 e3
        subst e1; subst e2
        go_enter Try.func71, Try.ntmps71
        go_wp2
        go_ret
        exact ⟨rfl, hfr⟩
    · obtain rfl := hf2 e2
      subst e1
      go_enter Try.func71, Try.ntmps71
      go_wp2
      go_ret
      exact ⟨rfl, hfr⟩
  · obtain rfl := hf1 e1
    go_enter Try.func71, Try.ntmps71
    go_wp2
    go_ret
    exact ⟨rfl, hfr⟩
end Go.Proofs.Ytgoghmblfdlnbaa.nd
end

section
/- node.inner, node.May -/
set_option linter.unusedSimpArgs false
set_option linter.unusedVariables false
namespace Go.Proofs.Ytgoghmblfdlnbaa.nd
open Go.RowKit

/-- The function 'bad' of inner. -/
theorem bad_ok (k : Kd) (r : Bool) (hr : decide (lOk k.a k.n k.g) = r) (w : World) : Calls Try.prog 81 #[.agg #[.int .i64 k.a, .int .i64 k.n, .int .i64 k.g]] w fun e w' => e = .returned (.bool (!r)) ∧ Fr Nil w w' := by
  obtain ⟨a, n, s⟩ := k
  dsimp only at hr ⊢
  have hf : Fr Nil w (w.alloc (.cells #[.int .i64 a, .int .i64 n, .int .i64 s] 55)) := (Fr.refl Nil w).alloc _
  go_enter Try.func81, Try.ntmps81
  go_wp2_with (go_at_call 82; refine (lies_ok _ _ _ _ hr _).mono ?_; rintro e w9 ⟨rfl, rfl⟩)
  go_ret
  exact ⟨rfl, hf⟩

theorem call_bad (args : Array Value) (w : World) : (callFunc 81 args).run Try.prog w = .ok (.enter 81 args) w := by kernel_rfl

def kidsOk (ds : List Kd) (n : Nat) : Prop := ∀ i, i < n → lOk (kd ds i).a (kd ds i).n (kd ds i).g
instance (ds : List Kd) (n : Nat) : Decidable (kidsOk ds n) := by unfold kidsOk; infer_instance

set_option maxRecDepth 100000 in
theorem index_ok (S : Nat → Prop) (A : Option Addr) (n c : Nat) (ds : List Kd) (r : Bool) (hr : decide (kidsOk ds n) = r) (w : World) (hv : View w S 3 (.slice A n c) n (tri ds)) :
    Calls Try.prog 86 #[.slice A n c, .func (.func 81) #[] #[]] w fun e w' => ∃ v : Int, e = .returned (.int .i64 v) ∧ decide (0 ≤ v) = (!r) ∧ Fr Nil w w' := by
  subst hr
  have hfalse : ∀ i, i < n → ¬ lOk (kd ds i).a (kd ds i).n (kd ds i).g → decide (kidsOk ds n) = false := fun i hi h => decide_eq_false fun h9 => h (h9 i hi)
  have htrue : (∀ i, i < n → lOk (kd ds i).a (kd ds i).n (kd ds i).g) → decide (kidsOk ds n) = true := fun h => decide_eq_true h
  generalize decide (kidsOk ds n) = r at *
  have hle : n ≤ 9223372036854775807 := hv.le
  go_enter Try.func86, Try.ntmps86
  go_wp2_with fail
  go_loopw [8] (fun v8 wr => ∃ i : Nat, v8 = .int .i64 i ∧ i ≤ n ∧ Fr Nil w wr ∧ Hid (∀ j, j < i → lOk (kd ds j).a (kd ds j).n (kd ds j).g)) (fun v8 _ => n - (intOf v8).toNat)
  case atStart => exact ⟨0, rfl, by omega, Fr.refl _ _, hid fun j hj => absurd hj (by omega)⟩
  case round =>
    obtain ⟨i, rfl, hi, hfw, hok⟩ := hrel
    have hvw := hv.fr hfw fun _ _ _ h => h
    by_cases hlt : i < n
    · obtain ⟨b, o, rfl, -, hbl, k0, k1, k2⟩ := kd_at hvw hlt
      by_cases hl : lOk (kd ds i).a (kd ds i).n (kd ds i).g
      · have hr := decide_eq_true hl
        have Hl := hid hl
        clear hl
        have Hr := hid hr; clear hr
        go_wp2_with fail
        refine (bad_ok (kd ds i) _ Hr.out _).mono ?_
        rintro e w1 ⟨rfl, hf1⟩
        clear k0 k1 k2
        go_wp2
        go_roundw
        case rel =>
          refine ⟨i + 1, by go_num, by omega, hfw.then hf1, hid fun j hj => ?_⟩
          rcases Nat.lt_or_ge j i with h | h
          · exact hok.out j h
          · obtain rfl : j = i := by omega
            exact Hl.out
        case measure => simp [intOf]; omega
      · have hr := decide_eq_false hl
        have hF := hid (hfalse i hlt hl)
        clear hl hfalse htrue
        have Hr := hid hr; clear hr
        go_wp2_with fail
        refine (bad_ok (kd ds i) _ Hr.out _).mono ?_
        rintro e w1 ⟨rfl, hf1⟩
        clear k0 k1 k2
        go_wp2
        go_ret
        rw [hF.out]
        exact ⟨_, rfl, by simp, hfw.then hf1⟩
    · have hT := hid (htrue fun j hj => hok.out j (by omega))
      clear hfalse htrue
      go_wp2
      go_ret
      rw [hT.out]
      exact ⟨_, rfl, by decide, hfw⟩

theorem contains_ok (S : Nat → Prop) (A : Option Addr) (n c : Nat) (ds : List Kd) (r : Bool) (hr : decide (kidsOk ds n) = r) (w : World) (hv : View w S 3 (.slice A n c) n (tri ds)) :
    Calls Try.prog 83 #[.slice A n c, .func (.func 81) #[] #[]] w fun e w' => e = .returned (.bool (!r)) ∧ Fr Nil w w' := by
  go_enter Try.func83, Try.ntmps83
  go_wp2_with fail
  refine (index_ok S A n c ds r hr w hv).mono ?_
  rintro e w1 ⟨v, rfl, hd, hf⟩
  go_wp2
  go_ret
  exact ⟨rfl, hf⟩

set_option maxRecDepth 100000 in
theorem inner_ok (S : Nat → Prop) (q : Ptr) (x : Nd) (r : Bool) (hr : decide (innerOk x) = r) (w : World) (hV : Vs w S q x) :
    Calls Try.prog 72 #[.agg #[.int .i64 x.h, .slice q.A1 x.ks.length q.c1, .slice q.A2 x.ps.length q.c2, .slice q.A3 x.gs.length q.c3, .slice q.A4 x.ds.length q.c4]] w fun e w' => e = .returned (.bool r) ∧ Fr Nil w w' := by
  subst hr
  obtain ⟨h, ks, ps, gs, ds⟩ := x
  obtain ⟨A1, c1, A2, c2, A3, c3, A4, c4⟩ := q
  obtain ⟨hk, hp, hg, hd⟩ := hV
  have hf0 : ¬ 0 < ks.length → decide (innerOk ⟨h, ks, ps, gs, ds⟩) = false := fun h => decide_eq_false fun h9 => h h9.1
  have hf1 : ds.length ≠ ks.length → decide (innerOk ⟨h, ks, ps, gs, ds⟩) = false := fun h => decide_eq_false fun h9 => h h9.2.1
  have hf2 : ¬ (ps.length = 0 ∧ gs.length = 0) → decide (innerOk ⟨h, ks, ps, gs, ds⟩) = false := fun h => decide_eq_false fun h9 => h ⟨h9.2.2.1, h9.2.2.2.1⟩
  have hlast : 0 < ks.length → ds.length = ks.length → ps.length = 0 → gs.length = 0 → decide (innerOk ⟨h, ks, ps, gs, ds⟩) = decide (kidsOk ds ks.length) := fun a b c d => by
    by_cases hh : kidsOk ds ks.length
    · rw [decide_eq_true hh]; exact decide_eq_true ⟨a, b, c, d, hh⟩
    · rw [decide_eq_false hh]; exact decide_eq_false fun h9 => hh h9.2.2.2.2
  generalize decide (innerOk ⟨h, ks, ps, gs, ds⟩) = r at *
  dsimp only at hk hp hg hd ⊢
  generalize ks.length = n at *
  generalize ps.length = n2 at *
  generalize gs.length = n3 at *
  generalize ds.length = n4 at *
  have l2 := hp.le
  have l3 := hg.le
  have hfr : Fr Nil w (w.alloc (.cells #[.int .i64 h, .slice A1 n c1, .slice A2 n2 c2, .slice A3 n3 c3, .slice A4 n4 c4] 60)) := (Fr.refl Nil w).alloc _
  by_cases e0 : 0 < n
  · by_cases e1 : n4 = n
    · subst e1
      by_cases e2 : n2 = 0 ∧ n3 = 0
      · obtain ⟨rfl, rfl⟩ := e2
        have hl := hid (hlast e0 rfl rfl rfl)
        clear hf0 hf1 hf2 hlast
        go_enter Try.func72, Try.ntmps72
        go_wp2_with fail
        refine (contains_ok S A4 n4 c4 ds _ rfl _ (hd.fr hfr fun _ _ _ h => h)).mono ?_
        rintro e w1 ⟨rfl, hf1⟩
        go_wp2
        go_ret
        rw [hl.out]
        exact ⟨rfl, hfr.then hf1⟩
      · obtain rfl := hf2 e2
        have hne : ¬ ((n2 : Int) + (n3 : Int) = 0) := by omega
        have hsum : wrap64 ((n2 : Int) + (n3 : Int)) ≠ 0 := by unfold wrap64; omega
        have hb : (wrap64 ((n2 : Int) + (n3 : Int)) == 0) = false := by simpa using hsum
        have Hh := hid hsum
        clear hsum e2 hne hf0 hf1 hf2 hlast
        go_enter Try.func72, Try.ntmps72
        go_wp2
        go_ret
        exact ⟨rfl, hfr⟩
    · obtain rfl := hf1 e1
      go_enter Try.func72, Try.ntmps72
      go_wp2
      go_ret
      exact ⟨rfl, hfr⟩
  · obtain rfl := hf0 e0
    go_enter Try.func72, Try.ntmps72
    go_wp2
    go_ret
    exact ⟨rfl, hfr⟩

theorem nodeMay_ok (S : Nat → Prop) (q : Ptr) (x : Nd) (r : Bool) (hr : decide (MayNd x) = r) (w : World) (hV : Vs w S q x) :
    Calls Try.prog 49 #[.agg #[.int .i64 x.h, .slice q.A1 x.ks.length q.c1, .slice q.A2 x.ps.length q.c2, .slice q.A3 x.gs.length q.c3, .slice q.A4 x.ds.length q.c4]] w fun e w' => e = .returned (.bool r) ∧ Fr Nil w w' := by
  obtain ⟨h, ks, ps, gs, ds⟩ := x
  obtain ⟨A1, c1, A2, c2, A3, c3, A4, c4⟩ := q
  have hfr : Fr Nil w (w.alloc (.cells #[.int .i64 h, .slice A1 ks.length c1, .slice A2 ps.length c2, .slice A3 gs.length c3, .slice A4 ds.length c4] 60)) := (Fr.refl Nil w).alloc _
  have hV1 := hV.nil hfr
  subst hr
  have hf0 : ¬ (0 ≤ h ∧ h ≤ 5) → decide (MayNd ⟨h, ks, ps, gs, ds⟩) = false := fun h => decide_eq_false fun h9 => h h9.1
  have hf1 : ¬ keysOk ks → decide (MayNd ⟨h, ks, ps, gs, ds⟩) = false := fun h => decide_eq_false fun h9 => h h9.2.1
  have hf2 : 0 ≤ h ∧ h ≤ 5 → keysOk ks → h = 0 → decide (MayNd ⟨h, ks, ps, gs, ds⟩) = decide (leafOk ⟨h, ks, ps, gs, ds⟩) := fun a b c => decide_eq_decide.2 ⟨fun h9 => h9.2.2.1 c, fun h9 => ⟨a, b, fun _ => h9, fun h => absurd c h⟩⟩
  have hf3 : 0 ≤ h ∧ h ≤ 5 → keysOk ks → h ≠ 0 → decide (MayNd ⟨h, ks, ps, gs, ds⟩) = decide (innerOk ⟨h, ks, ps, gs, ds⟩) := fun a b c => decide_eq_decide.2 ⟨fun h9 => h9.2.2.2 c, fun h9 => ⟨a, b, fun h => absurd h c, fun _ => h9⟩⟩
  generalize decide (MayNd ⟨h, ks, ps, gs, ds⟩) = r at *
  obtain ⟨W1, hW1⟩ : ∃ W1, W1 = w.alloc (.cells #[.int .i64 h, .slice A1 ks.length c1, .slice A2 ps.length c2, .slice A3 gs.length c3, .slice A4 ds.length c4] 60) := ⟨_, rfl⟩
  have hb : Blk W1 w.heap.size #[.int .i64 h, .slice A1 ks.length c1, .slice A2 ps.length c2, .slice A3 gs.length c3, .slice A4 ds.length c4] 60 := by rw [hW1]; exact Blk.new _ _ _
  have b0 : W1.cell? ⟨w.heap.size, 0, none⟩ = some (.int .i64 h) := hb.cell 0
  have b1 : W1.cell? ⟨w.heap.size, 1, none⟩ = some (.slice A1 ks.length c1) := hb.cell 1
  have b2 : W1.cell? ⟨w.heap.size, 2, none⟩ = some (.slice A2 ps.length c2) := hb.cell 2
  have b3 : W1.cell? ⟨w.heap.size, 3, none⟩ = some (.slice A3 gs.length c3) := hb.cell 3
  have b4 : W1.cell? ⟨w.heap.size, 4, none⟩ = some (.slice A4 ds.length c4) := hb.cell 4
  clear hb
  rw [← hW1] at hfr hV1
  by_cases hh : 0 ≤ h ∧ h ≤ 5
  · by_cases hks : keysOk ks
    · have hdk := hid (decide_eq_true hks)
      by_cases h0 : h = 0
      · have HF := hid (hf2 hh hks h0)
        have Hks := hid hks
        subst h0
        clear hf0 hf1 hf2 hf3 hks
        go_enter Try.func49, Try.ntmps49
        go_wp2_with fail
        rw [← hW1]; clear hW1
        go_wp2_with (go_at_call 69; first | (refine (within_ok _ _ _ true (decide_eq_true (by omega)) _).mono ?_; rintro e w9 ⟨rfl, rfl⟩) | (refine (within_ok _ _ _ false (decide_eq_false (by omega)) _).mono ?_; rintro e w9 ⟨rfl, rfl⟩))
        refine (keys_ok S A1 c1 ks _ hdk.out _ hV1.k).mono ?_
        rintro e w2 ⟨rfl, rfl⟩
        go_wp2_with fail
        refine (leaf_ok S ⟨A1, c1, A2, c2, A3, c3, A4, c4⟩ ⟨0, ks, ps, gs, ds⟩ _ rfl _ hV1).mono ?_
        rintro e w2 ⟨rfl, hf2⟩
        go_wp2
        go_ret
        rw [HF.out]
        exact ⟨rfl, hfr.then hf2⟩
      · have HF := hid (hf3 hh hks h0)
        have hb0 : (h == 0) = false := by simpa using h0
        have Hks := hid hks
        clear hf0 hf1 hf2 hf3 hks h0
        go_enter Try.func49, Try.ntmps49
        go_wp2_with fail
        rw [← hW1]; clear hW1
        go_wp2_with (go_at_call 69; first | (refine (within_ok _ _ _ true (decide_eq_true (by omega)) _).mono ?_; rintro e w9 ⟨rfl, rfl⟩) | (refine (within_ok _ _ _ false (decide_eq_false (by omega)) _).mono ?_; rintro e w9 ⟨rfl, rfl⟩))
        refine (keys_ok S A1 c1 ks _ hdk.out _ hV1.k).mono ?_
        rintro e w2 ⟨rfl, rfl⟩
        go_wp2_with fail
        refine (inner_ok S ⟨A1, c1, A2, c2, A3, c3, A4, c4⟩ ⟨h, ks, ps, gs, ds⟩ _ rfl _ hV1).mono ?_
        rintro e w2 ⟨rfl, hf2⟩
        go_wp2
        go_ret
        rw [HF.out]
        exact ⟨rfl, hfr.then hf2⟩
    · have hdk := hid (decide_eq_false hks)
      obtain rfl := hf1 hks
      clear hf0 hf1 hf2 hf3 hks
      go_enter Try.func49, Try.ntmps49
      go_wp2_with fail
      rw [← hW1]; clear hW1
      go_wp2_with (go_at_call 69; first | (refine (within_ok _ _ _ true (decide_eq_true (by omega)) _).mono ?_; rintro e w9 ⟨rfl, rfl⟩) | (refine (within_ok _ _ _ false (decide_eq_false (by omega)) _).mono ?_; rintro e w9 ⟨rfl, rfl⟩))
      refine (keys_ok S A1 c1 ks _ hdk.out _ hV1.k).mono ?_
      rintro e w2 ⟨rfl, rfl⟩
      go_wp2
      go_ret
      exact ⟨rfl, hfr⟩
  · obtain rfl := hf0 hh
    clear hf0 hf1 hf2 hf3
    go_enter Try.func49, Try.ntmps49
    go_wp2_with fail
    rw [← hW1]; clear hW1
    go_wp2_with (go_at_call 69; first | (refine (within_ok _ _ _ true (decide_eq_true (by omega)) _).mono ?_; rintro e w9 ⟨rfl, rfl⟩) | (refine (within_ok _ _ _ false (decide_eq_false (by omega)) _).mono ?_; rintro e w9 ⟨rfl, rfl⟩))
    go_ret
    exact ⟨rfl, hfr⟩
end Go.Proofs.Ytgoghmblfdlnbaa.nd
end

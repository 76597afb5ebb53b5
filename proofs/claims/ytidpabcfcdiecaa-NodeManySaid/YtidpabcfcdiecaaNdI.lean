/- node.inner, node.May -/
import Derived.Test.YtidpabcfcdiecaaNdL
set_option linter.unusedSimpArgs false
set_option linter.unusedVariables false
namespace Go.Proofs.Ytidpabcfcdiecaa
open Go.RowKit

/-- The function 'bad' of inner. -/
theorem bad_ok (k : Kd) (r : Bool) (hr : decide (lOk k.a k.n k.g) = r) (w : World) : Calls Try.prog 40 #[.agg #[.int .i64 k.a, .int .i64 k.n, .int .i64 k.g]] w fun e w' => e = .returned (.bool (!r)) ∧ Fr Nil w w' := by
  obtain ⟨a, n, s⟩ := k
  dsimp only at hr ⊢
  have hf : Fr Nil w (w.alloc (.cells #[.int .i64 a, .int .i64 n, .int .i64 s] 58)) := (Fr.refl Nil w).alloc _
  go_enter Try.func40, Try.ntmps40
  go_wp2_with (go_at_call 41; refine (lies_ok _ _ _ _ hr _).mono ?_; rintro e w9 ⟨rfl, rfl⟩)
  go_ret
  exact ⟨rfl, hf⟩

theorem call_bad (args : Array Value) (w : World) : (callFunc 40 args).run Try.prog w = .ok (.enter 40 args) w := by kernel_rfl

def kidsOk (ds : List Kd) (n : Nat) : Prop := ∀ i, i < n → lOk (kd ds i).a (kd ds i).n (kd ds i).g
instance (ds : List Kd) (n : Nat) : Decidable (kidsOk ds n) := by unfold kidsOk; infer_instance

set_option maxRecDepth 100000 in
theorem index_ok (S : Nat → Prop) (A : Option Addr) (n c : Nat) (ds : List Kd) (r : Bool) (hr : decide (kidsOk ds n) = r) (w : World) (hv : View w S 3 (.slice A n c) n (tri ds)) :
    Calls Try.prog 45 #[.slice A n c, .func (.func 40) #[] #[]] w fun e w' => ∃ v : Int, e = .returned (.int .i64 v) ∧ decide (0 ≤ v) = (!r) ∧ Fr Nil w w' := by
  subst hr
  have hfalse : ∀ i, i < n → ¬ lOk (kd ds i).a (kd ds i).n (kd ds i).g → decide (kidsOk ds n) = false := fun i hi h => decide_eq_false fun h9 => h (h9 i hi)
  have htrue : (∀ i, i < n → lOk (kd ds i).a (kd ds i).n (kd ds i).g) → decide (kidsOk ds n) = true := fun h => decide_eq_true h
  generalize decide (kidsOk ds n) = r at *
  have hle : n ≤ 9223372036854775807 := hv.le
  go_enter Try.func45, Try.ntmps45
  go_wp2_with fail
  go_loopw [8] (fun v8 wr => ∃ i : Nat, v8 = .int .i64 i ∧ i ≤ n ∧ Fr Nil w wr ∧ Hid (∀ j, j < i → lOk (kd ds j).a (kd ds j).n (kd ds j).g)) (fun v8 _ => n - (intOf v8).toNat)
  case atStart => exact ⟨0, rfl, by omega, Fr.refl _ _, hid fun j hj => absurd hj (by omega)⟩
  case round =>
    obtain ⟨i, rfl, hi, hfw, hok⟩ := hrel
    have hvw := hv.fr hfw fun _ _ _ h => h
    by_cases hlt : i < n
    · obtain ⟨b, o, rfl, -, hbl, k0, k1, k2⟩ := kd_at hvw hlt
      by_cases hl : lOk (kd ds i).a (kd ds i).n (kd ds i).g
      · have hr := decide_eq_true hl
        have Hl := hid hl
        clear hl
        have Hr := hid hr; clear hr
        go_wp2_with fail
        refine (bad_ok (kd ds i) _ Hr.out _).mono ?_
        rintro e w1 ⟨rfl, hf1⟩
        clear k0 k1 k2
        go_wp2
        go_roundw
        case rel =>
          refine ⟨i + 1, by go_num, by omega, hfw.then hf1, hid fun j hj => ?_⟩
          rcases Nat.lt_or_ge j i with h | h
          · exact hok.out j h
          · obtain rfl : j = i := by omega
            exact Hl.out
        case measure => simp [intOf]; omega
      · have hr := decide_eq_false hl
        have hF := hid (hfalse i hlt hl)
        clear hl hfalse htrue
        have Hr := hid hr; clear hr
        go_wp2_with fail
        refine (bad_ok (kd ds i) _ Hr.out _).mono ?_
        rintro e w1 ⟨rfl, hf1⟩
        clear k0 k1 k2
        go_wp2
        go_ret
        rw [hF.out]
        exact ⟨_, rfl, by simp, hfw.then hf1⟩
    · have hT := hid (htrue fun j hj => hok.out j (by omega))
      clear hfalse htrue
      go_wp2
      go_ret
      rw [hT.out]
      exact ⟨_, rfl, by decide, hfw⟩

theorem contains_ok (S : Nat → Prop) (A : Option Addr) (n c : Nat) (ds : List Kd) (r : Bool) (hr : decide (kidsOk ds n) = r) (w : World) (hv : View w S 3 (.slice A n c) n (tri ds)) :
    Calls Try.prog 42 #[.slice A n c, .func (.func 40) #[] #[]] w fun e w' => e = .returned (.bool (!r)) ∧ Fr Nil w w' := by
  go_enter Try.func42, Try.ntmps42
  go_wp2_with fail
  refine (index_ok S A n c ds r hr w hv).mono ?_
  rintro e w1 ⟨v, rfl, hd, hf⟩
  go_wp2
  go_ret
  exact ⟨rfl, hf⟩

set_option maxRecDepth 100000 in
theorem inner_ok (S : Nat → Prop) (q : Ptr) (x : Nd) (r : Bool) (hr : decide (innerOk x) = r) (w : World) (hV : Vs w S q x) :
    Calls Try.prog 28 #[.agg #[.int .i64 x.h, .slice q.A1 x.ks.length q.c1, .slice q.A2 x.ps.length q.c2, .slice q.A3 x.gs.length q.c3, .slice q.A4 x.ds.length q.c4]] w fun e w' => e = .returned (.bool r) ∧ Fr Nil w w' := by
  subst hr
  obtain ⟨h, ks, ps, gs, ds⟩ := x
  obtain ⟨A1, c1, A2, c2, A3, c3, A4, c4⟩ := q
  obtain ⟨hk, hp, hg, hd⟩ := hV
  have hf0 : ¬ 0 < ks.length → decide (innerOk ⟨h, ks, ps, gs, ds⟩) = false := fun h => decide_eq_false fun h9 => h h9.1
  have hf1 : ds.length ≠ ks.length → decide (innerOk ⟨h, ks, ps, gs, ds⟩) = false := fun h => decide_eq_false fun h9 => h h9.2.1
  have hf2 : ¬ (ps.length = 0 ∧ gs.length = 0) → decide (innerOk ⟨h, ks, ps, gs, ds⟩) = false := fun h => decide_eq_false fun h9 => h ⟨h9.2.2.1, h9.2.2.2.1⟩
  have hlast : 0 < ks.length → ds.length = ks.length → ps.length = 0 → gs.length = 0 → decide (innerOk ⟨h, ks, ps, gs, ds⟩) = decide (kidsOk ds ks.length) := fun a b c d => by
    by_cases hh : kidsOk ds ks.length
    · rw [decide_eq_true hh]; exact decide_eq_true ⟨a, b, c, d, hh⟩
    · rw [decide_eq_false hh]; exact decide_eq_false fun h9 => hh h9.2.2.2.2
  generalize decide (innerOk ⟨h, ks, ps, gs, ds⟩) = r at *
  dsimp only at hk hp hg hd ⊢
  generalize ks.length = n at *
  generalize ps.length = n2 at *
  generalize gs.length = n3 at *
  generalize ds.length = n4 at *
  have l2 := hp.le
  have l3 := hg.le
  have hfr : Fr Nil w (w.alloc (.cells #[.int .i64 h, .slice A1 n c1, .slice A2 n2 c2, .slice A3 n3 c3, .slice A4 n4 c4] 35)) := (Fr.refl Nil w).alloc _
  by_cases e0 : 0 < n
  · by_cases e1 : n4 = n
    · subst e1
      by_cases e2 : n2 = 0 ∧ n3 = 0
      · obtain ⟨rfl, rfl⟩ := e2
        have hl := hid (hlast e0 rfl rfl rfl)
        clear hf0 hf1 hf2 hlast
        go_enter Try.func28, Try.ntmps28
        go_wp2_with fail
        refine (contains_ok S A4 n4 c4 ds _ rfl _ (hd.fr hfr fun _ _ _ h => h)).mono ?_
        rintro e w1 ⟨rfl, hf1⟩
        go_wp2
        go_ret
        rw [hl.out]
        exact ⟨rfl, hfr.then hf1⟩
      · obtain rfl := hf2 e2
        have hne : ¬ ((n2 : Int) + (n3 : Int) = 0) := by omega
        have hsum : wrap64 ((n2 : Int) + (n3 : Int)) ≠ 0 := by unfold wrap64; omega
        have hb : (wrap64 ((n2 : Int) + (n3 : Int)) == 0) = false := by simpa using hsum
        have Hh := hid hsum
        clear hsum e2 hne hf0 hf1 hf2 hlast
        go_enter Try.func28, Try.ntmps28
        go_wp2
        go_ret
        exact ⟨rfl, hfr⟩
    · obtain rfl := hf1 e1
      go_enter Try.func28, Try.ntmps28
      go_wp2
      go_ret
      exact ⟨rfl, hfr⟩
  · obtain rfl := hf0 e0
    go_enter Try.func28, Try.ntmps28
    go_wp2
    go_ret
    exact ⟨rfl, hfr⟩

theorem nodeMay_ok (S : Nat → Prop) (q : Ptr) (x : Nd) (r : Bool) (hr : decide (MayNd x) = r) (w : World) (hV : Vs w S q x) :
    Calls Try.prog 14 #[.agg #[.int .i64 x.h, .slice q.A1 x.ks.length q.c1, .slice q.A2 x.ps.length q.c2, .slice q.A3 x.gs.length q.c3, .slice q.A4 x.ds.length q.c4]] w fun e w' => e = .returned (.bool r) ∧ Fr Nil w w' := by
  obtain ⟨h, ks, ps, gs, ds⟩ := x
  obtain ⟨A1, c1, A2, c2, A3, c3, A4, c4⟩ := q
  have hfr : Fr Nil w (w.alloc (.cells #[.int .i64 h, .slice A1 ks.length c1, .slice A2 ps.length c2, .slice A3 gs.length c3, .slice A4 ds.length c4] 35)) := (Fr.refl Nil w).alloc _
  have hV1 := hV.nil hfr
  subst hr
  have hf0 : ¬ (0 ≤ h ∧ h ≤ 5) → decide (MayNd ⟨h, ks, ps, gs, ds⟩) = false := fun h => decide_eq_false fun h9 => h h9.1
  have hf1 : ¬ keysOk ks → decide (MayNd ⟨h, ks, ps, gs, ds⟩) = false := fun h => decide_eq_false fun h9 => h h9.2.1
  have hf2 : 0 ≤ h ∧ h ≤ 5 → keysOk ks → h = 0 → decide (MayNd ⟨h, ks, ps, gs, ds⟩) = decide (leafOk ⟨h, ks, ps, gs, ds⟩) := fun a b c => decide_eq_decide.2 ⟨fun h9 => h9.2.2.1 c, fun h9 => ⟨a, b, fun _ => h9, fun h => absurd c h⟩⟩
  have hf3 : 0 ≤ h ∧ h ≤ 5 → keysOk ks → h ≠ 0 → decide (MayNd ⟨h, ks, ps, gs, ds⟩) = decide (innerOk ⟨h, ks, ps, gs, ds⟩) := fun a b c => decide_eq_decide.2 ⟨fun h9 => h9.2.2.2 c, fun h9 => ⟨a, b, fun h => absurd h c, fun _ => h9⟩⟩
  generalize decide (MayNd ⟨h, ks, ps, gs, ds⟩) = r at *
  obtain ⟨W1, hW1⟩ : ∃ W1, W1 = w.alloc (.cells #[.int .i64 h, .slice A1 ks.length c1, .slice A2 ps.length c2, .slice A3 gs.length c3, .slice A4 ds.length c4] 35) := ⟨_, rfl⟩
  have hb : Blk W1 w.heap.size #[.int .i64 h, .slice A1 ks.length c1, .slice A2 ps.length c2, .slice A3 gs.length c3, .slice A4 ds.length c4] 35 := by rw [hW1]; exact Blk.new _ _ _
  have b0 : W1.cell? ⟨w.heap.size, 0, none⟩ = some (.int .i64 h) := hb.cell 0
  have b1 : W1.cell? ⟨w.heap.size, 1, none⟩ = some (.slice A1 ks.length c1) := hb.cell 1
  have b2 : W1.cell? ⟨w.heap.size, 2, none⟩ = some (.slice A2 ps.length c2) := hb.cell 2
  have b3 : W1.cell? ⟨w.heap.size, 3, none⟩ = some (.slice A3 gs.length c3) := hb.cell 3
  have b4 : W1.cell? ⟨w.heap.size, 4, none⟩ = some (.slice A4 ds.length c4) := hb.cell 4
  clear hb
  rw [← hW1] at hfr hV1
  by_cases hh : 0 ≤ h ∧ h ≤ 5
  · by_cases hks : keysOk ks
    · have hdk := hid (decide_eq_true hks)
      by_cases h0 : h = 0
      · have HF := hid (hf2 hh hks h0)
        have Hks := hid hks
        subst h0
        clear hf0 hf1 hf2 hf3 hks
        go_enter Try.func14, Try.ntmps14
        go_wp2_with fail
        rw [← hW1]; clear hW1
        go_wp2_with (go_at_call 25; first | (refine (within_ok _ _ _ true (decide_eq_true (by omega)) _).mono ?_; rintro e w9 ⟨rfl, rfl⟩) | (refine (within_ok _ _ _ false (decide_eq_false (by omega)) _).mono ?_; rintro e w9 ⟨rfl, rfl⟩))
        refine (keys_ok S A1 c1 ks _ hdk.out _ hV1.k).mono ?_
        rintro e w2 ⟨rfl, rfl⟩
        go_wp2_with fail
        refine (leaf_ok S ⟨A1, c1, A2, c2, A3, c3, A4, c4⟩ ⟨0, ks, ps, gs, ds⟩ _ rfl _ hV1).mono ?_
        rintro e w2 ⟨rfl, hf2⟩
        go_wp2
        go_ret
        rw [HF.out]
        exact ⟨rfl, hfr.then hf2⟩
      · have HF := hid (hf3 hh hks h0)
        have hb0 : (h == 0) = false := by simpa using h0
        have Hks := hid hks
        clear hf0 hf1 hf2 hf3 hks h0
        go_enter Try.func14, Try.ntmps14
        go_wp2_with fail
        rw [← hW1]; clear hW1
        go_wp2_with (go_at_call 25; first | (refine (within_ok _ _ _ true (decide_eq_true (by omega)) _).mono ?_; rintro e w9 ⟨rfl, rfl⟩) | (refine (within_ok _ _ _ false (decide_eq_false (by omega)) _).mono ?_; rintro e w9 ⟨rfl, rfl⟩))
        refine (keys_ok S A1 c1 ks _ hdk.out _ hV1.k).mono ?_
        rintro e w2 ⟨rfl, rfl⟩
        go_wp2_with fail
        refine (inner_ok S ⟨A1, c1, A2, c2, A3, c3, A4, c4⟩ ⟨h, ks, ps, gs, ds⟩ _ rfl _ hV1).mono ?_
        rintro e w2 ⟨rfl, hf2⟩
        go_wp2
        go_ret
        rw [HF.out]
        exact ⟨rfl, hfr.then hf2⟩
    · have hdk := hid (decide_eq_false hks)
      obtain rfl := hf1 hks
      clear hf0 hf1 hf2 hf3 hks
      go_enter Try.func14, Try.ntmps14
      go_wp2_with fail
      rw [← hW1]; clear hW1
      go_wp2_with (go_at_call 25; first | (refine (within_ok _ _ _ true (decide_eq_true (by omega)) _).mono ?_; rintro e w9 ⟨rfl, rfl⟩) | (refine (within_ok _ _ _ false (decide_eq_false (by omega)) _).mono ?_; rintro e w9 ⟨rfl, rfl⟩))
      refine (keys_ok S A1 c1 ks _ hdk.out _ hV1.k).mono ?_
      rintro e w2 ⟨rfl, rfl⟩
      go_wp2
      go_ret
      exact ⟨rfl, hfr⟩
  · obtain rfl := hf0 hh
    clear hf0 hf1 hf2 hf3
    go_enter Try.func14, Try.ntmps14
    go_wp2_with fail
    rw [← hW1]; clear hW1
    go_wp2_with (go_at_call 25; first | (refine (within_ok _ _ _ true (decide_eq_true (by omega)) _).mono ?_; rintro e w9 ⟨rfl, rfl⟩) | (refine (within_ok _ _ _ false (decide_eq_false (by omega)) _).mono ?_; rintro e w9 ⟨rfl, rfl⟩))
    go_ret
    exact ⟨rfl, hfr⟩
end Go.Proofs.Ytidpabcfcdiecaa

/- The texts VNdE2 of this proof, one behind the other. Conditions: those of each. -/
import Derived.Deep.QuietTactic
import Derived.BigQuiet
import Derived.Test.YtgoghmblfdlnbaaGreatGR26
section
/- node.Encode: its walk -/
set_option linter.unusedSimpArgs false
set_option linter.unusedVariables false
namespace Go.Proofs.YtgoghmblfdlnbaaGreat.nd
open Go.RowKit

theorem nodeenc_bad (S : Nat → Prop) (q : Ptr) (x : Nd) (hm : ¬ MayNd x) (w : World) (hV : Vs w S q x) :
    Calls Tryz.prog 41 #[.agg #[.int .i64 x.h, .slice q.A1 x.ks.length q.c1, .slice q.A2 x.ps.length q.c2, .slice q.A3 x.gs.length q.c3, .slice q.A4 x.ds.length q.c4]] w fun e w' => e = .returned (.tuple #[.slice none 0 0, .int .i64 1]) ∧ Fr Nil w w' := by
  obtain ⟨A1, c1, A2, c2, A3, c3, A4, c4⟩ := q
  have hd := hid (decide_eq_false hm)
  clear hm
  dsimp only
  have hfr : Fr Nil w (w.alloc (.cells #[.int .i64 x.h, .slice A1 x.ks.length c1, .slice A2 x.ps.length c2, .slice A3 x.gs.length c3, .slice A4 x.ds.length c4] 62)) := (Fr.refl Nil w).alloc _
  have hV1 := hV.nil hfr
  go_enter Tryz.func41, Tryz.ntmps41
  go_wp2_with fail
  refine (nodeMay_ok S ⟨A1, c1, A2, c2, A3, c3, A4, c4⟩ x _ hd.out _ hV1).mono ?_
  rintro e w1 ⟨rfl, hf1⟩
  go_wp2
  go_ret2
  exact ⟨rfl, hfr.then hf1⟩

/-- A number is written: it behind the others. -/
theorem pre_zero (x : Nd) : encs (pre x 0) = [] ++ enc x.h.toNat ++ enc x.ks.length := by simp [pre, encs]
def SW (a w2 wl : Nat) (w : World) : Nat → Prop := fun k => ((a ≤ k ∧ k < w2) ∨ wl ≤ k) ∧ k < w.heap.size



set_option maxRecDepth 100000 in
set_option maxHeartbeats 1600000 in
theorem nodeenc_ok (S : Nat → Prop) (q : Ptr) (x : Nd) (hm : MayNd x) (w : World) (hV : Vs w S q x) :
    Calls Tryz.prog 41 #[.agg #[.int .i64 x.h, .slice q.A1 x.ks.length q.c1, .slice q.A2 x.ps.length q.c2, .slice q.A3 x.gs.length q.c3, .slice q.A4 x.ds.length q.c4]] w fun e w' => ∃ A c, e = .returned (.tuple #[.slice A (encs (pre x x.ks.length)).length c, .int .i64 0]) ∧ Row w' (New w) 5 1 (.slice A (encs (pre x x.ks.length)).length c) (encs (pre x x.ks.length)).length (bys (encs (pre x x.ks.length))) ∧ Fr Nil w w' := by
  obtain ⟨A1, c1, A2, c2, A3, c3, A4, c4⟩ := q
  have hd := hid (decide_eq_true hm)
  have hh := hm.1
  have hn8 : x.ks.length ≤ 8 := hm.2.1.1
  have Hm := hid hm
  clear hm
  dsimp only
  have hfr0 : Fr Nil w (w.alloc (.cells #[.int .i64 x.h, .slice A1 x.ks.length c1, .slice A2 x.ps.length c2, .slice A3 x.gs.length c3, .slice A4 x.ds.length c4] 62)) := (Fr.refl Nil w).alloc _
  have hb0 : Blk (w.alloc (.cells #[.int .i64 x.h, .slice A1 x.ks.length c1, .slice A2 x.ps.length c2, .slice A3 x.gs.length c3, .slice A4 x.ds.length c4] 62)) w.heap.size #[.int .i64 x.h, .slice A1 x.ks.length c1, .slice A2 x.ps.length c2, .slice A3 x.gs.length c3, .slice A4 x.ds.length c4] 62 := Blk.new _ _ _
  have hV1 := hV.bd.nil hfr0
  go_enter Tryz.func41, Tryz.ntmps41
  go_wp2_with fail
  refine (nodeMay_ok _ ⟨A1, c1, A2, c2, A3, c3, A4, c4⟩ x _ hd.out _ hV1).mono ?_
  rintro e w1 ⟨rfl, hf1⟩
  replace hb1 := hb0.fr hf1 fun h => h
  replace hV1 := hV1.nil hf1
  have hs1 := hf1.size
  rw [World.size_alloc] at hs1
  replace hf1 : Fr Nil w w1 := hfr0.then hf1
  clear hb0 hfr0 hV
  obtain ⟨nb, hnb⟩ : ∃ nb, nb = w.heap.size := ⟨_, rfl⟩
  rw [← hnb] at hb1 hs1 ⊢
  have hs0 : w.heap.size ≤ nb := by omega
  clear hnb
  have b0 : w1.cell? ⟨nb, 0, none⟩ = some (.int .i64 x.h) := hb1.cell 0
  have b1 : w1.cell? ⟨nb, 1, none⟩ = some (.slice A1 x.ks.length c1) := hb1.cell 1
  obtain ⟨hz, hhz⟩ : ∃ hz : Nat, x.h = hz := ⟨x.h.toNat, by omega⟩
  have hz6 : hz ≤ 5 := by omega
  have Hhz := hid hhz
  clear hhz
  have hfa : Fr Nil w1 (w1.alloc (.cells #[.slice none 0 0] 131)) := (Fr.refl _ _).alloc _
  have hI2 : IsW (w1.alloc (.cells #[.slice none 0 0] 131)) (New w1) w1.heap.size [] := ⟨Nat.le_refl _, _, Blk.new _ _ _, Row.nil _ _ _ _⟩
  have c0 : (w1.alloc (.cells #[.slice none 0 0] 131)).cell? ⟨nb, 0, none⟩ = some (.int .i64 x.h) := hfa.cell b0 fun h => h
  go_wp2_with fail
  generalize w1.alloc (.cells #[.slice none 0 0] 131) = W2 at *
  obtain ⟨a, ha⟩ : ∃ a, a = w1.heap.size := ⟨_, rfl⟩
  rw [← ha] at hI2 hs1 ⊢
  have hla : w1.heap.size ≤ a := by omega
  have hla2 : a ≤ w1.heap.size := by omega
  replace hI2 : IsW W2 (fun k => a ≤ k) a [] := hI2.mono fun k hk => by have : w1.heap.size ≤ k := hk; omega
  clear ha
  rw [Hhz.out]
  refine (num_ok _ a [] hz (by omega) (by simp) W2 hI2).mono ?_
  rintro e w3 ⟨rfl, hf3, hI3⟩
  have g1 : w3.cell? ⟨nb, 1, none⟩ = some (.slice A1 x.ks.length c1) := hf3.cell (hfa.cell b1 fun h => h) (fun h => by have : a ≤ nb := h; omega)
  replace hf3 : Fr (fun k => a ≤ k) w1 w3 := hfa.nil.then hf3
  replace hI3 : IsW w3 (fun k => a ≤ k) a ([] ++ enc hz) := hI3.mono fun k hk => hk.elim id (fun h => by have := hI2.bd.1.2; omega)
  go_wp2_with fail
  refine (num_ok _ a _ x.ks.length (by omega) (by have := enc_len hz (by omega); simp; omega) w3 hI3).mono ?_
  rintro e w4 ⟨rfl, hf4, hI4⟩
  have hs3 := hf3.size
  have hs4 := hf4.size
  have ha4 : a < w4.heap.size := hI4.bd.1.2
  have hf14 : Fr (fun k => a ≤ k) w1 w4 := hf3.then hf4
  have hW4 : IsW w4 (fun k => a ≤ k ∧ k < w4.heap.size) a (encs (pre x 0)) := by
    rw [pre_zero, Hhz.out, Int.toNat_natCast]
    exact hI4.bd.mono fun k hk => ⟨hk.1.elim id (fun h => by have := hI3.bd.1.2; omega), hk.2⟩
  have h14 : ∀ {w' : World}, Fr Nil w4 w' → Fr (fun k => a ≤ k) w1 w' := fun h => hf14.thenNil h
  replace hb4 := hb1.fr hf14 (fun h => by have : a ≤ nb := h; omega)
  have d1 : w4.cell? ⟨nb, 1, none⟩ = some (.slice A1 x.ks.length c1) := hb4.cell 1
  have hV4 := hV1.fr hf14 (fun k hk _ (h : a ≤ k) => by have := hk.2; omega)
  have hf04 : Fr Nil w w4 := hf1.trans hf14 (fun k (hk : a ≤ k) => .inr (by have := hf1.size; omega))
  clear hI2 hI3 hI4 hf3 hf4 hf14 h14 hV1 hb1 hs3 b0 b1 c0 g1 hfa hf1
  go_wp2_with fail
  clear d1
  go_loopw [28] (fun v28 wr => ∃ i : Nat, v28 = .int .i64 i ∧ i ≤ x.ks.length ∧ Fr (fun k => a ≤ k) w4 wr ∧ IsW wr (fun k => a ≤ k ∧ k < wr.heap.size) a (encs (pre x i))) (fun v28 _ => x.ks.length - (intOf v28).toNat)
  case atStart => exact ⟨0, rfl, by omega, Fr.refl _ _, hW4⟩
  case round =>
    obtain ⟨i, rfl, hi, hfr, hWr⟩ := hrel
    have hsr := hfr.size
    have hbr := hb4.fr hfr (fun h => by have : a ≤ nb := h; omega)
    have hVr := hV4.fr hfr (fun k hk _ (h : a ≤ k) => by have := hk.2; omega)
    have hpl := pre_encs_len Hm.out hi
    by_cases hlt : i < x.ks.length
    · obtain ⟨bk, ok, rfl, -, -, kk⟩ := int_at hVr.k hlt
      obtain ⟨m0, hm0⟩ : ∃ m : Nat, kz x.ks i = m := ⟨(kz x.ks i).toNat, by have := may_key Hm.out hlt; unfold Nm at this; omega⟩
      have hml0 : m0 < 268435456 := by have := may_key Hm.out hlt; unfold Nm at this; omega
      have Hm0 := hid hm0
      rw [hm0] at kk
      clear hm0
      have hz0 : (0 : Int) ≤ (i : Int) := by omega
      have hz1 : (i : Int) < (x.ks.length : Int) := by omega
      go_wp2_with fail
      refine (num_ok _ a _ m0 hml0 (by omega) wr hWr).mono ?_
      rintro e w5 ⟨rfl, hf5, hI5⟩
      have hs5 := hf5.size
      have hb5 := hbr.fr hf5 (fun h => by have := h.1; omega)
      have hV5 := hVr.fr hf5 (fun k hk _ h => by have := hk.2; have := h.1; omega)
      have hI5' : IsW w5 (fun k => a ≤ k ∧ k < w5.heap.size) a (encs (pre x i) ++ enc m0) := hI5.bd.mono fun k hk => ⟨hk.1.elim (fun h => h.1) (fun h => by omega), hk.2⟩
      clear hI5
      have hfr5 : Fr (fun k => a ≤ k) w4 w5 := hfr.trans hf5 (fun k hk => .inl hk.1)
      clear hf5 hbr hVr hWr kk
      have e0 : w5.cell? ⟨nb, 0, none⟩ = some (.int .i64 x.h) := hb5.cell 0
      have e0' : (w5.alloc (.cells #[] 3)).cell? ⟨nb, 0, none⟩ = some (.int .i64 x.h) := (hb5.alloc _).cell 0
      by_cases h0 : x.h = 0
      · obtain ⟨l1, l2, l3⟩ := may_leaf Hm.out h0 hlt
        have hb00 : (x.h == 0) = true := by simpa using h0
        have hzs := hid (show entZ x i = [(kd x.ps i).a, (kd x.ps i).n, (kd x.ps i).g, kz x.gs i] from by unfold entZ; rw [if_pos h0])
        have hzn := hid l3
        obtain ⟨bp, op, rfl, hbp1, hbp, kp0, kp1, kp2⟩ := kd_at hV5.p (show i < x.ps.length by omega)
        obtain ⟨bg, og, rfl, hbg1, hbg, kg⟩ := int_at hV5.g (show i < x.gs.length by omega)
        have hz2 : (i : Int) < (x.ps.length : Int) := by omega
        have hz3 : (i : Int) < (x.gs.length : Int) := by omega
        have al : Fr Nil w5 (w5.alloc (.cells #[] 3)) := (Fr.refl _ _).alloc _
        have e2' : (w5.alloc (.cells #[] 3)).cell? ⟨nb, 2, none⟩ = some (.slice (some ⟨bp, op, none⟩) x.ps.length c2) := (hb5.alloc _).cell 2
        have kp0' := al.cell kp0 fun h => h
        have kp1' := al.cell kp1 fun h => h
        have kp2' := al.cell kp2 fun h => h
        clear l1 l2 l3 h0 kp0 kp1 kp2 e0
        go_wp2_with fail
        obtain ⟨W6, hW6⟩ : ∃ W6, W6 = (w5.alloc (.cells #[] 3)).alloc (.cells #[.int .i64 (kd x.ps i).a, .int .i64 (kd x.ps i).n, .int .i64 (kd x.ps i).g] 51) := ⟨_, rfl⟩
        have hp6 : Blk W6 (w5.heap.size + 1) #[.int .i64 (kd x.ps i).a, .int .i64 (kd x.ps i).n, .int .i64 (kd x.ps i).g] 51 := by
          rw [hW6]
          have := Blk.new (w5.alloc (.cells #[] 3)) #[.int .i64 (kd x.ps i).a, .int .i64 (kd x.ps i).n, .int .i64 (kd x.ps i).g] 51
          rwa [World.size_alloc] at this
        have hR6 : Row W6 (New w5) 3 1 (.slice (some ⟨w5.heap.size, 0, none⟩) 0 0) 0 [] := by rw [hW6]; exact (Row.made w5 #[] 3 1 0 0 rfl (Nat.le_refl _) (by decide)).alloc _
        have hf6 : Fr Nil w5 W6 := by rw [hW6]; exact al.alloc _
        have hs6 : Hid (w5.heap.size ≤ W6.heap.size) := hid hf6.size
        rw [← hW6]
        have b3 := hf6.cell (hb5.cell 3) fun h => h
        have kg6 := hf6.cell kg fun h => h
        have p0 := hp6.cell 0
        have p1 := hp6.cell 1
        have p2 := hp6.cell 2
        clear hW6 e2' kp0' kp1' kp2' kg hp6
        have hS : (fun w' : World => w'.cell? ⟨w5.heap.size + 1, 0, none⟩ = some (.int .i64 (kd x.ps i).a) ∧ w'.cell? ⟨w5.heap.size + 1, 1, none⟩ = some (.int .i64 (kd x.ps i).n) ∧ w'.cell? ⟨w5.heap.size + 1, 2, none⟩ = some (.int .i64 (kd x.ps i).g) ∧ w'.cell? ⟨nb, 3, none⟩ = some (.slice (some ⟨bg, og, none⟩) x.gs.length c3) ∧ w'.cell? ⟨bg, og + i, none⟩ = some (.int .i64 (kz x.gs i))) W6.drew := ⟨p0, p1, p2, b3, kg6⟩
        have hnb : nb < w5.heap.size := hb5.lt
        clear p0 p1 p2 b3 kg6
        refine wpU_region (k := 14) (S := (fun w' : World => w'.cell? ⟨w5.heap.size + 1, 0, none⟩ = some (.int .i64 (kd x.ps i).a) ∧ w'.cell? ⟨w5.heap.size + 1, 1, none⟩ = some (.int .i64 (kd x.ps i).n) ∧ w'.cell? ⟨w5.heap.size + 1, 2, none⟩ = some (.int .i64 (kd x.ps i).g) ∧ w'.cell? ⟨nb, 3, none⟩ = some (.slice (some ⟨bg, og, none⟩) x.gs.length c3) ∧ w'.cell? ⟨bg, og + i, none⟩ = some (.int .i64 (kz x.gs i)))) (by kernel_rfl) ?_
        refine wpU_take (i := 0) (v := ?_) rfl (by kernel_rfl) (by kernel_rfl) (fun _ _ _ h => h) _ _ _ _ (by kernel_rfl) (by kernel_rfl) (by kernel_rfl) (Or.inl ⟨by kernel_rfl, ?_⟩) hS ?_
        rotate_left
        · (intro w9 hS9; obtain ⟨s0, s1, s2, s3, s4⟩ := hS9; go_simp); (try with_reducible rfl)
        try simp only [Act.put, List.setIfInBounds_toArray, List.set_cons_zero, List.set_cons_succ]
        refine wpU_take (i := 1) (v := ?_) rfl (by kernel_rfl) (by kernel_rfl) (fun _ _ _ h => h) _ _ _ _ (by kernel_rfl) (by kernel_rfl) (by kernel_rfl) (Or.inl ⟨by kernel_rfl, ?_⟩) hS ?_
        rotate_left
        · (intro w9 hS9; obtain ⟨s0, s1, s2, s3, s4⟩ := hS9; go_simp); (try with_reducible rfl)
        try simp only [Act.put, List.setIfInBounds_toArray, List.set_cons_zero, List.set_cons_succ]
        refine wpU_take (i := 2) (v := ?_) rfl (by kernel_rfl) (by kernel_rfl) (fun _ _ _ h => h) _ _ _ _ (by kernel_rfl) (by kernel_rfl) (by kernel_rfl) (Or.inl ⟨by kernel_rfl, ?_⟩) hS ?_
        rotate_left
        · (intro w9 hS9; obtain ⟨s0, s1, s2, s3, s4⟩ := hS9; go_simp); (try with_reducible rfl)
        try simp only [Act.put, List.setIfInBounds_toArray, List.set_cons_zero, List.set_cons_succ]
        refine wpU_take (i := 3) (v := ?_) rfl (by kernel_rfl) (by kernel_rfl) (fun _ _ _ h => h) _ _ _ _ (by kernel_rfl) (by kernel_rfl) (by kernel_rfl) (Or.inl ⟨by kernel_rfl, ?_⟩) hS ?_
        rotate_left
        · (intro w9 hS9; obtain ⟨s0, s1, s2, s3, s4⟩ := hS9; go_simp); (try with_reducible rfl)
        try simp only [Act.put, List.setIfInBounds_toArray, List.set_cons_zero, List.set_cons_succ]
        refine wpU_take (i := 4) (v := ?_) rfl (by kernel_rfl) (by kernel_rfl) (fun _ _ _ h => h) _ _ _ _ (by kernel_rfl) (by kernel_rfl) (by kernel_rfl) (Or.inl ⟨by kernel_rfl, ?_⟩) hS ?_
        rotate_left
        · (intro w9 hS9; obtain ⟨s0, s1, s2, s3, s4⟩ := hS9; go_simp); (try with_reducible rfl)
        try simp only [Act.put, List.setIfInBounds_toArray, List.set_cons_zero, List.set_cons_succ]
        refine wpU_take (i := 5) (v := ?_) rfl (by kernel_rfl) (by kernel_rfl) (fun _ _ _ h => h) _ _ _ _ (by kernel_rfl) (by kernel_rfl) (by kernel_rfl) (Or.inl ⟨by kernel_rfl, ?_⟩) hS ?_
        rotate_left
        · (intro w9 hS9; obtain ⟨s0, s1, s2, s3, s4⟩ := hS9; go_simp); (try with_reducible rfl)
        try simp only [Act.put, List.setIfInBounds_toArray, List.set_cons_zero, List.set_cons_succ]
        refine wpU_take (i := 6) (v := ?_) rfl (by kernel_rfl) (by kernel_rfl) (fun _ _ _ h => h) _ _ _ _ (by kernel_rfl) (by kernel_rfl) (by kernel_rfl) (Or.inl ⟨by kernel_rfl, ?_⟩) hS ?_
        rotate_left
        · (intro w9 hS9; obtain ⟨s0, s1, s2, s3, s4⟩ := hS9; go_simp); (try with_reducible rfl)
        try simp only [Act.put, List.setIfInBounds_toArray, List.set_cons_zero, List.set_cons_succ]
        refine wpU_take (i := 7) (v := ?_) rfl (by kernel_rfl) (by kernel_rfl) (fun _ _ _ h => h) _ _ _ _ (by kernel_rfl) (by kernel_rfl) (by kernel_rfl) (Or.inl ⟨by kernel_rfl, ?_⟩) hS ?_
        rotate_left
        · (intro w9 hS9; obtain ⟨s0, s1, s2, s3, s4⟩ := hS9; go_simp); (try with_reducible rfl)
        try simp only [Act.put, List.setIfInBounds_toArray, List.set_cons_zero, List.set_cons_succ]
        refine wpU_take (i := 8) (v := ?_) rfl (by kernel_rfl) (by kernel_rfl) (fun _ _ _ h => h) _ _ _ _ (by kernel_rfl) (by kernel_rfl) (by kernel_rfl) (Or.inl ⟨by kernel_rfl, ?_⟩) hS ?_
        rotate_left
        · (intro w9 hS9; obtain ⟨s0, s1, s2, s3, s4⟩ := hS9; go_simp); (try with_reducible rfl)
        try simp only [Act.put, List.setIfInBounds_toArray, List.set_cons_zero, List.set_cons_succ]
        refine wpU_take (i := 9) (v := ?_) rfl (by kernel_rfl) (by kernel_rfl) (fun _ _ _ h => h) _ _ _ _ (by kernel_rfl) (by kernel_rfl) (by kernel_rfl) (Or.inl ⟨by kernel_rfl, ?_⟩) hS ?_
        rotate_left
        · (intro w9 hS9; obtain ⟨s0, s1, s2, s3, s4⟩ := hS9; go_simp); (try with_reducible rfl)
        try simp only [Act.put, List.setIfInBounds_toArray, List.set_cons_zero, List.set_cons_succ]
        refine wpU_take (i := 10) (v := ?_) rfl (by kernel_rfl) (by kernel_rfl) (fun _ _ _ h => h) _ _ _ _ (by kernel_rfl) (by kernel_rfl) (by kernel_rfl) (Or.inl ⟨by kernel_rfl, ?_⟩) hS ?_
        rotate_left
        · (intro w9 hS9; obtain ⟨s0, s1, s2, s3, s4⟩ := hS9; go_simp); (try with_reducible rfl)
        try simp only [Act.put, List.setIfInBounds_toArray, List.set_cons_zero, List.set_cons_succ]
        refine wpU_take (i := 11) (v := ?_) rfl (by kernel_rfl) (by kernel_rfl) (fun _ _ _ h => h) _ _ _ _ (by kernel_rfl) (by kernel_rfl) (by kernel_rfl) (Or.inl ⟨by kernel_rfl, ?_⟩) hS ?_
        rotate_left
        · (intro w9 hS9; obtain ⟨s0, s1, s2, s3, s4⟩ := hS9; go_simp); (try with_reducible rfl)
        try simp only [Act.put, List.setIfInBounds_toArray, List.set_cons_zero, List.set_cons_succ]
        refine wpU_next (i := 12) rfl (by kernel_rfl) (fun K hK => ?_)
        go_simp
        have hS7 : (fun w' : World => w'.cell? ⟨w5.heap.size + 1, 0, none⟩ = some (.int .i64 (kd x.ps i).a) ∧ w'.cell? ⟨w5.heap.size + 1, 1, none⟩ = some (.int .i64 (kd x.ps i).n) ∧ w'.cell? ⟨w5.heap.size + 1, 2, none⟩ = some (.int .i64 (kd x.ps i).g) ∧ w'.cell? ⟨nb, 3, none⟩ = some (.slice (some ⟨bg, og, none⟩) x.gs.length c3) ∧ w'.cell? ⟨bg, og + i, none⟩ = some (.int .i64 (kz x.gs i))) (W6.drew.alloc (.cells #[.int .i64 (kd x.ps i).a, .int .i64 (kd x.ps i).n, .int .i64 (kd x.ps i).g, .int .i64 (kz x.gs i)] 3)) := by
          have hx : Fr Nil W6.drew (W6.drew.alloc (.cells #[.int .i64 (kd x.ps i).a, .int .i64 (kd x.ps i).n, .int .i64 (kd x.ps i).g, .int .i64 (kz x.gs i)] 3)) := (Fr.refl _ _).alloc _
          exact ⟨hx.cell hS.1 fun h => h, hx.cell hS.2.1 fun h => h, hx.cell hS.2.2.1 fun h => h, hx.cell hS.2.2.2.1 fun h => h, hx.cell hS.2.2.2.2 fun h => h⟩
        refine hK.out _ _ (fun _ => hS7) ?_
        clear hK K
        try simp only [Act.put, List.setIfInBounds_toArray, List.set_cons_zero, List.set_cons_succ]
        refine wpU_next (i := 13) rfl (by kernel_rfl) (fun K hK => ?_)
        refine step_app_view rfl _ _ 49 (by rfl) (.int .i64 0) 8 Tryz.underlying49 info_int rfl (by decide) (hR6.drew.alloc _) (by rfl) (View.lit (s := 1) W6.drew #[.int .i64 (kd x.ps i).a, .int .i64 (kd x.ps i).n, .int .i64 (kd x.ps i).g, .int .i64 (kz x.gs i)] 3 (0, 0) 4 rfl (by decide)) (by rfl) (ints_cell [(kd x.ps i).a, (kd x.ps i).n, (kd x.ps i).g, kz x.gs i]) (by decide) (by decide) ?_
        intro A7 cap7 WL q1 q2
        have hown : ∀ k, (Value.slice (some ⟨w5.heap.size, 0, none⟩) 0 0).ownBlock = some k → k = w5.heap.size := fun k hk => by simp [Value.ownBlock] at hk; omega
        have hS8 : (fun w' : World => w'.cell? ⟨w5.heap.size + 1, 0, none⟩ = some (.int .i64 (kd x.ps i).a) ∧ w'.cell? ⟨w5.heap.size + 1, 1, none⟩ = some (.int .i64 (kd x.ps i).n) ∧ w'.cell? ⟨w5.heap.size + 1, 2, none⟩ = some (.int .i64 (kd x.ps i).g) ∧ w'.cell? ⟨nb, 3, none⟩ = some (.slice (some ⟨bg, og, none⟩) x.gs.length c3) ∧ w'.cell? ⟨bg, og + i, none⟩ = some (.int .i64 (kz x.gs i))) WL := ⟨q2.cell hS7.1 fun h => by have := hown _ h; simp at this, q2.cell hS7.2.1 fun h => by have := hown _ h; simp at this, q2.cell hS7.2.2.1 fun h => by have := hown _ h; simp at this, q2.cell hS7.2.2.2.1 fun h => by have := hown _ h; simp at this; omega, q2.cell hS7.2.2.2.2 fun h => by have := hown _ h; simp at this; omega⟩
        have hf5L : Fr Nil w5 WL := ((hf6.drew).alloc _).trans q2 (fun k hk => .inr (by have := hown _ hk; omega))
        refine hK.out _ _ (fun _ => hS8) ?_
        clear hK K
        try simp only [Act.put, List.setIfInBounds_toArray, List.set_cons_zero, List.set_cons_succ]
        refine wpU_next (i := 14) rfl (by kernel_rfl) (fun K hK => ?_)
        go_simp
        refine hK.out _ _ (fun h => absurd rfl h.1) ?_
        refine wpU_done (by kernel_rfl) ?_ _
        clear hK K
        have hsL := hf5L.size
        have hs66 := hs6.out
        have hvl : View WL (fun k => w5.heap.size ≤ k ∧ k < WL.heap.size) 1 (.slice A7 4 cap7) 4 (ints .i64 [(kd x.ps i).a, (kd x.ps i).n, (kd x.ps i).g, kz x.gs i]) := by
          have h9 := q1.view.bd
          rw [Nat.zero_add] at h9
          exact h9.mono fun k hk => ⟨hk.1.elim (fun h => by have := hown _ h; omega) (fun h => by simp at h; omega), hk.2⟩
        have hWL : IsW WL (SW a w5.heap.size WL.heap.size WL) a (encs (pre x i) ++ enc m0) := by
          refine IsW.mono (hI5'.fr hf5L fun _ _ h => h) fun k hk => ⟨.inl hk, by have := hk.2; omega⟩
        have hfL : Fr (fun k => a ≤ k) w5 WL := hf5L.nil
        have Hzl : Hid (([(kd x.ps i).a, (kd x.ps i).n, (kd x.ps i).g, kz x.gs i] : List Int).length = 4) := hid rfl
        clear q1 q2 hown hS hS7 hS8 hf5L hR6 hf6 hs6 hs66 al hb5 hV5 hI5'
        generalize ([(kd x.ps i).a, (kd x.ps i).n, (kd x.ps i).g, kz x.gs i] : List Int) = zs at *
        go_wp2_with fail
        go_loopw [82] (fun v82 wq => ∃ j : Nat, v82 = .int .i64 j ∧ j ≤ 4 ∧ Fr (fun k => a ≤ k ∧ k < w5.heap.size) WL wq ∧ IsW wq (SW a w5.heap.size WL.heap.size wq) a (encs (pre x i) ++ enc m0 ++ encs ((zs.take j).map Int.toNat))) (fun v82 _ => 4 - (intOf v82).toNat)
        case atStart =>
          refine ⟨0, rfl, by omega, Fr.refl _ _, ?_⟩
          rw [List.take_zero, List.map_nil, encs_nil, List.append_nil]
          exact hWL
        case round =>
          obtain ⟨j, rfl, hj, hfq, hWq⟩ := hrel
          have hsq := hfq.size
          by_cases hlt2 : j < 4
          · have hvq := hvl.fr hfq fun k hk _ h => by have := hk; have := h.2; omega
            obtain ⟨bl, ol, rfl, -, -, kl⟩ := int_at hvq hlt2
            have hlt3 : j < zs.length := by have := Hzl.out; omega
            have hmem : zs[j] ∈ zs := List.getElem_mem hlt3
            have hnm := hzn.out _ hmem
            rw [← kz_eq hlt3] at hnm
            obtain ⟨m, hm⟩ : ∃ m : Nat, kz zs j = m := ⟨(kz zs j).toNat, by have := hnm.1; omega⟩
            have hml : m < 268435456 := by unfold Nm at hnm; omega
            have Hm1 := hid hm
            rw [hm] at kl
            clear hm hnm hmem
            have hlen2 : Hid (((zs.take j).map Int.toNat).length ≤ 4) := hid (by rw [List.length_map, List.length_take]; omega)
            have hlen3 : (encs ((zs.take j).map Int.toNat)).length ≤ 16 := by
              have h1 := encs_len ((zs.take j).map Int.toNat) (fun n hn => by
                obtain ⟨z, hz, rfl⟩ := List.mem_map.1 hn
                have := hzn.out z (List.mem_of_mem_take hz)
                unfold Nm at this; omega)
              have h2 := hlen2.out
              omega
            have hz8 : (0 : Int) ≤ (j : Int) := by omega
            go_wp2_with fail
            refine (num_ok _ a _ m hml (by rw [List.length_append, List.length_append]; have := (enc_len m0 hml0).1; omega) wr hWq).mono ?_
            rintro e w9 ⟨rfl, hf9, hW9⟩
            have hs9 := hf9.size
            clear kl hvq hWq
            go_wp2
            go_roundw
            case rel =>
              refine ⟨j + 1, by go_num, by omega, hfq.trans hf9 (fun k hk => hk.1.elim .inl (fun h => .inr (by omega))), ?_⟩
              have e9 : encs (pre x i) ++ enc m0 ++ encs ((zs.take (j + 1)).map Int.toNat) = encs (pre x i) ++ enc m0 ++ encs ((zs.take j).map Int.toNat) ++ enc m := by
                rw [List.take_succ_eq_append_getElem hlt3, List.map_append, List.map_singleton, encs_snoc, ← List.append_assoc, ← kz_eq hlt3, Hm1.out, Int.toNat_natCast]
              rw [e9]
              exact hW9.bd.mono fun k hk => ⟨hk.1.elim (fun h => h.1) (fun h => .inr (by omega)), hk.2⟩
            case measure => simp [intOf]; omega
          · have hjz : Hid (j = 4) := hid (by omega)
            have e9 : Hid (encs (pre x i) ++ enc m0 ++ encs ((zs.take j).map Int.toNat) = encs (pre x (i + 1))) := hid (by
              rw [List.take_of_length_le (by have := Hzl.out; have := hjz.out; omega), pre_succ, ent, hzs.out, Hm0.out, Int.toNat_natCast, encs, encs, encs, List.flatMap_append, List.flatMap_cons, ← List.append_assoc])
            rw [e9.out] at hWq
            clear hvl
            have hj2 : 4 ≤ j := by omega
            go_wp2
            go_roundw
            case rel =>
              refine ⟨i + 1, by go_num, by omega, (hfr5.then hfL).trans hfq (fun k hk => .inl hk.1), ?_⟩
              exact hWq.mono fun k hk => ⟨hk.1.elim (fun h => h.1) (fun h => by omega), hk.2⟩
            case measure => simp [intOf]; omega
      · obtain ⟨l1, l3⟩ := may_inner Hm.out h0 hlt
        have hb00 : (x.h == 0) = false := by simpa using h0
        have hzs := hid (show entZ x i = [(kd x.ds i).a, (kd x.ds i).n, (kd x.ds i).g] from by unfold entZ; rw [if_neg h0])
        have hzn := hid l3
        obtain ⟨bp, op, rfl, hbp1, hbp, kp0, kp1, kp2⟩ := kd_at hV5.d (show i < x.ds.length by omega)
        have hz2 : (i : Int) < (x.ds.length : Int) := by omega
        have al : Fr Nil w5 (w5.alloc (.cells #[] 3)) := (Fr.refl _ _).alloc _
        clear l1 l3 h0 e0
        go_wp2_with fail
        obtain ⟨W6, hW6⟩ : ∃ W6, W6 = w5.alloc (.cells #[] 3) := ⟨_, rfl⟩
        have hR6 : Row W6 (New w5) 3 1 (.slice (some ⟨w5.heap.size, 0, none⟩) 0 0) 0 [] := by rw [hW6]; exact Row.made w5 #[] 3 1 0 0 rfl (Nat.le_refl _) (by decide)
        have hf6 : Fr Nil w5 W6 := by rw [hW6]; exact al
        have hs6 : Hid (w5.heap.size ≤ W6.heap.size) := hid hf6.size
        rw [← hW6]
        have b3 := hf6.cell (hb5.cell 4) fun h => h
        replace kp0 := hf6.cell kp0 fun h => h
        replace kp1 := hf6.cell kp1 fun h => h
        replace kp2 := hf6.cell kp2 fun h => h
        clear hW6 e0'
        have hS : (fun w' : World => w'.cell? ⟨nb, 4, none⟩ = some (.slice (some ⟨bp, op, none⟩) x.ds.length c4) ∧ w'.cell? ⟨bp, op + i * 3, none⟩ = some (.int .i64 (kd x.ds i).a) ∧ w'.cell? ⟨bp, op + i * 3 + 1, none⟩ = some (.int .i64 (kd x.ds i).n) ∧ w'.cell? ⟨bp, op + i * 3 + 2, none⟩ = some (.int .i64 (kd x.ds i).g)) W6.drew := ⟨b3, kp0, kp1, kp2⟩
        have hnb : nb < w5.heap.size := hb5.lt
        clear kp0 kp1 kp2 b3
        refine wpU_region (k := 21) (S := (fun w' : World => w'.cell? ⟨nb, 4, none⟩ = some (.slice (some ⟨bp, op, none⟩) x.ds.length c4) ∧ w'.cell? ⟨bp, op + i * 3, none⟩ = some (.int .i64 (kd x.ds i).a) ∧ w'.cell? ⟨bp, op + i * 3 + 1, none⟩ = some (.int .i64 (kd x.ds i).n) ∧ w'.cell? ⟨bp, op + i * 3 + 2, none⟩ = some (.int .i64 (kd x.ds i).g))) (by kernel_rfl) ?_
        refine wpU_take (i := 0) (v := ?_) rfl (by kernel_rfl) (by kernel_rfl) (fun _ _ _ h => h) _ _ _ _ (by kernel_rfl) (by kernel_rfl) (by kernel_rfl) (Or.inl ⟨by kernel_rfl, ?_⟩) hS ?_
        rotate_left
        · (intro w9 hS9; obtain ⟨s0, s1, s2, s3⟩ := hS9; go_simp); (try with_reducible rfl)
        try simp only [Act.put, List.setIfInBounds_toArray, List.set_cons_zero, List.set_cons_succ]
        refine wpU_take (i := 1) (v := ?_) rfl (by kernel_rfl) (by kernel_rfl) (fun _ _ _ h => h) _ _ _ _ (by kernel_rfl) (by kernel_rfl) (by kernel_rfl) (Or.inl ⟨by kernel_rfl, ?_⟩) hS ?_
        rotate_left
        · (intro w9 hS9; obtain ⟨s0, s1, s2, s3⟩ := hS9; go_simp); (try with_reducible rfl)
        try simp only [Act.put, List.setIfInBounds_toArray, List.set_cons_zero, List.set_cons_succ]
        refine wpU_take (i := 2) (v := ?_) rfl (by kernel_rfl) (by kernel_rfl) (fun _ _ _ h => h) _ _ _ _ (by kernel_rfl) (by kernel_rfl) (by kernel_rfl) (Or.inl ⟨by kernel_rfl, ?_⟩) hS ?_
        rotate_left
        · (intro w9 hS9; obtain ⟨s0, s1, s2, s3⟩ := hS9; go_simp); (try with_reducible rfl)
        try simp only [Act.put, List.setIfInBounds_toArray, List.set_cons_zero, List.set_cons_succ]
        refine wpU_take (i := 3) (v := ?_) rfl (by kernel_rfl) (by kernel_rfl) (fun _ _ _ h => h) _ _ _ _ (by kernel_rfl) (by kernel_rfl) (by kernel_rfl) (Or.inl ⟨by kernel_rfl, ?_⟩) hS ?_
        rotate_left
        · (intro w9 hS9; obtain ⟨s0, s1, s2, s3⟩ := hS9; go_simp); (try with_reducible rfl)
        try simp only [Act.put, List.setIfInBounds_toArray, List.set_cons_zero, List.set_cons_succ]
        refine wpU_take (i := 4) (v := ?_) rfl (by kernel_rfl) (by kernel_rfl) (fun _ _ _ h => h) _ _ _ _ (by kernel_rfl) (by kernel_rfl) (by kernel_rfl) (Or.inl ⟨by kernel_rfl, ?_⟩) hS ?_
        rotate_left
        · (intro w9 hS9; obtain ⟨s0, s1, s2, s3⟩ := hS9; go_simp); (try with_reducible rfl)
        try simp only [Act.put, List.setIfInBounds_toArray, List.set_cons_zero, List.set_cons_succ]
        refine wpU_take (i := 5) (v := ?_) rfl (by kernel_rfl) (by kernel_rfl) (fun _ _ _ h => h) _ _ _ _ (by kernel_rfl) (by kernel_rfl) (by kernel_rfl) (Or.inl ⟨by kernel_rfl, ?_⟩) hS ?_
        rotate_left
        · (intro w9 hS9; obtain ⟨s0, s1, s2, s3⟩ := hS9; go_simp); (try with_reducible rfl)
        try simp only [Act.put, List.setIfInBounds_toArray, List.set_cons_zero, List.set_cons_succ]
        refine wpU_take (i := 6) (v := ?_) rfl (by kernel_rfl) (by kernel_rfl) (fun _ _ _ h => h) _ _ _ _ (by kernel_rfl) (by kernel_rfl) (by kernel_rfl) (Or.inl ⟨by kernel_rfl, ?_⟩) hS ?_
        rotate_left
        · (intro w9 hS9; obtain ⟨s0, s1, s2, s3⟩ := hS9; go_simp); (try with_reducible rfl)
        try simp only [Act.put, List.setIfInBounds_toArray, List.set_cons_zero, List.set_cons_succ]
        refine wpU_take (i := 7) (v := ?_) rfl (by kernel_rfl) (by kernel_rfl) (fun _ _ _ h => h) _ _ _ _ (by kernel_rfl) (by kernel_rfl) (by kernel_rfl) (Or.inl ⟨by kernel_rfl, ?_⟩) hS ?_
        rotate_left
        · (intro w9 hS9; obtain ⟨s0, s1, s2, s3⟩ := hS9; go_simp); (try with_reducible rfl)
        try simp only [Act.put, List.setIfInBounds_toArray, List.set_cons_zero, List.set_cons_succ]
        refine wpU_take (i := 8) (v := ?_) rfl (by kernel_rfl) (by kernel_rfl) (fun _ _ _ h => h) _ _ _ _ (by kernel_rfl) (by kernel_rfl) (by kernel_rfl) (Or.inl ⟨by kernel_rfl, ?_⟩) hS ?_
        rotate_left
        · (intro w9 hS9; obtain ⟨s0, s1, s2, s3⟩ := hS9; go_simp); (try with_reducible rfl)
        try simp only [Act.put, List.setIfInBounds_toArray, List.set_cons_zero, List.set_cons_succ]
        refine wpU_take (i := 9) (v := ?_) rfl (by kernel_rfl) (by kernel_rfl) (fun _ _ _ h => h) _ _ _ _ (by kernel_rfl) (by kernel_rfl) (by kernel_rfl) (Or.inl ⟨by kernel_rfl, ?_⟩) hS ?_
        rotate_left
        · (intro w9 hS9; obtain ⟨s0, s1, s2, s3⟩ := hS9; go_simp); (try with_reducible rfl)
        try simp only [Act.put, List.setIfInBounds_toArray, List.set_cons_zero, List.set_cons_succ]
        refine wpU_take (i := 10) (v := ?_) rfl (by kernel_rfl) (by kernel_rfl) (fun _ _ _ h => h) _ _ _ _ (by kernel_rfl) (by kernel_rfl) (by kernel_rfl) (Or.inl ⟨by kernel_rfl, ?_⟩) hS ?_
        rotate_left
        · (intro w9 hS9; obtain ⟨s0, s1, s2, s3⟩ := hS9; go_simp); (try with_reducible rfl)
        try simp only [Act.put, List.setIfInBounds_toArray, List.set_cons_zero, List.set_cons_succ]
        refine wpU_take (i := 11) (v := ?_) rfl (by kernel_rfl) (by kernel_rfl) (fun _ _ _ h => h) _ _ _ _ (by kernel_rfl) (by kernel_rfl) (by kernel_rfl) (Or.inl ⟨by kernel_rfl, ?_⟩) hS ?_
        rotate_left
        · (intro w9 hS9; obtain ⟨s0, s1, s2, s3⟩ := hS9; go_simp); (try with_reducible rfl)
        try simp only [Act.put, List.setIfInBounds_toArray, List.set_cons_zero, List.set_cons_succ]
        refine wpU_take (i := 12) (v := ?_) rfl (by kernel_rfl) (by kernel_rfl) (fun _ _ _ h => h) _ _ _ _ (by kernel_rfl) (by kernel_rfl) (by kernel_rfl) (Or.inl ⟨by kernel_rfl, ?_⟩) hS ?_
        rotate_left
        · (intro w9 hS9; obtain ⟨s0, s1, s2, s3⟩ := hS9; go_simp); (try with_reducible rfl)
        try simp only [Act.put, List.setIfInBounds_toArray, List.set_cons_zero, List.set_cons_succ]
        refine wpU_take (i := 13) (v := ?_) rfl (by kernel_rfl) (by kernel_rfl) (fun _ _ _ h => h) _ _ _ _ (by kernel_rfl) (by kernel_rfl) (by kernel_rfl) (Or.inl ⟨by kernel_rfl, ?_⟩) hS ?_
        rotate_left
        · (intro w9 hS9; obtain ⟨s0, s1, s2, s3⟩ := hS9; go_simp); (try with_reducible rfl)
        try simp only [Act.put, List.setIfInBounds_toArray, List.set_cons_zero, List.set_cons_succ]
        refine wpU_take (i := 14) (v := ?_) rfl (by kernel_rfl) (by kernel_rfl) (fun _ _ _ h => h) _ _ _ _ (by kernel_rfl) (by kernel_rfl) (by kernel_rfl) (Or.inl ⟨by kernel_rfl, ?_⟩) hS ?_
        rotate_left
        · (intro w9 hS9; obtain ⟨s0, s1, s2, s3⟩ := hS9; go_simp); (try with_reducible rfl)
        try simp only [Act.put, List.setIfInBounds_toArray, List.set_cons_zero, List.set_cons_succ]
        refine wpU_take (i := 15) (v := ?_) rfl (by kernel_rfl) (by kernel_rfl) (fun _ _ _ h => h) _ _ _ _ (by kernel_rfl) (by kernel_rfl) (by kernel_rfl) (Or.inl ⟨by kernel_rfl, ?_⟩) hS ?_
        rotate_left
        · (intro w9 hS9; obtain ⟨s0, s1, s2, s3⟩ := hS9; go_simp); (try with_reducible rfl)
        try simp only [Act.put, List.setIfInBounds_toArray, List.set_cons_zero, List.set_cons_succ]
        refine wpU_take (i := 16) (v := ?_) rfl (by kernel_rfl) (by kernel_rfl) (fun _ _ _ h => h) _ _ _ _ (by kernel_rfl) (by kernel_rfl) (by kernel_rfl) (Or.inl ⟨by kernel_rfl, ?_⟩) hS ?_
        rotate_left
        · (intro w9 hS9; obtain ⟨s0, s1, s2, s3⟩ := hS9; go_simp); (try with_reducible rfl)
        try simp only [Act.put, List.setIfInBounds_toArray, List.set_cons_zero, List.set_cons_succ]
        refine wpU_take (i := 17) (v := ?_) rfl (by kernel_rfl) (by kernel_rfl) (fun _ _ _ h => h) _ _ _ _ (by kernel_rfl) (by kernel_rfl) (by kernel_rfl) (Or.inl ⟨by kernel_rfl, ?_⟩) hS ?_
        rotate_left
        · (intro w9 hS9; obtain ⟨s0, s1, s2, s3⟩ := hS9; go_simp); (try with_reducible rfl)
        try simp only [Act.put, List.setIfInBounds_toArray, List.set_cons_zero, List.set_cons_succ]
        refine wpU_take (i := 18) (v := ?_) rfl (by kernel_rfl) (by kernel_rfl) (fun _ _ _ h => h) _ _ _ _ (by kernel_rfl) (by kernel_rfl) (by kernel_rfl) (Or.inl ⟨by kernel_rfl, ?_⟩) hS ?_
        rotate_left
        · (intro w9 hS9; obtain ⟨s0, s1, s2, s3⟩ := hS9; go_simp); (try with_reducible rfl)
        try simp only [Act.put, List.setIfInBounds_toArray, List.set_cons_zero, List.set_cons_succ]
        refine wpU_next (i := 19) rfl (by kernel_rfl) (fun K hK => ?_)
        go_simp
        have hS7 : (fun w' : World => w'.cell? ⟨nb, 4, none⟩ = some (.slice (some ⟨bp, op, none⟩) x.ds.length c4) ∧ w'.cell? ⟨bp, op + i * 3, none⟩ = some (.int .i64 (kd x.ds i).a) ∧ w'.cell? ⟨bp, op + i * 3 + 1, none⟩ = some (.int .i64 (kd x.ds i).n) ∧ w'.cell? ⟨bp, op + i * 3 + 2, none⟩ = some (.int .i64 (kd x.ds i).g)) (W6.drew.alloc (.cells #[.int .i64 (kd x.ds i).a, .int .i64 (kd x.ds i).n, .int .i64 (kd x.ds i).g] 3)) := by
          have hx : Fr Nil W6.drew (W6.drew.alloc (.cells #[.int .i64 (kd x.ds i).a, .int .i64 (kd x.ds i).n, .int .i64 (kd x.ds i).g] 3)) := (Fr.refl _ _).alloc _
          exact ⟨hx.cell hS.1 fun h => h, hx.cell hS.2.1 fun h => h, hx.cell hS.2.2.1 fun h => h, hx.cell hS.2.2.2 fun h => h⟩
        refine hK.out _ _ (fun _ => hS7) ?_
        clear hK K
        try simp only [Act.put, List.setIfInBounds_toArray, List.set_cons_zero, List.set_cons_succ]
        refine wpU_next (i := 20) rfl (by kernel_rfl) (fun K hK => ?_)
        refine step_app_view rfl _ _ 49 (by rfl) (.int .i64 0) 8 Tryz.underlying49 info_int rfl (by decide) (hR6.drew.alloc _) (by rfl) (View.lit (s := 1) W6.drew #[.int .i64 (kd x.ds i).a, .int .i64 (kd x.ds i).n, .int .i64 (kd x.ds i).g] 3 (0, 0) 3 rfl (by decide)) (by rfl) (ints_cell [(kd x.ds i).a, (kd x.ds i).n, (kd x.ds i).g]) (by decide) (by decide) ?_
        intro A7 cap7 WL q1 q2
        have hown : ∀ k, (Value.slice (some ⟨w5.heap.size, 0, none⟩) 0 0).ownBlock = some k → k = w5.heap.size := fun k hk => by simp [Value.ownBlock] at hk; omega
        have hS8 : (fun w' : World => w'.cell? ⟨nb, 4, none⟩ = some (.slice (some ⟨bp, op, none⟩) x.ds.length c4) ∧ w'.cell? ⟨bp, op + i * 3, none⟩ = some (.int .i64 (kd x.ds i).a) ∧ w'.cell? ⟨bp, op + i * 3 + 1, none⟩ = some (.int .i64 (kd x.ds i).n) ∧ w'.cell? ⟨bp, op + i * 3 + 2, none⟩ = some (.int .i64 (kd x.ds i).g)) WL := ⟨q2.cell hS7.1 fun h => by have := hown _ h; simp at this; omega, q2.cell hS7.2.1 fun h => by have := hown _ h; simp at this; omega, q2.cell hS7.2.2.1 fun h => by have := hown _ h; simp at this; omega, q2.cell hS7.2.2.2 fun h => by have := hown _ h; simp at this; omega⟩
        have hf5L : Fr Nil w5 WL := ((hf6.drew).alloc _).trans q2 (fun k hk => .inr (by have := hown _ hk; omega))
        refine hK.out _ _ (fun _ => hS8) ?_
        clear hK K
        try simp only [Act.put, List.setIfInBounds_toArray, List.set_cons_zero, List.set_cons_succ]
        refine wpU_next (i := 21) rfl (by kernel_rfl) (fun K hK => ?_)
        go_simp
        refine hK.out _ _ (fun h => absurd rfl h.1) ?_
        refine wpU_done (by kernel_rfl) ?_ _
        clear hK K
        have hsL := hf5L.size
        have hs66 := hs6.out
        have hvl : View WL (fun k => w5.heap.size ≤ k ∧ k < WL.heap.size) 1 (.slice A7 3 cap7) 3 (ints .i64 [(kd x.ds i).a, (kd x.ds i).n, (kd x.ds i).g]) := by
          have h9 := q1.view.bd
          rw [Nat.zero_add] at h9
          exact h9.mono fun k hk => ⟨hk.1.elim (fun h => by have := hown _ h; omega) (fun h => by simp at h; omega), hk.2⟩
        have hWL : IsW WL (SW a w5.heap.size WL.heap.size WL) a (encs (pre x i) ++ enc m0) := by
          refine IsW.mono (hI5'.fr hf5L fun _ _ h => h) fun k hk => ⟨.inl hk, by have := hk.2; omega⟩
        have hfL : Fr (fun k => a ≤ k) w5 WL := hf5L.nil
        have Hzl : Hid (([(kd x.ds i).a, (kd x.ds i).n, (kd x.ds i).g] : List Int).length = 3) := hid rfl
        clear q1 q2 hown hS hS7 hS8 hf5L hR6 hf6 hs6 hs66 al hb5 hV5 hI5'
        generalize ([(kd x.ds i).a, (kd x.ds i).n, (kd x.ds i).g] : List Int) = zs at *
        go_wp2_with fail
        go_loopw [82] (fun v82 wq => ∃ j : Nat, v82 = .int .i64 j ∧ j ≤ 3 ∧ Fr (fun k => a ≤ k ∧ k < w5.heap.size) WL wq ∧ IsW wq (SW a w5.heap.size WL.heap.size wq) a (encs (pre x i) ++ enc m0 ++ encs ((zs.take j).map Int.toNat))) (fun v82 _ => 3 - (intOf v82).toNat)
        case atStart =>
          refine ⟨0, rfl, by omega, Fr.refl _ _, ?_⟩
          rw [List.take_zero, List.map_nil, encs_nil, List.append_nil]
          exact hWL
        case round =>
          obtain ⟨j, rfl, hj, hfq, hWq⟩ := hrel
          have hsq := hfq.size
          by_cases hlt2 : j < 3
          · have hvq := hvl.fr hfq fun k hk _ h => by have := hk; have := h.2; omega
            obtain ⟨bl, ol, rfl, -, -, kl⟩ := int_at hvq hlt2
            have hlt3 : j < zs.length := by have := Hzl.out; omega
            have hmem : zs[j] ∈ zs := List.getElem_mem hlt3
            have hnm := hzn.out _ hmem
            rw [← kz_eq hlt3] at hnm
            obtain ⟨m, hm⟩ : ∃ m : Nat, kz zs j = m := ⟨(kz zs j).toNat, by have := hnm.1; omega⟩
            have hml : m < 268435456 := by unfold Nm at hnm; omega
            have Hm1 := hid hm
            rw [hm] at kl
            clear hm hnm hmem
            have hlen2 : Hid (((zs.take j).map Int.toNat).length ≤ 4) := hid (by rw [List.length_map, List.length_take]; omega)
            have hlen3 : (encs ((zs.take j).map Int.toNat)).length ≤ 16 := by
              have h1 := encs_len ((zs.take j).map Int.toNat) (fun n hn => by
                obtain ⟨z, hz, rfl⟩ := List.mem_map.1 hn
                have := hzn.out z (List.mem_of_mem_take hz)
                unfold Nm at this; omega)
              have h2 := hlen2.out
              omega
            have hz8 : (0 : Int) ≤ (j : Int) := by omega
            go_wp2_with fail
            refine (num_ok _ a _ m hml (by rw [List.length_append, List.length_append]; have := (enc_len m0 hml0).1; omega) wr hWq).mono ?_
            rintro e w9 ⟨rfl, hf9, hW9⟩
            have hs9 := hf9.size
            clear kl hvq hWq
            go_wp2
            go_roundw
            case rel =>
              refine ⟨j + 1, by go_num, by omega, hfq.trans hf9 (fun k hk => hk.1.elim .inl (fun h => .inr (by omega))), ?_⟩
              have e9 : encs (pre x i) ++ enc m0 ++ encs ((zs.take (j + 1)).map Int.toNat) = encs (pre x i) ++ enc m0 ++ encs ((zs.take j).map Int.toNat) ++ enc m := by
                rw [List.take_succ_eq_append_getElem hlt3, List.map_append, List.map_singleton, encs_snoc, ← List.append_assoc, ← kz_eq hlt3, Hm1.out, Int.toNat_natCast]
              rw [e9]
              exact hW9.bd.mono fun k hk => ⟨hk.1.elim (fun h => h.1) (fun h => .inr (by omega)), hk.2⟩
            case measure => simp [intOf]; omega
          · have hjz : Hid (j = 3) := hid (by omega)
            have e9 : Hid (encs (pre x i) ++ enc m0 ++ encs ((zs.take j).map Int.toNat) = encs (pre x (i + 1))) := hid (by
              rw [List.take_of_length_le (by have := Hzl.out; have := hjz.out; omega), pre_succ, ent, hzs.out, Hm0.out, Int.toNat_natCast, encs, encs, encs, List.flatMap_append, List.flatMap_cons, ← List.append_assoc])
            rw [e9.out] at hWq
            clear hvl
            have hj2 : 3 ≤ j := by omega
            go_wp2
            go_roundw
            case rel =>
              refine ⟨i + 1, by go_num, by omega, (hfr5.then hfL).trans hfq (fun k hk => .inl hk.1), ?_⟩
              exact hWq.mono fun k hk => ⟨hk.1.elim (fun h => h.1) (fun h => by omega), hk.2⟩
            case measure => simp [intOf]; omega
    · have hin : i = x.ks.length := by omega
      subst hin
      go_wp2_with fail
      refine (out_ok _ a _ (by omega) wr hWr).mono ?_
      rintro e w9 ⟨A, c, rfl, r1, r2⟩
      go_wp2
      go_ret2
      refine ⟨A, c, rfl, r1.mono fun k hk => ?_, (hf04.trans hfr fun k (hk : a ≤ k) => .inr (by omega)).then r2⟩
      have h1 : wr.heap.size ≤ k := hk
      have h2 := hf04.size
      show w.heap.size ≤ k
      omega
end Go.Proofs.YtgoghmblfdlnbaaGreat.nd
end

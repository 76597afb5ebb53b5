/- The reference's Encode (chapter 13). -/
import Derived.Test.YtidpabcfcdiecaaNdRP
import Derived.Test.YtidpabcfcdiecaaNdRM2
set_option linter.unusedSimpArgs false
set_option linter.unusedVariables false
namespace Go.Proofs.Ytidpabcfcdiecaa
open Go.RowKit

theorem refenc_bad (S : Nat → Prop) (q : Ptr) (x : Nd) (hm : ¬ MayNd x) (w : World) (hV : Vs w S q x) :
    Calls Try.prog 13 #[.agg #[.int .i64 x.h, .slice q.A1 x.ks.length q.c1, .slice q.A2 x.ps.length q.c2, .slice q.A3 x.gs.length q.c3, .slice q.A4 x.ds.length q.c4]] w fun e w' => e = .returned (.tuple #[.slice none 0 0, .int .i64 1]) ∧ Fr Nil w w' := by
  obtain ⟨A1, c1, A2, c2, A3, c3, A4, c4⟩ := q
  have hd := hid (decide_eq_false hm)
  clear hm
  dsimp only
  have hfr : Fr Nil w (w.alloc (.cells #[.int .i64 x.h, .slice A1 x.ks.length c1, .slice A2 x.ps.length c2, .slice A3 x.gs.length c3, .slice A4 x.ds.length c4] 26)) := (Fr.refl Nil w).alloc _
  have hV1 := hV.nil hfr
  go_enter Try.func13, Try.ntmps13
  go_wp2_with fail
  refine (refmay_ok S ⟨A1, c1, A2, c2, A3, c3, A4, c4⟩ x _ hd.out _ hV1).mono ?_
  rintro e w1 ⟨rfl, hf1⟩
  go_wp2
  go_ret2
  exact ⟨rfl, hfr.then hf1⟩

theorem mk7 {w w' : World} {T : Nat → Prop} {a1 a2 a3 a4 a5 a6 a7 : Addr} {v1 v2 v3 v4 v5 v6 v7 : Value} (hf : Fr T w w') (h : w.cell? a1 = some v1 ∧ w.cell? a2 = some v2 ∧ w.cell? a3 = some v3 ∧ w.cell? a4 = some v4 ∧ w.cell? a5 = some v5 ∧ w.cell? a6 = some v6 ∧ w.cell? a7 = some v7)
    (n1 : ¬ T a1.block) (n2 : ¬ T a2.block) (n3 : ¬ T a3.block) (n4 : ¬ T a4.block) (n5 : ¬ T a5.block) (n6 : ¬ T a6.block) (n7 : ¬ T a7.block) :
    w'.cell? a1 = some v1 ∧ w'.cell? a2 = some v2 ∧ w'.cell? a3 = some v3 ∧ w'.cell? a4 = some v4 ∧ w'.cell? a5 = some v5 ∧ w'.cell? a6 = some v6 ∧ w'.cell? a7 = some v7 :=
  ⟨hf.cell h.1 n1, hf.cell h.2.1 n2, hf.cell h.2.2.1 n3, hf.cell h.2.2.2.1 n4, hf.cell h.2.2.2.2.1 n5, hf.cell h.2.2.2.2.2.1 n6, hf.cell h.2.2.2.2.2.2 n7⟩
theorem mk5 {w w' : World} {T : Nat → Prop} {a1 a2 a3 a4 a5 : Addr} {v1 v2 v3 v4 v5 : Value} (hf : Fr T w w') (h : w.cell? a1 = some v1 ∧ w.cell? a2 = some v2 ∧ w.cell? a3 = some v3 ∧ w.cell? a4 = some v4 ∧ w.cell? a5 = some v5)
    (n1 : ¬ T a1.block) (n2 : ¬ T a2.block) (n3 : ¬ T a3.block) (n4 : ¬ T a4.block) (n5 : ¬ T a5.block) :
    w'.cell? a1 = some v1 ∧ w'.cell? a2 = some v2 ∧ w'.cell? a3 = some v3 ∧ w'.cell? a4 = some v4 ∧ w'.cell? a5 = some v5 :=
  ⟨hf.cell h.1 n1, hf.cell h.2.1 n2, hf.cell h.2.2.1 n3, hf.cell h.2.2.2.1 n4, hf.cell h.2.2.2.2 n5⟩
theorem mk7n {w w' : World} {a1 a2 a3 a4 a5 a6 a7 : Addr} {v1 v2 v3 v4 v5 v6 v7 : Value} (hf : Fr Nil w w') (h : w.cell? a1 = some v1 ∧ w.cell? a2 = some v2 ∧ w.cell? a3 = some v3 ∧ w.cell? a4 = some v4 ∧ w.cell? a5 = some v5 ∧ w.cell? a6 = some v6 ∧ w.cell? a7 = some v7) : w'.cell? a1 = some v1 ∧ w'.cell? a2 = some v2 ∧ w'.cell? a3 = some v3 ∧ w'.cell? a4 = some v4 ∧ w'.cell? a5 = some v5 ∧ w'.cell? a6 = some v6 ∧ w'.cell? a7 = some v7 :=
  mk7 hf h (fun h => h) (fun h => h) (fun h => h) (fun h => h) (fun h => h) (fun h => h) (fun h => h)
theorem mk5n {w w' : World} {a1 a2 a3 a4 a5 : Addr} {v1 v2 v3 v4 v5 : Value} (hf : Fr Nil w w') (h : w.cell? a1 = some v1 ∧ w.cell? a2 = some v2 ∧ w.cell? a3 = some v3 ∧ w.cell? a4 = some v4 ∧ w.cell? a5 = some v5) : w'.cell? a1 = some v1 ∧ w'.cell? a2 = some v2 ∧ w'.cell? a3 = some v3 ∧ w'.cell? a4 = some v4 ∧ w'.cell? a5 = some v5 :=
  mk5 hf h (fun h => h) (fun h => h) (fun h => h) (fun h => h) (fun h => h)
/-- The bytes that are there (world wr to w9) grow by those of ys. -/
theorem grow_u8 {W1 wr w8 w9 : World} {B : Nat} {A2 A3 : Option Addr} {L c2 c3 : Nat} {xs ys : List Nat} (hB : B ≤ W1.heap.size) (hfr : Fr (fun k => B ≤ k) W1 wr) (hrow : Row wr (fun k => B ≤ k) 5 1 (.slice A2 L c2) L (bys xs)) (f1 : Fr Nil wr w8)
    (q1 : Row w9 (fun k => (Value.slice A2 L c2).ownBlock = some k ∨ w8.heap.size ≤ k) 5 1 (.slice A3 (L + ys.length) c3) (L + ys.length) (bys xs ++ bys ys)) (q2 : Fr (fun k => (Value.slice A2 L c2).ownBlock = some k) w8 w9) :
    Row w9 (fun k => B ≤ k) 5 1 (.slice A3 (L + ys.length) c3) (L + ys.length) (bys (xs ++ ys)) ∧ Fr (fun k => B ≤ k) W1 w9 := by
  have h1 := hfr.size
  have h2 := f1.size
  constructor
  · rw [bys_append]
    exact q1.mono fun k hk => hk.elim (fun h => hrow.2 k h) (fun h => by show B ≤ k; omega)
  · exact (hfr.then f1.nil).trans q2 (fun k hk => .inl (hrow.2 k hk))

set_option maxRecDepth 100000 in
set_option maxHeartbeats 1600000 in
theorem refenc_ok (S : Nat → Prop) (q : Ptr) (x : Nd) (hm : MayNd x) (w : World) (hV : Vs w S q x) :
    Calls Try.prog 13 #[.agg #[.int .i64 x.h, .slice q.A1 x.ks.length q.c1, .slice q.A2 x.ps.length q.c2, .slice q.A3 x.gs.length q.c3, .slice q.A4 x.ds.length q.c4]] w fun e w' => ∃ A c, e = .returned (.tuple #[.slice A (encs (pre x x.ks.length)).length c, .int .i64 0]) ∧ Row w' (New w) 5 1 (.slice A (encs (pre x x.ks.length)).length c) (encs (pre x x.ks.length)).length (bys (encs (pre x x.ks.length))) ∧ Fr Nil w w' := by
  obtain ⟨A1, c1, A2, c2, A3, c3, A4, c4⟩ := q
  have hd := hid (decide_eq_true hm)
  have hh := hm.1
  have hn8 : x.ks.length ≤ 8 := hm.2.1.1
  have Hm := hid hm
  clear hm
  dsimp only
  have hfr0 : Fr Nil w (w.alloc (.cells #[.int .i64 x.h, .slice A1 x.ks.length c1, .slice A2 x.ps.length c2, .slice A3 x.gs.length c3, .slice A4 x.ds.length c4] 26)) := (Fr.refl Nil w).alloc _
  have hb0 : Blk (w.alloc (.cells #[.int .i64 x.h, .slice A1 x.ks.length c1, .slice A2 x.ps.length c2, .slice A3 x.gs.length c3, .slice A4 x.ds.length c4] 26)) w.heap.size #[.int .i64 x.h, .slice A1 x.ks.length c1, .slice A2 x.ps.length c2, .slice A3 x.gs.length c3, .slice A4 x.ds.length c4] 26 := Blk.new _ _ _
  have hV1 := hV.bd.nil hfr0
  go_enter Try.func13, Try.ntmps13
  go_wp2_with fail
  refine (refmay_ok _ ⟨A1, c1, A2, c2, A3, c3, A4, c4⟩ x _ hd.out _ hV1).mono ?_
  rintro e w1 ⟨rfl, hf1⟩
  replace hb1 := hb0.fr hf1 fun h => h
  replace hV1 := hV1.nil hf1
  have hs1 := hf1.size
  rw [World.size_alloc] at hs1
  replace hf1 : Fr Nil w w1 := hfr0.then hf1
  clear hb0 hfr0 hV
  obtain ⟨nb, hnb⟩ : ∃ nb, nb = w.heap.size := ⟨_, rfl⟩
  rw [← hnb] at hb1 hs1 ⊢
  have hs0 : w.heap.size ≤ nb := by omega
  have hs00 : nb ≤ w.heap.size := by omega
  clear hnb
  have b0 : w1.cell? ⟨nb, 0, none⟩ = some (.int .i64 x.h) := hb1.cell 0
  have b1 : w1.cell? ⟨nb, 1, none⟩ = some (.slice A1 x.ks.length c1) := hb1.cell 1
  go_wp2_with fail
  have hfa : Fr Nil w1 (w1.alloc (.cells #[.int .i64 x.h, .int .i64 x.ks.length] 3)) := (Fr.refl _ _).alloc _
  have hvl : View (w1.alloc (.cells #[.int .i64 x.h, .int .i64 x.ks.length] 3)) (New w1) 1 (.slice (some ⟨w1.heap.size, 0, none⟩) 2 2) 2 (ints .i64 [x.h, (x.ks.length : Int)]) := View.lit w1 #[.int .i64 x.h, .int .i64 x.ks.length] 3 (0, 0) 2 rfl (by decide)
  refine (refput_ok _ _ 2 2 [x.h, (x.ks.length : Int)] rfl (by decide) (by simp [Nm]; omega) _ hvl).mono ?_
  rintro e w2 ⟨A5, c5, rfl, r5, f5⟩
  have hpre0 : encs (natsOf [x.h, (x.ks.length : Int)]) = encs (pre x 0) := by simp [natsOf, pre]
  rw [hpre0] at r5 ⊢
  clear hpre0
  replace f5 := hfa.then f5
  have hb2 := hb1.fr f5 fun h => h
  have hV2 := hV1.nil f5
  have hf2 : Fr Nil w w2 := hf1.then f5
  have hnb2 : nb < w1.heap.size := hb1.lt
  replace r5 : Row w2 (fun k => nb < k) 5 1 (.slice A5 (encs (pre x 0)).length c5) (encs (pre x 0)).length (bys (encs (pre x 0))) := r5.mono fun k (hk : _ ≤ k) => by have := hfa.size; omega
  have g1 : w2.cell? ⟨nb, 1, none⟩ = some (.slice A1 x.ks.length c1) := hb2.cell 1
  clear hb1 hV1 hfa hvl b0 b1 f5 hf1
  go_wp2_with fail
  clear g1
  have hnw2 : nb + 1 ≤ w2.heap.size := by have := hf2.size; have := hb2.lt; omega
  go_loopw [4, 5] (fun v4 v5 wr => ∃ (i : Nat) (A6 : Option Addr) (L c6 : Nat) (xs : List Nat), v5 = .int .i64 i ∧ i ≤ x.ks.length ∧ v4 = .slice A6 L c6 ∧ Fr (fun k => nb + 1 ≤ k) w2 wr ∧ Row wr (fun k => nb + 1 ≤ k) 5 1 (.slice A6 L c6) L (bys xs) ∧ L ≤ 1000 ∧ Hid (xs = encs (pre x i)) ∧ Hid (L = xs.length)) (fun _ v5 _ => x.ks.length - (intOf v5).toNat)
  case atStart => exact ⟨0, _, _, _, _, rfl, by omega, rfl, Fr.refl _ _, r5, by have := pre_encs_len Hm.out (Nat.zero_le _); omega, hid rfl, hid rfl⟩
  case round =>
    obtain ⟨i, A6, L, c6, xs, rfl, hi, rfl, hfr, hrow, hL, hxs, hLx⟩ := hrel
    have hsr := hfr.size
    have hbr := hb2.fr hfr (fun h => by omega)
    have hVr := hV2.fr hfr (fun k hk _ (h : nb + 1 ≤ k) => by have := hk.2; omega)
    have b1 : wr.cell? ⟨nb, 1, none⟩ = some (.slice A1 x.ks.length c1) := hbr.cell 1
    by_cases hlt : i < x.ks.length
    · have hpl := hid (pre_encs_len Hm.out (show i + 1 ≤ x.ks.length from hlt))
      have hpx : Hid (encs (pre x (i + 1)) = encs (pre x i) ++ encs (ent x i)) := hid (by rw [pre_succ, encs, encs, encs, List.flatMap_append])
      have hown : ∀ k, (Value.slice A6 L c6).ownBlock = some k → nb + 1 ≤ k ∧ k < wr.heap.size := fun k hk => ⟨hrow.2 k hk, hrow.lt k hk⟩
      obtain ⟨bk, ok, rfl, hbk, -, kk⟩ := int_at hVr.k hlt
      have hbk2 := hbk.2
      have hz0 : (0 : Int) ≤ (i : Int) := by omega
      have hz1 : (i : Int) < (x.ks.length : Int) := by omega
      have b0 : wr.cell? ⟨nb, 0, none⟩ = some (.int .i64 x.h) := hbr.cell 0
      have hkey := may_key Hm.out hlt
      by_cases h0 : x.h = 0
      · obtain ⟨l1, l2, l3⟩ := may_leaf Hm.out h0 hlt
        have hb00 : (x.h == 0) = true := by simpa using h0
        have hzs := hid (show natsOf [kz x.ks i, (kd x.ps i).a, (kd x.ps i).n, (kd x.ps i).g, kz x.gs i] = ent x i from by unfold natsOf ent entZ; rw [if_pos h0]; rfl)
        have hzn := hid (show ∀ z ∈ [kz x.ks i, (kd x.ps i).a, (kd x.ps i).n, (kd x.ps i).g, kz x.gs i], Nm z from fun z hz => (List.mem_cons.1 hz).elim (fun h => h ▸ hkey) (l3 z))
        obtain ⟨bp, op, rfl, hbp, -, kp0, kp1, kp2⟩ := kd_at hVr.p (show i < x.ps.length by omega)
        obtain ⟨bg, og, rfl, hbg, -, kg⟩ := int_at hVr.g (show i < x.gs.length by omega)
        have hbg2 := hbg.2
        have hz2 : (i : Int) < (x.ps.length : Int) := by omega
        have hz3 : (i : Int) < (x.gs.length : Int) := by omega
        have b2 : wr.cell? ⟨nb, 2, none⟩ = some (.slice (some ⟨bp, op, none⟩) x.ps.length c2) := hbr.cell 2
        have Hown := hid hown
        clear l1 l2 l3 h0 hkey hown
        go_wp2_with fail
        obtain ⟨W6, hW6⟩ : ∃ W6, W6 = wr.alloc (.cells #[.int .i64 (kd x.ps i).a, .int .i64 (kd x.ps i).n, .int .i64 (kd x.ps i).g] 54) := ⟨_, rfl⟩
        have hp6 : Blk W6 wr.heap.size #[.int .i64 (kd x.ps i).a, .int .i64 (kd x.ps i).n, .int .i64 (kd x.ps i).g] 54 := by rw [hW6]; exact Blk.new _ _ _
        have hf6 : Fr Nil wr W6 := by rw [hW6]; exact (Fr.refl _ _).alloc _
        rw [← hW6]
        clear hW6
        have hrow6 := hrow.fr hf6 (fun _ _ h => h)
        obtain ⟨pb, hpb⟩ : ∃ pb, pb = wr.heap.size := ⟨_, rfl⟩
        rw [← hpb] at hp6 ⊢
        have hpb2 : wr.heap.size ≤ pb := by omega
        clear hpb
        have hS : (fun w' : World => w'.cell? ⟨pb, 0, none⟩ = some (.int .i64 (kd x.ps i).a) ∧ w'.cell? ⟨pb, 1, none⟩ = some (.int .i64 (kd x.ps i).n) ∧ w'.cell? ⟨pb, 2, none⟩ = some (.int .i64 (kd x.ps i).g) ∧ w'.cell? ⟨nb, 3, none⟩ = some (.slice (some ⟨bg, og, none⟩) x.gs.length c3) ∧ w'.cell? ⟨bg, og + i, none⟩ = some (.int .i64 (kz x.gs i)) ∧ w'.cell? ⟨nb, 1, none⟩ = some (.slice (some ⟨bk, ok, none⟩) x.ks.length c1) ∧ w'.cell? ⟨bk, ok + i, none⟩ = some (.int .i64 (kz x.ks i))) W6.drew := ⟨hp6.cell 0, hp6.cell 1, hp6.cell 2, (hbr.fr hf6 fun h => h).cell 3, hf6.cell kg fun h => h, (hbr.fr hf6 fun h => h).cell 1, hf6.cell kk fun h => h⟩
        clear hbr hVr kk kp0 kp1 kp2 b0 b1
        refine wpU_region (k := 20) (S := (fun w' : World => w'.cell? ⟨pb, 0, none⟩ = some (.int .i64 (kd x.ps i).a) ∧ w'.cell? ⟨pb, 1, none⟩ = some (.int .i64 (kd x.ps i).n) ∧ w'.cell? ⟨pb, 2, none⟩ = some (.int .i64 (kd x.ps i).g) ∧ w'.cell? ⟨nb, 3, none⟩ = some (.slice (some ⟨bg, og, none⟩) x.gs.length c3) ∧ w'.cell? ⟨bg, og + i, none⟩ = some (.int .i64 (kz x.gs i)) ∧ w'.cell? ⟨nb, 1, none⟩ = some (.slice (some ⟨bk, ok, none⟩) x.ks.length c1) ∧ w'.cell? ⟨bk, ok + i, none⟩ = some (.int .i64 (kz x.ks i)))) (by kernel_rfl) ?_
        refine wpU_take (i := 0) (v := ?_) rfl (by kernel_rfl) (by kernel_rfl) (fun _ _ _ h => h) _ _ _ _ (by kernel_rfl) (by kernel_rfl) (by kernel_rfl) (Or.inl ⟨by kernel_rfl, ?_⟩) hS ?_
        rotate_left
        · (intro w9 hS9; obtain ⟨s0, s1, s2, s3, s4, s5, s6⟩ := hS9; go_simp); (try with_reducible rfl)
        try simp only [Act.put, List.getElem_toArray, List.getElem_cons_succ, List.getElem_cons_zero, List.setIfInBounds_toArray, List.set_cons_zero, List.set_cons_succ]
        refine wpU_take (i := 1) (v := ?_) rfl (by kernel_rfl) (by kernel_rfl) (fun _ _ _ h => h) _ _ _ _ (by kernel_rfl) (by kernel_rfl) (by kernel_rfl) (Or.inl ⟨by kernel_rfl, ?_⟩) hS ?_
        rotate_left
        · (intro w9 hS9; obtain ⟨s0, s1, s2, s3, s4, s5, s6⟩ := hS9; go_simp); (try with_reducible rfl)
        try simp only [Act.put, List.getElem_toArray, List.getElem_cons_succ, List.getElem_cons_zero, List.setIfInBounds_toArray, List.set_cons_zero, List.set_cons_succ]
        refine wpU_take (i := 2) (v := ?_) rfl (by kernel_rfl) (by kernel_rfl) (fun _ _ _ h => h) _ _ _ _ (by kernel_rfl) (by kernel_rfl) (by kernel_rfl) (Or.inl ⟨by kernel_rfl, ?_⟩) hS ?_
        rotate_left
        · (intro w9 hS9; obtain ⟨s0, s1, s2, s3, s4, s5, s6⟩ := hS9; go_simp); (try with_reducible rfl)
        try simp only [Act.put, List.getElem_toArray, List.getElem_cons_succ, List.getElem_cons_zero, List.setIfInBounds_toArray, List.set_cons_zero, List.set_cons_succ]
        refine wpU_take (i := 3) (v := ?_) rfl (by kernel_rfl) (by kernel_rfl) (fun _ _ _ h => h) _ _ _ _ (by kernel_rfl) (by kernel_rfl) (by kernel_rfl) (Or.inl ⟨by kernel_rfl, ?_⟩) hS ?_
        rotate_left
        · (intro w9 hS9; obtain ⟨s0, s1, s2, s3, s4, s5, s6⟩ := hS9; go_simp); (try with_reducible rfl)
        try simp only [Act.put, List.getElem_toArray, List.getElem_cons_succ, List.getElem_cons_zero, List.setIfInBounds_toArray, List.set_cons_zero, List.set_cons_succ]
        refine wpU_take (i := 4) (v := ?_) rfl (by kernel_rfl) (by kernel_rfl) (fun _ _ _ h => h) _ _ _ _ (by kernel_rfl) (by kernel_rfl) (by kernel_rfl) (Or.inl ⟨by kernel_rfl, ?_⟩) hS ?_
        rotate_left
        · (intro w9 hS9; obtain ⟨s0, s1, s2, s3, s4, s5, s6⟩ := hS9; go_simp); (try with_reducible rfl)
        try simp only [Act.put, List.getElem_toArray, List.getElem_cons_succ, List.getElem_cons_zero, List.setIfInBounds_toArray, List.set_cons_zero, List.set_cons_succ]
        refine wpU_take (i := 5) (v := ?_) rfl (by kernel_rfl) (by kernel_rfl) (fun _ _ _ h => h) _ _ _ _ (by kernel_rfl) (by kernel_rfl) (by kernel_rfl) (Or.inl ⟨by kernel_rfl, ?_⟩) hS ?_
        rotate_left
        · (intro w9 hS9; obtain ⟨s0, s1, s2, s3, s4, s5, s6⟩ := hS9; go_simp); (try with_reducible rfl)
        try simp only [Act.put, List.getElem_toArray, List.getElem_cons_succ, List.getElem_cons_zero, List.setIfInBounds_toArray, List.set_cons_zero, List.set_cons_succ]
        refine wpU_take (i := 6) (v := ?_) rfl (by kernel_rfl) (by kernel_rfl) (fun _ _ _ h => h) _ _ _ _ (by kernel_rfl) (by kernel_rfl) (by kernel_rfl) (Or.inl ⟨by kernel_rfl, ?_⟩) hS ?_
        rotate_left
        · (intro w9 hS9; obtain ⟨s0, s1, s2, s3, s4, s5, s6⟩ := hS9; go_simp); (try with_reducible rfl)
        try simp only [Act.put, List.getElem_toArray, List.getElem_cons_succ, List.getElem_cons_zero, List.setIfInBounds_toArray, List.set_cons_zero, List.set_cons_succ]
        refine wpU_take (i := 7) (v := ?_) rfl (by kernel_rfl) (by kernel_rfl) (fun _ _ _ h => h) _ _ _ _ (by kernel_rfl) (by kernel_rfl) (by kernel_rfl) (Or.inl ⟨by kernel_rfl, ?_⟩) hS ?_
        rotate_left
        · (intro w9 hS9; obtain ⟨s0, s1, s2, s3, s4, s5, s6⟩ := hS9; go_simp); (try with_reducible rfl)
        try simp only [Act.put, List.getElem_toArray, List.getElem_cons_succ, List.getElem_cons_zero, List.setIfInBounds_toArray, List.set_cons_zero, List.set_cons_succ]
        refine wpU_take (i := 8) (v := ?_) rfl (by kernel_rfl) (by kernel_rfl) (fun _ _ _ h => h) _ _ _ _ (by kernel_rfl) (by kernel_rfl) (by kernel_rfl) (Or.inl ⟨by kernel_rfl, ?_⟩) hS ?_
        rotate_left
        · (intro w9 hS9; obtain ⟨s0, s1, s2, s3, s4, s5, s6⟩ := hS9; go_simp); (try with_reducible rfl)
        try simp only [Act.put, List.getElem_toArray, List.getElem_cons_succ, List.getElem_cons_zero, List.setIfInBounds_toArray, List.set_cons_zero, List.set_cons_succ]
        refine wpU_take (i := 9) (v := ?_) rfl (by kernel_rfl) (by kernel_rfl) (fun _ _ _ h => h) _ _ _ _ (by kernel_rfl) (by kernel_rfl) (by kernel_rfl) (Or.inl ⟨by kernel_rfl, ?_⟩) hS ?_
        rotate_left
        · (intro w9 hS9; obtain ⟨s0, s1, s2, s3, s4, s5, s6⟩ := hS9; go_simp); (try with_reducible rfl)
        try simp only [Act.put, List.getElem_toArray, List.getElem_cons_succ, List.getElem_cons_zero, List.setIfInBounds_toArray, List.set_cons_zero, List.set_cons_succ]
        refine wpU_take (i := 10) (v := ?_) rfl (by kernel_rfl) (by kernel_rfl) (fun _ _ _ h => h) _ _ _ _ (by kernel_rfl) (by kernel_rfl) (by kernel_rfl) (Or.inl ⟨by kernel_rfl, ?_⟩) hS ?_
        rotate_left
        · (intro w9 hS9; obtain ⟨s0, s1, s2, s3, s4, s5, s6⟩ := hS9; go_simp); (try with_reducible rfl)
        try simp only [Act.put, List.getElem_toArray, List.getElem_cons_succ, List.getElem_cons_zero, List.setIfInBounds_toArray, List.set_cons_zero, List.set_cons_succ]
        refine wpU_take (i := 11) (v := ?_) rfl (by kernel_rfl) (by kernel_rfl) (fun _ _ _ h => h) _ _ _ _ (by kernel_rfl) (by kernel_rfl) (by kernel_rfl) (Or.inl ⟨by kernel_rfl, ?_⟩) hS ?_
        rotate_left
        · (intro w9 hS9; obtain ⟨s0, s1, s2, s3, s4, s5, s6⟩ := hS9; go_simp); (try with_reducible rfl)
        try simp only [Act.put, List.getElem_toArray, List.getElem_cons_succ, List.getElem_cons_zero, List.setIfInBounds_toArray, List.set_cons_zero, List.set_cons_succ]
        refine wpU_take (i := 12) (v := ?_) rfl (by kernel_rfl) (by kernel_rfl) (fun _ _ _ h => h) _ _ _ _ (by kernel_rfl) (by kernel_rfl) (by kernel_rfl) (Or.inl ⟨by kernel_rfl, ?_⟩) hS ?_
        rotate_left
        · (intro w9 hS9; obtain ⟨s0, s1, s2, s3, s4, s5, s6⟩ := hS9; go_simp); (try with_reducible rfl)
        try simp only [Act.put, List.getElem_toArray, List.getElem_cons_succ, List.getElem_cons_zero, List.setIfInBounds_toArray, List.set_cons_zero, List.set_cons_succ]
        refine wpU_take (i := 13) (v := ?_) rfl (by kernel_rfl) (by kernel_rfl) (fun _ _ _ h => h) _ _ _ _ (by kernel_rfl) (by kernel_rfl) (by kernel_rfl) (Or.inl ⟨by kernel_rfl, ?_⟩) hS ?_
        rotate_left
        · (intro w9 hS9; obtain ⟨s0, s1, s2, s3, s4, s5, s6⟩ := hS9; go_simp); (try with_reducible rfl)
        try simp only [Act.put, List.getElem_toArray, List.getElem_cons_succ, List.getElem_cons_zero, List.setIfInBounds_toArray, List.set_cons_zero, List.set_cons_succ]
        refine wpU_take (i := 14) (v := ?_) rfl (by kernel_rfl) (by kernel_rfl) (fun _ _ _ h => h) _ _ _ _ (by kernel_rfl) (by kernel_rfl) (by kernel_rfl) (Or.inl ⟨by kernel_rfl, ?_⟩) hS ?_
        rotate_left
        · (intro w9 hS9; obtain ⟨s0, s1, s2, s3, s4, s5, s6⟩ := hS9; go_simp); (try with_reducible rfl)
        try simp only [Act.put, List.getElem_toArray, List.getElem_cons_succ, List.getElem_cons_zero, List.setIfInBounds_toArray, List.set_cons_zero, List.set_cons_succ]
        refine wpU_take (i := 15) (v := ?_) rfl (by kernel_rfl) (by kernel_rfl) (fun _ _ _ h => h) _ _ _ _ (by kernel_rfl) (by kernel_rfl) (by kernel_rfl) (Or.inl ⟨by kernel_rfl, ?_⟩) hS ?_
        rotate_left
        · (intro w9 hS9; obtain ⟨s0, s1, s2, s3, s4, s5, s6⟩ := hS9; go_simp); (try with_reducible rfl)
        try simp only [Act.put, List.getElem_toArray, List.getElem_cons_succ, List.getElem_cons_zero, List.setIfInBounds_toArray, List.set_cons_zero, List.set_cons_succ]
        refine wpU_take (i := 16) (v := ?_) rfl (by kernel_rfl) (by kernel_rfl) (fun _ _ _ h => h) _ _ _ _ (by kernel_rfl) (by kernel_rfl) (by kernel_rfl) (Or.inl ⟨by kernel_rfl, ?_⟩) hS ?_
        rotate_left
        · (intro w9 hS9; obtain ⟨s0, s1, s2, s3, s4, s5, s6⟩ := hS9; go_simp); (try with_reducible rfl)
        try simp only [Act.put, List.getElem_toArray, List.getElem_cons_succ, List.getElem_cons_zero, List.setIfInBounds_toArray, List.set_cons_zero, List.set_cons_succ]
        refine wpU_next (i := 17) rfl (by kernel_rfl) (fun K hK => ?_)
        go_simp
        obtain ⟨W7, hW7⟩ : ∃ W7, W7 = (W6.alloc (.cells (ints .i64 [kz x.ks i, (kd x.ps i).a, (kd x.ps i).n, (kd x.ps i).g, kz x.gs i]).toArray 3)).drew := ⟨_, rfl⟩
        have hf7 : Fr Nil W6.drew W7 := by rw [hW7]; exact (Fr.refl Nil W6.drew).alloc _
        have hv7 : View W7 (New W6.drew) 1 (.slice (some ⟨W6.heap.size, 0, none⟩) 5 5) 5 (ints .i64 [kz x.ks i, (kd x.ps i).a, (kd x.ps i).n, (kd x.ps i).g, kz x.gs i]) := by
          rw [hW7]; exact View.lit W6.drew (ints .i64 [kz x.ks i, (kd x.ps i).a, (kd x.ps i).n, (kd x.ps i).g, kz x.gs i]).toArray 3 (0, 0) 5 rfl (by decide)
        have hS7 : (fun w' : World => w'.cell? ⟨pb, 0, none⟩ = some (.int .i64 (kd x.ps i).a) ∧ w'.cell? ⟨pb, 1, none⟩ = some (.int .i64 (kd x.ps i).n) ∧ w'.cell? ⟨pb, 2, none⟩ = some (.int .i64 (kd x.ps i).g) ∧ w'.cell? ⟨nb, 3, none⟩ = some (.slice (some ⟨bg, og, none⟩) x.gs.length c3) ∧ w'.cell? ⟨bg, og + i, none⟩ = some (.int .i64 (kz x.gs i)) ∧ w'.cell? ⟨nb, 1, none⟩ = some (.slice (some ⟨bk, ok, none⟩) x.ks.length c1) ∧ w'.cell? ⟨bk, ok + i, none⟩ = some (.int .i64 (kz x.ks i))) W7 := mk7n hf7 hS
        simp only [ints, List.map_cons, List.map_nil] at hW7
        rw [← hW7]
        clear hW7
        refine hK.out _ _ (fun _ => hS7) ?_
        clear hK K
        try simp only [Act.put, List.getElem_toArray, List.getElem_cons_succ, List.getElem_cons_zero, List.setIfInBounds_toArray, List.set_cons_zero, List.set_cons_succ]
        refine wpU_next (i := 18) rfl (by kernel_rfl) (fun K hK => ?_)
        go_simp
        refine (refput_ok _ _ 5 5 [kz x.ks i, (kd x.ps i).a, (kd x.ps i).n, (kd x.ps i).g, kz x.gs i] rfl (by decide) hzn.out W7 hv7).mono ?_
        rintro e w7 ⟨A7, c7, rfl, r7, f7⟩
        rw [hzs.out] at r7 ⊢
        have hS8 : (fun w' : World => w'.cell? ⟨pb, 0, none⟩ = some (.int .i64 (kd x.ps i).a) ∧ w'.cell? ⟨pb, 1, none⟩ = some (.int .i64 (kd x.ps i).n) ∧ w'.cell? ⟨pb, 2, none⟩ = some (.int .i64 (kd x.ps i).g) ∧ w'.cell? ⟨nb, 3, none⟩ = some (.slice (some ⟨bg, og, none⟩) x.gs.length c3) ∧ w'.cell? ⟨bg, og + i, none⟩ = some (.int .i64 (kz x.gs i)) ∧ w'.cell? ⟨nb, 1, none⟩ = some (.slice (some ⟨bk, ok, none⟩) x.ks.length c1) ∧ w'.cell? ⟨bk, ok + i, none⟩ = some (.int .i64 (kz x.ks i))) w7 := mk7n f7 hS7
        have hf67 : Fr Nil wr w7 := (hf6.drew.then hf7).then f7
        have hrow7 := hrow6.drew.fr (hf7.then f7) (fun _ _ h => h)
        have hbnd : L + (encs (ent x i)).length ≤ 1000 := by
          have h1 := hpl.out
          rw [hpx.out, List.length_append, ← hxs.out, ← hLx.out] at h1
          omega
        refine hK.out _ _ (fun _ => hS8) ?_
        clear hK K
        try simp only [Act.put, List.getElem_toArray, List.getElem_cons_succ, List.getElem_cons_zero, List.setIfInBounds_toArray, List.set_cons_zero, List.set_cons_succ]
        refine wpU_next (i := 19) rfl (by kernel_rfl) (fun K hK => ?_)
        refine step_app_view rfl _ _ 29 (by rfl) (.int .u8 0) 1 Try.underlying29 info_u8 rfl (by decide) hrow7 (by rfl) r7.view (by rfl) (bys_cell _) (by omega) (by decide) ?_
        intro A8 c8 w8 q1 q2
        have hS9 : (fun w' : World => w'.cell? ⟨pb, 0, none⟩ = some (.int .i64 (kd x.ps i).a) ∧ w'.cell? ⟨pb, 1, none⟩ = some (.int .i64 (kd x.ps i).n) ∧ w'.cell? ⟨pb, 2, none⟩ = some (.int .i64 (kd x.ps i).g) ∧ w'.cell? ⟨nb, 3, none⟩ = some (.slice (some ⟨bg, og, none⟩) x.gs.length c3) ∧ w'.cell? ⟨bg, og + i, none⟩ = some (.int .i64 (kz x.gs i)) ∧ w'.cell? ⟨nb, 1, none⟩ = some (.slice (some ⟨bk, ok, none⟩) x.ks.length c1) ∧ w'.cell? ⟨bk, ok + i, none⟩ = some (.int .i64 (kz x.ks i))) w8 := mk7 q2 hS8 (fun h => by have h1 := (Hown.out _ h).1; have h2 := (Hown.out _ h).2; dsimp only at h1 h2; omega) (fun h => by have h1 := (Hown.out _ h).1; have h2 := (Hown.out _ h).2; dsimp only at h1 h2; omega) (fun h => by have h1 := (Hown.out _ h).1; have h2 := (Hown.out _ h).2; dsimp only at h1 h2; omega) (fun h => by have h1 := (Hown.out _ h).1; have h2 := (Hown.out _ h).2; dsimp only at h1 h2; omega) (fun h => by have h1 := (Hown.out _ h).1; have h2 := (Hown.out _ h).2; dsimp only at h1 h2; omega) (fun h => by have h1 := (Hown.out _ h).1; have h2 := (Hown.out _ h).2; dsimp only at h1 h2; omega) (fun h => by have h1 := (Hown.out _ h).1; have h2 := (Hown.out _ h).2; dsimp only at h1 h2; omega)
        have hgr := grow_u8 hnw2 hfr hrow hf67 q1 q2
        refine hK.out _ _ (fun _ => hS9) ?_
        clear hK K
        try simp only [Act.put, List.getElem_toArray, List.getElem_cons_succ, List.getElem_cons_zero, List.setIfInBounds_toArray, List.set_cons_zero, List.set_cons_succ]
        refine wpU_next (i := 20) rfl (by kernel_rfl) (fun K hK => ?_)
        go_simp
        refine hK.out _ _ (fun h => absurd rfl h.1) ?_
        refine wpU_done (by kernel_rfl) ?_ _
        clear hK K
        go_wp2
        go_roundw
        case rel =>
          refine ⟨i + 1, A8, L + (encs (ent x i)).length, c8, xs ++ encs (ent x i), by go_num, by omega, rfl, hgr.2, hgr.1, by omega, ?_, ?_⟩
          · exact hid (by rw [hpx.out, ← hxs.out])
          · exact hid (by rw [List.length_append, ← hLx.out])
        case measure => simp [intOf]; omega
      · obtain ⟨l1, l3⟩ := may_inner Hm.out h0 hlt
        have hb00 : (x.h == 0) = false := by simpa using h0
        have hzs := hid (show natsOf [kz x.ks i, (kd x.ds i).a, (kd x.ds i).n, (kd x.ds i).g] = ent x i from by unfold natsOf ent entZ; rw [if_neg h0]; rfl)
        have hzn := hid (show ∀ z ∈ [kz x.ks i, (kd x.ds i).a, (kd x.ds i).n, (kd x.ds i).g], Nm z from fun z hz => (List.mem_cons.1 hz).elim (fun h => h ▸ hkey) (l3 z))
        obtain ⟨bp, op, rfl, hbp, -, kp0, kp1, kp2⟩ := kd_at hVr.d (show i < x.ds.length by omega)
        have hz2 : (i : Int) < (x.ds.length : Int) := by omega
        have b4 : wr.cell? ⟨nb, 4, none⟩ = some (.slice (some ⟨bp, op, none⟩) x.ds.length c4) := hbr.cell 4
        have Hown := hid hown
        clear l1 l3 h0 hkey hown
        go_wp2_with fail
        obtain ⟨W6, hW6⟩ : ∃ W6, W6 = wr.alloc (.cells #[.int .i64 (kd x.ds i).a, .int .i64 (kd x.ds i).n, .int .i64 (kd x.ds i).g] 56) := ⟨_, rfl⟩
        have hp6 : Blk W6 wr.heap.size #[.int .i64 (kd x.ds i).a, .int .i64 (kd x.ds i).n, .int .i64 (kd x.ds i).g] 56 := by rw [hW6]; exact Blk.new _ _ _
        have hf6 : Fr Nil wr W6 := by rw [hW6]; exact (Fr.refl _ _).alloc _
        rw [← hW6]
        clear hW6
        have hrow6 := hrow.fr hf6 (fun _ _ h => h)
        obtain ⟨pb, hpb⟩ : ∃ pb, pb = wr.heap.size := ⟨_, rfl⟩
        rw [← hpb] at hp6 ⊢
        have hpb2 : wr.heap.size ≤ pb := by omega
        clear hpb
        have hS : (fun w' : World => w'.cell? ⟨pb, 0, none⟩ = some (.int .i64 (kd x.ds i).a) ∧ w'.cell? ⟨pb, 1, none⟩ = some (.int .i64 (kd x.ds i).n) ∧ w'.cell? ⟨pb, 2, none⟩ = some (.int .i64 (kd x.ds i).g) ∧ w'.cell? ⟨nb, 1, none⟩ = some (.slice (some ⟨bk, ok, none⟩) x.ks.length c1) ∧ w'.cell? ⟨bk, ok + i, none⟩ = some (.int .i64 (kz x.ks i))) W6.drew := ⟨hp6.cell 0, hp6.cell 1, hp6.cell 2, (hbr.fr hf6 fun h => h).cell 1, hf6.cell kk fun h => h⟩
        clear hbr hVr kk kp0 kp1 kp2 b0 b1
        refine wpU_region (k := 15) (S := (fun w' : World => w'.cell? ⟨pb, 0, none⟩ = some (.int .i64 (kd x.ds i).a) ∧ w'.cell? ⟨pb, 1, none⟩ = some (.int .i64 (kd x.ds i).n) ∧ w'.cell? ⟨pb, 2, none⟩ = some (.int .i64 (kd x.ds i).g) ∧ w'.cell? ⟨nb, 1, none⟩ = some (.slice (some ⟨bk, ok, none⟩) x.ks.length c1) ∧ w'.cell? ⟨bk, ok + i, none⟩ = some (.int .i64 (kz x.ks i)))) (by kernel_rfl) ?_
        refine wpU_take (i := 0) (v := ?_) rfl (by kernel_rfl) (by kernel_rfl) (fun _ _ _ h => h) _ _ _ _ (by kernel_rfl) (by kernel_rfl) (by kernel_rfl) (Or.inl ⟨by kernel_rfl, ?_⟩) hS ?_
        rotate_left
        · (intro w9 hS9; obtain ⟨s0, s1, s2, s3, s4⟩ := hS9; go_simp); (try with_reducible rfl)
        try simp only [Act.put, List.getElem_toArray, List.getElem_cons_succ, List.getElem_cons_zero, List.setIfInBounds_toArray, List.set_cons_zero, List.set_cons_succ]
        refine wpU_take (i := 1) (v := ?_) rfl (by kernel_rfl) (by kernel_rfl) (fun _ _ _ h => h) _ _ _ _ (by kernel_rfl) (by kernel_rfl) (by kernel_rfl) (Or.inl ⟨by kernel_rfl, ?_⟩) hS ?_
        rotate_left
        · (intro w9 hS9; obtain ⟨s0, s1, s2, s3, s4⟩ := hS9; go_simp); (try with_reducible rfl)
        try simp only [Act.put, List.getElem_toArray, List.getElem_cons_succ, List.getElem_cons_zero, List.setIfInBounds_toArray, List.set_cons_zero, List.set_cons_succ]
        refine wpU_take (i := 2) (v := ?_) rfl (by kernel_rfl) (by kernel_rfl) (fun _ _ _ h => h) _ _ _ _ (by kernel_rfl) (by kernel_rfl) (by kernel_rfl) (Or.inl ⟨by kernel_rfl, ?_⟩) hS ?_
        rotate_left
        · (intro w9 hS9; obtain ⟨s0, s1, s2, s3, s4⟩ := hS9; go_simp); (try with_reducible rfl)
        try simp only [Act.put, List.getElem_toArray, List.getElem_cons_succ, List.getElem_cons_zero, List.setIfInBounds_toArray, List.set_cons_zero, List.set_cons_succ]
        refine wpU_take (i := 3) (v := ?_) rfl (by kernel_rfl) (by kernel_rfl) (fun _ _ _ h => h) _ _ _ _ (by kernel_rfl) (by kernel_rfl) (by kernel_rfl) (Or.inl ⟨by kernel_rfl, ?_⟩) hS ?_
        rotate_left
        · (intro w9 hS9; obtain ⟨s0, s1, s2, s3, s4⟩ := hS9; go_simp); (try with_reducible rfl)
        try simp only [Act.put, List.getElem_toArray, List.getElem_cons_succ, List.getElem_cons_zero, List.setIfInBounds_toArray, List.set_cons_zero, List.set_cons_succ]
        refine wpU_take (i := 4) (v := ?_) rfl (by kernel_rfl) (by kernel_rfl) (fun _ _ _ h => h) _ _ _ _ (by kernel_rfl) (by kernel_rfl) (by kernel_rfl) (Or.inl ⟨by kernel_rfl, ?_⟩) hS ?_
        rotate_left
        · (intro w9 hS9; obtain ⟨s0, s1, s2, s3, s4⟩ := hS9; go_simp); (try with_reducible rfl)
        try simp only [Act.put, List.getElem_toArray, List.getElem_cons_succ, List.getElem_cons_zero, List.setIfInBounds_toArray, List.set_cons_zero, List.set_cons_succ]
        refine wpU_take (i := 5) (v := ?_) rfl (by kernel_rfl) (by kernel_rfl) (fun _ _ _ h => h) _ _ _ _ (by kernel_rfl) (by kernel_rfl) (by kernel_rfl) (Or.inl ⟨by kernel_rfl, ?_⟩) hS ?_
        rotate_left
        · (intro w9 hS9; obtain ⟨s0, s1, s2, s3, s4⟩ := hS9; go_simp); (try with_reducible rfl)
        try simp only [Act.put, List.getElem_toArray, List.getElem_cons_succ, List.getElem_cons_zero, List.setIfInBounds_toArray, List.set_cons_zero, List.set_cons_succ]
        refine wpU_take (i := 6) (v := ?_) rfl (by kernel_rfl) (by kernel_rfl) (fun _ _ _ h => h) _ _ _ _ (by kernel_rfl) (by kernel_rfl) (by kernel_rfl) (Or.inl ⟨by kernel_rfl, ?_⟩) hS ?_
        rotate_left
        · (intro w9 hS9; obtain ⟨s0, s1, s2, s3, s4⟩ := hS9; go_simp); (try with_reducible rfl)
        try simp only [Act.put, List.getElem_toArray, List.getElem_cons_succ, List.getElem_cons_zero, List.setIfInBounds_toArray, List.set_cons_zero, List.set_cons_succ]
        refine wpU_take (i := 7) (v := ?_) rfl (by kernel_rfl) (by kernel_rfl) (fun _ _ _ h => h) _ _ _ _ (by kernel_rfl) (by kernel_rfl) (by kernel_rfl) (Or.inl ⟨by kernel_rfl, ?_⟩) hS ?_
        rotate_left
        · (intro w9 hS9; obtain ⟨s0, s1, s2, s3, s4⟩ := hS9; go_simp); (try with_reducible rfl)
        try simp only [Act.put, List.getElem_toArray, List.getElem_cons_succ, List.getElem_cons_zero, List.setIfInBounds_toArray, List.set_cons_zero, List.set_cons_succ]
        refine wpU_take (i := 8) (v := ?_) rfl (by kernel_rfl) (by kernel_rfl) (fun _ _ _ h => h) _ _ _ _ (by kernel_rfl) (by kernel_rfl) (by kernel_rfl) (Or.inl ⟨by kernel_rfl, ?_⟩) hS ?_
        rotate_left
        · (intro w9 hS9; obtain ⟨s0, s1, s2, s3, s4⟩ := hS9; go_simp); (try with_reducible rfl)
        try simp only [Act.put, List.getElem_toArray, List.getElem_cons_succ, List.getElem_cons_zero, List.setIfInBounds_toArray, List.set_cons_zero, List.set_cons_succ]
        refine wpU_take (i := 9) (v := ?_) rfl (by kernel_rfl) (by kernel_rfl) (fun _ _ _ h => h) _ _ _ _ (by kernel_rfl) (by kernel_rfl) (by kernel_rfl) (Or.inl ⟨by kernel_rfl, ?_⟩) hS ?_
        rotate_left
        · (intro w9 hS9; obtain ⟨s0, s1, s2, s3, s4⟩ := hS9; go_simp); (try with_reducible rfl)
        try simp only [Act.put, List.getElem_toArray, List.getElem_cons_succ, List.getElem_cons_zero, List.setIfInBounds_toArray, List.set_cons_zero, List.set_cons_succ]
        refine wpU_take (i := 10) (v := ?_) rfl (by kernel_rfl) (by kernel_rfl) (fun _ _ _ h => h) _ _ _ _ (by kernel_rfl) (by kernel_rfl) (by kernel_rfl) (Or.inl ⟨by kernel_rfl, ?_⟩) hS ?_
        rotate_left
        · (intro w9 hS9; obtain ⟨s0, s1, s2, s3, s4⟩ := hS9; go_simp); (try with_reducible rfl)
        try simp only [Act.put, List.getElem_toArray, List.getElem_cons_succ, List.getElem_cons_zero, List.setIfInBounds_toArray, List.set_cons_zero, List.set_cons_succ]
        refine wpU_take (i := 11) (v := ?_) rfl (by kernel_rfl) (by kernel_rfl) (fun _ _ _ h => h) _ _ _ _ (by kernel_rfl) (by kernel_rfl) (by kernel_rfl) (Or.inl ⟨by kernel_rfl, ?_⟩) hS ?_
        rotate_left
        · (intro w9 hS9; obtain ⟨s0, s1, s2, s3, s4⟩ := hS9; go_simp); (try with_reducible rfl)
        try simp only [Act.put, List.getElem_toArray, List.getElem_cons_succ, List.getElem_cons_zero, List.setIfInBounds_toArray, List.set_cons_zero, List.set_cons_succ]
        refine wpU_next (i := 12) rfl (by kernel_rfl) (fun K hK => ?_)
        go_simp
        obtain ⟨W7, hW7⟩ : ∃ W7, W7 = (W6.alloc (.cells (ints .i64 [kz x.ks i, (kd x.ds i).a, (kd x.ds i).n, (kd x.ds i).g]).toArray 3)).drew := ⟨_, rfl⟩
        have hf7 : Fr Nil W6.drew W7 := by rw [hW7]; exact (Fr.refl Nil W6.drew).alloc _
        have hv7 : View W7 (New W6.drew) 1 (.slice (some ⟨W6.heap.size, 0, none⟩) 4 4) 4 (ints .i64 [kz x.ks i, (kd x.ds i).a, (kd x.ds i).n, (kd x.ds i).g]) := by
          rw [hW7]; exact View.lit W6.drew (ints .i64 [kz x.ks i, (kd x.ds i).a, (kd x.ds i).n, (kd x.ds i).g]).toArray 3 (0, 0) 4 rfl (by decide)
        have hS7 : (fun w' : World => w'.cell? ⟨pb, 0, none⟩ = some (.int .i64 (kd x.ds i).a) ∧ w'.cell? ⟨pb, 1, none⟩ = some (.int .i64 (kd x.ds i).n) ∧ w'.cell? ⟨pb, 2, none⟩ = some (.int .i64 (kd x.ds i).g) ∧ w'.cell? ⟨nb, 1, none⟩ = some (.slice (some ⟨bk, ok, none⟩) x.ks.length c1) ∧ w'.cell? ⟨bk, ok + i, none⟩ = some (.int .i64 (kz x.ks i))) W7 := mk5n hf7 hS
        simp only [ints, List.map_cons, List.map_nil] at hW7
        rw [← hW7]
        clear hW7
        refine hK.out _ _ (fun _ => hS7) ?_
        clear hK K
        try simp only [Act.put, List.getElem_toArray, List.getElem_cons_succ, List.getElem_cons_zero, List.setIfInBounds_toArray, List.set_cons_zero, List.set_cons_succ]
        refine wpU_next (i := 13) rfl (by kernel_rfl) (fun K hK => ?_)
        go_simp
        refine (refput_ok _ _ 4 4 [kz x.ks i, (kd x.ds i).a, (kd x.ds i).n, (kd x.ds i).g] rfl (by decide) hzn.out W7 hv7).mono ?_
        rintro e w7 ⟨A7, c7, rfl, r7, f7⟩
        rw [hzs.out] at r7 ⊢
        have hS8 : (fun w' : World => w'.cell? ⟨pb, 0, none⟩ = some (.int .i64 (kd x.ds i).a) ∧ w'.cell? ⟨pb, 1, none⟩ = some (.int .i64 (kd x.ds i).n) ∧ w'.cell? ⟨pb, 2, none⟩ = some (.int .i64 (kd x.ds i).g) ∧ w'.cell? ⟨nb, 1, none⟩ = some (.slice (some ⟨bk, ok, none⟩) x.ks.length c1) ∧ w'.cell? ⟨bk, ok + i, none⟩ = some (.int .i64 (kz x.ks i))) w7 := mk5n f7 hS7
        have hf67 : Fr Nil wr w7 := (hf6.drew.then hf7).then f7
        have hrow7 := hrow6.drew.fr (hf7.then f7) (fun _ _ h => h)
        have hbnd : L + (encs (ent x i)).length ≤ 1000 := by
          have h1 := hpl.out
          rw [hpx.out, List.length_append, ← hxs.out, ← hLx.out] at h1
          omega
        refine hK.out _ _ (fun _ => hS8) ?_
        clear hK K
        try simp only [Act.put, List.getElem_toArray, List.getElem_cons_succ, List.getElem_cons_zero, List.setIfInBounds_toArray, List.set_cons_zero, List.set_cons_succ]
        refine wpU_next (i := 14) rfl (by kernel_rfl) (fun K hK => ?_)
        refine step_app_view rfl _ _ 29 (by rfl) (.int .u8 0) 1 Try.underlying29 info_u8 rfl (by decide) hrow7 (by rfl) r7.view (by rfl) (bys_cell _) (by omega) (by decide) ?_
        intro A8 c8 w8 q1 q2
        have hS9 : (fun w' : World => w'.cell? ⟨pb, 0, none⟩ = some (.int .i64 (kd x.ds i).a) ∧ w'.cell? ⟨pb, 1, none⟩ = some (.int .i64 (kd x.ds i).n) ∧ w'.cell? ⟨pb, 2, none⟩ = some (.int .i64 (kd x.ds i).g) ∧ w'.cell? ⟨nb, 1, none⟩ = some (.slice (some ⟨bk, ok, none⟩) x.ks.length c1) ∧ w'.cell? ⟨bk, ok + i, none⟩ = some (.int .i64 (kz x.ks i))) w8 := mk5 q2 hS8 (fun h => by have h1 := (Hown.out _ h).1; have h2 := (Hown.out _ h).2; dsimp only at h1 h2; omega) (fun h => by have h1 := (Hown.out _ h).1; have h2 := (Hown.out _ h).2; dsimp only at h1 h2; omega) (fun h => by have h1 := (Hown.out _ h).1; have h2 := (Hown.out _ h).2; dsimp only at h1 h2; omega) (fun h => by have h1 := (Hown.out _ h).1; have h2 := (Hown.out _ h).2; dsimp only at h1 h2; omega) (fun h => by have h1 := (Hown.out _ h).1; have h2 := (Hown.out _ h).2; dsimp only at h1 h2; omega)
        have hgr := grow_u8 hnw2 hfr hrow hf67 q1 q2
        refine hK.out _ _ (fun _ => hS9) ?_
        clear hK K
        try simp only [Act.put, List.getElem_toArray, List.getElem_cons_succ, List.getElem_cons_zero, List.setIfInBounds_toArray, List.set_cons_zero, List.set_cons_succ]
        refine wpU_next (i := 15) rfl (by kernel_rfl) (fun K hK => ?_)
        go_simp
        refine hK.out _ _ (fun h => absurd rfl h.1) ?_
        refine wpU_done (by kernel_rfl) ?_ _
        clear hK K
        go_wp2
        go_roundw
        case rel =>
          refine ⟨i + 1, A8, L + (encs (ent x i)).length, c8, xs ++ encs (ent x i), by go_num, by omega, rfl, hgr.2, hgr.1, by omega, ?_, ?_⟩
          · exact hid (by rw [hpx.out, ← hxs.out])
          · exact hid (by rw [List.length_append, ← hLx.out])
        case measure => simp [intOf]; omega
    · have hall : Hid (xs = encs (pre x x.ks.length)) := hid (by rw [hxs.out, show i = x.ks.length by omega])
      clear hbr hVr
      go_wp2
      go_ret2
      rw [← hall.out, ← hLx.out]
      exact ⟨_, _, rfl, hrow.mono fun k (hk : nb + 1 ≤ k) => by show w.heap.size ≤ k; omega, hf2.trans hfr (fun k (hk : nb + 1 ≤ k) => .inr (by omega))⟩
end Go.Proofs.Ytidpabcfcdiecaa

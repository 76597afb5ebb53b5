/- Do: on both, the third part. -/
import Derived.Test.YtidjmjfoheagmaaQPdE
set_option linter.unusedSimpArgs false
set_option linter.unusedVariables false
namespace Go.Proofs.Ytidjmjfoheagmaa
open Go.RowKit
set_option maxRecDepth 20000 in
set_option maxHeartbeats 600000 in
theorem do_rot (T TM S : Nat → Prop) (pb mb : Nat) (p : Pl) (m : Nat) (d : Dd) (Ak Af : Option Addr) (ck cf kl fl : Nat) (hdd : d.d = 9) (w : World) (h : Pair2 w T TM pb mb p p) (hok : p.okm m) (hm : m ≤ 900000) (hd : DdOk d kl fl w S Ak Af ck cf) (hS : ∀ k, S k → ¬ T k ∧ ¬ TM k) :
    Calls Try.prog 22 #[.pointer (some ⟨pb, 0, none⟩), .pointer (some ⟨mb, 0, none⟩), .agg #[.int .i64 d.d, .int .i64 d.n, .int .u8 (d.b : Int), .int .u32 (d.mask : Int), .slice Ak kl ck, .slice Af fl cf]] w (DoPost w T TM pb mb d p) := by
  have hpok := hok.ok (by omega)
  obtain ⟨hn, hb, hmask, hkl, hfl, hkv, hfv⟩ := hd
  have Hok := hid hpok
  have HP := hid h
  have HS := hid hS
  have HK := hid hkv
  have HV := hid hfv
  clear hpok h hS hkv hfv hok
  have E := hid (show doP d p = (rtP p d.n (d.b : Int) d.mask) from by unfold doP; rw [if_neg (by omega), if_neg (by omega), if_neg (by omega), if_neg (by omega), if_neg (by omega), if_pos hdd])
  have Hdd := hid hdd
  have Hfl := hid hfl.1
  have hfl20 := hfl.2
  clear hdd hfl
  go_enter Try.func22, Try.ntmps22
  go_upto_region 1 with (fail)
  obtain ⟨w1, hw1⟩ : ∃ w1, w1 = w.alloc (.cells #[.int .i64 d.d, .int .i64 d.n, .int .u8 (d.b : Int), .int .u32 (d.mask : Int), .slice Ak kl ck, .slice Af fl cf] 55) := ⟨_, rfl⟩
  have b1 : Blk w1 w.heap.size #[.int .i64 d.d, .int .i64 d.n, .int .u8 (d.b : Int), .int .u32 (d.mask : Int), .slice Ak kl ck, .slice Af fl cf] 55 := by rw [hw1]; exact Blk.new _ _ _
  have f1 : Fr Nil w w1 := by rw [hw1]; exact (Fr.refl _ _).alloc _
  rw [← hw1]
  clear hw1
  obtain ⟨db, hdb⟩ : ∃ db, db = w.heap.size := ⟨_, rfl⟩
  rw [← hdb] at b1 ⊢
  have Hdb := hid (show ∀ k, T k ∨ TM k → k < db from fun k hk => by rw [hdb]; exact hk.elim (HP.out.lp k) (HP.out.lm k))
  have Hdw := hid (show w.heap.size ≤ db from by omega)
  have HB1 := hid b1
  have F1 := hid f1
  have HP1 := hid (HP.out.nil f1)
  have HK1 := hid (HK.out.fr f1 fun _ _ _ h => h)
  have HV1 := hid (HV.out.fr f1 fun _ _ _ h => h)
  have hd0 : w1.cell? ⟨db, 0, none⟩ = some (.int .i64 d.d) := b1.cell 0
  clear b1 f1 hdb HP HK HV
  rw [Hdd.out] at hd0
  go_upto_region 24 with (fail)
  have ed : Fr Nil w1 w1.drew := (Fr.refl _ _).drew
  have hS2 : (fun w' : World => w'.cell? ⟨db, 1, none⟩ = some (.int .i64 d.n) ∧ w'.cell? ⟨db, 2, none⟩ = some (.int .u8 (d.b : Int)) ∧ w'.cell? ⟨db, 3, none⟩ = some (.int .u32 (d.mask : Int))) w1.drew := ⟨HB1.out.cell 1, HB1.out.cell 2, HB1.out.cell 3⟩
  have HPd := hid (HP1.out.nil ed)
  obtain ⟨q, hq⟩ : ∃ q, q = rtP p d.n (d.b : Int) d.mask := ⟨_, rfl⟩
  have Hq := hid hq
  clear hq
  refine wpU_region (k := 19) (S := fun w' : World => w'.cell? ⟨db, 1, none⟩ = some (.int .i64 d.n) ∧ w'.cell? ⟨db, 2, none⟩ = some (.int .u8 (d.b : Int)) ∧ w'.cell? ⟨db, 3, none⟩ = some (.int .u32 (d.mask : Int))) (by kernel_rfl) ?_
  have hwb : IntKind.i64.wrap (d.b : Int) = (d.b : Int) := by rw [IntKind.wrap_i64]; omega
  refine wpU_take (i := 0) (v := ?_) rfl (by kernel_rfl) (by kernel_rfl) (fun _ _ _ h => h) _ _ _ _ (by kernel_rfl) (by kernel_rfl) (by kernel_rfl) (Or.inl ⟨by kernel_rfl, ?_⟩) hS2 ?_
  rotate_left
  · (intro w9 hS9; obtain ⟨s0, s1, s2⟩ := hS9; go_simp); (try with_reducible rfl)
  try simp only [Act.put, List.getElem_toArray, List.getElem_cons_succ, List.getElem_cons_zero, List.setIfInBounds_toArray, List.set_cons_zero, List.set_cons_succ]
  refine wpU_take (i := 1) (v := ?_) rfl (by kernel_rfl) (by kernel_rfl) (fun _ _ _ h => h) _ _ _ _ (by kernel_rfl) (by kernel_rfl) (by kernel_rfl) (Or.inl ⟨by kernel_rfl, ?_⟩) hS2 ?_
  rotate_left
  · (intro w9 hS9; obtain ⟨s0, s1, s2⟩ := hS9; go_simp); (try with_reducible rfl)
  try simp only [Act.put, List.getElem_toArray, List.getElem_cons_succ, List.getElem_cons_zero, List.setIfInBounds_toArray, List.set_cons_zero, List.set_cons_succ]
  refine wpU_take (i := 2) (v := ?_) rfl (by kernel_rfl) (by kernel_rfl) (fun _ _ _ h => h) _ _ _ _ (by kernel_rfl) (by kernel_rfl) (by kernel_rfl) (Or.inl ⟨by kernel_rfl, ?_⟩) hS2 ?_
  rotate_left
  · (intro w9 hS9; obtain ⟨s0, s1, s2⟩ := hS9; go_simp); (try with_reducible rfl)
  try simp only [Act.put, List.getElem_toArray, List.getElem_cons_succ, List.getElem_cons_zero, List.setIfInBounds_toArray, List.set_cons_zero, List.set_cons_succ]
  refine wpU_take (i := 3) (v := ?_) rfl (by kernel_rfl) (by kernel_rfl) (fun _ _ _ h => h) _ _ _ _ (by kernel_rfl) (by kernel_rfl) (by kernel_rfl) (Or.inl ⟨by kernel_rfl, ?_⟩) hS2 ?_
  rotate_left
  · (intro w9 hS9; obtain ⟨s0, s1, s2⟩ := hS9; go_simp); (try with_reducible rfl)
  try simp only [Act.put, List.getElem_toArray, List.getElem_cons_succ, List.getElem_cons_zero, List.setIfInBounds_toArray, List.set_cons_zero, List.set_cons_succ]
  refine wpU_take (i := 4) (v := ?_) rfl (by kernel_rfl) (by kernel_rfl) (fun _ _ _ h => h) _ _ _ _ (by kernel_rfl) (by kernel_rfl) (by kernel_rfl) (Or.inl ⟨by kernel_rfl, ?_⟩) hS2 ?_
  rotate_left
  · (intro w9 hS9; obtain ⟨s0, s1, s2⟩ := hS9; go_simp); (try with_reducible rfl)
  try simp only [Act.put, List.getElem_toArray, List.getElem_cons_succ, List.getElem_cons_zero, List.setIfInBounds_toArray, List.set_cons_zero, List.set_cons_succ]
  refine wpU_take (i := 5) (v := ?_) rfl (by kernel_rfl) (by kernel_rfl) (fun _ _ _ h => h) _ _ _ _ (by kernel_rfl) (by kernel_rfl) (by kernel_rfl) (Or.inl ⟨by kernel_rfl, ?_⟩) hS2 ?_
  rotate_left
  · (intro w9 hS9; obtain ⟨s0, s1, s2⟩ := hS9; go_simp); (try with_reducible rfl)
  try simp only [Act.put, List.getElem_toArray, List.getElem_cons_succ, List.getElem_cons_zero, List.setIfInBounds_toArray, List.set_cons_zero, List.set_cons_succ]
  refine wpU_take (i := 6) (v := ?_) rfl (by kernel_rfl) (by kernel_rfl) (fun _ _ _ h => h) _ _ _ _ (by kernel_rfl) (by kernel_rfl) (by kernel_rfl) (Or.inl ⟨by kernel_rfl, ?_⟩) hS2 ?_
  rotate_left
  · (intro w9 hS9; obtain ⟨s0, s1, s2⟩ := hS9; go_simp); (try with_reducible rfl)
  try simp only [Act.put, List.getElem_toArray, List.getElem_cons_succ, List.getElem_cons_zero, List.setIfInBounds_toArray, List.set_cons_zero, List.set_cons_succ]
  refine wpU_take (i := 7) (v := ?_) rfl (by kernel_rfl) (by kernel_rfl) (fun _ _ _ h => h) _ _ _ _ (by kernel_rfl) (by kernel_rfl) (by kernel_rfl) (Or.inl ⟨by kernel_rfl, ?_⟩) hS2 ?_
  rotate_left
  · (intro w9 hS9; obtain ⟨s0, s1, s2⟩ := hS9; go_simp); (try with_reducible rfl)
  try simp only [Act.put, List.getElem_toArray, List.getElem_cons_succ, List.getElem_cons_zero, List.setIfInBounds_toArray, List.set_cons_zero, List.set_cons_succ]
  refine wpU_take (i := 9) (v := ?_) rfl (by kernel_rfl) (by kernel_rfl) (fun _ _ _ h => h) _ _ _ _ (by kernel_rfl) (by kernel_rfl) (by kernel_rfl) (Or.inl ⟨by kernel_rfl, ?_⟩) hS2 ?_
  rotate_left
  · (intro w9 hS9; obtain ⟨s0, s1, s2⟩ := hS9; go_simp); (try with_reducible rfl)
  try simp only [Act.put, List.getElem_toArray, List.getElem_cons_succ, List.getElem_cons_zero, List.setIfInBounds_toArray, List.set_cons_zero, List.set_cons_succ]
  refine wpU_take (i := 10) (v := ?_) rfl (by kernel_rfl) (by kernel_rfl) (fun _ _ _ h => h) _ _ _ _ (by kernel_rfl) (by kernel_rfl) (by kernel_rfl) (Or.inl ⟨by kernel_rfl, ?_⟩) hS2 ?_
  rotate_left
  · (intro w9 hS9; obtain ⟨s0, s1, s2⟩ := hS9; go_simp); (try with_reducible rfl)
  try simp only [Act.put, List.getElem_toArray, List.getElem_cons_succ, List.getElem_cons_zero, List.setIfInBounds_toArray, List.set_cons_zero, List.set_cons_succ]
  refine wpU_take (i := 11) (v := ?_) rfl (by kernel_rfl) (by kernel_rfl) (fun _ _ _ h => h) _ _ _ _ (by kernel_rfl) (by kernel_rfl) (by kernel_rfl) (Or.inl ⟨by kernel_rfl, ?_⟩) hS2 ?_
  rotate_left
  · (intro w9 hS9; obtain ⟨s0, s1, s2⟩ := hS9; go_simp); (try with_reducible rfl)
  try simp only [Act.put, List.getElem_toArray, List.getElem_cons_succ, List.getElem_cons_zero, List.setIfInBounds_toArray, List.set_cons_zero, List.set_cons_succ]
  refine wpU_take (i := 12) (v := ?_) rfl (by kernel_rfl) (by kernel_rfl) (fun _ _ _ h => h) _ _ _ _ (by kernel_rfl) (by kernel_rfl) (by kernel_rfl) (Or.inl ⟨by kernel_rfl, ?_⟩) hS2 ?_
  rotate_left
  · (intro w9 hS9; obtain ⟨s0, s1, s2⟩ := hS9; go_simp); (try with_reducible rfl)
  try simp only [Act.put, List.getElem_toArray, List.getElem_cons_succ, List.getElem_cons_zero, List.setIfInBounds_toArray, List.set_cons_zero, List.set_cons_succ]
  refine wpU_take (i := 13) (v := ?_) rfl (by kernel_rfl) (by kernel_rfl) (fun _ _ _ h => h) _ _ _ _ (by kernel_rfl) (by kernel_rfl) (by kernel_rfl) (Or.inl ⟨by kernel_rfl, ?_⟩) hS2 ?_
  rotate_left
  · (intro w9 hS9; obtain ⟨s0, s1, s2⟩ := hS9; go_simp); (try with_reducible rfl)
  try simp only [Act.put, List.getElem_toArray, List.getElem_cons_succ, List.getElem_cons_zero, List.setIfInBounds_toArray, List.set_cons_zero, List.set_cons_succ]
  refine wpU_take (i := 14) (v := ?_) rfl (by kernel_rfl) (by kernel_rfl) (fun _ _ _ h => h) _ _ _ _ (by kernel_rfl) (by kernel_rfl) (by kernel_rfl) (Or.inl ⟨by kernel_rfl, ?_⟩) hS2 ?_
  rotate_left
  · (intro w9 hS9; obtain ⟨s0, s1, s2⟩ := hS9; go_simp); (try with_reducible rfl)
  try simp only [Act.put, List.getElem_toArray, List.getElem_cons_succ, List.getElem_cons_zero, List.setIfInBounds_toArray, List.set_cons_zero, List.set_cons_succ]
  refine wpU_take (i := 15) (v := ?_) rfl (by kernel_rfl) (by kernel_rfl) (fun _ _ _ h => h) _ _ _ _ (by kernel_rfl) (by kernel_rfl) (by kernel_rfl) (Or.inl ⟨by kernel_rfl, ?_⟩) hS2 ?_
  rotate_left
  · (intro w9 hS9; obtain ⟨s0, s1, s2⟩ := hS9; go_simp); (try with_reducible rfl)
  try simp only [Act.put, List.getElem_toArray, List.getElem_cons_succ, List.getElem_cons_zero, List.setIfInBounds_toArray, List.set_cons_zero, List.set_cons_succ]
  refine wpU_take (i := 16) (v := ?_) rfl (by kernel_rfl) (by kernel_rfl) (fun _ _ _ h => h) _ _ _ _ (by kernel_rfl) (by kernel_rfl) (by kernel_rfl) (Or.inl ⟨by kernel_rfl, ?_⟩) hS2 ?_
  rotate_left
  · (intro w9 hS9; obtain ⟨s0, s1, s2⟩ := hS9; go_simp); (try with_reducible rfl)
  try simp only [Act.put, List.getElem_toArray, List.getElem_cons_succ, List.getElem_cons_zero, List.setIfInBounds_toArray, List.set_cons_zero, List.set_cons_succ]
  refine wpU_next (i := 8) rfl (by kernel_rfl) (fun K hK => ?_)
  go_simp
  try rw [hwb]
  refine (p_rot d.n (d.b : Int) d.mask hmask HPd.out.ip).mono ?_
  rintro e w3 ⟨e1, p3, f3⟩
  obtain ⟨r, hr⟩ : ∃ r : Bool, r = rtB p d.n (d.b : Int) := ⟨_, rfl⟩
  rw [← hr] at e1
  subst e1
  have Hr := hid hr
  clear hr
  rw [← Hq.out] at p3
  obtain ⟨T2, P3, ht2⟩ := HPd.out.stepP p3 f3
  have hS3 : (fun w' : World => w'.cell? ⟨db, 1, none⟩ = some (.int .i64 d.n) ∧ w'.cell? ⟨db, 2, none⟩ = some (.int .u8 (d.b : Int)) ∧ w'.cell? ⟨db, 3, none⟩ = some (.int .u32 (d.mask : Int))) w3 := ⟨f3.cell hS2.1 fun h => by have h9 := Hdb.out _ (.inl h); exact absurd h9 (Nat.lt_irrefl _), f3.cell hS2.2.1 fun h => by have h9 := Hdb.out _ (.inl h); exact absurd h9 (Nat.lt_irrefl _), f3.cell hS2.2.2 fun h => by have h9 := Hdb.out _ (.inl h); exact absurd h9 (Nat.lt_irrefl _)⟩
  have HP3 := hid P3
  have HT2 := hid ht2
  have HF3 := hid f3
  clear p3 P3 ht2 f3
  refine hK.out _ _ (fun _ => hS3) ?_
  clear hK K
  try simp only [Act.put, List.getElem_toArray, List.getElem_cons_succ, List.getElem_cons_zero, List.setIfInBounds_toArray, List.set_cons_zero, List.set_cons_succ]
  refine wpU_next (i := 17) rfl (by kernel_rfl) (fun K hK => ?_)
  go_simp
  try rw [hwb]
  refine (m_rot TM mb p d.n (d.b : Int) d.mask hn (by omega) hmask w3 HP3.out.im).mono ?_
  rintro e w4 ⟨e1, p4, f4⟩
  rw [← Hr.out] at e1
  subst e1
  rw [← Hq.out] at p4
  obtain ⟨TM2, P4, hm2⟩ := HP3.out.stepM p4 f4
  have hS4 : (fun w' : World => w'.cell? ⟨db, 1, none⟩ = some (.int .i64 d.n) ∧ w'.cell? ⟨db, 2, none⟩ = some (.int .u8 (d.b : Int)) ∧ w'.cell? ⟨db, 3, none⟩ = some (.int .u32 (d.mask : Int))) w4 := ⟨f4.cell hS3.1 fun h => by have h9 := Hdb.out _ (.inr h); exact absurd h9 (Nat.lt_irrefl _), f4.cell hS3.2.1 fun h => by have h9 := Hdb.out _ (.inr h); exact absurd h9 (Nat.lt_irrefl _), f4.cell hS3.2.2 fun h => by have h9 := Hdb.out _ (.inr h); exact absurd h9 (Nat.lt_irrefl _)⟩
  have HP4 := hid P4
  have HM2 := hid hm2
  have HSZ := hid (show w1.heap.size ≤ w1.drew.heap.size ∧ w1.heap.size ≤ w3.heap.size from ⟨ed.size, Nat.le_trans ed.size HF3.out.size⟩)
  have HFF := hid (show Fr (fun k => T k ∨ TM k) w1 w4 from (ed.nil).then ((HF3.out.mono fun k hk => .inl hk).then (f4.mono fun k hk => .inr hk)))
  clear p4 P4 hm2 f4
  refine hK.out _ _ (fun _ => hS4) ?_
  clear hK K
  try simp only [Act.put, List.getElem_toArray, List.getElem_cons_succ, List.getElem_cons_zero, List.setIfInBounds_toArray, List.set_cons_zero, List.set_cons_succ]
  refine wpU_next (i := 18) rfl (by kernel_rfl) (fun K hK => ?_)
  go_simp
  refine hK.out _ _ (fun _ => hS4) ?_
  clear hK K
  try simp only [Act.put, List.getElem_toArray, List.getElem_cons_succ, List.getElem_cons_zero, List.setIfInBounds_toArray, List.set_cons_zero, List.set_cons_succ]
  refine wpU_next (i := 19) rfl (by kernel_rfl) (fun K hK => ?_)
  go_simp
  refine hK.out _ _ (fun h => absurd rfl h.1) ?_
  refine wpU_done (by kernel_rfl) ?_ _
  clear hK K
  clear hS2 hS3 hS4
  go_wp2
  go_ret
  refine ⟨rfl, ⟨T2, TM2, by rw [E.out]; exact (by rw [← Hq.out]; exact HP4.out), fun k hk => ?_, fun k hk => ?_⟩, ?_⟩
  · exact (HT2.out k hk).imp id fun h => Nat.le_trans F1.out.size (Nat.le_trans HSZ.out.1 h)
  · exact (HM2.out k hk).imp id fun h => Nat.le_trans F1.out.size (Nat.le_trans HSZ.out.2 h)
  · exact (F1.out.nil).then HFF.out
end Go.Proofs.Ytidjmjfoheagmaa

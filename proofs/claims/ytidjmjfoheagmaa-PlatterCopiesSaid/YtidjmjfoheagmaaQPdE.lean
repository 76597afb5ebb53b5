/- Do: on both, the second part. -/
import Derived.Test.YtidjmjfoheagmaaQPdD
set_option linter.unusedSimpArgs false
set_option linter.unusedVariables false
namespace Go.Proofs.Ytidjmjfoheagmaa
open Go.RowKit
set_option maxRecDepth 20000 in
set_option maxHeartbeats 4000000 in
theorem do_read4 (T TM S : Nat → Prop) (pb mb : Nat) (p : Pl) (m : Nat) (d : Dd) (Ak Af : Option Addr) (ck cf kl fl : Nat) (hdd : d.d = 4) (w : World) (h : Pair2 w T TM pb mb p p) (hok : p.okm m) (hm : m ≤ 900000) (hd : DdOk d kl fl w S Ak Af ck cf) (hS : ∀ k, S k → ¬ T k ∧ ¬ TM k) :
    Calls Try.prog 22 #[.pointer (some ⟨pb, 0, none⟩), .pointer (some ⟨mb, 0, none⟩), .agg #[.int .i64 d.d, .int .i64 d.n, .int .u8 (d.b : Int), .int .u32 (d.mask : Int), .slice Ak kl ck, .slice Af fl cf]] w (DoPost w T TM pb mb d p) := by
  have hpok := hok.ok (by omega)
  obtain ⟨hn, hb, hmask, hkl, hfl, hkv, hfv⟩ := hd
  have Hok := hid hpok
  have HP := hid h
  have HS := hid hS
  have HK := hid hkv
  have HV := hid hfv
  clear hpok h hS hkv hfv hok
  have E := hid (show doP d p = (p.ask 1) from by unfold doP; rw [if_neg (by omega), if_pos (by omega)])
  have Hdd := hid hdd
  have Hfl := hid hfl.1
  have hfl20 := hfl.2
  clear hdd hfl
  go_enter Try.func22, Try.ntmps22
  go_upto_region 1 with (fail)
  obtain ⟨w1, hw1⟩ : ∃ w1, w1 = w.alloc (.cells #[.int .i64 d.d, .int .i64 d.n, .int .u8 (d.b : Int), .int .u32 (d.mask : Int), .slice Ak kl ck, .slice Af fl cf] 55) := ⟨_, rfl⟩
  have b1 : Blk w1 w.heap.size #[.int .i64 d.d, .int .i64 d.n, .int .u8 (d.b : Int), .int .u32 (d.mask : Int), .slice Ak kl ck, .slice Af fl cf] 55 := by rw [hw1]; exact Blk.new _ _ _
  have f1 : Fr Nil w w1 := by rw [hw1]; exact (Fr.refl _ _).alloc _
  rw [← hw1]
  clear hw1
  obtain ⟨db, hdb⟩ : ∃ db, db = w.heap.size := ⟨_, rfl⟩
  rw [← hdb] at b1 ⊢
  have Hdb := hid (show ∀ k, T k ∨ TM k → k < db from fun k hk => by rw [hdb]; exact hk.elim (HP.out.lp k) (HP.out.lm k))
  have Hdw := hid (show w.heap.size ≤ db from by omega)
  have HB1 := hid b1
  have F1 := hid f1
  have HP1 := hid (HP.out.nil f1)
  have HK1 := hid (HK.out.fr f1 fun _ _ _ h => h)
  have HV1 := hid (HV.out.fr f1 fun _ _ _ h => h)
  have hd0 : w1.cell? ⟨db, 0, none⟩ = some (.int .i64 d.d) := b1.cell 0
  clear b1 f1 hdb HP HK HV
  rw [Hdd.out] at hd0
  have hd1 : w1.cell? ⟨db, 1, none⟩ = some (.int .i64 d.n) := HB1.out.cell 1
  go_wp2_with fail
  refine (p_read d.n Hok.out HP1.out.ip).mono ?_
  rintro e w2 ⟨A2, m2, c2, rfl, v2, p2, f2⟩
  obtain ⟨T2, P2, ht2⟩ := HP1.out.stepP p2 f2
  have hd1 : w2.cell? ⟨db, 1, none⟩ = some (.int .i64 d.n) := f2.cell hd1 fun h => by have h9 := Hdb.out _ (.inl h); exact absurd h9 (Nat.lt_irrefl _)
  have HP2 := hid P2
  have HT2 := hid ht2
  have HF2 := hid f2
  have HV2 := hid v2
  clear p2 f2 P2 ht2 v2
  obtain ⟨r, hr⟩ : ∃ r : Int, r = rdE (badB p 1) p d.n := ⟨_, rfl⟩
  rw [← hr]
  have Hr := hid hr
  clear hr
  go_wp2_with fail
  refine (m_read TM mb p d.n (badB p 1) (badB_iff p 1) Hok.out hn w2 HP2.out.im).mono ?_
  rintro e w3 ⟨A3, m3, c3, rfl, v3, bb3, p3, f3⟩
  obtain ⟨TM2, P3, hm2⟩ := HP2.out.stepM (p3.mono fun k hk => .inl hk) (f3.mono fun k hk => by rw [hk]; exact HP2.out.im.1)
  have HP3 := hid P3
  have HM2 := hid hm2
  have HSZ := hid (show w1.heap.size ≤ w1.heap.size ∧ w1.heap.size ≤ w2.heap.size from ⟨Nat.le_refl _, HF2.out.size⟩)
  have HFF := hid (show Fr (fun k => T k ∨ TM k) w1 w3 from (HF2.out.mono fun k hk => .inl hk).then (f3.mono fun k hk => .inr (by rw [hk]; exact HP2.out.im.1)))
  have hc2 := conv_row (View.fr (S1 := fun k => k = mb) HV2.out f3 fun k hk _ e => by have h9 : w1.heap.size ≤ k := hk; have := HP1.out.lm mb HP2.out.im.1; omega)
  have hc3 := conv_row v3
  rw [← Hr.out]
  clear p3 f3 P3 hm2 v3 bb3
  have hxx : ((str (rdB (badB p 1) p d.n)).toList == (str (rdB (badB p 1) p d.n)).toList) = true := beq_self_eq_true _
  generalize str (rdB (badB p 1) p d.n) = sx at *
  go_wp2
  go_ret
  refine ⟨rfl, ⟨T2, TM2, by rw [E.out]; exact HP3.out, fun k hk => ?_, fun k hk => ?_⟩, ?_⟩
  · exact (HT2.out k hk).imp id fun h => Nat.le_trans F1.out.size (Nat.le_trans HSZ.out.1 h)
  · exact (HM2.out k hk).imp id fun h => Nat.le_trans F1.out.size (Nat.le_trans HSZ.out.2 h)
  · exact (F1.out.nil).then HFF.out
set_option maxRecDepth 20000 in
set_option maxHeartbeats 4000000 in
theorem do_read5 (T TM S : Nat → Prop) (pb mb : Nat) (p : Pl) (m : Nat) (d : Dd) (Ak Af : Option Addr) (ck cf kl fl : Nat) (hdd : d.d = 5) (w : World) (h : Pair2 w T TM pb mb p p) (hok : p.okm m) (hm : m ≤ 900000) (hd : DdOk d kl fl w S Ak Af ck cf) (hS : ∀ k, S k → ¬ T k ∧ ¬ TM k) :
    Calls Try.prog 22 #[.pointer (some ⟨pb, 0, none⟩), .pointer (some ⟨mb, 0, none⟩), .agg #[.int .i64 d.d, .int .i64 d.n, .int .u8 (d.b : Int), .int .u32 (d.mask : Int), .slice Ak kl ck, .slice Af fl cf]] w (DoPost w T TM pb mb d p) := by
  have hpok := hok.ok (by omega)
  obtain ⟨hn, hb, hmask, hkl, hfl, hkv, hfv⟩ := hd
  have Hok := hid hpok
  have HP := hid h
  have HS := hid hS
  have HK := hid hkv
  have HV := hid hfv
  clear hpok h hS hkv hfv hok
  have E := hid (show doP d p = (p.ask 1) from by unfold doP; rw [if_neg (by omega), if_pos (by omega)])
  have Hdd := hid hdd
  have Hfl := hid hfl.1
  have hfl20 := hfl.2
  clear hdd hfl
  go_enter Try.func22, Try.ntmps22
  go_upto_region 1 with (fail)
  obtain ⟨w1, hw1⟩ : ∃ w1, w1 = w.alloc (.cells #[.int .i64 d.d, .int .i64 d.n, .int .u8 (d.b : Int), .int .u32 (d.mask : Int), .slice Ak kl ck, .slice Af fl cf] 55) := ⟨_, rfl⟩
  have b1 : Blk w1 w.heap.size #[.int .i64 d.d, .int .i64 d.n, .int .u8 (d.b : Int), .int .u32 (d.mask : Int), .slice Ak kl ck, .slice Af fl cf] 55 := by rw [hw1]; exact Blk.new _ _ _
  have f1 : Fr Nil w w1 := by rw [hw1]; exact (Fr.refl _ _).alloc _
  rw [← hw1]
  clear hw1
  obtain ⟨db, hdb⟩ : ∃ db, db = w.heap.size := ⟨_, rfl⟩
  rw [← hdb] at b1 ⊢
  have Hdb := hid (show ∀ k, T k ∨ TM k → k < db from fun k hk => by rw [hdb]; exact hk.elim (HP.out.lp k) (HP.out.lm k))
  have Hdw := hid (show w.heap.size ≤ db from by omega)
  have HB1 := hid b1
  have F1 := hid f1
  have HP1 := hid (HP.out.nil f1)
  have HK1 := hid (HK.out.fr f1 fun _ _ _ h => h)
  have HV1 := hid (HV.out.fr f1 fun _ _ _ h => h)
  have hd0 : w1.cell? ⟨db, 0, none⟩ = some (.int .i64 d.d) := b1.cell 0
  clear b1 f1 hdb HP HK HV
  rw [Hdd.out] at hd0
  have hd1 : w1.cell? ⟨db, 1, none⟩ = some (.int .i64 d.n) := HB1.out.cell 1
  go_wp2_with fail
  refine (p_read d.n Hok.out HP1.out.ip).mono ?_
  rintro e w2 ⟨A2, m2, c2, rfl, v2, p2, f2⟩
  obtain ⟨T2, P2, ht2⟩ := HP1.out.stepP p2 f2
  have hd1 : w2.cell? ⟨db, 1, none⟩ = some (.int .i64 d.n) := f2.cell hd1 fun h => by have h9 := Hdb.out _ (.inl h); exact absurd h9 (Nat.lt_irrefl _)
  have HP2 := hid P2
  have HT2 := hid ht2
  have HF2 := hid f2
  have HV2 := hid v2
  clear p2 f2 P2 ht2 v2
  obtain ⟨r, hr⟩ : ∃ r : Int, r = rdE (badB p 1) p d.n := ⟨_, rfl⟩
  rw [← hr]
  have Hr := hid hr
  clear hr
  go_wp2_with fail
  refine (m_read TM mb p d.n (badB p 1) (badB_iff p 1) Hok.out hn w2 HP2.out.im).mono ?_
  rintro e w3 ⟨A3, m3, c3, rfl, v3, bb3, p3, f3⟩
  obtain ⟨TM2, P3, hm2⟩ := HP2.out.stepM (p3.mono fun k hk => .inl hk) (f3.mono fun k hk => by rw [hk]; exact HP2.out.im.1)
  have HP3 := hid P3
  have HM2 := hid hm2
  have HSZ := hid (show w1.heap.size ≤ w1.heap.size ∧ w1.heap.size ≤ w2.heap.size from ⟨Nat.le_refl _, HF2.out.size⟩)
  have HFF := hid (show Fr (fun k => T k ∨ TM k) w1 w3 from (HF2.out.mono fun k hk => .inl hk).then (f3.mono fun k hk => .inr (by rw [hk]; exact HP2.out.im.1)))
  have hc2 := conv_row (View.fr (S1 := fun k => k = mb) HV2.out f3 fun k hk _ e => by have h9 : w1.heap.size ≤ k := hk; have := HP1.out.lm mb HP2.out.im.1; omega)
  have hc3 := conv_row v3
  rw [← Hr.out]
  clear p3 f3 P3 hm2 v3 bb3
  have hxx : ((str (rdB (badB p 1) p d.n)).toList == (str (rdB (badB p 1) p d.n)).toList) = true := beq_self_eq_true _
  generalize str (rdB (badB p 1) p d.n) = sx at *
  go_wp2
  go_ret
  refine ⟨rfl, ⟨T2, TM2, by rw [E.out]; exact HP3.out, fun k hk => ?_, fun k hk => ?_⟩, ?_⟩
  · exact (HT2.out k hk).imp id fun h => Nat.le_trans F1.out.size (Nat.le_trans HSZ.out.1 h)
  · exact (HM2.out k hk).imp id fun h => Nat.le_trans F1.out.size (Nat.le_trans HSZ.out.2 h)
  · exact (F1.out.nil).then HFF.out
theorem info_boolc : (Try.prog.info? 4).map (fun i => (i.zero, i.size, i.bytes)) = some (some (.bool false), 1, 1) := by kernel_rfl
theorem bools_cell (l : List Bool) : ∀ u ∈ bools l, u.oneCell' = true := by
  intro u hu
  unfold bools at hu
  obtain ⟨x, _, rfl⟩ := List.mem_map.1 hu
  rfl
set_option maxRecDepth 20000 in
set_option maxHeartbeats 4000000 in
theorem do_crash (T TM S : Nat → Prop) (pb mb : Nat) (p : Pl) (m : Nat) (d : Dd) (Ak Af : Option Addr) (ck cf kl fl : Nat) (hdd : d.d = 7) (w : World) (h : Pair2 w T TM pb mb p p) (hok : p.okm m) (hm : m ≤ 900000) (hd : DdOk d kl fl w S Ak Af ck cf) (hS : ∀ k, S k → ¬ T k ∧ ¬ TM k) :
    Calls Try.prog 22 #[.pointer (some ⟨pb, 0, none⟩), .pointer (some ⟨mb, 0, none⟩), .agg #[.int .i64 d.d, .int .i64 d.n, .int .u8 (d.b : Int), .int .u32 (d.mask : Int), .slice Ak kl ck, .slice Af fl cf]] w (DoPost w T TM pb mb d p) := by
  have hpok := hok.ok (by omega)
  obtain ⟨hn, hb, hmask, hkl, hfl, hkv, hfv⟩ := hd
  have Hok := hid hpok
  have HP := hid h
  have HS := hid hS
  have HK := hid hkv
  have HV := hid hfv
  clear hpok h hS hkv hfv hok
  have E := hid (show doP d p = (p.crash d.keep) from by unfold doP; rw [if_neg (by omega), if_neg (by omega), if_neg (by omega), if_pos hdd])
  have Hdd := hid hdd
  have Hfl := hid hfl.1
  have hfl20 := hfl.2
  clear hdd hfl
  go_enter Try.func22, Try.ntmps22
  go_upto_region 1 with (fail)
  obtain ⟨w1, hw1⟩ : ∃ w1, w1 = w.alloc (.cells #[.int .i64 d.d, .int .i64 d.n, .int .u8 (d.b : Int), .int .u32 (d.mask : Int), .slice Ak kl ck, .slice Af fl cf] 55) := ⟨_, rfl⟩
  have b1 : Blk w1 w.heap.size #[.int .i64 d.d, .int .i64 d.n, .int .u8 (d.b : Int), .int .u32 (d.mask : Int), .slice Ak kl ck, .slice Af fl cf] 55 := by rw [hw1]; exact Blk.new _ _ _
  have f1 : Fr Nil w w1 := by rw [hw1]; exact (Fr.refl _ _).alloc _
  rw [← hw1]
  clear hw1
  obtain ⟨db, hdb⟩ : ∃ db, db = w.heap.size := ⟨_, rfl⟩
  rw [← hdb] at b1 ⊢
  have Hdb := hid (show ∀ k, T k ∨ TM k → k < db from fun k hk => by rw [hdb]; exact hk.elim (HP.out.lp k) (HP.out.lm k))
  have Hdw := hid (show w.heap.size ≤ db from by omega)
  have HB1 := hid b1
  have F1 := hid f1
  have HP1 := hid (HP.out.nil f1)
  have HK1 := hid (HK.out.fr f1 fun _ _ _ h => h)
  have HV1 := hid (HV.out.fr f1 fun _ _ _ h => h)
  have hd0 : w1.cell? ⟨db, 0, none⟩ = some (.int .i64 d.d) := b1.cell 0
  clear b1 f1 hdb HP HK HV
  rw [Hdd.out] at hd0
  have hd4 : w1.cell? ⟨db, 4, none⟩ = some (.slice Ak kl ck) := HB1.out.cell 4
  have hd4a : (w1.alloc (.cells #[] 4)).cell? ⟨db, 4, none⟩ = some (.slice Ak kl ck) := ((Fr.refl Nil w1).alloc (.cells #[] 4)).cell hd4 fun h => h
  go_wp2_with (at_builtin; refine wp_app_view rfl _ _ 23 rfl (.bool false) 1 Try.underlying23 info_boolc rfl (by decide) (Row.made w1 #[] 4 1 0 0 rfl (Nat.le_refl _) (by decide)) rfl (HK1.out.alloc _) rfl (bools_cell _) (by omega) (by decide) ?_)
  intro B2 c2 w2 r2 f2 n2
  have hal : Fr Nil w1 (w1.alloc (.cells #[] 4)) := (Fr.refl _ _).alloc _
  have f12 : Fr Nil w1 w2 := hal.trans f2 fun k hk => by simp [Value.ownBlock] at hk; exact .inr (by omega)
  have HV2 := hid (show View w2 (fun k => New w1 k ∧ k < w2.heap.size) 1 (.slice B2 kl c2) kl (bools d.keep) from by
    have h9 : View w2 (New w1) 1 (.slice B2 kl c2) kl (bools d.keep) := by
      have := (r2.mono fun k hk => hk.elim (fun h => by simp [Value.ownBlock] at h; show w1.heap.size ≤ k; omega) (fun h => Nat.le_trans hal.size h) : Row w2 (New w1) _ _ _ _ _).view
      simpa using this
    exact h9.bd)
  have HF2 := hid f12
  have HP2 := hid (HP1.out.nil f12)
  have HK2 := hid (HK1.out.fr f12 fun _ _ _ h => h)
  have hd4 : w2.cell? ⟨db, 4, none⟩ = some (.slice Ak kl ck) := f12.cell hd4 fun h => h
  have e0 : 0 + kl = kl := Nat.zero_add _
  clear r2 f2 n2 f12 hal
  go_wp2_with fail
  refine (crash_ok T _ pb p kl d.keep _ w2 HP2.out.ip Hok.out (by omega) HV2.out (fun k hk ht => by have h9 : w1.heap.size ≤ k := hk.1; have := HP1.out.lp k ht; omega)).mono ?_
  rintro e w3 ⟨rfl, p3, f3⟩
  obtain ⟨T2, P3, ht2⟩ := HP2.out.stepP (p3.mono fun k hk => .inl hk) f3
  have HP3 := hid P3
  have HT2 := hid ht2
  have HF3 := hid f3
  have HK3 := hid (HK2.out.fr f3 fun k hk _ h => (HS.out k hk).1 h)
  have hd4 : w3.cell? ⟨db, 4, none⟩ = some (.slice Ak kl ck) := f3.cell hd4 fun h => by have h9 := Hdb.out _ (.inl h); exact absurd h9 (Nat.lt_irrefl _)
  clear p3 P3 ht2 f3
  go_wp2_with fail
  refine (m_crash TM S mb p kl d.keep _ Hok.out (by omega) w3 HP3.out.im HK3.out fun k hk => (HS.out k hk).2).mono ?_
  rintro e w4 ⟨rfl, p4, f4⟩
  obtain ⟨TM2, P4, hm2⟩ := HP3.out.stepM (p4.mono fun k hk => .inl hk) f4
  have HP4 := hid P4
  have HM2 := hid hm2
  have HSZ := hid (show w1.heap.size ≤ w2.heap.size ∧ w1.heap.size ≤ w3.heap.size from ⟨HF2.out.size, Nat.le_trans HF2.out.size HF3.out.size⟩)
  have HFF := hid (show Fr (fun k => T k ∨ TM k) w1 w4 from HF2.out.nil.then ((HF3.out.mono fun k hk => .inl hk).then (f4.mono fun k hk => .inr hk)))
  clear p4 P4 hm2 f4
  go_wp2
  go_ret
  refine ⟨rfl, ⟨T2, TM2, by rw [E.out]; exact HP4.out, fun k hk => ?_, fun k hk => ?_⟩, ?_⟩
  · exact (HT2.out k hk).imp id fun h => Nat.le_trans F1.out.size (Nat.le_trans HSZ.out.1 h)
  · exact (HM2.out k hk).imp id fun h => Nat.le_trans F1.out.size (Nat.le_trans HSZ.out.2 h)
  · exact (F1.out.nil).then HFF.out
set_option maxRecDepth 20000 in
set_option maxHeartbeats 4000000 in
theorem do_fail (T TM S : Nat → Prop) (pb mb : Nat) (p : Pl) (m : Nat) (d : Dd) (Ak Af : Option Addr) (ck cf kl fl : Nat) (hdd : d.d = 8) (w : World) (h : Pair2 w T TM pb mb p p) (hok : p.okm m) (hm : m ≤ 900000) (hd : DdOk d kl fl w S Ak Af ck cf) (hS : ∀ k, S k → ¬ T k ∧ ¬ TM k) :
    Calls Try.prog 22 #[.pointer (some ⟨pb, 0, none⟩), .pointer (some ⟨mb, 0, none⟩), .agg #[.int .i64 d.d, .int .i64 d.n, .int .u8 (d.b : Int), .int .u32 (d.mask : Int), .slice Ak kl ck, .slice Af fl cf]] w (DoPost w T TM pb mb d p) := by
  have hpok := hok.ok (by omega)
  obtain ⟨hn, hb, hmask, hkl, hfl, hkv, hfv⟩ := hd
  have Hok := hid hpok
  have HP := hid h
  have HS := hid hS
  have HK := hid hkv
  have HV := hid hfv
  clear hpok h hS hkv hfv hok
  have E := hid (show doP d p = (p.fail d.fa) from by unfold doP; rw [if_neg (by omega), if_neg (by omega), if_neg (by omega), if_neg (by omega), if_pos hdd])
  have Hdd := hid hdd
  have Hfl := hid hfl.1
  have hfl20 := hfl.2
  clear hdd hfl
  go_enter Try.func22, Try.ntmps22
  go_upto_region 1 with (fail)
  obtain ⟨w1, hw1⟩ : ∃ w1, w1 = w.alloc (.cells #[.int .i64 d.d, .int .i64 d.n, .int .u8 (d.b : Int), .int .u32 (d.mask : Int), .slice Ak kl ck, .slice Af fl cf] 55) := ⟨_, rfl⟩
  have b1 : Blk w1 w.heap.size #[.int .i64 d.d, .int .i64 d.n, .int .u8 (d.b : Int), .int .u32 (d.mask : Int), .slice Ak kl ck, .slice Af fl cf] 55 := by rw [hw1]; exact Blk.new _ _ _
  have f1 : Fr Nil w w1 := by rw [hw1]; exact (Fr.refl _ _).alloc _
  rw [← hw1]
  clear hw1
  obtain ⟨db, hdb⟩ : ∃ db, db = w.heap.size := ⟨_, rfl⟩
  rw [← hdb] at b1 ⊢
  have Hdb := hid (show ∀ k, T k ∨ TM k → k < db from fun k hk => by rw [hdb]; exact hk.elim (HP.out.lp k) (HP.out.lm k))
  have Hdw := hid (show w.heap.size ≤ db from by omega)
  have HB1 := hid b1
  have F1 := hid f1
  have HP1 := hid (HP.out.nil f1)
  have HK1 := hid (HK.out.fr f1 fun _ _ _ h => h)
  have HV1 := hid (HV.out.fr f1 fun _ _ _ h => h)
  have hd0 : w1.cell? ⟨db, 0, none⟩ = some (.int .i64 d.d) := b1.cell 0
  clear b1 f1 hdb HP HK HV
  rw [Hdd.out] at hd0
  have hd5 : w1.cell? ⟨db, 5, none⟩ = some (.slice Af fl cf) := HB1.out.cell 5
  go_wp2_with fail
  refine (faults_ok S Af cf fl d.fa Hfl.out (by omega) w1 HV1.out).mono ?_
  rintro e w2 ⟨B2, c2, rfl, v2, f2⟩
  have HF2 := hid f2
  have HP2 := hid (HP1.out.nil f2)
  have HV2 := hid (HV1.out.fr f2 fun _ _ _ h => h)
  have HW2 := hid v2
  have hd5 : w2.cell? ⟨db, 5, none⟩ = some (.slice Af fl cf) := f2.cell hd5 fun h => h
  clear v2 f2
  go_wp2_with fail
  refine (fail_ok T _ pb p _ fl d.fa Hfl.out (by omega) w2 HP2.out.ip HW2.out).mono ?_
  rintro e w3 ⟨rfl, p3, f3⟩
  obtain ⟨T2, P3, ht2⟩ := HP2.out.stepP p3 f3
  have HP3 := hid P3
  have HT2 := hid ht2
  have HF3 := hid f3
  have HV3 := hid (HV2.out.fr f3 fun k hk _ h => (HS.out k hk).1 h)
  have hd5 : w3.cell? ⟨db, 5, none⟩ = some (.slice Af fl cf) := f3.cell hd5 fun h => by have h9 := Hdb.out _ (.inl h); exact absurd h9 (Nat.lt_irrefl _)
  clear p3 P3 ht2 f3
  go_wp2_with fail
  refine (m_fail TM S mb p _ fl d.fa Hfl.out (by omega) w3 HP3.out.im HV3.out).mono ?_
  rintro e w4 ⟨rfl, p4, f4⟩
  obtain ⟨TM2, P4, hm2⟩ := HP3.out.stepM p4 f4
  have HP4 := hid P4
  have HM2 := hid hm2
  have HSZ := hid (show w1.heap.size ≤ w2.heap.size ∧ w1.heap.size ≤ w3.heap.size from ⟨HF2.out.size, Nat.le_trans HF2.out.size HF3.out.size⟩)
  have HFF := hid (show Fr (fun k => T k ∨ TM k) w1 w4 from HF2.out.nil.then ((HF3.out.mono fun k hk => .inl hk).then (f4.mono fun k hk => .inr hk)))
  clear p4 P4 hm2 f4
  go_wp2
  go_ret
  refine ⟨rfl, ⟨T2, TM2, by rw [E.out]; exact HP4.out, fun k hk => ?_, fun k hk => ?_⟩, ?_⟩
  · exact (HT2.out k hk).imp id fun h => Nat.le_trans F1.out.size (Nat.le_trans HSZ.out.1 h)
  · exact (HM2.out k hk).imp id fun h => Nat.le_trans F1.out.size (Nat.le_trans HSZ.out.2 h)
  · exact (F1.out.nil).then HFF.out
end Go.Proofs.Ytidjmjfoheagmaa

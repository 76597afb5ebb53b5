/- Do: on both. -/
import Derived.Test.YtidjmjfoheagmaaQPdS
set_option linter.unusedSimpArgs false
set_option linter.unusedVariables false
namespace Go.Proofs.Ytidjmjfoheagmaa
open Go.RowKit
/-- What a deed's fields keep to. -/
def DdOk (d : Dd) (kl fl : Nat) (w : World) (S : Nat → Prop) (Ak Af : Option Addr) (ck cf : Nat) : Prop :=
  (-9223372036854775808 ≤ d.n ∧ d.n < 9223372036854775808) ∧ d.b < 256 ∧ d.mask < 4294967296 ∧ kl ≤ 200 ∧ (fl = d.fa.length ∧ fl ≤ 20) ∧ View w S 1 (.slice Ak kl ck) kl (bools d.keep) ∧ View w S 2 (.slice Af fl cf) fl (flatF d.fa)
def DoPost (w : World) (T TM : Nat → Prop) (pb mb : Nat) (d : Dd) (p : Pl) (e : Ending) (w' : World) : Prop :=
  e = .returned (.bool true) ∧ (∃ T' TM', Pair2 w' T' TM' pb mb (doP d p) (doP d p) ∧ (∀ k, T' k → T k ∨ w.heap.size ≤ k) ∧ (∀ k, TM' k → TM k ∨ w.heap.size ≤ k)) ∧ Fr (fun k => T k ∨ TM k) w w'
set_option maxRecDepth 20000 in
set_option maxHeartbeats 2000000 in
theorem do_sync (T TM S : Nat → Prop) (pb mb : Nat) (p : Pl) (m : Nat) (d : Dd) (Ak Af : Option Addr) (ck cf kl fl : Nat) (hdd : d.d = 6) (w : World) (h : Pair2 w T TM pb mb p p) (hok : p.okm m) (hm : m ≤ 900000) (hd : DdOk d kl fl w S Ak Af ck cf) (hS : ∀ k, S k → ¬ T k ∧ ¬ TM k) :
    Calls Try.prog 22 #[.pointer (some ⟨pb, 0, none⟩), .pointer (some ⟨mb, 0, none⟩), .agg #[.int .i64 d.d, .int .i64 d.n, .int .u8 (d.b : Int), .int .u32 (d.mask : Int), .slice Ak kl ck, .slice Af fl cf]] w (DoPost w T TM pb mb d p) := by
  have hpok := hok.ok (by omega)
  obtain ⟨hn, hb, hmask, hkl, hfl, hkv, hfv⟩ := hd
  have Hok := hid hpok
  have HP := hid h
  have HS := hid hS
  have HK := hid hkv
  have HV := hid hfv
  clear hpok h hS hkv hfv hok
  have E := hid (show doP d p = (synced (badB p 3) p) from by unfold doP; rw [if_neg (by omega), if_neg (by omega), if_pos hdd])
  have Hdd := hid hdd
  have Hfl := hid hfl.1
  have hfl20 := hfl.2
  clear hdd hfl
  go_enter Try.func22, Try.ntmps22
  go_upto_region 1 with (fail)
  obtain ⟨w1, hw1⟩ : ∃ w1, w1 = w.alloc (.cells #[.int .i64 d.d, .int .i64 d.n, .int .u8 (d.b : Int), .int .u32 (d.mask : Int), .slice Ak kl ck, .slice Af fl cf] 55) := ⟨_, rfl⟩
  have b1 : Blk w1 w.heap.size #[.int .i64 d.d, .int .i64 d.n, .int .u8 (d.b : Int), .int .u32 (d.mask : Int), .slice Ak kl ck, .slice Af fl cf] 55 := by rw [hw1]; exact Blk.new _ _ _
  have f1 : Fr Nil w w1 := by rw [hw1]; exact (Fr.refl _ _).alloc _
  rw [← hw1]
  clear hw1
  obtain ⟨db, hdb⟩ : ∃ db, db = w.heap.size := ⟨_, rfl⟩
  rw [← hdb] at b1 ⊢
  have Hdb := hid (show ∀ k, T k ∨ TM k → k < db from fun k hk => by rw [hdb]; exact hk.elim (HP.out.lp k) (HP.out.lm k))
  have Hdw := hid (show w.heap.size ≤ db from by omega)
  have HB1 := hid b1
  have F1 := hid f1
  have HP1 := hid (HP.out.nil f1)
  have HK1 := hid (HK.out.fr f1 fun _ _ _ h => h)
  have HV1 := hid (HV.out.fr f1 fun _ _ _ h => h)
  have hd0 : w1.cell? ⟨db, 0, none⟩ = some (.int .i64 d.d) := b1.cell 0
  clear b1 f1 hdb HP HK HV
  rw [Hdd.out] at hd0
  go_wp2_with fail
  refine (sync_any T pb p w1 (badB p 3) (badB_iff p 3) HP1.out.ip Hok.out).mono ?_
  rintro e w2 ⟨e1, p2, f2⟩
  obtain ⟨r, hr⟩ : ∃ r : Int, r = (if badB p 3 = true then 6 else 0) := ⟨_, rfl⟩
  rw [← hr] at e1
  subst e1
  have Hr := hid hr
  clear hr
  obtain ⟨T2, P2, ht2⟩ := HP1.out.stepP (p2.mono fun k hk => .inl hk) f2
  have HP2 := hid P2
  have HT2 := hid ht2
  have HF2 := hid f2
  clear p2 f2 P2 ht2
  go_wp2_with fail
  refine (m_sync TM mb p (badB p 3) (badB_iff p 3) Hok.out w2 HP2.out.im).mono ?_
  rintro e w3 ⟨e1, p3, f3⟩
  rw [← Hr.out] at e1
  subst e1
  obtain ⟨TM2, P3, hm2⟩ := HP2.out.stepM (p3.mono fun k hk => .inl hk) f3
  have HP3 := hid P3
  have HM2 := hid hm2
  have HSZ := hid (show w1.heap.size ≤ w1.heap.size ∧ w1.heap.size ≤ w2.heap.size from ⟨Nat.le_refl _, HF2.out.size⟩)
  have HFF := hid (show Fr (fun k => T k ∨ TM k) w1 w3 from (HF2.out.mono fun k hk => .inl hk).then (f3.mono fun k hk => .inr hk))
  clear p3 f3 P3 hm2
  go_wp2
  go_ret
  refine ⟨rfl, ⟨T2, TM2, by rw [E.out]; exact HP3.out, fun k hk => ?_, fun k hk => ?_⟩, ?_⟩
  · exact (HT2.out k hk).imp id fun h => Nat.le_trans F1.out.size (Nat.le_trans HSZ.out.1 h)
  · exact (HM2.out k hk).imp id fun h => Nat.le_trans F1.out.size (Nat.le_trans HSZ.out.2 h)
  · exact (F1.out.nil).then HFF.out
set_option maxRecDepth 20000 in
set_option maxHeartbeats 2000000 in
theorem do_none (T TM S : Nat → Prop) (pb mb : Nat) (p : Pl) (m : Nat) (d : Dd) (Ak Af : Option Addr) (ck cf kl fl : Nat) (hdd : d.d < 0 ∨ 9 < d.d) (w : World) (h : Pair2 w T TM pb mb p p) (hok : p.okm m) (hm : m ≤ 900000) (hd : DdOk d kl fl w S Ak Af ck cf) (hS : ∀ k, S k → ¬ T k ∧ ¬ TM k) :
    Calls Try.prog 22 #[.pointer (some ⟨pb, 0, none⟩), .pointer (some ⟨mb, 0, none⟩), .agg #[.int .i64 d.d, .int .i64 d.n, .int .u8 (d.b : Int), .int .u32 (d.mask : Int), .slice Ak kl ck, .slice Af fl cf]] w (DoPost w T TM pb mb d p) := by
  have hpok := hok.ok (by omega)
  obtain ⟨hn, hb, hmask, hkl, hfl, hkv, hfv⟩ := hd
  have Hok := hid hpok
  have HP := hid h
  have HS := hid hS
  have HK := hid hkv
  have HV := hid hfv
  clear hpok h hS hkv hfv hok
  have E := hid (show doP d p = p from by unfold doP; rw [if_neg (by omega), if_neg (by omega), if_neg (by omega), if_neg (by omega), if_neg (by omega), if_neg (by omega)])
  have Hdd := hid hdd
  have Hfl := hid hfl.1
  have hfl20 := hfl.2
  clear hdd hfl
  go_enter Try.func22, Try.ntmps22
  go_upto_region 1 with (fail)
  obtain ⟨w1, hw1⟩ : ∃ w1, w1 = w.alloc (.cells #[.int .i64 d.d, .int .i64 d.n, .int .u8 (d.b : Int), .int .u32 (d.mask : Int), .slice Ak kl ck, .slice Af fl cf] 55) := ⟨_, rfl⟩
  have b1 : Blk w1 w.heap.size #[.int .i64 d.d, .int .i64 d.n, .int .u8 (d.b : Int), .int .u32 (d.mask : Int), .slice Ak kl ck, .slice Af fl cf] 55 := by rw [hw1]; exact Blk.new _ _ _
  have f1 : Fr Nil w w1 := by rw [hw1]; exact (Fr.refl _ _).alloc _
  rw [← hw1]
  clear hw1
  obtain ⟨db, hdb⟩ : ∃ db, db = w.heap.size := ⟨_, rfl⟩
  rw [← hdb] at b1 ⊢
  have Hdb := hid (show ∀ k, T k ∨ TM k → k < db from fun k hk => by rw [hdb]; exact hk.elim (HP.out.lp k) (HP.out.lm k))
  have Hdw := hid (show w.heap.size ≤ db from by omega)
  have HB1 := hid b1
  have F1 := hid f1
  have HP1 := hid (HP.out.nil f1)
  have HK1 := hid (HK.out.fr f1 fun _ _ _ h => h)
  have HV1 := hid (HV.out.fr f1 fun _ _ _ h => h)
  have hd0 : w1.cell? ⟨db, 0, none⟩ = some (.int .i64 d.d) := b1.cell 0
  clear b1 f1 hdb HP HK HV
  have e0 : (d.d == 0) = false := by have := Hdd.out; simp; omega
  have e1 : (d.d == 1) = false := by have := Hdd.out; simp; omega
  have e2 : (d.d == 2) = false := by have := Hdd.out; simp; omega
  have e3 : (d.d == 3) = false := by have := Hdd.out; simp; omega
  have e4 : (d.d == 4) = false := by have := Hdd.out; simp; omega
  have e5 : (d.d == 5) = false := by have := Hdd.out; simp; omega
  have e6 : (d.d == 6) = false := by have := Hdd.out; simp; omega
  have e7 : (d.d == 7) = false := by have := Hdd.out; simp; omega
  have e8 : (d.d == 8) = false := by have := Hdd.out; simp; omega
  have e9 : (d.d == 9) = false := by have := Hdd.out; simp; omega
  go_wp2
  go_ret
  exact ⟨rfl, ⟨T, TM, by rw [E.out]; exact HP1.out, fun k hk => .inl hk, fun k hk => .inl hk⟩, F1.out.nil⟩
set_option maxRecDepth 20000 in
set_option maxHeartbeats 4000000 in
theorem do_write0 (T TM S : Nat → Prop) (pb mb : Nat) (p : Pl) (m : Nat) (d : Dd) (Ak Af : Option Addr) (ck cf kl fl : Nat) (hdd : d.d = 0) (w : World) (h : Pair2 w T TM pb mb p p) (hok : p.okm m) (hm : m ≤ 900000) (hd : DdOk d kl fl w S Ak Af ck cf) (hS : ∀ k, S k → ¬ T k ∧ ¬ TM k) :
    Calls Try.prog 22 #[.pointer (some ⟨pb, 0, none⟩), .pointer (some ⟨mb, 0, none⟩), .agg #[.int .i64 d.d, .int .i64 d.n, .int .u8 (d.b : Int), .int .u32 (d.mask : Int), .slice Ak kl ck, .slice Af fl cf]] w (DoPost w T TM pb mb d p) := by
  have hpok := hok.ok (by omega)
  obtain ⟨hn, hb, hmask, hkl, hfl, hkv, hfv⟩ := hd
  have Hok := hid hpok
  have HP := hid h
  have HS := hid hS
  have HK := hid hkv
  have HV := hid hfv
  clear hpok h hS hkv hfv hok
  have E := hid (show doP d p = (wrP (badB p 2) p d.n (dlen d.b) (dbys d.b)) from by unfold doP; rw [if_pos (by omega)])
  have Hdd := hid hdd
  have Hfl := hid hfl.1
  have hfl20 := hfl.2
  clear hdd hfl
  go_enter Try.func22, Try.ntmps22
  go_upto_region 1 with (fail)
  obtain ⟨w1, hw1⟩ : ∃ w1, w1 = w.alloc (.cells #[.int .i64 d.d, .int .i64 d.n, .int .u8 (d.b : Int), .int .u32 (d.mask : Int), .slice Ak kl ck, .slice Af fl cf] 55) := ⟨_, rfl⟩
  have b1 : Blk w1 w.heap.size #[.int .i64 d.d, .int .i64 d.n, .int .u8 (d.b : Int), .int .u32 (d.mask : Int), .slice Ak kl ck, .slice Af fl cf] 55 := by rw [hw1]; exact Blk.new _ _ _
  have f1 : Fr Nil w w1 := by rw [hw1]; exact (Fr.refl _ _).alloc _
  rw [← hw1]
  clear hw1
  obtain ⟨db, hdb⟩ : ∃ db, db = w.heap.size := ⟨_, rfl⟩
  rw [← hdb] at b1 ⊢
  have Hdb := hid (show ∀ k, T k ∨ TM k → k < db from fun k hk => by rw [hdb]; exact hk.elim (HP.out.lp k) (HP.out.lm k))
  have Hdw := hid (show w.heap.size ≤ db from by omega)
  have HB1 := hid b1
  have F1 := hid f1
  have HP1 := hid (HP.out.nil f1)
  have HK1 := hid (HK.out.fr f1 fun _ _ _ h => h)
  have HV1 := hid (HV.out.fr f1 fun _ _ _ h => h)
  have hd0 : w1.cell? ⟨db, 0, none⟩ = some (.int .i64 d.d) := b1.cell 0
  clear b1 f1 hdb HP HK HV
  rw [Hdd.out] at hd0
  have hd2 : w1.cell? ⟨db, 2, none⟩ = some (.int .u8 (d.b : Int)) := HB1.out.cell 2
  go_wp2_with fail
  refine (full_rep d.b w1).mono ?_
  rintro e w2 ⟨g, rfl, r2, f2⟩
  have hd2 : w2.cell? ⟨db, 2, none⟩ = some (.int .u8 (d.b : Int)) := f2.cell hd2 fun h => h
  have HP2 := hid (HP1.out.nil f2)
  have HR2 := hid r2
  have HF2 := hid f2
  have HB2 := hid (HB1.out.fr f2 fun h => h)
  clear r2 f2
  have HBy := hid (byt_full hb)
  by_cases h77 : d.b = 77
  · have h77b : ((d.b : Int) == 77) = true := by rw [h77]; rfl
    have HDl := hid (show dlen d.b = 63 ∧ dbys d.b = (rep d.b).drop 1 from by unfold dlen dbys; rw [if_pos h77, if_pos h77, h77]; exact ⟨rfl, rfl⟩)
    have HVb := hid (show View w2 (New w1) 1 (.slice (some ⟨g, 1, none⟩) 63 63) 63 (bys (dbys d.b)) from by
      have h9 := HR2.out.view.drop (l := 1) (by decide)
      rw [HDl.out.2]
      rw [bys_drop'] at h9
      exact h9)
    have HBy2 := hid (show Byt (dbys d.b) from by rw [HDl.out.2]; exact fun c hc => HBy.out c (List.mem_of_mem_drop hc))
    clear h77
    go_upto_region 9 with (fail)
    have ed : Fr Nil w2 w2.drew := (Fr.refl _ _).drew
    have hS2 : (fun w' : World => w'.cell? ⟨db, 1, none⟩ = some (.int .i64 d.n)) w2.drew := HB2.out.cell 1
    have HPd := hid (HP2.out.nil ed)
    refine wpU_region (k := 11) (S := fun w' : World => w'.cell? ⟨db, 1, none⟩ = some (.int .i64 d.n)) (by kernel_rfl) ?_
    refine wpU_take (i := 0) (v := ?_) rfl (by kernel_rfl) (by kernel_rfl) (fun _ _ _ h => h) _ _ _ _ (by kernel_rfl) (by kernel_rfl) (by kernel_rfl) (Or.inl ⟨by kernel_rfl, ?_⟩) hS2 ?_
    rotate_left
    · (intro w9 hS9; obtain s0 := hS9; go_simp); (try with_reducible rfl)
    try simp only [Act.put, List.getElem_toArray, List.getElem_cons_succ, List.getElem_cons_zero, List.setIfInBounds_toArray, List.set_cons_zero, List.set_cons_succ]
    refine wpU_take (i := 1) (v := ?_) rfl (by kernel_rfl) (by kernel_rfl) (fun _ _ _ h => h) _ _ _ _ (by kernel_rfl) (by kernel_rfl) (by kernel_rfl) (Or.inl ⟨by kernel_rfl, ?_⟩) hS2 ?_
    rotate_left
    · (intro w9 hS9; obtain s0 := hS9; go_simp); (try with_reducible rfl)
    try simp only [Act.put, List.getElem_toArray, List.getElem_cons_succ, List.getElem_cons_zero, List.setIfInBounds_toArray, List.set_cons_zero, List.set_cons_succ]
    refine wpU_take (i := 2) (v := ?_) rfl (by kernel_rfl) (by kernel_rfl) (fun _ _ _ h => h) _ _ _ _ (by kernel_rfl) (by kernel_rfl) (by kernel_rfl) (Or.inl ⟨by kernel_rfl, ?_⟩) hS2 ?_
    rotate_left
    · (intro w9 hS9; obtain s0 := hS9; go_simp); (try with_reducible rfl)
    try simp only [Act.put, List.getElem_toArray, List.getElem_cons_succ, List.getElem_cons_zero, List.setIfInBounds_toArray, List.set_cons_zero, List.set_cons_succ]
    refine wpU_take (i := 3) (v := ?_) rfl (by kernel_rfl) (by kernel_rfl) (fun _ _ _ h => h) _ _ _ _ (by kernel_rfl) (by kernel_rfl) (by kernel_rfl) (Or.inl ⟨by kernel_rfl, ?_⟩) hS2 ?_
    rotate_left
    · (intro w9 hS9; obtain s0 := hS9; go_simp); (try with_reducible rfl)
    try simp only [Act.put, List.getElem_toArray, List.getElem_cons_succ, List.getElem_cons_zero, List.setIfInBounds_toArray, List.set_cons_zero, List.set_cons_succ]
    refine wpU_take (i := 5) (v := ?_) rfl (by kernel_rfl) (by kernel_rfl) (fun _ _ _ h => h) _ _ _ _ (by kernel_rfl) (by kernel_rfl) (by kernel_rfl) (Or.inl ⟨by kernel_rfl, ?_⟩) hS2 ?_
    rotate_left
    · (intro w9 hS9; obtain s0 := hS9; go_simp); (try with_reducible rfl)
    try simp only [Act.put, List.getElem_toArray, List.getElem_cons_succ, List.getElem_cons_zero, List.setIfInBounds_toArray, List.set_cons_zero, List.set_cons_succ]
    refine wpU_take (i := 6) (v := ?_) rfl (by kernel_rfl) (by kernel_rfl) (fun _ _ _ h => h) _ _ _ _ (by kernel_rfl) (by kernel_rfl) (by kernel_rfl) (Or.inl ⟨by kernel_rfl, ?_⟩) hS2 ?_
    rotate_left
    · (intro w9 hS9; obtain s0 := hS9; go_simp); (try with_reducible rfl)
    try simp only [Act.put, List.getElem_toArray, List.getElem_cons_succ, List.getElem_cons_zero, List.setIfInBounds_toArray, List.set_cons_zero, List.set_cons_succ]
    refine wpU_take (i := 7) (v := ?_) rfl (by kernel_rfl) (by kernel_rfl) (fun _ _ _ h => h) _ _ _ _ (by kernel_rfl) (by kernel_rfl) (by kernel_rfl) (Or.inl ⟨by kernel_rfl, ?_⟩) hS2 ?_
    rotate_left
    · (intro w9 hS9; obtain s0 := hS9; go_simp); (try with_reducible rfl)
    try simp only [Act.put, List.getElem_toArray, List.getElem_cons_succ, List.getElem_cons_zero, List.setIfInBounds_toArray, List.set_cons_zero, List.set_cons_succ]
    refine wpU_take (i := 8) (v := ?_) rfl (by kernel_rfl) (by kernel_rfl) (fun _ _ _ h => h) _ _ _ _ (by kernel_rfl) (by kernel_rfl) (by kernel_rfl) (Or.inl ⟨by kernel_rfl, ?_⟩) hS2 ?_
    rotate_left
    · (intro w9 hS9; obtain s0 := hS9; go_simp); (try with_reducible rfl)
    try simp only [Act.put, List.getElem_toArray, List.getElem_cons_succ, List.getElem_cons_zero, List.setIfInBounds_toArray, List.set_cons_zero, List.set_cons_succ]
    refine wpU_next (i := 4) rfl (by kernel_rfl) (fun K hK => ?_)
    go_simp
    refine (p_write (S1 := fun k => New w1 k ∧ k < w2.heap.size) d.n 63 (dbys d.b) _ Hok.out HPd.out.ip HVb.out.drew.bd HBy2.out (fun k hk ht => by have h9 : w1.heap.size ≤ k := hk.1; have := HP1.out.lp k ht; omega)).mono ?_
    rintro e w3 ⟨rfl, p3, f3⟩
    obtain ⟨T2, P3, ht2⟩ := HPd.out.stepP p3 f3
    have hS3 : (fun w' : World => w'.cell? ⟨db, 1, none⟩ = some (.int .i64 d.n)) w3 := f3.cell hS2 fun h => by have h9 := Hdb.out _ (.inl h); exact absurd h9 (Nat.lt_irrefl _)
    have HP3 := hid P3
    have HT2 := hid ht2
    have HF3 := hid f3
    have HVb3 := hid (View.fr HVb.out.drew.bd f3 fun k hk _ h => by have h9 : w1.heap.size ≤ k := hk.1; have := HP1.out.lp k h; omega)
    clear p3 P3 ht2 f3
    refine hK.out _ _ (fun _ => hS3) ?_
    clear hK K
    try simp only [Act.put, List.getElem_toArray, List.getElem_cons_succ, List.getElem_cons_zero, List.setIfInBounds_toArray, List.set_cons_zero, List.set_cons_succ]
    refine wpU_next (i := 9) rfl (by kernel_rfl) (fun K hK => ?_)
    go_simp
    refine (m_write TM _ mb p d.n 63 (dbys d.b) _ (badB p 2) (badB_iff p 2) Hok.out hn w3 HP3.out.im HVb3.out HBy2.out (fun k hk ht => by have h9 : w1.heap.size ≤ k := hk.1; have := HP1.out.lm k ht; omega)).mono ?_
    rintro e w4 ⟨rfl, p4, f4⟩
    obtain ⟨TM2, P4, hm2⟩ := HP3.out.stepM p4 f4
    have hS4 : (fun w' : World => w'.cell? ⟨db, 1, none⟩ = some (.int .i64 d.n)) w4 := f4.cell hS3 fun h => by have h9 := Hdb.out _ (.inr h); exact absurd h9 (Nat.lt_irrefl _)
    have HP4 := hid P4
    have HM2 := hid hm2
    have HSZ := hid (show w1.heap.size ≤ w2.drew.heap.size ∧ w1.heap.size ≤ w3.heap.size from ⟨HF2.out.size, Nat.le_trans HF2.out.size HF3.out.size⟩)
    have HFF := hid (show Fr (fun k => T k ∨ TM k) w1 w4 from (HF2.out.drew.nil).then ((HF3.out.mono fun k hk => .inl hk).then (f4.mono fun k hk => .inr hk)))
    clear p4 P4 hm2 f4
    refine hK.out _ _ (fun _ => hS4) ?_
    clear hK K
    try simp only [Act.put, List.getElem_toArray, List.getElem_cons_succ, List.getElem_cons_zero, List.setIfInBounds_toArray, List.set_cons_zero, List.set_cons_succ]
    refine wpU_next (i := 10) rfl (by kernel_rfl) (fun K hK => ?_)
    go_simp
    refine hK.out _ _ (fun _ => hS4) ?_
    clear hK K
    try simp only [Act.put, List.getElem_toArray, List.getElem_cons_succ, List.getElem_cons_zero, List.setIfInBounds_toArray, List.set_cons_zero, List.set_cons_succ]
    refine wpU_next (i := 11) rfl (by kernel_rfl) (fun K hK => ?_)
    go_simp
    refine hK.out _ _ (fun h => absurd rfl h.1) ?_
    refine wpU_done (by kernel_rfl) ?_ _
    clear hK K
    clear hS2 hS3 hS4
    go_wp2
    go_ret
    refine ⟨rfl, ⟨T2, TM2, by rw [E.out]; exact (show Pair2 w4 T2 TM2 pb mb (wrP (badB p 2) p d.n (dlen d.b) (dbys d.b)) (wrP (badB p 2) p d.n (dlen d.b) (dbys d.b)) from by rw [HDl.out.1]; exact HP4.out), fun k hk => ?_, fun k hk => ?_⟩, ?_⟩
    · exact (HT2.out k hk).imp id fun h => Nat.le_trans F1.out.size (Nat.le_trans HSZ.out.1 h)
    · exact (HM2.out k hk).imp id fun h => Nat.le_trans F1.out.size (Nat.le_trans HSZ.out.2 h)
    · exact (F1.out.nil).then HFF.out
  · have h77b : ((d.b : Int) == 77) = false := by simp; omega
    have HDl := hid (show dlen d.b = 64 ∧ dbys d.b = rep d.b from by unfold dlen dbys; rw [if_neg h77, if_neg h77]; exact ⟨rfl, rfl⟩)
    have HVb := hid (show View w2 (New w1) 1 (.slice (some ⟨g, 0, none⟩) 64 64) 64 (bys (dbys d.b)) from by rw [HDl.out.2]; exact HR2.out.view)
    have HBy2 := hid (show Byt (dbys d.b) from by rw [HDl.out.2]; exact HBy.out)
    clear h77
    go_upto_region 9 with (fail)
    have ed : Fr Nil w2 w2.drew := (Fr.refl _ _).drew
    have hS2 : (fun w' : World => w'.cell? ⟨db, 1, none⟩ = some (.int .i64 d.n)) w2.drew := HB2.out.cell 1
    have HPd := hid (HP2.out.nil ed)
    refine wpU_region (k := 11) (S := fun w' : World => w'.cell? ⟨db, 1, none⟩ = some (.int .i64 d.n)) (by kernel_rfl) ?_
    refine wpU_take (i := 0) (v := ?_) rfl (by kernel_rfl) (by kernel_rfl) (fun _ _ _ h => h) _ _ _ _ (by kernel_rfl) (by kernel_rfl) (by kernel_rfl) (Or.inl ⟨by kernel_rfl, ?_⟩) hS2 ?_
    rotate_left
    · (intro w9 hS9; obtain s0 := hS9; go_simp); (try with_reducible rfl)
    try simp only [Act.put, List.getElem_toArray, List.getElem_cons_succ, List.getElem_cons_zero, List.setIfInBounds_toArray, List.set_cons_zero, List.set_cons_succ]
    refine wpU_take (i := 1) (v := ?_) rfl (by kernel_rfl) (by kernel_rfl) (fun _ _ _ h => h) _ _ _ _ (by kernel_rfl) (by kernel_rfl) (by kernel_rfl) (Or.inl ⟨by kernel_rfl, ?_⟩) hS2 ?_
    rotate_left
    · (intro w9 hS9; obtain s0 := hS9; go_simp); (try with_reducible rfl)
    try simp only [Act.put, List.getElem_toArray, List.getElem_cons_succ, List.getElem_cons_zero, List.setIfInBounds_toArray, List.set_cons_zero, List.set_cons_succ]
    refine wpU_take (i := 2) (v := ?_) rfl (by kernel_rfl) (by kernel_rfl) (fun _ _ _ h => h) _ _ _ _ (by kernel_rfl) (by kernel_rfl) (by kernel_rfl) (Or.inl ⟨by kernel_rfl, ?_⟩) hS2 ?_
    rotate_left
    · (intro w9 hS9; obtain s0 := hS9; go_simp); (try with_reducible rfl)
    try simp only [Act.put, List.getElem_toArray, List.getElem_cons_succ, List.getElem_cons_zero, List.setIfInBounds_toArray, List.set_cons_zero, List.set_cons_succ]
    refine wpU_take (i := 3) (v := ?_) rfl (by kernel_rfl) (by kernel_rfl) (fun _ _ _ h => h) _ _ _ _ (by kernel_rfl) (by kernel_rfl) (by kernel_rfl) (Or.inl ⟨by kernel_rfl, ?_⟩) hS2 ?_
    rotate_left
    · (intro w9 hS9; obtain s0 := hS9; go_simp); (try with_reducible rfl)
    try simp only [Act.put, List.getElem_toArray, List.getElem_cons_succ, List.getElem_cons_zero, List.setIfInBounds_toArray, List.set_cons_zero, List.set_cons_succ]
    refine wpU_take (i := 5) (v := ?_) rfl (by kernel_rfl) (by kernel_rfl) (fun _ _ _ h => h) _ _ _ _ (by kernel_rfl) (by kernel_rfl) (by kernel_rfl) (Or.inl ⟨by kernel_rfl, ?_⟩) hS2 ?_
    rotate_left
    · (intro w9 hS9; obtain s0 := hS9; go_simp); (try with_reducible rfl)
    try simp only [Act.put, List.getElem_toArray, List.getElem_cons_succ, List.getElem_cons_zero, List.setIfInBounds_toArray, List.set_cons_zero, List.set_cons_succ]
    refine wpU_take (i := 6) (v := ?_) rfl (by kernel_rfl) (by kernel_rfl) (fun _ _ _ h => h) _ _ _ _ (by kernel_rfl) (by kernel_rfl) (by kernel_rfl) (Or.inl ⟨by kernel_rfl, ?_⟩) hS2 ?_
    rotate_left
    · (intro w9 hS9; obtain s0 := hS9; go_simp); (try with_reducible rfl)
    try simp only [Act.put, List.getElem_toArray, List.getElem_cons_succ, List.getElem_cons_zero, List.setIfInBounds_toArray, List.set_cons_zero, List.set_cons_succ]
    refine wpU_take (i := 7) (v := ?_) rfl (by kernel_rfl) (by kernel_rfl) (fun _ _ _ h => h) _ _ _ _ (by kernel_rfl) (by kernel_rfl) (by kernel_rfl) (Or.inl ⟨by kernel_rfl, ?_⟩) hS2 ?_
    rotate_left
    · (intro w9 hS9; obtain s0 := hS9; go_simp); (try with_reducible rfl)
    try simp only [Act.put, List.getElem_toArray, List.getElem_cons_succ, List.getElem_cons_zero, List.setIfInBounds_toArray, List.set_cons_zero, List.set_cons_succ]
    refine wpU_take (i := 8) (v := ?_) rfl (by kernel_rfl) (by kernel_rfl) (fun _ _ _ h => h) _ _ _ _ (by kernel_rfl) (by kernel_rfl) (by kernel_rfl) (Or.inl ⟨by kernel_rfl, ?_⟩) hS2 ?_
    rotate_left
    · (intro w9 hS9; obtain s0 := hS9; go_simp); (try with_reducible rfl)
    try simp only [Act.put, List.getElem_toArray, List.getElem_cons_succ, List.getElem_cons_zero, List.setIfInBounds_toArray, List.set_cons_zero, List.set_cons_succ]
    refine wpU_next (i := 4) rfl (by kernel_rfl) (fun K hK => ?_)
    go_simp
    refine (p_write (S1 := fun k => New w1 k ∧ k < w2.heap.size) d.n 64 (dbys d.b) _ Hok.out HPd.out.ip HVb.out.drew.bd HBy2.out (fun k hk ht => by have h9 : w1.heap.size ≤ k := hk.1; have := HP1.out.lp k ht; omega)).mono ?_
    rintro e w3 ⟨rfl, p3, f3⟩
    obtain ⟨T2, P3, ht2⟩ := HPd.out.stepP p3 f3
    have hS3 : (fun w' : World => w'.cell? ⟨db, 1, none⟩ = some (.int .i64 d.n)) w3 := f3.cell hS2 fun h => by have h9 := Hdb.out _ (.inl h); exact absurd h9 (Nat.lt_irrefl _)
    have HP3 := hid P3
    have HT2 := hid ht2
    have HF3 := hid f3
    have HVb3 := hid (View.fr HVb.out.drew.bd f3 fun k hk _ h => by have h9 : w1.heap.size ≤ k := hk.1; have := HP1.out.lp k h; omega)
    clear p3 P3 ht2 f3
    refine hK.out _ _ (fun _ => hS3) ?_
    clear hK K
    try simp only [Act.put, List.getElem_toArray, List.getElem_cons_succ, List.getElem_cons_zero, List.setIfInBounds_toArray, List.set_cons_zero, List.set_cons_succ]
    refine wpU_next (i := 9) rfl (by kernel_rfl) (fun K hK => ?_)
    go_simp
    refine (m_write TM _ mb p d.n 64 (dbys d.b) _ (badB p 2) (badB_iff p 2) Hok.out hn w3 HP3.out.im HVb3.out HBy2.out (fun k hk ht => by have h9 : w1.heap.size ≤ k := hk.1; have := HP1.out.lm k ht; omega)).mono ?_
    rintro e w4 ⟨rfl, p4, f4⟩
    obtain ⟨TM2, P4, hm2⟩ := HP3.out.stepM p4 f4
    have hS4 : (fun w' : World => w'.cell? ⟨db, 1, none⟩ = some (.int .i64 d.n)) w4 := f4.cell hS3 fun h => by have h9 := Hdb.out _ (.inr h); exact absurd h9 (Nat.lt_irrefl _)
    have HP4 := hid P4
    have HM2 := hid hm2
    have HSZ := hid (show w1.heap.size ≤ w2.drew.heap.size ∧ w1.heap.size ≤ w3.heap.size from ⟨HF2.out.size, Nat.le_trans HF2.out.size HF3.out.size⟩)
    have HFF := hid (show Fr (fun k => T k ∨ TM k) w1 w4 from (HF2.out.drew.nil).then ((HF3.out.mono fun k hk => .inl hk).then (f4.mono fun k hk => .inr hk)))
    clear p4 P4 hm2 f4
    refine hK.out _ _ (fun _ => hS4) ?_
    clear hK K
    try simp only [Act.put, List.getElem_toArray, List.getElem_cons_succ, List.getElem_cons_zero, List.setIfInBounds_toArray, List.set_cons_zero, List.set_cons_succ]
    refine wpU_next (i := 10) rfl (by kernel_rfl) (fun K hK => ?_)
    go_simp
    refine hK.out _ _ (fun _ => hS4) ?_
    clear hK K
    try simp only [Act.put, List.getElem_toArray, List.getElem_cons_succ, List.getElem_cons_zero, List.setIfInBounds_toArray, List.set_cons_zero, List.set_cons_succ]
    refine wpU_next (i := 11) rfl (by kernel_rfl) (fun K hK => ?_)
    go_simp
    refine hK.out _ _ (fun h => absurd rfl h.1) ?_
    refine wpU_done (by kernel_rfl) ?_ _
    clear hK K
    clear hS2 hS3 hS4
    go_wp2
    go_ret
    refine ⟨rfl, ⟨T2, TM2, by rw [E.out]; exact (show Pair2 w4 T2 TM2 pb mb (wrP (badB p 2) p d.n (dlen d.b) (dbys d.b)) (wrP (badB p 2) p d.n (dlen d.b) (dbys d.b)) from by rw [HDl.out.1]; exact HP4.out), fun k hk => ?_, fun k hk => ?_⟩, ?_⟩
    · exact (HT2.out k hk).imp id fun h => Nat.le_trans F1.out.size (Nat.le_trans HSZ.out.1 h)
    · exact (HM2.out k hk).imp id fun h => Nat.le_trans F1.out.size (Nat.le_trans HSZ.out.2 h)
    · exact (F1.out.nil).then HFF.out
set_option maxRecDepth 20000 in
set_option maxHeartbeats 4000000 in
theorem do_write1 (T TM S : Nat → Prop) (pb mb : Nat) (p : Pl) (m : Nat) (d : Dd) (Ak Af : Option Addr) (ck cf kl fl : Nat) (hdd : d.d = 1) (w : World) (h : Pair2 w T TM pb mb p p) (hok : p.okm m) (hm : m ≤ 900000) (hd : DdOk d kl fl w S Ak Af ck cf) (hS : ∀ k, S k → ¬ T k ∧ ¬ TM k) :
    Calls Try.prog 22 #[.pointer (some ⟨pb, 0, none⟩), .pointer (some ⟨mb, 0, none⟩), .agg #[.int .i64 d.d, .int .i64 d.n, .int .u8 (d.b : Int), .int .u32 (d.mask : Int), .slice Ak kl ck, .slice Af fl cf]] w (DoPost w T TM pb mb d p) := by
  have hpok := hok.ok (by omega)
  obtain ⟨hn, hb, hmask, hkl, hfl, hkv, hfv⟩ := hd
  have Hok := hid hpok
  have HP := hid h
  have HS := hid hS
  have HK := hid hkv
  have HV := hid hfv
  clear hpok h hS hkv hfv hok
  have E := hid (show doP d p = (wrP (badB p 2) p d.n (dlen d.b) (dbys d.b)) from by unfold doP; rw [if_pos (by omega)])
  have Hdd := hid hdd
  have Hfl := hid hfl.1
  have hfl20 := hfl.2
  clear hdd hfl
  go_enter Try.func22, Try.ntmps22
  go_upto_region 1 with (fail)
  obtain ⟨w1, hw1⟩ : ∃ w1, w1 = w.alloc (.cells #[.int .i64 d.d, .int .i64 d.n, .int .u8 (d.b : Int), .int .u32 (d.mask : Int), .slice Ak kl ck, .slice Af fl cf] 55) := ⟨_, rfl⟩
  have b1 : Blk w1 w.heap.size #[.int .i64 d.d, .int .i64 d.n, .int .u8 (d.b : Int), .int .u32 (d.mask : Int), .slice Ak kl ck, .slice Af fl cf] 55 := by rw [hw1]; exact Blk.new _ _ _
  have f1 : Fr Nil w w1 := by rw [hw1]; exact (Fr.refl _ _).alloc _
  rw [← hw1]
  clear hw1
  obtain ⟨db, hdb⟩ : ∃ db, db = w.heap.size := ⟨_, rfl⟩
  rw [← hdb] at b1 ⊢
  have Hdb := hid (show ∀ k, T k ∨ TM k → k < db from fun k hk => by rw [hdb]; exact hk.elim (HP.out.lp k) (HP.out.lm k))
  have Hdw := hid (show w.heap.size ≤ db from by omega)
  have HB1 := hid b1
  have F1 := hid f1
  have HP1 := hid (HP.out.nil f1)
  have HK1 := hid (HK.out.fr f1 fun _ _ _ h => h)
  have HV1 := hid (HV.out.fr f1 fun _ _ _ h => h)
  have hd0 : w1.cell? ⟨db, 0, none⟩ = some (.int .i64 d.d) := b1.cell 0
  clear b1 f1 hdb HP HK HV
  rw [Hdd.out] at hd0
  have hd2 : w1.cell? ⟨db, 2, none⟩ = some (.int .u8 (d.b : Int)) := HB1.out.cell 2
  go_wp2_with fail
  refine (full_rep d.b w1).mono ?_
  rintro e w2 ⟨g, rfl, r2, f2⟩
  have hd2 : w2.cell? ⟨db, 2, none⟩ = some (.int .u8 (d.b : Int)) := f2.cell hd2 fun h => h
  have HP2 := hid (HP1.out.nil f2)
  have HR2 := hid r2
  have HF2 := hid f2
  have HB2 := hid (HB1.out.fr f2 fun h => h)
  clear r2 f2
  have HBy := hid (byt_full hb)
  by_cases h77 : d.b = 77
  · have h77b : ((d.b : Int) == 77) = true := by rw [h77]; rfl
    have HDl := hid (show dlen d.b = 63 ∧ dbys d.b = (rep d.b).drop 1 from by unfold dlen dbys; rw [if_pos h77, if_pos h77, h77]; exact ⟨rfl, rfl⟩)
    have HVb := hid (show View w2 (New w1) 1 (.slice (some ⟨g, 1, none⟩) 63 63) 63 (bys (dbys d.b)) from by
      have h9 := HR2.out.view.drop (l := 1) (by decide)
      rw [HDl.out.2]
      rw [bys_drop'] at h9
      exact h9)
    have HBy2 := hid (show Byt (dbys d.b) from by rw [HDl.out.2]; exact fun c hc => HBy.out c (List.mem_of_mem_drop hc))
    clear h77
    go_upto_region 9 with (fail)
    have ed : Fr Nil w2 w2.drew := (Fr.refl _ _).drew
    have hS2 : (fun w' : World => w'.cell? ⟨db, 1, none⟩ = some (.int .i64 d.n)) w2.drew := HB2.out.cell 1
    have HPd := hid (HP2.out.nil ed)
    refine wpU_region (k := 11) (S := fun w' : World => w'.cell? ⟨db, 1, none⟩ = some (.int .i64 d.n)) (by kernel_rfl) ?_
    refine wpU_take (i := 0) (v := ?_) rfl (by kernel_rfl) (by kernel_rfl) (fun _ _ _ h => h) _ _ _ _ (by kernel_rfl) (by kernel_rfl) (by kernel_rfl) (Or.inl ⟨by kernel_rfl, ?_⟩) hS2 ?_
    rotate_left
    · (intro w9 hS9; obtain s0 := hS9; go_simp); (try with_reducible rfl)
    try simp only [Act.put, List.getElem_toArray, List.getElem_cons_succ, List.getElem_cons_zero, List.setIfInBounds_toArray, List.set_cons_zero, List.set_cons_succ]
    refine wpU_take (i := 1) (v := ?_) rfl (by kernel_rfl) (by kernel_rfl) (fun _ _ _ h => h) _ _ _ _ (by kernel_rfl) (by kernel_rfl) (by kernel_rfl) (Or.inl ⟨by kernel_rfl, ?_⟩) hS2 ?_
    rotate_left
    · (intro w9 hS9; obtain s0 := hS9; go_simp); (try with_reducible rfl)
    try simp only [Act.put, List.getElem_toArray, List.getElem_cons_succ, List.getElem_cons_zero, List.setIfInBounds_toArray, List.set_cons_zero, List.set_cons_succ]
    refine wpU_take (i := 2) (v := ?_) rfl (by kernel_rfl) (by kernel_rfl) (fun _ _ _ h => h) _ _ _ _ (by kernel_rfl) (by kernel_rfl) (by kernel_rfl) (Or.inl ⟨by kernel_rfl, ?_⟩) hS2 ?_
    rotate_left
    · (intro w9 hS9; obtain s0 := hS9; go_simp); (try with_reducible rfl)
    try simp only [Act.put, List.getElem_toArray, List.getElem_cons_succ, List.getElem_cons_zero, List.setIfInBounds_toArray, List.set_cons_zero, List.set_cons_succ]
    refine wpU_take (i := 3) (v := ?_) rfl (by kernel_rfl) (by kernel_rfl) (fun _ _ _ h => h) _ _ _ _ (by kernel_rfl) (by kernel_rfl) (by kernel_rfl) (Or.inl ⟨by kernel_rfl, ?_⟩) hS2 ?_
    rotate_left
    · (intro w9 hS9; obtain s0 := hS9; go_simp); (try with_reducible rfl)
    try simp only [Act.put, List.getElem_toArray, List.getElem_cons_succ, List.getElem_cons_zero, List.setIfInBounds_toArray, List.set_cons_zero, List.set_cons_succ]
    refine wpU_take (i := 5) (v := ?_) rfl (by kernel_rfl) (by kernel_rfl) (fun _ _ _ h => h) _ _ _ _ (by kernel_rfl) (by kernel_rfl) (by kernel_rfl) (Or.inl ⟨by kernel_rfl, ?_⟩) hS2 ?_
    rotate_left
    · (intro w9 hS9; obtain s0 := hS9; go_simp); (try with_reducible rfl)
    try simp only [Act.put, List.getElem_toArray, List.getElem_cons_succ, List.getElem_cons_zero, List.setIfInBounds_toArray, List.set_cons_zero, List.set_cons_succ]
    refine wpU_take (i := 6) (v := ?_) rfl (by kernel_rfl) (by kernel_rfl) (fun _ _ _ h => h) _ _ _ _ (by kernel_rfl) (by kernel_rfl) (by kernel_rfl) (Or.inl ⟨by kernel_rfl, ?_⟩) hS2 ?_
    rotate_left
    · (intro w9 hS9; obtain s0 := hS9; go_simp); (try with_reducible rfl)
    try simp only [Act.put, List.getElem_toArray, List.getElem_cons_succ, List.getElem_cons_zero, List.setIfInBounds_toArray, List.set_cons_zero, List.set_cons_succ]
    refine wpU_take (i := 7) (v := ?_) rfl (by kernel_rfl) (by kernel_rfl) (fun _ _ _ h => h) _ _ _ _ (by kernel_rfl) (by kernel_rfl) (by kernel_rfl) (Or.inl ⟨by kernel_rfl, ?_⟩) hS2 ?_
    rotate_left
    · (intro w9 hS9; obtain s0 := hS9; go_simp); (try with_reducible rfl)
    try simp only [Act.put, List.getElem_toArray, List.getElem_cons_succ, List.getElem_cons_zero, List.setIfInBounds_toArray, List.set_cons_zero, List.set_cons_succ]
    refine wpU_take (i := 8) (v := ?_) rfl (by kernel_rfl) (by kernel_rfl) (fun _ _ _ h => h) _ _ _ _ (by kernel_rfl) (by kernel_rfl) (by kernel_rfl) (Or.inl ⟨by kernel_rfl, ?_⟩) hS2 ?_
    rotate_left
    · (intro w9 hS9; obtain s0 := hS9; go_simp); (try with_reducible rfl)
    try simp only [Act.put, List.getElem_toArray, List.getElem_cons_succ, List.getElem_cons_zero, List.setIfInBounds_toArray, List.set_cons_zero, List.set_cons_succ]
    refine wpU_next (i := 4) rfl (by kernel_rfl) (fun K hK => ?_)
    go_simp
    refine (p_write (S1 := fun k => New w1 k ∧ k < w2.heap.size) d.n 63 (dbys d.b) _ Hok.out HPd.out.ip HVb.out.drew.bd HBy2.out (fun k hk ht => by have h9 : w1.heap.size ≤ k := hk.1; have := HP1.out.lp k ht; omega)).mono ?_
    rintro e w3 ⟨rfl, p3, f3⟩
    obtain ⟨T2, P3, ht2⟩ := HPd.out.stepP p3 f3
    have hS3 : (fun w' : World => w'.cell? ⟨db, 1, none⟩ = some (.int .i64 d.n)) w3 := f3.cell hS2 fun h => by have h9 := Hdb.out _ (.inl h); exact absurd h9 (Nat.lt_irrefl _)
    have HP3 := hid P3
    have HT2 := hid ht2
    have HF3 := hid f3
    have HVb3 := hid (View.fr HVb.out.drew.bd f3 fun k hk _ h => by have h9 : w1.heap.size ≤ k := hk.1; have := HP1.out.lp k h; omega)
    clear p3 P3 ht2 f3
    refine hK.out _ _ (fun _ => hS3) ?_
    clear hK K
    try simp only [Act.put, List.getElem_toArray, List.getElem_cons_succ, List.getElem_cons_zero, List.setIfInBounds_toArray, List.set_cons_zero, List.set_cons_succ]
    refine wpU_next (i := 9) rfl (by kernel_rfl) (fun K hK => ?_)
    go_simp
    refine (m_write TM _ mb p d.n 63 (dbys d.b) _ (badB p 2) (badB_iff p 2) Hok.out hn w3 HP3.out.im HVb3.out HBy2.out (fun k hk ht => by have h9 : w1.heap.size ≤ k := hk.1; have := HP1.out.lm k ht; omega)).mono ?_
    rintro e w4 ⟨rfl, p4, f4⟩
    obtain ⟨TM2, P4, hm2⟩ := HP3.out.stepM p4 f4
    have hS4 : (fun w' : World => w'.cell? ⟨db, 1, none⟩ = some (.int .i64 d.n)) w4 := f4.cell hS3 fun h => by have h9 := Hdb.out _ (.inr h); exact absurd h9 (Nat.lt_irrefl _)
    have HP4 := hid P4
    have HM2 := hid hm2
    have HSZ := hid (show w1.heap.size ≤ w2.drew.heap.size ∧ w1.heap.size ≤ w3.heap.size from ⟨HF2.out.size, Nat.le_trans HF2.out.size HF3.out.size⟩)
    have HFF := hid (show Fr (fun k => T k ∨ TM k) w1 w4 from (HF2.out.drew.nil).then ((HF3.out.mono fun k hk => .inl hk).then (f4.mono fun k hk => .inr hk)))
    clear p4 P4 hm2 f4
    refine hK.out _ _ (fun _ => hS4) ?_
    clear hK K
    try simp only [Act.put, List.getElem_toArray, List.getElem_cons_succ, List.getElem_cons_zero, List.setIfInBounds_toArray, List.set_cons_zero, List.set_cons_succ]
    refine wpU_next (i := 10) rfl (by kernel_rfl) (fun K hK => ?_)
    go_simp
    refine hK.out _ _ (fun _ => hS4) ?_
    clear hK K
    try simp only [Act.put, List.getElem_toArray, List.getElem_cons_succ, List.getElem_cons_zero, List.setIfInBounds_toArray, List.set_cons_zero, List.set_cons_succ]
    refine wpU_next (i := 11) rfl (by kernel_rfl) (fun K hK => ?_)
    go_simp
    refine hK.out _ _ (fun h => absurd rfl h.1) ?_
    refine wpU_done (by kernel_rfl) ?_ _
    clear hK K
    clear hS2 hS3 hS4
    go_wp2
    go_ret
    refine ⟨rfl, ⟨T2, TM2, by rw [E.out]; exact (show Pair2 w4 T2 TM2 pb mb (wrP (badB p 2) p d.n (dlen d.b) (dbys d.b)) (wrP (badB p 2) p d.n (dlen d.b) (dbys d.b)) from by rw [HDl.out.1]; exact HP4.out), fun k hk => ?_, fun k hk => ?_⟩, ?_⟩
    · exact (HT2.out k hk).imp id fun h => Nat.le_trans F1.out.size (Nat.le_trans HSZ.out.1 h)
    · exact (HM2.out k hk).imp id fun h => Nat.le_trans F1.out.size (Nat.le_trans HSZ.out.2 h)
    · exact (F1.out.nil).then HFF.out
  · have h77b : ((d.b : Int) == 77) = false := by simp; omega
    have HDl := hid (show dlen d.b = 64 ∧ dbys d.b = rep d.b from by unfold dlen dbys; rw [if_neg h77, if_neg h77]; exact ⟨rfl, rfl⟩)
    have HVb := hid (show View w2 (New w1) 1 (.slice (some ⟨g, 0, none⟩) 64 64) 64 (bys (dbys d.b)) from by rw [HDl.out.2]; exact HR2.out.view)
    have HBy2 := hid (show Byt (dbys d.b) from by rw [HDl.out.2]; exact HBy.out)
    clear h77
    go_upto_region 9 with (fail)
    have ed : Fr Nil w2 w2.drew := (Fr.refl _ _).drew
    have hS2 : (fun w' : World => w'.cell? ⟨db, 1, none⟩ = some (.int .i64 d.n)) w2.drew := HB2.out.cell 1
    have HPd := hid (HP2.out.nil ed)
    refine wpU_region (k := 11) (S := fun w' : World => w'.cell? ⟨db, 1, none⟩ = some (.int .i64 d.n)) (by kernel_rfl) ?_
    refine wpU_take (i := 0) (v := ?_) rfl (by kernel_rfl) (by kernel_rfl) (fun _ _ _ h => h) _ _ _ _ (by kernel_rfl) (by kernel_rfl) (by kernel_rfl) (Or.inl ⟨by kernel_rfl, ?_⟩) hS2 ?_
    rotate_left
    · (intro w9 hS9; obtain s0 := hS9; go_simp); (try with_reducible rfl)
    try simp only [Act.put, List.getElem_toArray, List.getElem_cons_succ, List.getElem_cons_zero, List.setIfInBounds_toArray, List.set_cons_zero, List.set_cons_succ]
    refine wpU_take (i := 1) (v := ?_) rfl (by kernel_rfl) (by kernel_rfl) (fun _ _ _ h => h) _ _ _ _ (by kernel_rfl) (by kernel_rfl) (by kernel_rfl) (Or.inl ⟨by kernel_rfl, ?_⟩) hS2 ?_
    rotate_left
    · (intro w9 hS9; obtain s0 := hS9; go_simp); (try with_reducible rfl)
    try simp only [Act.put, List.getElem_toArray, List.getElem_cons_succ, List.getElem_cons_zero, List.setIfInBounds_toArray, List.set_cons_zero, List.set_cons_succ]
    refine wpU_take (i := 2) (v := ?_) rfl (by kernel_rfl) (by kernel_rfl) (fun _ _ _ h => h) _ _ _ _ (by kernel_rfl) (by kernel_rfl) (by kernel_rfl) (Or.inl ⟨by kernel_rfl, ?_⟩) hS2 ?_
    rotate_left
    · (intro w9 hS9; obtain s0 := hS9; go_simp); (try with_reducible rfl)
    try simp only [Act.put, List.getElem_toArray, List.getElem_cons_succ, List.getElem_cons_zero, List.setIfInBounds_toArray, List.set_cons_zero, List.set_cons_succ]
    refine wpU_take (i := 3) (v := ?_) rfl (by kernel_rfl) (by kernel_rfl) (fun _ _ _ h => h) _ _ _ _ (by kernel_rfl) (by kernel_rfl) (by kernel_rfl) (Or.inl ⟨by kernel_rfl, ?_⟩) hS2 ?_
    rotate_left
    · (intro w9 hS9; obtain s0 := hS9; go_simp); (try with_reducible rfl)
    try simp only [Act.put, List.getElem_toArray, List.getElem_cons_succ, List.getElem_cons_zero, List.setIfInBounds_toArray, List.set_cons_zero, List.set_cons_succ]
    refine wpU_take (i := 5) (v := ?_) rfl (by kernel_rfl) (by kernel_rfl) (fun _ _ _ h => h) _ _ _ _ (by kernel_rfl) (by kernel_rfl) (by kernel_rfl) (Or.inl ⟨by kernel_rfl, ?_⟩) hS2 ?_
    rotate_left
    · (intro w9 hS9; obtain s0 := hS9; go_simp); (try with_reducible rfl)
    try simp only [Act.put, List.getElem_toArray, List.getElem_cons_succ, List.getElem_cons_zero, List.setIfInBounds_toArray, List.set_cons_zero, List.set_cons_succ]
    refine wpU_take (i := 6) (v := ?_) rfl (by kernel_rfl) (by kernel_rfl) (fun _ _ _ h => h) _ _ _ _ (by kernel_rfl) (by kernel_rfl) (by kernel_rfl) (Or.inl ⟨by kernel_rfl, ?_⟩) hS2 ?_
    rotate_left
    · (intro w9 hS9; obtain s0 := hS9; go_simp); (try with_reducible rfl)
    try simp only [Act.put, List.getElem_toArray, List.getElem_cons_succ, List.getElem_cons_zero, List.setIfInBounds_toArray, List.set_cons_zero, List.set_cons_succ]
    refine wpU_take (i := 7) (v := ?_) rfl (by kernel_rfl) (by kernel_rfl) (fun _ _ _ h => h) _ _ _ _ (by kernel_rfl) (by kernel_rfl) (by kernel_rfl) (Or.inl ⟨by kernel_rfl, ?_⟩) hS2 ?_
    rotate_left
    · (intro w9 hS9; obtain s0 := hS9; go_simp); (try with_reducible rfl)
    try simp only [Act.put, List.getElem_toArray, List.getElem_cons_succ, List.getElem_cons_zero, List.setIfInBounds_toArray, List.set_cons_zero, List.set_cons_succ]
    refine wpU_take (i := 8) (v := ?_) rfl (by kernel_rfl) (by kernel_rfl) (fun _ _ _ h => h) _ _ _ _ (by kernel_rfl) (by kernel_rfl) (by kernel_rfl) (Or.inl ⟨by kernel_rfl, ?_⟩) hS2 ?_
    rotate_left
    · (intro w9 hS9; obtain s0 := hS9; go_simp); (try with_reducible rfl)
    try simp only [Act.put, List.getElem_toArray, List.getElem_cons_succ, List.getElem_cons_zero, List.setIfInBounds_toArray, List.set_cons_zero, List.set_cons_succ]
    refine wpU_next (i := 4) rfl (by kernel_rfl) (fun K hK => ?_)
    go_simp
    refine (p_write (S1 := fun k => New w1 k ∧ k < w2.heap.size) d.n 64 (dbys d.b) _ Hok.out HPd.out.ip HVb.out.drew.bd HBy2.out (fun k hk ht => by have h9 : w1.heap.size ≤ k := hk.1; have := HP1.out.lp k ht; omega)).mono ?_
    rintro e w3 ⟨rfl, p3, f3⟩
    obtain ⟨T2, P3, ht2⟩ := HPd.out.stepP p3 f3
    have hS3 : (fun w' : World => w'.cell? ⟨db, 1, none⟩ = some (.int .i64 d.n)) w3 := f3.cell hS2 fun h => by have h9 := Hdb.out _ (.inl h); exact absurd h9 (Nat.lt_irrefl _)
    have HP3 := hid P3
    have HT2 := hid ht2
    have HF3 := hid f3
    have HVb3 := hid (View.fr HVb.out.drew.bd f3 fun k hk _ h => by have h9 : w1.heap.size ≤ k := hk.1; have := HP1.out.lp k h; omega)
    clear p3 P3 ht2 f3
    refine hK.out _ _ (fun _ => hS3) ?_
    clear hK K
    try simp only [Act.put, List.getElem_toArray, List.getElem_cons_succ, List.getElem_cons_zero, List.setIfInBounds_toArray, List.set_cons_zero, List.set_cons_succ]
    refine wpU_next (i := 9) rfl (by kernel_rfl) (fun K hK => ?_)
    go_simp
    refine (m_write TM _ mb p d.n 64 (dbys d.b) _ (badB p 2) (badB_iff p 2) Hok.out hn w3 HP3.out.im HVb3.out HBy2.out (fun k hk ht => by have h9 : w1.heap.size ≤ k := hk.1; have := HP1.out.lm k ht; omega)).mono ?_
    rintro e w4 ⟨rfl, p4, f4⟩
    obtain ⟨TM2, P4, hm2⟩ := HP3.out.stepM p4 f4
    have hS4 : (fun w' : World => w'.cell? ⟨db, 1, none⟩ = some (.int .i64 d.n)) w4 := f4.cell hS3 fun h => by have h9 := Hdb.out _ (.inr h); exact absurd h9 (Nat.lt_irrefl _)
    have HP4 := hid P4
    have HM2 := hid hm2
    have HSZ := hid (show w1.heap.size ≤ w2.drew.heap.size ∧ w1.heap.size ≤ w3.heap.size from ⟨HF2.out.size, Nat.le_trans HF2.out.size HF3.out.size⟩)
    have HFF := hid (show Fr (fun k => T k ∨ TM k) w1 w4 from (HF2.out.drew.nil).then ((HF3.out.mono fun k hk => .inl hk).then (f4.mono fun k hk => .inr hk)))
    clear p4 P4 hm2 f4
    refine hK.out _ _ (fun _ => hS4) ?_
    clear hK K
    try simp only [Act.put, List.getElem_toArray, List.getElem_cons_succ, List.getElem_cons_zero, List.setIfInBounds_toArray, List.set_cons_zero, List.set_cons_succ]
    refine wpU_next (i := 10) rfl (by kernel_rfl) (fun K hK => ?_)
    go_simp
    refine hK.out _ _ (fun _ => hS4) ?_
    clear hK K
    try simp only [Act.put, List.getElem_toArray, List.getElem_cons_succ, List.getElem_cons_zero, List.setIfInBounds_toArray, List.set_cons_zero, List.set_cons_succ]
    refine wpU_next (i := 11) rfl (by kernel_rfl) (fun K hK => ?_)
    go_simp
    refine hK.out _ _ (fun h => absurd rfl h.1) ?_
    refine wpU_done (by kernel_rfl) ?_ _
    clear hK K
    clear hS2 hS3 hS4
    go_wp2
    go_ret
    refine ⟨rfl, ⟨T2, TM2, by rw [E.out]; exact (show Pair2 w4 T2 TM2 pb mb (wrP (badB p 2) p d.n (dlen d.b) (dbys d.b)) (wrP (badB p 2) p d.n (dlen d.b) (dbys d.b)) from by rw [HDl.out.1]; exact HP4.out), fun k hk => ?_, fun k hk => ?_⟩, ?_⟩
    · exact (HT2.out k hk).imp id fun h => Nat.le_trans F1.out.size (Nat.le_trans HSZ.out.1 h)
    · exact (HM2.out k hk).imp id fun h => Nat.le_trans F1.out.size (Nat.le_trans HSZ.out.2 h)
    · exact (F1.out.nil).then HFF.out
set_option maxRecDepth 20000 in
set_option maxHeartbeats 4000000 in
theorem do_write2 (T TM S : Nat → Prop) (pb mb : Nat) (p : Pl) (m : Nat) (d : Dd) (Ak Af : Option Addr) (ck cf kl fl : Nat) (hdd : d.d = 2) (w : World) (h : Pair2 w T TM pb mb p p) (hok : p.okm m) (hm : m ≤ 900000) (hd : DdOk d kl fl w S Ak Af ck cf) (hS : ∀ k, S k → ¬ T k ∧ ¬ TM k) :
    Calls Try.prog 22 #[.pointer (some ⟨pb, 0, none⟩), .pointer (some ⟨mb, 0, none⟩), .agg #[.int .i64 d.d, .int .i64 d.n, .int .u8 (d.b : Int), .int .u32 (d.mask : Int), .slice Ak kl ck, .slice Af fl cf]] w (DoPost w T TM pb mb d p) := by
  have hpok := hok.ok (by omega)
  obtain ⟨hn, hb, hmask, hkl, hfl, hkv, hfv⟩ := hd
  have Hok := hid hpok
  have HP := hid h
  have HS := hid hS
  have HK := hid hkv
  have HV := hid hfv
  clear hpok h hS hkv hfv hok
  have E := hid (show doP d p = (wrP (badB p 2) p d.n (dlen d.b) (dbys d.b)) from by unfold doP; rw [if_pos (by omega)])
  have Hdd := hid hdd
  have Hfl := hid hfl.1
  have hfl20 := hfl.2
  clear hdd hfl
  go_enter Try.func22, Try.ntmps22
  go_upto_region 1 with (fail)
  obtain ⟨w1, hw1⟩ : ∃ w1, w1 = w.alloc (.cells #[.int .i64 d.d, .int .i64 d.n, .int .u8 (d.b : Int), .int .u32 (d.mask : Int), .slice Ak kl ck, .slice Af fl cf] 55) := ⟨_, rfl⟩
  have b1 : Blk w1 w.heap.size #[.int .i64 d.d, .int .i64 d.n, .int .u8 (d.b : Int), .int .u32 (d.mask : Int), .slice Ak kl ck, .slice Af fl cf] 55 := by rw [hw1]; exact Blk.new _ _ _
  have f1 : Fr Nil w w1 := by rw [hw1]; exact (Fr.refl _ _).alloc _
  rw [← hw1]
  clear hw1
  obtain ⟨db, hdb⟩ : ∃ db, db = w.heap.size := ⟨_, rfl⟩
  rw [← hdb] at b1 ⊢
  have Hdb := hid (show ∀ k, T k ∨ TM k → k < db from fun k hk => by rw [hdb]; exact hk.elim (HP.out.lp k) (HP.out.lm k))
  have Hdw := hid (show w.heap.size ≤ db from by omega)
  have HB1 := hid b1
  have F1 := hid f1
  have HP1 := hid (HP.out.nil f1)
  have HK1 := hid (HK.out.fr f1 fun _ _ _ h => h)
  have HV1 := hid (HV.out.fr f1 fun _ _ _ h => h)
  have hd0 : w1.cell? ⟨db, 0, none⟩ = some (.int .i64 d.d) := b1.cell 0
  clear b1 f1 hdb HP HK HV
  rw [Hdd.out] at hd0
  have hd2 : w1.cell? ⟨db, 2, none⟩ = some (.int .u8 (d.b : Int)) := HB1.out.cell 2
  go_wp2_with fail
  refine (full_rep d.b w1).mono ?_
  rintro e w2 ⟨g, rfl, r2, f2⟩
  have hd2 : w2.cell? ⟨db, 2, none⟩ = some (.int .u8 (d.b : Int)) := f2.cell hd2 fun h => h
  have HP2 := hid (HP1.out.nil f2)
  have HR2 := hid r2
  have HF2 := hid f2
  have HB2 := hid (HB1.out.fr f2 fun h => h)
  clear r2 f2
  have HBy := hid (byt_full hb)
  by_cases h77 : d.b = 77
  · have h77b : ((d.b : Int) == 77) = true := by rw [h77]; rfl
    have HDl := hid (show dlen d.b = 63 ∧ dbys d.b = (rep d.b).drop 1 from by unfold dlen dbys; rw [if_pos h77, if_pos h77, h77]; exact ⟨rfl, rfl⟩)
    have HVb := hid (show View w2 (New w1) 1 (.slice (some ⟨g, 1, none⟩) 63 63) 63 (bys (dbys d.b)) from by
      have h9 := HR2.out.view.drop (l := 1) (by decide)
      rw [HDl.out.2]
      rw [bys_drop'] at h9
      exact h9)
    have HBy2 := hid (show Byt (dbys d.b) from by rw [HDl.out.2]; exact fun c hc => HBy.out c (List.mem_of_mem_drop hc))
    clear h77
    go_upto_region 9 with (fail)
    have ed : Fr Nil w2 w2.drew := (Fr.refl _ _).drew
    have hS2 : (fun w' : World => w'.cell? ⟨db, 1, none⟩ = some (.int .i64 d.n)) w2.drew := HB2.out.cell 1
    have HPd := hid (HP2.out.nil ed)
    refine wpU_region (k := 11) (S := fun w' : World => w'.cell? ⟨db, 1, none⟩ = some (.int .i64 d.n)) (by kernel_rfl) ?_
    refine wpU_take (i := 0) (v := ?_) rfl (by kernel_rfl) (by kernel_rfl) (fun _ _ _ h => h) _ _ _ _ (by kernel_rfl) (by kernel_rfl) (by kernel_rfl) (Or.inl ⟨by kernel_rfl, ?_⟩) hS2 ?_
    rotate_left
    · (intro w9 hS9; obtain s0 := hS9; go_simp); (try with_reducible rfl)
    try simp only [Act.put, List.getElem_toArray, List.getElem_cons_succ, List.getElem_cons_zero, List.setIfInBounds_toArray, List.set_cons_zero, List.set_cons_succ]
    refine wpU_take (i := 1) (v := ?_) rfl (by kernel_rfl) (by kernel_rfl) (fun _ _ _ h => h) _ _ _ _ (by kernel_rfl) (by kernel_rfl) (by kernel_rfl) (Or.inl ⟨by kernel_rfl, ?_⟩) hS2 ?_
    rotate_left
    · (intro w9 hS9; obtain s0 := hS9; go_simp); (try with_reducible rfl)
    try simp only [Act.put, List.getElem_toArray, List.getElem_cons_succ, List.getElem_cons_zero, List.setIfInBounds_toArray, List.set_cons_zero, List.set_cons_succ]
    refine wpU_take (i := 2) (v := ?_) rfl (by kernel_rfl) (by kernel_rfl) (fun _ _ _ h => h) _ _ _ _ (by kernel_rfl) (by kernel_rfl) (by kernel_rfl) (Or.inl ⟨by kernel_rfl, ?_⟩) hS2 ?_
    rotate_left
    · (intro w9 hS9; obtain s0 := hS9; go_simp); (try with_reducible rfl)
    try simp only [Act.put, List.getElem_toArray, List.getElem_cons_succ, List.getElem_cons_zero, List.setIfInBounds_toArray, List.set_cons_zero, List.set_cons_succ]
    refine wpU_take (i := 3) (v := ?_) rfl (by kernel_rfl) (by kernel_rfl) (fun _ _ _ h => h) _ _ _ _ (by kernel_rfl) (by kernel_rfl) (by kernel_rfl) (Or.inl ⟨by kernel_rfl, ?_⟩) hS2 ?_
    rotate_left
    · (intro w9 hS9; obtain s0 := hS9; go_simp); (try with_reducible rfl)
    try simp only [Act.put, List.getElem_toArray, List.getElem_cons_succ, List.getElem_cons_zero, List.setIfInBounds_toArray, List.set_cons_zero, List.set_cons_succ]
    refine wpU_take (i := 5) (v := ?_) rfl (by kernel_rfl) (by kernel_rfl) (fun _ _ _ h => h) _ _ _ _ (by kernel_rfl) (by kernel_rfl) (by kernel_rfl) (Or.inl ⟨by kernel_rfl, ?_⟩) hS2 ?_
    rotate_left
    · (intro w9 hS9; obtain s0 := hS9; go_simp); (try with_reducible rfl)
    try simp only [Act.put, List.getElem_toArray, List.getElem_cons_succ, List.getElem_cons_zero, List.setIfInBounds_toArray, List.set_cons_zero, List.set_cons_succ]
    refine wpU_take (i := 6) (v := ?_) rfl (by kernel_rfl) (by kernel_rfl) (fun _ _ _ h => h) _ _ _ _ (by kernel_rfl) (by kernel_rfl) (by kernel_rfl) (Or.inl ⟨by kernel_rfl, ?_⟩) hS2 ?_
    rotate_left
    · (intro w9 hS9; obtain s0 := hS9; go_simp); (try with_reducible rfl)
    try simp only [Act.put, List.getElem_toArray, List.getElem_cons_succ, List.getElem_cons_zero, List.setIfInBounds_toArray, List.set_cons_zero, List.set_cons_succ]
    refine wpU_take (i := 7) (v := ?_) rfl (by kernel_rfl) (by kernel_rfl) (fun _ _ _ h => h) _ _ _ _ (by kernel_rfl) (by kernel_rfl) (by kernel_rfl) (Or.inl ⟨by kernel_rfl, ?_⟩) hS2 ?_
    rotate_left
    · (intro w9 hS9; obtain s0 := hS9; go_simp); (try with_reducible rfl)
    try simp only [Act.put, List.getElem_toArray, List.getElem_cons_succ, List.getElem_cons_zero, List.setIfInBounds_toArray, List.set_cons_zero, List.set_cons_succ]
    refine wpU_take (i := 8) (v := ?_) rfl (by kernel_rfl) (by kernel_rfl) (fun _ _ _ h => h) _ _ _ _ (by kernel_rfl) (by kernel_rfl) (by kernel_rfl) (Or.inl ⟨by kernel_rfl, ?_⟩) hS2 ?_
    rotate_left
    · (intro w9 hS9; obtain s0 := hS9; go_simp); (try with_reducible rfl)
    try simp only [Act.put, List.getElem_toArray, List.getElem_cons_succ, List.getElem_cons_zero, List.setIfInBounds_toArray, List.set_cons_zero, List.set_cons_succ]
    refine wpU_next (i := 4) rfl (by kernel_rfl) (fun K hK => ?_)
    go_simp
    refine (p_write (S1 := fun k => New w1 k ∧ k < w2.heap.size) d.n 63 (dbys d.b) _ Hok.out HPd.out.ip HVb.out.drew.bd HBy2.out (fun k hk ht => by have h9 : w1.heap.size ≤ k := hk.1; have := HP1.out.lp k ht; omega)).mono ?_
    rintro e w3 ⟨rfl, p3, f3⟩
    obtain ⟨T2, P3, ht2⟩ := HPd.out.stepP p3 f3
    have hS3 : (fun w' : World => w'.cell? ⟨db, 1, none⟩ = some (.int .i64 d.n)) w3 := f3.cell hS2 fun h => by have h9 := Hdb.out _ (.inl h); exact absurd h9 (Nat.lt_irrefl _)
    have HP3 := hid P3
    have HT2 := hid ht2
    have HF3 := hid f3
    have HVb3 := hid (View.fr HVb.out.drew.bd f3 fun k hk _ h => by have h9 : w1.heap.size ≤ k := hk.1; have := HP1.out.lp k h; omega)
    clear p3 P3 ht2 f3
    refine hK.out _ _ (fun _ => hS3) ?_
    clear hK K
    try simp only [Act.put, List.getElem_toArray, List.getElem_cons_succ, List.getElem_cons_zero, List.setIfInBounds_toArray, List.set_cons_zero, List.set_cons_succ]
    refine wpU_next (i := 9) rfl (by kernel_rfl) (fun K hK => ?_)
    go_simp
    refine (m_write TM _ mb p d.n 63 (dbys d.b) _ (badB p 2) (badB_iff p 2) Hok.out hn w3 HP3.out.im HVb3.out HBy2.out (fun k hk ht => by have h9 : w1.heap.size ≤ k := hk.1; have := HP1.out.lm k ht; omega)).mono ?_
    rintro e w4 ⟨rfl, p4, f4⟩
    obtain ⟨TM2, P4, hm2⟩ := HP3.out.stepM p4 f4
    have hS4 : (fun w' : World => w'.cell? ⟨db, 1, none⟩ = some (.int .i64 d.n)) w4 := f4.cell hS3 fun h => by have h9 := Hdb.out _ (.inr h); exact absurd h9 (Nat.lt_irrefl _)
    have HP4 := hid P4
    have HM2 := hid hm2
    have HSZ := hid (show w1.heap.size ≤ w2.drew.heap.size ∧ w1.heap.size ≤ w3.heap.size from ⟨HF2.out.size, Nat.le_trans HF2.out.size HF3.out.size⟩)
    have HFF := hid (show Fr (fun k => T k ∨ TM k) w1 w4 from (HF2.out.drew.nil).then ((HF3.out.mono fun k hk => .inl hk).then (f4.mono fun k hk => .inr hk)))
    clear p4 P4 hm2 f4
    refine hK.out _ _ (fun _ => hS4) ?_
    clear hK K
    try simp only [Act.put, List.getElem_toArray, List.getElem_cons_succ, List.getElem_cons_zero, List.setIfInBounds_toArray, List.set_cons_zero, List.set_cons_succ]
    refine wpU_next (i := 10) rfl (by kernel_rfl) (fun K hK => ?_)
    go_simp
    refine hK.out _ _ (fun _ => hS4) ?_
    clear hK K
    try simp only [Act.put, List.getElem_toArray, List.getElem_cons_succ, List.getElem_cons_zero, List.setIfInBounds_toArray, List.set_cons_zero, List.set_cons_succ]
    refine wpU_next (i := 11) rfl (by kernel_rfl) (fun K hK => ?_)
    go_simp
    refine hK.out _ _ (fun h => absurd rfl h.1) ?_
    refine wpU_done (by kernel_rfl) ?_ _
    clear hK K
    clear hS2 hS3 hS4
    go_wp2
    go_ret
    refine ⟨rfl, ⟨T2, TM2, by rw [E.out]; exact (show Pair2 w4 T2 TM2 pb mb (wrP (badB p 2) p d.n (dlen d.b) (dbys d.b)) (wrP (badB p 2) p d.n (dlen d.b) (dbys d.b)) from by rw [HDl.out.1]; exact HP4.out), fun k hk => ?_, fun k hk => ?_⟩, ?_⟩
    · exact (HT2.out k hk).imp id fun h => Nat.le_trans F1.out.size (Nat.le_trans HSZ.out.1 h)
    · exact (HM2.out k hk).imp id fun h => Nat.le_trans F1.out.size (Nat.le_trans HSZ.out.2 h)
    · exact (F1.out.nil).then HFF.out
  · have h77b : ((d.b : Int) == 77) = false := by simp; omega
    have HDl := hid (show dlen d.b = 64 ∧ dbys d.b = rep d.b from by unfold dlen dbys; rw [if_neg h77, if_neg h77]; exact ⟨rfl, rfl⟩)
    have HVb := hid (show View w2 (New w1) 1 (.slice (some ⟨g, 0, none⟩) 64 64) 64 (bys (dbys d.b)) from by rw [HDl.out.2]; exact HR2.out.view)
    have HBy2 := hid (show Byt (dbys d.b) from by rw [HDl.out.2]; exact HBy.out)
    clear h77
    go_upto_region 9 with (fail)
    have ed : Fr Nil w2 w2.drew := (Fr.refl _ _).drew
    have hS2 : (fun w' : World => w'.cell? ⟨db, 1, none⟩ = some (.int .i64 d.n)) w2.drew := HB2.out.cell 1
    have HPd := hid (HP2.out.nil ed)
    refine wpU_region (k := 11) (S := fun w' : World => w'.cell? ⟨db, 1, none⟩ = some (.int .i64 d.n)) (by kernel_rfl) ?_
    refine wpU_take (i := 0) (v := ?_) rfl (by kernel_rfl) (by kernel_rfl) (fun _ _ _ h => h) _ _ _ _ (by kernel_rfl) (by kernel_rfl) (by kernel_rfl) (Or.inl ⟨by kernel_rfl, ?_⟩) hS2 ?_
    rotate_left
    · (intro w9 hS9; obtain s0 := hS9; go_simp); (try with_reducible rfl)
    try simp only [Act.put, List.getElem_toArray, List.getElem_cons_succ, List.getElem_cons_zero, List.setIfInBounds_toArray, List.set_cons_zero, List.set_cons_succ]
    refine wpU_take (i := 1) (v := ?_) rfl (by kernel_rfl) (by kernel_rfl) (fun _ _ _ h => h) _ _ _ _ (by kernel_rfl) (by kernel_rfl) (by kernel_rfl) (Or.inl ⟨by kernel_rfl, ?_⟩) hS2 ?_
    rotate_left
    · (intro w9 hS9; obtain s0 := hS9; go_simp); (try with_reducible rfl)
    try simp only [Act.put, List.getElem_toArray, List.getElem_cons_succ, List.getElem_cons_zero, List.setIfInBounds_toArray, List.set_cons_zero, List.set_cons_succ]
    refine wpU_take (i := 2) (v := ?_) rfl (by kernel_rfl) (by kernel_rfl) (fun _ _ _ h => h) _ _ _ _ (by kernel_rfl) (by kernel_rfl) (by kernel_rfl) (Or.inl ⟨by kernel_rfl, ?_⟩) hS2 ?_
    rotate_left
    · (intro w9 hS9; obtain s0 := hS9; go_simp); (try with_reducible rfl)
    try simp only [Act.put, List.getElem_toArray, List.getElem_cons_succ, List.getElem_cons_zero, List.setIfInBounds_toArray, List.set_cons_zero, List.set_cons_succ]
    refine wpU_take (i := 3) (v := ?_) rfl (by kernel_rfl) (by kernel_rfl) (fun _ _ _ h => h) _ _ _ _ (by kernel_rfl) (by kernel_rfl) (by kernel_rfl) (Or.inl ⟨by kernel_rfl, ?_⟩) hS2 ?_
    rotate_left
    · (intro w9 hS9; obtain s0 := hS9; go_simp); (try with_reducible rfl)
    try simp only [Act.put, List.getElem_toArray, List.getElem_cons_succ, List.getElem_cons_zero, List.setIfInBounds_toArray, List.set_cons_zero, List.set_cons_succ]
    refine wpU_take (i := 5) (v := ?_) rfl (by kernel_rfl) (by kernel_rfl) (fun _ _ _ h => h) _ _ _ _ (by kernel_rfl) (by kernel_rfl) (by kernel_rfl) (Or.inl ⟨by kernel_rfl, ?_⟩) hS2 ?_
    rotate_left
    · (intro w9 hS9; obtain s0 := hS9; go_simp); (try with_reducible rfl)
    try simp only [Act.put, List.getElem_toArray, List.getElem_cons_succ, List.getElem_cons_zero, List.setIfInBounds_toArray, List.set_cons_zero, List.set_cons_succ]
    refine wpU_take (i := 6) (v := ?_) rfl (by kernel_rfl) (by kernel_rfl) (fun _ _ _ h => h) _ _ _ _ (by kernel_rfl) (by kernel_rfl) (by kernel_rfl) (Or.inl ⟨by kernel_rfl, ?_⟩) hS2 ?_
    rotate_left
    · (intro w9 hS9; obtain s0 := hS9; go_simp); (try with_reducible rfl)
    try simp only [Act.put, List.getElem_toArray, List.getElem_cons_succ, List.getElem_cons_zero, List.setIfInBounds_toArray, List.set_cons_zero, List.set_cons_succ]
    refine wpU_take (i := 7) (v := ?_) rfl (by kernel_rfl) (by kernel_rfl) (fun _ _ _ h => h) _ _ _ _ (by kernel_rfl) (by kernel_rfl) (by kernel_rfl) (Or.inl ⟨by kernel_rfl, ?_⟩) hS2 ?_
    rotate_left
    · (intro w9 hS9; obtain s0 := hS9; go_simp); (try with_reducible rfl)
    try simp only [Act.put, List.getElem_toArray, List.getElem_cons_succ, List.getElem_cons_zero, List.setIfInBounds_toArray, List.set_cons_zero, List.set_cons_succ]
    refine wpU_take (i := 8) (v := ?_) rfl (by kernel_rfl) (by kernel_rfl) (fun _ _ _ h => h) _ _ _ _ (by kernel_rfl) (by kernel_rfl) (by kernel_rfl) (Or.inl ⟨by kernel_rfl, ?_⟩) hS2 ?_
    rotate_left
    · (intro w9 hS9; obtain s0 := hS9; go_simp); (try with_reducible rfl)
    try simp only [Act.put, List.getElem_toArray, List.getElem_cons_succ, List.getElem_cons_zero, List.setIfInBounds_toArray, List.set_cons_zero, List.set_cons_succ]
    refine wpU_next (i := 4) rfl (by kernel_rfl) (fun K hK => ?_)
    go_simp
    refine (p_write (S1 := fun k => New w1 k ∧ k < w2.heap.size) d.n 64 (dbys d.b) _ Hok.out HPd.out.ip HVb.out.drew.bd HBy2.out (fun k hk ht => by have h9 : w1.heap.size ≤ k := hk.1; have := HP1.out.lp k ht; omega)).mono ?_
    rintro e w3 ⟨rfl, p3, f3⟩
    obtain ⟨T2, P3, ht2⟩ := HPd.out.stepP p3 f3
    have hS3 : (fun w' : World => w'.cell? ⟨db, 1, none⟩ = some (.int .i64 d.n)) w3 := f3.cell hS2 fun h => by have h9 := Hdb.out _ (.inl h); exact absurd h9 (Nat.lt_irrefl _)
    have HP3 := hid P3
    have HT2 := hid ht2
    have HF3 := hid f3
    have HVb3 := hid (View.fr HVb.out.drew.bd f3 fun k hk _ h => by have h9 : w1.heap.size ≤ k := hk.1; have := HP1.out.lp k h; omega)
    clear p3 P3 ht2 f3
    refine hK.out _ _ (fun _ => hS3) ?_
    clear hK K
    try simp only [Act.put, List.getElem_toArray, List.getElem_cons_succ, List.getElem_cons_zero, List.setIfInBounds_toArray, List.set_cons_zero, List.set_cons_succ]
    refine wpU_next (i := 9) rfl (by kernel_rfl) (fun K hK => ?_)
    go_simp
    refine (m_write TM _ mb p d.n 64 (dbys d.b) _ (badB p 2) (badB_iff p 2) Hok.out hn w3 HP3.out.im HVb3.out HBy2.out (fun k hk ht => by have h9 : w1.heap.size ≤ k := hk.1; have := HP1.out.lm k ht; omega)).mono ?_
    rintro e w4 ⟨rfl, p4, f4⟩
    obtain ⟨TM2, P4, hm2⟩ := HP3.out.stepM p4 f4
    have hS4 : (fun w' : World => w'.cell? ⟨db, 1, none⟩ = some (.int .i64 d.n)) w4 := f4.cell hS3 fun h => by have h9 := Hdb.out _ (.inr h); exact absurd h9 (Nat.lt_irrefl _)
    have HP4 := hid P4
    have HM2 := hid hm2
    have HSZ := hid (show w1.heap.size ≤ w2.drew.heap.size ∧ w1.heap.size ≤ w3.heap.size from ⟨HF2.out.size, Nat.le_trans HF2.out.size HF3.out.size⟩)
    have HFF := hid (show Fr (fun k => T k ∨ TM k) w1 w4 from (HF2.out.drew.nil).then ((HF3.out.mono fun k hk => .inl hk).then (f4.mono fun k hk => .inr hk)))
    clear p4 P4 hm2 f4
    refine hK.out _ _ (fun _ => hS4) ?_
    clear hK K
    try simp only [Act.put, List.getElem_toArray, List.getElem_cons_succ, List.getElem_cons_zero, List.setIfInBounds_toArray, List.set_cons_zero, List.set_cons_succ]
    refine wpU_next (i := 10) rfl (by kernel_rfl) (fun K hK => ?_)
    go_simp
    refine hK.out _ _ (fun _ => hS4) ?_
    clear hK K
    try simp only [Act.put, List.getElem_toArray, List.getElem_cons_succ, List.getElem_cons_zero, List.setIfInBounds_toArray, List.set_cons_zero, List.set_cons_succ]
    refine wpU_next (i := 11) rfl (by kernel_rfl) (fun K hK => ?_)
    go_simp
    refine hK.out _ _ (fun h => absurd rfl h.1) ?_
    refine wpU_done (by kernel_rfl) ?_ _
    clear hK K
    clear hS2 hS3 hS4
    go_wp2
    go_ret
    refine ⟨rfl, ⟨T2, TM2, by rw [E.out]; exact (show Pair2 w4 T2 TM2 pb mb (wrP (badB p 2) p d.n (dlen d.b) (dbys d.b)) (wrP (badB p 2) p d.n (dlen d.b) (dbys d.b)) from by rw [HDl.out.1]; exact HP4.out), fun k hk => ?_, fun k hk => ?_⟩, ?_⟩
    · exact (HT2.out k hk).imp id fun h => Nat.le_trans F1.out.size (Nat.le_trans HSZ.out.1 h)
    · exact (HM2.out k hk).imp id fun h => Nat.le_trans F1.out.size (Nat.le_trans HSZ.out.2 h)
    · exact (F1.out.nil).then HFF.out
set_option maxRecDepth 20000 in
set_option maxHeartbeats 4000000 in
theorem do_write3 (T TM S : Nat → Prop) (pb mb : Nat) (p : Pl) (m : Nat) (d : Dd) (Ak Af : Option Addr) (ck cf kl fl : Nat) (hdd : d.d = 3) (w : World) (h : Pair2 w T TM pb mb p p) (hok : p.okm m) (hm : m ≤ 900000) (hd : DdOk d kl fl w S Ak Af ck cf) (hS : ∀ k, S k → ¬ T k ∧ ¬ TM k) :
    Calls Try.prog 22 #[.pointer (some ⟨pb, 0, none⟩), .pointer (some ⟨mb, 0, none⟩), .agg #[.int .i64 d.d, .int .i64 d.n, .int .u8 (d.b : Int), .int .u32 (d.mask : Int), .slice Ak kl ck, .slice Af fl cf]] w (DoPost w T TM pb mb d p) := by
  have hpok := hok.ok (by omega)
  obtain ⟨hn, hb, hmask, hkl, hfl, hkv, hfv⟩ := hd
  have Hok := hid hpok
  have HP := hid h
  have HS := hid hS
  have HK := hid hkv
  have HV := hid hfv
  clear hpok h hS hkv hfv hok
  have E := hid (show doP d p = (wrP (badB p 2) p d.n (dlen d.b) (dbys d.b)) from by unfold doP; rw [if_pos (by omega)])
  have Hdd := hid hdd
  have Hfl := hid hfl.1
  have hfl20 := hfl.2
  clear hdd hfl
  go_enter Try.func22, Try.ntmps22
  go_upto_region 1 with (fail)
  obtain ⟨w1, hw1⟩ : ∃ w1, w1 = w.alloc (.cells #[.int .i64 d.d, .int .i64 d.n, .int .u8 (d.b : Int), .int .u32 (d.mask : Int), .slice Ak kl ck, .slice Af fl cf] 55) := ⟨_, rfl⟩
  have b1 : Blk w1 w.heap.size #[.int .i64 d.d, .int .i64 d.n, .int .u8 (d.b : Int), .int .u32 (d.mask : Int), .slice Ak kl ck, .slice Af fl cf] 55 := by rw [hw1]; exact Blk.new _ _ _
  have f1 : Fr Nil w w1 := by rw [hw1]; exact (Fr.refl _ _).alloc _
  rw [← hw1]
  clear hw1
  obtain ⟨db, hdb⟩ : ∃ db, db = w.heap.size := ⟨_, rfl⟩
  rw [← hdb] at b1 ⊢
  have Hdb := hid (show ∀ k, T k ∨ TM k → k < db from fun k hk => by rw [hdb]; exact hk.elim (HP.out.lp k) (HP.out.lm k))
  have Hdw := hid (show w.heap.size ≤ db from by omega)
  have HB1 := hid b1
  have F1 := hid f1
  have HP1 := hid (HP.out.nil f1)
  have HK1 := hid (HK.out.fr f1 fun _ _ _ h => h)
  have HV1 := hid (HV.out.fr f1 fun _ _ _ h => h)
  have hd0 : w1.cell? ⟨db, 0, none⟩ = some (.int .i64 d.d) := b1.cell 0
  clear b1 f1 hdb HP HK HV
  rw [Hdd.out] at hd0
  have hd2 : w1.cell? ⟨db, 2, none⟩ = some (.int .u8 (d.b : Int)) := HB1.out.cell 2
  go_wp2_with fail
  refine (full_rep d.b w1).mono ?_
  rintro e w2 ⟨g, rfl, r2, f2⟩
  have hd2 : w2.cell? ⟨db, 2, none⟩ = some (.int .u8 (d.b : Int)) := f2.cell hd2 fun h => h
  have HP2 := hid (HP1.out.nil f2)
  have HR2 := hid r2
  have HF2 := hid f2
  have HB2 := hid (HB1.out.fr f2 fun h => h)
  clear r2 f2
  have HBy := hid (byt_full hb)
  by_cases h77 : d.b = 77
  · have h77b : ((d.b : Int) == 77) = true := by rw [h77]; rfl
    have HDl := hid (show dlen d.b = 63 ∧ dbys d.b = (rep d.b).drop 1 from by unfold dlen dbys; rw [if_pos h77, if_pos h77, h77]; exact ⟨rfl, rfl⟩)
    have HVb := hid (show View w2 (New w1) 1 (.slice (some ⟨g, 1, none⟩) 63 63) 63 (bys (dbys d.b)) from by
      have h9 := HR2.out.view.drop (l := 1) (by decide)
      rw [HDl.out.2]
      rw [bys_drop'] at h9
      exact h9)
    have HBy2 := hid (show Byt (dbys d.b) from by rw [HDl.out.2]; exact fun c hc => HBy.out c (List.mem_of_mem_drop hc))
    clear h77
    go_upto_region 9 with (fail)
    have ed : Fr Nil w2 w2.drew := (Fr.refl _ _).drew
    have hS2 : (fun w' : World => w'.cell? ⟨db, 1, none⟩ = some (.int .i64 d.n)) w2.drew := HB2.out.cell 1
    have HPd := hid (HP2.out.nil ed)
    refine wpU_region (k := 11) (S := fun w' : World => w'.cell? ⟨db, 1, none⟩ = some (.int .i64 d.n)) (by kernel_rfl) ?_
    refine wpU_take (i := 0) (v := ?_) rfl (by kernel_rfl) (by kernel_rfl) (fun _ _ _ h => h) _ _ _ _ (by kernel_rfl) (by kernel_rfl) (by kernel_rfl) (Or.inl ⟨by kernel_rfl, ?_⟩) hS2 ?_
    rotate_left
    · (intro w9 hS9; obtain s0 := hS9; go_simp); (try with_reducible rfl)
    try simp only [Act.put, List.getElem_toArray, List.getElem_cons_succ, List.getElem_cons_zero, List.setIfInBounds_toArray, List.set_cons_zero, List.set_cons_succ]
    refine wpU_take (i := 1) (v := ?_) rfl (by kernel_rfl) (by kernel_rfl) (fun _ _ _ h => h) _ _ _ _ (by kernel_rfl) (by kernel_rfl) (by kernel_rfl) (Or.inl ⟨by kernel_rfl, ?_⟩) hS2 ?_
    rotate_left
    · (intro w9 hS9; obtain s0 := hS9; go_simp); (try with_reducible rfl)
    try simp only [Act.put, List.getElem_toArray, List.getElem_cons_succ, List.getElem_cons_zero, List.setIfInBounds_toArray, List.set_cons_zero, List.set_cons_succ]
    refine wpU_take (i := 2) (v := ?_) rfl (by kernel_rfl) (by kernel_rfl) (fun _ _ _ h => h) _ _ _ _ (by kernel_rfl) (by kernel_rfl) (by kernel_rfl) (Or.inl ⟨by kernel_rfl, ?_⟩) hS2 ?_
    rotate_left
    · (intro w9 hS9; obtain s0 := hS9; go_simp); (try with_reducible rfl)
    try simp only [Act.put, List.getElem_toArray, List.getElem_cons_succ, List.getElem_cons_zero, List.setIfInBounds_toArray, List.set_cons_zero, List.set_cons_succ]
    refine wpU_take (i := 3) (v := ?_) rfl (by kernel_rfl) (by kernel_rfl) (fun _ _ _ h => h) _ _ _ _ (by kernel_rfl) (by kernel_rfl) (by kernel_rfl) (Or.inl ⟨by kernel_rfl, ?_⟩) hS2 ?_
    rotate_left
    · (intro w9 hS9; obtain s0 := hS9; go_simp); (try with_reducible rfl)
    try simp only [Act.put, List.getElem_toArray, List.getElem_cons_succ, List.getElem_cons_zero, List.setIfInBounds_toArray, List.set_cons_zero, List.set_cons_succ]
    refine wpU_take (i := 5) (v := ?_) rfl (by kernel_rfl) (by kernel_rfl) (fun _ _ _ h => h) _ _ _ _ (by kernel_rfl) (by kernel_rfl) (by kernel_rfl) (Or.inl ⟨by kernel_rfl, ?_⟩) hS2 ?_
    rotate_left
    · (intro w9 hS9; obtain s0 := hS9; go_simp); (try with_reducible rfl)
    try simp only [Act.put, List.getElem_toArray, List.getElem_cons_succ, List.getElem_cons_zero, List.setIfInBounds_toArray, List.set_cons_zero, List.set_cons_succ]
    refine wpU_take (i := 6) (v := ?_) rfl (by kernel_rfl) (by kernel_rfl) (fun _ _ _ h => h) _ _ _ _ (by kernel_rfl) (by kernel_rfl) (by kernel_rfl) (Or.inl ⟨by kernel_rfl, ?_⟩) hS2 ?_
    rotate_left
    · (intro w9 hS9; obtain s0 := hS9; go_simp); (try with_reducible rfl)
    try simp only [Act.put, List.getElem_toArray, List.getElem_cons_succ, List.getElem_cons_zero, List.setIfInBounds_toArray, List.set_cons_zero, List.set_cons_succ]
    refine wpU_take (i := 7) (v := ?_) rfl (by kernel_rfl) (by kernel_rfl) (fun _ _ _ h => h) _ _ _ _ (by kernel_rfl) (by kernel_rfl) (by kernel_rfl) (Or.inl ⟨by kernel_rfl, ?_⟩) hS2 ?_
    rotate_left
    · (intro w9 hS9; obtain s0 := hS9; go_simp); (try with_reducible rfl)
    try simp only [Act.put, List.getElem_toArray, List.getElem_cons_succ, List.getElem_cons_zero, List.setIfInBounds_toArray, List.set_cons_zero, List.set_cons_succ]
    refine wpU_take (i := 8) (v := ?_) rfl (by kernel_rfl) (by kernel_rfl) (fun _ _ _ h => h) _ _ _ _ (by kernel_rfl) (by kernel_rfl) (by kernel_rfl) (Or.inl ⟨by kernel_rfl, ?_⟩) hS2 ?_
    rotate_left
    · (intro w9 hS9; obtain s0 := hS9; go_simp); (try with_reducible rfl)
    try simp only [Act.put, List.getElem_toArray, List.getElem_cons_succ, List.getElem_cons_zero, List.setIfInBounds_toArray, List.set_cons_zero, List.set_cons_succ]
    refine wpU_next (i := 4) rfl (by kernel_rfl) (fun K hK => ?_)
    go_simp
    refine (p_write (S1 := fun k => New w1 k ∧ k < w2.heap.size) d.n 63 (dbys d.b) _ Hok.out HPd.out.ip HVb.out.drew.bd HBy2.out (fun k hk ht => by have h9 : w1.heap.size ≤ k := hk.1; have := HP1.out.lp k ht; omega)).mono ?_
    rintro e w3 ⟨rfl, p3, f3⟩
    obtain ⟨T2, P3, ht2⟩ := HPd.out.stepP p3 f3
    have hS3 : (fun w' : World => w'.cell? ⟨db, 1, none⟩ = some (.int .i64 d.n)) w3 := f3.cell hS2 fun h => by have h9 := Hdb.out _ (.inl h); exact absurd h9 (Nat.lt_irrefl _)
    have HP3 := hid P3
    have HT2 := hid ht2
    have HF3 := hid f3
    have HVb3 := hid (View.fr HVb.out.drew.bd f3 fun k hk _ h => by have h9 : w1.heap.size ≤ k := hk.1; have := HP1.out.lp k h; omega)
    clear p3 P3 ht2 f3
    refine hK.out _ _ (fun _ => hS3) ?_
    clear hK K
    try simp only [Act.put, List.getElem_toArray, List.getElem_cons_succ, List.getElem_cons_zero, List.setIfInBounds_toArray, List.set_cons_zero, List.set_cons_succ]
    refine wpU_next (i := 9) rfl (by kernel_rfl) (fun K hK => ?_)
    go_simp
    refine (m_write TM _ mb p d.n 63 (dbys d.b) _ (badB p 2) (badB_iff p 2) Hok.out hn w3 HP3.out.im HVb3.out HBy2.out (fun k hk ht => by have h9 : w1.heap.size ≤ k := hk.1; have := HP1.out.lm k ht; omega)).mono ?_
    rintro e w4 ⟨rfl, p4, f4⟩
    obtain ⟨TM2, P4, hm2⟩ := HP3.out.stepM p4 f4
    have hS4 : (fun w' : World => w'.cell? ⟨db, 1, none⟩ = some (.int .i64 d.n)) w4 := f4.cell hS3 fun h => by have h9 := Hdb.out _ (.inr h); exact absurd h9 (Nat.lt_irrefl _)
    have HP4 := hid P4
    have HM2 := hid hm2
    have HSZ := hid (show w1.heap.size ≤ w2.drew.heap.size ∧ w1.heap.size ≤ w3.heap.size from ⟨HF2.out.size, Nat.le_trans HF2.out.size HF3.out.size⟩)
    have HFF := hid (show Fr (fun k => T k ∨ TM k) w1 w4 from (HF2.out.drew.nil).then ((HF3.out.mono fun k hk => .inl hk).then (f4.mono fun k hk => .inr hk)))
    clear p4 P4 hm2 f4
    refine hK.out _ _ (fun _ => hS4) ?_
    clear hK K
    try simp only [Act.put, List.getElem_toArray, List.getElem_cons_succ, List.getElem_cons_zero, List.setIfInBounds_toArray, List.set_cons_zero, List.set_cons_succ]
    refine wpU_next (i := 10) rfl (by kernel_rfl) (fun K hK => ?_)
    go_simp
    refine hK.out _ _ (fun _ => hS4) ?_
    clear hK K
    try simp only [Act.put, List.getElem_toArray, List.getElem_cons_succ, List.getElem_cons_zero, List.setIfInBounds_toArray, List.set_cons_zero, List.set_cons_succ]
    refine wpU_next (i := 11) rfl (by kernel_rfl) (fun K hK => ?_)
    go_simp
    refine hK.out _ _ (fun h => absurd rfl h.1) ?_
    refine wpU_done (by kernel_rfl) ?_ _
    clear hK K
    clear hS2 hS3 hS4
    go_wp2
    go_ret
    refine ⟨rfl, ⟨T2, TM2, by rw [E.out]; exact (show Pair2 w4 T2 TM2 pb mb (wrP (badB p 2) p d.n (dlen d.b) (dbys d.b)) (wrP (badB p 2) p d.n (dlen d.b) (dbys d.b)) from by rw [HDl.out.1]; exact HP4.out), fun k hk => ?_, fun k hk => ?_⟩, ?_⟩
    · exact (HT2.out k hk).imp id fun h => Nat.le_trans F1.out.size (Nat.le_trans HSZ.out.1 h)
    · exact (HM2.out k hk).imp id fun h => Nat.le_trans F1.out.size (Nat.le_trans HSZ.out.2 h)
    · exact (F1.out.nil).then HFF.out
  · have h77b : ((d.b : Int) == 77) = false := by simp; omega
    have HDl := hid (show dlen d.b = 64 ∧ dbys d.b = rep d.b from by unfold dlen dbys; rw [if_neg h77, if_neg h77]; exact ⟨rfl, rfl⟩)
    have HVb := hid (show View w2 (New w1) 1 (.slice (some ⟨g, 0, none⟩) 64 64) 64 (bys (dbys d.b)) from by rw [HDl.out.2]; exact HR2.out.view)
    have HBy2 := hid (show Byt (dbys d.b) from by rw [HDl.out.2]; exact HBy.out)
    clear h77
    go_upto_region 9 with (fail)
    have ed : Fr Nil w2 w2.drew := (Fr.refl _ _).drew
    have hS2 : (fun w' : World => w'.cell? ⟨db, 1, none⟩ = some (.int .i64 d.n)) w2.drew := HB2.out.cell 1
    have HPd := hid (HP2.out.nil ed)
    refine wpU_region (k := 11) (S := fun w' : World => w'.cell? ⟨db, 1, none⟩ = some (.int .i64 d.n)) (by kernel_rfl) ?_
    refine wpU_take (i := 0) (v := ?_) rfl (by kernel_rfl) (by kernel_rfl) (fun _ _ _ h => h) _ _ _ _ (by kernel_rfl) (by kernel_rfl) (by kernel_rfl) (Or.inl ⟨by kernel_rfl, ?_⟩) hS2 ?_
    rotate_left
    · (intro w9 hS9; obtain s0 := hS9; go_simp); (try with_reducible rfl)
    try simp only [Act.put, List.getElem_toArray, List.getElem_cons_succ, List.getElem_cons_zero, List.setIfInBounds_toArray, List.set_cons_zero, List.set_cons_succ]
    refine wpU_take (i := 1) (v := ?_) rfl (by kernel_rfl) (by kernel_rfl) (fun _ _ _ h => h) _ _ _ _ (by kernel_rfl) (by kernel_rfl) (by kernel_rfl) (Or.inl ⟨by kernel_rfl, ?_⟩) hS2 ?_
    rotate_left
    · (intro w9 hS9; obtain s0 := hS9; go_simp); (try with_reducible rfl)
    try simp only [Act.put, List.getElem_toArray, List.getElem_cons_succ, List.getElem_cons_zero, List.setIfInBounds_toArray, List.set_cons_zero, List.set_cons_succ]
    refine wpU_take (i := 2) (v := ?_) rfl (by kernel_rfl) (by kernel_rfl) (fun _ _ _ h => h) _ _ _ _ (by kernel_rfl) (by kernel_rfl) (by kernel_rfl) (Or.inl ⟨by kernel_rfl, ?_⟩) hS2 ?_
    rotate_left
    · (intro w9 hS9; obtain s0 := hS9; go_simp); (try with_reducible rfl)
    try simp only [Act.put, List.getElem_toArray, List.getElem_cons_succ, List.getElem_cons_zero, List.setIfInBounds_toArray, List.set_cons_zero, List.set_cons_succ]
    refine wpU_take (i := 3) (v := ?_) rfl (by kernel_rfl) (by kernel_rfl) (fun _ _ _ h => h) _ _ _ _ (by kernel_rfl) (by kernel_rfl) (by kernel_rfl) (Or.inl ⟨by kernel_rfl, ?_⟩) hS2 ?_
    rotate_left
    · (intro w9 hS9; obtain s0 := hS9; go_simp); (try with_reducible rfl)
    try simp only [Act.put, List.getElem_toArray, List.getElem_cons_succ, List.getElem_cons_zero, List.setIfInBounds_toArray, List.set_cons_zero, List.set_cons_succ]
    refine wpU_take (i := 5) (v := ?_) rfl (by kernel_rfl) (by kernel_rfl) (fun _ _ _ h => h) _ _ _ _ (by kernel_rfl) (by kernel_rfl) (by kernel_rfl) (Or.inl ⟨by kernel_rfl, ?_⟩) hS2 ?_
    rotate_left
    · (intro w9 hS9; obtain s0 := hS9; go_simp); (try with_reducible rfl)
    try simp only [Act.put, List.getElem_toArray, List.getElem_cons_succ, List.getElem_cons_zero, List.setIfInBounds_toArray, List.set_cons_zero, List.set_cons_succ]
    refine wpU_take (i := 6) (v := ?_) rfl (by kernel_rfl) (by kernel_rfl) (fun _ _ _ h => h) _ _ _ _ (by kernel_rfl) (by kernel_rfl) (by kernel_rfl) (Or.inl ⟨by kernel_rfl, ?_⟩) hS2 ?_
    rotate_left
    · (intro w9 hS9; obtain s0 := hS9; go_simp); (try with_reducible rfl)
    try simp only [Act.put, List.getElem_toArray, List.getElem_cons_succ, List.getElem_cons_zero, List.setIfInBounds_toArray, List.set_cons_zero, List.set_cons_succ]
    refine wpU_take (i := 7) (v := ?_) rfl (by kernel_rfl) (by kernel_rfl) (fun _ _ _ h => h) _ _ _ _ (by kernel_rfl) (by kernel_rfl) (by kernel_rfl) (Or.inl ⟨by kernel_rfl, ?_⟩) hS2 ?_
    rotate_left
    · (intro w9 hS9; obtain s0 := hS9; go_simp); (try with_reducible rfl)
    try simp only [Act.put, List.getElem_toArray, List.getElem_cons_succ, List.getElem_cons_zero, List.setIfInBounds_toArray, List.set_cons_zero, List.set_cons_succ]
    refine wpU_take (i := 8) (v := ?_) rfl (by kernel_rfl) (by kernel_rfl) (fun _ _ _ h => h) _ _ _ _ (by kernel_rfl) (by kernel_rfl) (by kernel_rfl) (Or.inl ⟨by kernel_rfl, ?_⟩) hS2 ?_
    rotate_left
    · (intro w9 hS9; obtain s0 := hS9; go_simp); (try with_reducible rfl)
    try simp only [Act.put, List.getElem_toArray, List.getElem_cons_succ, List.getElem_cons_zero, List.setIfInBounds_toArray, List.set_cons_zero, List.set_cons_succ]
    refine wpU_next (i := 4) rfl (by kernel_rfl) (fun K hK => ?_)
    go_simp
    refine (p_write (S1 := fun k => New w1 k ∧ k < w2.heap.size) d.n 64 (dbys d.b) _ Hok.out HPd.out.ip HVb.out.drew.bd HBy2.out (fun k hk ht => by have h9 : w1.heap.size ≤ k := hk.1; have := HP1.out.lp k ht; omega)).mono ?_
    rintro e w3 ⟨rfl, p3, f3⟩
    obtain ⟨T2, P3, ht2⟩ := HPd.out.stepP p3 f3
    have hS3 : (fun w' : World => w'.cell? ⟨db, 1, none⟩ = some (.int .i64 d.n)) w3 := f3.cell hS2 fun h => by have h9 := Hdb.out _ (.inl h); exact absurd h9 (Nat.lt_irrefl _)
    have HP3 := hid P3
    have HT2 := hid ht2
    have HF3 := hid f3
    have HVb3 := hid (View.fr HVb.out.drew.bd f3 fun k hk _ h => by have h9 : w1.heap.size ≤ k := hk.1; have := HP1.out.lp k h; omega)
    clear p3 P3 ht2 f3
    refine hK.out _ _ (fun _ => hS3) ?_
    clear hK K
    try simp only [Act.put, List.getElem_toArray, List.getElem_cons_succ, List.getElem_cons_zero, List.setIfInBounds_toArray, List.set_cons_zero, List.set_cons_succ]
    refine wpU_next (i := 9) rfl (by kernel_rfl) (fun K hK => ?_)
    go_simp
    refine (m_write TM _ mb p d.n 64 (dbys d.b) _ (badB p 2) (badB_iff p 2) Hok.out hn w3 HP3.out.im HVb3.out HBy2.out (fun k hk ht => by have h9 : w1.heap.size ≤ k := hk.1; have := HP1.out.lm k ht; omega)).mono ?_
    rintro e w4 ⟨rfl, p4, f4⟩
    obtain ⟨TM2, P4, hm2⟩ := HP3.out.stepM p4 f4
    have hS4 : (fun w' : World => w'.cell? ⟨db, 1, none⟩ = some (.int .i64 d.n)) w4 := f4.cell hS3 fun h => by have h9 := Hdb.out _ (.inr h); exact absurd h9 (Nat.lt_irrefl _)
    have HP4 := hid P4
    have HM2 := hid hm2
    have HSZ := hid (show w1.heap.size ≤ w2.drew.heap.size ∧ w1.heap.size ≤ w3.heap.size from ⟨HF2.out.size, Nat.le_trans HF2.out.size HF3.out.size⟩)
    have HFF := hid (show Fr (fun k => T k ∨ TM k) w1 w4 from (HF2.out.drew.nil).then ((HF3.out.mono fun k hk => .inl hk).then (f4.mono fun k hk => .inr hk)))
    clear p4 P4 hm2 f4
    refine hK.out _ _ (fun _ => hS4) ?_
    clear hK K
    try simp only [Act.put, List.getElem_toArray, List.getElem_cons_succ, List.getElem_cons_zero, List.setIfInBounds_toArray, List.set_cons_zero, List.set_cons_succ]
    refine wpU_next (i := 10) rfl (by kernel_rfl) (fun K hK => ?_)
    go_simp
    refine hK.out _ _ (fun _ => hS4) ?_
    clear hK K
    try simp only [Act.put, List.getElem_toArray, List.getElem_cons_succ, List.getElem_cons_zero, List.setIfInBounds_toArray, List.set_cons_zero, List.set_cons_succ]
    refine wpU_next (i := 11) rfl (by kernel_rfl) (fun K hK => ?_)
    go_simp
    refine hK.out _ _ (fun h => absurd rfl h.1) ?_
    refine wpU_done (by kernel_rfl) ?_ _
    clear hK K
    clear hS2 hS3 hS4
    go_wp2
    go_ret
    refine ⟨rfl, ⟨T2, TM2, by rw [E.out]; exact (show Pair2 w4 T2 TM2 pb mb (wrP (badB p 2) p d.n (dlen d.b) (dbys d.b)) (wrP (badB p 2) p d.n (dlen d.b) (dbys d.b)) from by rw [HDl.out.1]; exact HP4.out), fun k hk => ?_, fun k hk => ?_⟩, ?_⟩
    · exact (HT2.out k hk).imp id fun h => Nat.le_trans F1.out.size (Nat.le_trans HSZ.out.1 h)
    · exact (HM2.out k hk).imp id fun h => Nat.le_trans F1.out.size (Nat.le_trans HSZ.out.2 h)
    · exact (F1.out.nil).then HFF.out
end Go.Proofs.Ytidjmjfoheagmaa

/- PlatterRots: what rots is exclusive-ored on the platter; twice by the same it is as it was. -/
import Derived.Test.YtidjmjfoheagmaaPlatRot
set_option linter.unusedSimpArgs false
set_option linter.unusedVariables false
namespace Go.Proofs.Ytidjmjfoheagmaa
open Go.RowKit

theorem get_bl {p : Pl} (h : p.ca = []) (n : Nat) : p.get n = p.bl.getD n [] := by unfold Pl.get; rw [h]; rfl
theorem get_put (p : Pl) (n : Nat) (xs : List Nat) : (p.put n xs).get n = xs := by
  show lastC (p.ca ++ [(n, xs)]) n _ = xs
  unfold lastC
  rw [List.foldl_append]
  simp
theorem fx_bit (mask bit i : Nat) : fx mask bit i = if mask / 2 ^ i % 2 = 1 then 2 ^ ((bit + i) % 8) else 0 := by
  unfold fx
  split
  · rename_i h; rw [h, Nat.one_mul]
  · rename_i h; rw [show mask / 2 ^ i % 2 = 0 by omega, Nat.zero_mul]
theorem and1 (mask i : Nat) (hm : mask < 4294967296) : bits .and .u32 ((mask : Int) / 2 ^ i) 1 = ((mask / 2 ^ i % 2 : Nat) : Int) := by
  have h1 : ((mask : Int) / 2 ^ i) = ((mask / 2 ^ i : Nat) : Int) := by simp
  have h := u32_and_nat (mask / 2 ^ i) 1 (Nat.lt_of_le_of_lt (Nat.div_le_self _ _) hm) (by omega)
  rw [Nat.and_one_is_mod] at h
  rw [h1]
  exact h

theorem setB_none (ca : List (Nat × List Nat)) (kept : Nat → Bool) (hk : ∀ i, kept i = false) (bl : List (List Nat)) (m : Nat) : setB ca kept bl m = bl := by
  induction m with
  | zero => rfl
  | succ m ih =>
    rw [setB_succ, ih]
    unfold stepB
    split
    · rw [hk]; rfl
    · rfl
theorem crash_none (p : Pl) : (p.crash []).bl = p.bl := setB_none _ _ (fun i => by simp [keptOf]) _ _
theorem xorv (y k : Nat) (hy : y < 256) : bits .xor .u8 (y : Int) (2 ^ (k % 8) % 256) = ((y ^^^ 2 ^ (k % 8) : Nat) : Int) := by
  have h1 : 2 ^ (k % 8) ≤ 128 := by
    have : k % 8 ≤ 7 := by omega
    exact Nat.le_trans (Nat.pow_le_pow_right (by omega) this) (by decide)
  have h2 : ((2 : Int) ^ (k % 8)) = ((2 ^ (k % 8) : Nat) : Int) := by simp
  rw [h2]
  generalize 2 ^ (k % 8) = z at *
  rw [show ((z : Int) % 256) = (z : Int) by omega, u8_xor (y : Int) _ (by omega) (by omega) (by omega) (by omega), Int.toNat_natCast, Int.toNat_natCast]

set_option maxRecDepth 100000 in
set_option maxHeartbeats 8000000 in
theorem rots_law (a0 : Int) (w0 : (Lit.int .u8 a0).wf = true) (a1 : Int) (w1' : (Lit.int .u16 a1).wf = true) (a2 : Int) (w2' : (Lit.int .u32 a2).wf = true) (w : World) :
    Calls Try.prog 4 #[.int .u8 a0, .int .u16 a1, .int .u32 a2] w fun e w' => e = .returned (.bool true) ∧ Fr Nil w w' := by
  have b0 := bounds_u8 w0
  have b1 := bounds_u16 w1'
  have b2 := bounds_u32 w2'
  obtain ⟨f, rfl⟩ : ∃ k : Nat, a0 = k := ⟨a0.toNat, by omega⟩
  obtain ⟨bt, rfl⟩ : ∃ k : Nat, a1 = k := ⟨a1.toNat, by omega⟩
  obtain ⟨mask, rfl⟩ : ∃ k : Nat, a2 = k := ⟨a2.toNat, by omega⟩
  have hmask : mask < 4294967296 := by omega
  have hf256 : f < 256 := by omega
  clear w0 w1' w2' b2 b0
  have e1 : ((bt : Int) % 600) = ((bt % 600 : Nat) : Int) := by omega
  go_enter Try.func4, Try.ntmps4
  go_wp2_with fail
  refine (awake_ok w).mono ?_
  rintro e w1 ⟨rfl, hf1⟩
  go_wp2_with fail
  refine (pnew_ok 64 (by omega) (by omega) w1).mono ?_
  rintro e w2 ⟨pb, rfl, hP2, hf2⟩
  have s1 := hf1.size
  have s2 := hf2.size
  have l0 : (fresh 64).bl.length = 64 := by simp [fresh]
  have k0 := okm_fresh 64 (by omega)
  have a0 : (fresh 64).fa = [] := rfl
  go_wp2_with fail
  have hP2b := hP2.bd
  refine (full_rep f w2).mono ?_
  rintro e w3 ⟨g3, rfl, hR3, hf3⟩
  have s3 := hf3.size
  go_wp2_with fail
  refine (write_ok (fun k => New w1 k ∧ k < w2.heap.size) (New w2) pb (fresh 64) 9 _ _ w3 (hP2b.fr hf3 fun _ _ h => h) k0.ok (not_bad a0 _) (by rw [l0]; omega) hR3.view (byt_full hf256) (fun k hk h => by have : w2.heap.size ≤ k := hk; omega)).mono ?_
  rintro e w4 ⟨rfl, hP4, hf4⟩
  have s4 := hf4.size
  have hP4' : IsP w4 (fun k => w1.heap.size ≤ k) pb _ := hP4.mono fun k hk => hk.elim (fun h => h.1) (fun h => by omega)
  have k4 := (k0.ask 2).put (n := 9) (rep f) (by show 9 < (fresh 64).bl.length; rw [l0]; omega)
  go_wp2_with fail
  refine (sync_ok _ pb _ w4 hP4' k4.ok (not_bad (by exact a0) _)).mono ?_
  rintro e w5 ⟨rfl, hP5, hf5⟩
  have s5 := hf5.size
  have k5 := (k4.ask 3).settle (fun _ => true)
  have l5 : ((((fresh 64).ask 2).put 9 (rep f)).ask 3 |>.settle fun _ => true).bl.length = 64 := by rw [settle_bl]; exact l0
  have g5 : ((((fresh 64).ask 2).put 9 (rep f)).ask 3 |>.settle fun _ => true).bl.getD 9 [] = rep f := by
    show (setB [(9, rep f)] (fun _ => true) (fresh 64).bl 1).getD 9 [] = rep f
    rw [setB_succ]
    show ((fresh 64).bl.set 9 (rep f)).getD 9 [] = rep f
    simp [List.getD, l0]
  have c5 : ((((fresh 64).ask 2).put 9 (rep f)).ask 3 |>.settle fun _ => true).ca = [] := rfl
  have a5 : ((((fresh 64).ask 2).put 9 (rep f)).ask 3 |>.settle fun _ => true).fa = [] := rfl
  have hF5 : Fr (fun k => w1.heap.size ≤ k) w1 w5 := (((hf2.nil.then hf3.nil).then (hf4.mono fun k hk => hk.1)).then hf5)
  generalize ((((fresh 64).ask 2).put 9 (rep f)).ask 3 |>.settle fun _ => true) = p5 at *
  clear hP2 hP2b hP4 hP4' hR3 k0 k4 l0 a0
  go_wp2_with fail
  rw [e1]
  clear e1
  have hat : bt % 600 < 600 := Nat.mod_lt _ (by omega)
  generalize bt % 600 = att at *
  go_wp2_with fail
  have hP5b := hP5.bd
  refine (full_rep f w5).mono ?_
  rintro e w6 ⟨gw, rfl, hW6, hf6⟩
  have s6 := hf6.size
  have hgw : w5.heap.size ≤ gw := hW6.2 gw rfl
  have hgw6 : gw < w6.heap.size := hW6.lt gw rfl
  have hP6 := hP5b.fr hf6 fun _ _ h => h
  clear hP5 hP5b
  obtain ⟨cnt, hcnt⟩ : ∃ cnt, cnt = min 32 (512 - att) := ⟨_, rfl⟩
  have hc1 : Hid (∀ i : Nat, i < cnt ↔ (i < 32 ∧ att + i < 512)) := hid (fun i => by omega)
  have hc32 : cnt ≤ 32 := by omega
  have Hcnt := hid hcnt; clear hcnt
  go_wp2_with fail
  go_loopw [11] (fun v11 wr => ∃ i : Nat, v11 = .int .i64 i ∧ i ≤ cnt ∧ Fr (fun k => k = gw) w6 wr ∧ Row wr (New w5) 5 1 (.slice (some ⟨gw, 0, none⟩) 64 64) 64 (bys (rotN (rep f) att mask i))) (fun v11 _ => cnt - (intOf v11).toNat)
  case atStart => exact ⟨0, rfl, by omega, Fr.refl _ _, hW6⟩
  case round =>
    obtain ⟨i, rfl, hi, hfr, hR⟩ := hrel
    have hxl : (rotN (rep f) att mask i).length = 64 := by rw [rotN_len, rep_eq]; simp
    have hxB := rotN_byt (byt_full hf256) att mask i
    have HS := hid (rotN_succ (rep f) att mask i)
    by_cases hlt : i < cnt
    · have hb := (hc1.out i).1 hlt
      have q1 : (i : Int) < 32 := by omega
      have q2 : (att : Int) + (i : Int) < 512 := by omega
      have hk : (att + i) / 8 < (rotN (rep f) att mask i).length := by omega
      have hgx : (rotN (rep f) att mask i)[(att + i) / 8]? = some (rotN (rep f) att mask i)[(att + i) / 8] := List.getElem?_eq_getElem hk
      have hgd2 : Hid ((rotN (rep f) att mask i).getD ((att + i) / 8) 0 = (rotN (rep f) att mask i)[(att + i) / 8]) := hid (by simp [List.getD, hgx])
      have hcell : wr.cell? ⟨gw, (att + i) / 8, none⟩ = some (.int .u8 (((rotN (rep f) att mask i)[(att + i) / 8] : Nat) : Int)) := hR.cell (by simp [bys, hgx])
      have hfz : wr.frozen? ⟨gw, (att + i) / 8, none⟩ = false := hR.frozen _
      have hy : (rotN (rep f) att mask i)[(att + i) / 8] < 256 := hxB _ (List.getElem_mem hk)
      generalize (rotN (rep f) att mask i)[(att + i) / 8] = y at *
      have hand := and1 mask i hmask
      have hfx := hid (fx_bit mask att i)
      have Hb := hid hb; clear hb hgx
      by_cases hbit : mask / 2 ^ i % 2 = 1
      · rw [hbit] at hand
        have Hbit := hid hbit; clear hbit
        have hxv := hid (xorv y (att + i) hy)
        go_wp2
        go_roundw
        case rel =>
          rw [hxv.out]
          refine ⟨i + 1, by go_num, by omega, hfr.setCell (a := ⟨gw, (att + i) / 8, none⟩) (.inl rfl) _, ?_⟩
          rw [HS.out]
          unfold stepR
          rw [hgd2.out, hfx.out, if_pos Hbit.out]
          have := hR.store ((att + i) / 8) (.int .u8 ((y ^^^ 2 ^ ((att + i) % 8) : Nat) : Int))
          have e9 : (bys (rotN (rep f) att mask i)).set ((att + i) / 8) (.int .u8 ((y ^^^ 2 ^ ((att + i) % 8) : Nat) : Int)) = bys ((rotN (rep f) att mask i).set ((att + i) / 8) (y ^^^ 2 ^ ((att + i) % 8))) := by simp [bys, List.map_set]
          rw [e9] at this
          exact this
        case measure => simp [intOf]; omega
      · have hz : mask / 2 ^ i % 2 = 0 := by omega
        rw [hz] at hand
        have Hz := hid hz; have Hbit := hid hbit; clear hz hbit
        go_wp2
        go_roundw
        case rel =>
          refine ⟨i + 1, by go_num, by omega, hfr, ?_⟩
          rw [HS.out]
          unfold stepR
          rw [hgd2.out, hfx.out, if_neg Hbit.out, Nat.xor_zero, ← hgd2.out]
          have e9 : (rotN (rep f) att mask i).set ((att + i) / 8) ((rotN (rep f) att mask i).getD ((att + i) / 8) 0) = rotN (rep f) att mask i := by
            unfold List.getD
            rw [List.getElem?_eq_getElem hk]
            simp
          rw [e9]
          exact hR
        case measure => simp [intOf]; omega
    · have hic : Hid (i = cnt) := hid (by omega)
      have hguard : Hid (¬ (i < 32 ∧ att + i < 512)) := hid (fun h => hlt ((hc1.out i).2 h))
      have hRw : Hid (rotN (rep f) att mask i = rotN (rep f) att mask (min 32 (512 - att))) := hid (by rw [hic.out, Hcnt.out])
      have htw : Hid (rotN (rotN (rep f) att mask (min 32 (512 - att))) att mask (min 32 (512 - att)) = rep f) := hid (rotN_twice _ _ _ _)
      rw [hRw.out] at hR
      obtain ⟨R, hRR⟩ : ∃ R, R = rotN (rep f) att mask (min 32 (512 - att)) := ⟨_, rfl⟩
      rw [← hRR] at hR
      have HR := hid hRR; clear hRR
      have hV7 := hR.view
      have hP7 := hP6.fr hfr (fun k hk (e : k = gw) => by omega)
      have s7 := hfr.size
      obtain ⟨b, hb⟩ : ∃ b, b = decide (att < 512) := ⟨_, rfl⟩
      have hF7 : Fr (fun k => w1.heap.size ≤ k) w1 wr := (hF5.then hf6.nil).then (hfr.mono fun k hk => by omega)
      have HB := hid hb; clear hb
      have hi0 : i ≤ 32 := by omega
      have hX : ∀ {α : Prop}, (¬ i < 32 → α) → (i < 32 → ¬ att + i < 512 → α) → α := fun a1 a2 => by
        by_cases h1 : i < 32
        · exact a2 h1 fun h => hguard.out ⟨h1, h⟩
        · exact a1 h1
      refine hX (fun h1 => ?_) (fun h1 h2 => ?_)
      all_goals
        clear hX
        go_wp2_with fail
        refine (rot_any (fun k => New w1 k ∧ k < w5.heap.size) pb p5 9 att mask wr b HB.out hP7 (by rw [l5]; omega) hmask).mono ?_
        rintro e w8 ⟨rfl, hP8, hf8⟩
        have s8 := hf8.size
        have k8 := rotted_okm k5 b 9 att mask
        have l8 := (rotted_len b p5 9 att mask).trans l5
        have g8 : (rotted b p5 9 att mask).bl.getD 9 [] = R := by rw [rotted_get b p5 9 att mask HB.out (by rw [l5]; omega), g5, HR.out]
        have c8 := (rotted_ca b p5 9 att mask).1.trans c5
        have a8 := (rotted_ca b p5 9 att mask).2.trans a5
        have hV8 := hV7.bd.fr hf8 (fun k hk _ h => by have h1 : w5.heap.size ≤ k := hk.1; omega)
        have hF8 : Fr (fun k => w1.heap.size ≤ k) w1 w8 := hF7.then (hf8.mono fun k hk => hk.1)
        generalize rotted b p5 9 att mask = p8 at *
        have hcmp2 : decide ((att : Int) < 512) = b := by rw [HB.out]; exact decide_eq_decide.2 (by omega)
        go_wp2_with fail
        refine (rot_bad _ pb p8 64 0 1 w8 hP8 (.inl (by rw [l8]; omega))).mono ?_
        rintro e wC ⟨rfl, rfl⟩
        go_wp2_with fail
        refine (rot_bad _ pb p8 (-1) 0 1 w8 hP8 (.inl (by omega))).mono ?_
        rintro e wC ⟨rfl, rfl⟩
        go_wp2_with fail
        refine (rot_bad _ pb p8 9 (-1) 1 w8 hP8 (.inr (.inl (by omega)))).mono ?_
        rintro e wC ⟨rfl, rfl⟩
        clear hcmp2
        go_wp2_with fail
        have hP8b := hP8.bd
        refine (read_ok _ pb p8 9 w8 hP8b k8.ok (not_bad a8 _) (by rw [l8]; omega)).mono ?_
        rintro e w9 ⟨A9, c9, rfl, hR9, -, -, hP9, hf9⟩
        rw [get_bl c8, g8] at hR9
        have s9 := hf9.size
        have k9 := k8.ask 1
        have hB9 := hR9.view.bd
        have hV9 := hV8.fr hf9 (fun k hk _ h => by
          have h1 : w5.heap.size ≤ k := hk.1
          have h2 := hk.2
          rcases h with ⟨h | h, h3⟩
          · have h4 := h.2; omega
          · omega)
        have hF9 : Fr (fun k => w1.heap.size ≤ k) w1 w9 := hF8.then (hf9.mono fun k hk => hk.1.elim (fun h => h.1) (fun h => by omega))
        obtain ⟨g, hg⟩ : ∃ g : Nat, ((f : Int) + 1) % 256 = (g : Int) := ⟨((f + 1) % 256), by omega⟩
        have hg256 : g < 256 := by omega
        clear hR9
        go_wp2_with fail
        refine (full_rep g w9).mono ?_
        rintro e w10 ⟨g10, rfl, hR10, hf10⟩
        have s10 := hf10.size
        go_wp2_with fail
        refine (write_ok _ (New w9) pb (p8.ask 1) 9 _ _ w10 (hP9.fr hf10 fun _ _ h => h) k9.ok (not_bad (by exact a8) _) (by show 9 < p8.bl.length; rw [l8]; omega) hR10.view (byt_full hg256) (fun k hk h => by have h1 : w9.heap.size ≤ k := hk; have h2 := h.2; omega)).mono ?_
        rintro e w11 ⟨rfl, hP11, hf11⟩
        have s11 := hf11.size
        have k11 := (k9.ask 2).put (n := 9) (rep g) (by show 9 < p8.bl.length; rw [l8]; omega)
        have hV11 := (hV9.fr hf10 fun _ _ _ h => h).fr hf11 (fun k hk _ h => by
          have h1 : w5.heap.size ≤ k := hk.1
          have h2 := hk.2
          rcases h with ⟨h | h, h3⟩
          · have h4 := h.2; omega
          · omega)
        have hB11 := (hB9.fr hf10 fun _ _ _ h => h).fr hf11 (fun k hk _ h => by have h1 : w8.heap.size ≤ k := hk.1; have h2 := h.2; omega)
        have hF11 : Fr (fun k => w1.heap.size ≤ k) w1 w11 := (hF9.then hf10.nil).then (hf11.mono fun k hk => hk.1.elim (fun h => h.1) (fun h => by omega))
        have hP11b := hP11.bd
        have g11 := get_put ((p8.ask 1).ask 2) 9 (rep g)
        clear hR10 hP9 hP11 hP8 hP8b
        go_wp2_with fail
        refine (read_ok _ pb _ 9 w11 hP11b k11.ok (not_bad (by exact a8) _) (by show 9 < p8.bl.length; rw [l8]; omega)).mono ?_
        rintro e w12 ⟨A12, c12, rfl, hR12, -, -, hP12, hf12⟩
        rw [g11] at hR12
        have s12 := hf12.size
        have k12 := k11.ask 1
        have hD12 := hR12.view.bd
        have hV12 := hV11.fr hf12 (fun k hk _ h => by
          have h1 : w5.heap.size ≤ k := hk.1
          have h2 := hk.2
          rcases h with ⟨⟨h | h, h3⟩ | h, h5⟩
          · have h4 := h.2; omega
          · omega
          · omega)
        have hB12 := hB11.fr hf12 (fun k hk _ h => by
          have h1 : w8.heap.size ≤ k := hk.1
          have h2 := hk.2
          rcases h with ⟨h | h, h5⟩
          · have h4 := h.2; omega
          · omega)
        have hF12 : Fr (fun k => w1.heap.size ≤ k) w1 w12 := hF11.then (hf12.mono fun k hk => hk.1.elim (fun h => h.1.elim (fun h => h.1) (fun h => by omega)) (fun h => by omega))
        clear hR12 hP11b
        have g13 : ((((((p8.ask 1).ask 2).put 9 (rep g)).ask 1).crash [])).bl.getD 9 [] = R := by rw [crash_none]; exact g8
        have l13 : ((((((p8.ask 1).ask 2).put 9 (rep g)).ask 1).crash [])).bl.length = 64 := by rw [crash_none]; exact l8
        go_wp2_with fail
        refine (crash_ok _ Nil pb _ 0 [] _ w12 hP12 k12.ok (by omega) (View.nil _ _ _) (fun _ h => h.elim)).mono ?_
        rintro e w13 ⟨rfl, hP13, hf13⟩
        have s13 := hf13.size
        have k13 := k12.crash []
        have a13 : ((((((p8.ask 1).ask 2).put 9 (rep g)).ask 1).crash [])).fa = [] := rfl
        have c13 : ((((((p8.ask 1).ask 2).put 9 (rep g)).ask 1).crash [])).ca = [] := rfl
        generalize (((((p8.ask 1).ask 2).put 9 (rep g)).ask 1).crash []) = p13 at *
        have tV : ∀ k, w5.heap.size ≤ k → k < wr.heap.size → ¬ ((Grow w10 (fun k => Grow wr (fun k => New w1 k ∧ k < w5.heap.size) k ∧ k < w8.heap.size) k) ∧ k < w11.heap.size) := by
          rintro k h1 h2 ⟨⟨h | h, h3⟩ | h, h5⟩
          · have h4 := h.2; omega
          · omega
          · omega
        have tB : ∀ k, w8.heap.size ≤ k → k < w9.heap.size → ¬ ((Grow w10 (fun k => Grow wr (fun k => New w1 k ∧ k < w5.heap.size) k ∧ k < w8.heap.size) k) ∧ k < w11.heap.size) := by
          rintro k h1 h2 ⟨h | h, h5⟩
          · have h4 := h.2; omega
          · omega
        have tN : ∀ k, ((Grow w10 (fun k => Grow wr (fun k => New w1 k ∧ k < w5.heap.size) k ∧ k < w8.heap.size) k) ∧ k < w11.heap.size) → w1.heap.size ≤ k ∧ k < w11.heap.size := by
          rintro k ⟨⟨h | h, h3⟩ | h, h5⟩
          · exact ⟨h.1, h5⟩
          · exact ⟨by omega, h5⟩
          · exact ⟨by omega, h5⟩
        have hV13 := hV12.fr hf13 (fun k hk _ h => tV k hk.1 hk.2 h)
        have hB13 := hB12.fr hf13 (fun k hk _ h => tB k hk.1 hk.2 h)
        have hD13 := hD12.fr hf13 (fun k hk _ h => by have h1 : w11.heap.size ≤ k := hk.1; have := (tN k h).2; omega)
        have hF13 : Fr (fun k => w1.heap.size ≤ k) w1 w13 := hF12.then (hf13.mono fun k hk => (tN k hk).1)
        generalize hTT : (fun k => (Grow w10 (fun k => Grow wr (fun k => New w1 k ∧ k < w5.heap.size) k ∧ k < w8.heap.size) k) ∧ k < w11.heap.size) = TT at *
        have tV' : ∀ k, w5.heap.size ≤ k → k < wr.heap.size → ¬ TT k := fun k a b c => tV k a b (by rw [← hTT] at c; exact c)
        have tB' : ∀ k, w8.heap.size ≤ k → k < w9.heap.size → ¬ TT k := fun k a b c => tB k a b (by rw [← hTT] at c; exact c)
        have tN' : ∀ k, TT k → w1.heap.size ≤ k ∧ k < w11.heap.size := fun k c => tN k (by rw [← hTT] at c; exact c)
        clear tV tB tN hTT hf12 hf13 hf11 hf9 hP12
        go_wp2_with fail
        refine (read_ok TT pb p13 9 w13 hP13 k13.ok (not_bad a13 _) (by rw [l13]; omega)).mono ?_
        rintro e w14 ⟨A14, c14, rfl, hR14, -, -, hP14, hf14⟩
        rw [get_bl c13, g13] at hR14
        have s14 := hf14.size
        have hX14 := hR14.view.bd
        have hV14 := hV13.fr hf14 (fun k hk _ h => tV' k hk.1 hk.2 h)
        have hB14 := hB13.fr hf14 (fun k hk _ h => tB' k hk.1 hk.2 h)
        have hD14 := hD13.fr hf14 (fun k hk _ h => by have h1 : w11.heap.size ≤ k := hk.1; have := (tN' k h).2; omega)
        have hF14 : Fr (fun k => w1.heap.size ≤ k) w1 w14 := hF13.then (hf14.mono fun k hk => (tN' k hk).1)
        clear hR14 hP13
        go_wp2_with fail
        refine (rot_any TT pb (p13.ask 1) 9 att mask w14 b HB.out hP14 (by show 9 < p13.bl.length; rw [l13]; omega) hmask).mono ?_
        rintro e w15 ⟨rfl, hP15, hf15⟩
        have s15 := hf15.size
        have k15 := rotted_okm (k13.ask 1) b 9 att mask
        have l15 := (rotted_len b (p13.ask 1) 9 att mask).trans l13
        have g15 : (rotted b (p13.ask 1) 9 att mask).bl.getD 9 [] = rep f := by
          rw [rotted_get b (p13.ask 1) 9 att mask HB.out (by show 9 < p13.bl.length; rw [l13]; omega)]
          show rotN (p13.bl.getD 9 []) att mask _ = _
          rw [g13, HR.out]
          exact htw.out
        have c15 := (rotted_ca b (p13.ask 1) 9 att mask).1.trans c13
        have a15 := (rotted_ca b (p13.ask 1) 9 att mask).2.trans a13
        generalize rotted b (p13.ask 1) 9 att mask = p15 at *
        have hV15 := hV14.fr hf15 (fun k hk _ h => tV' k hk.1 hk.2 h)
        have hB15 := hB14.fr hf15 (fun k hk _ h => tB' k hk.1 hk.2 h)
        have hD15 := hD14.fr hf15 (fun k hk _ h => by have h1 : w11.heap.size ≤ k := hk.1; have := (tN' k h).2; omega)
        have hX15 := hX14.fr hf15 (fun k hk _ h => by have h1 : w13.heap.size ≤ k := hk.1; have := (tN' k h).2; omega)
        have hF15 : Fr (fun k => w1.heap.size ≤ k) w1 w15 := hF14.then (hf15.mono fun k hk => (tN' k hk).1)
        have hP15b := hP15.bd
        clear hP14 hP15
        go_wp2_with fail
        refine (read_ok _ pb p15 9 w15 hP15b k15.ok (not_bad a15 _) (by rw [l15]; omega)).mono ?_
        rintro e w16 ⟨A16, c16, rfl, hR16, -, -, hP16, hf16⟩
        rw [get_bl c15, g15] at hR16
        have s16 := hf16.size
        have hY16 := hR16.view
        have tG : ∀ k, (Grow w14 TT k ∧ k < w15.heap.size) → TT k ∨ w14.heap.size ≤ k := fun k h => h.1
        have hV16 := hV15.fr hf16 (fun k hk _ h => by
          have h1 : w5.heap.size ≤ k := hk.1
          have h2 := hk.2
          exact (tG k h).elim (tV' k hk.1 hk.2) (fun h => by omega))
        have hB16 := hB15.fr hf16 (fun k hk _ h => by
          have h1 : w8.heap.size ≤ k := hk.1
          have h2 := hk.2
          exact (tG k h).elim (tB' k hk.1 hk.2) (fun h => by omega))
        have hD16 := hD15.fr hf16 (fun k hk _ h => by
          have h1 : w11.heap.size ≤ k := hk.1
          have h2 := hk.2
          exact (tG k h).elim (fun h => by have := (tN' k h).2; omega) (fun h => by omega))
        have hX16 := hX15.fr hf16 (fun k hk _ h => by
          have h1 : w13.heap.size ≤ k := hk.1
          have h2 := hk.2
          exact (tG k h).elim (fun h => by have := (tN' k h).2; omega) (fun h => by omega))
        have hF16 : Fr (fun k => w1.heap.size ≤ k) w1 w16 := hF15.then (hf16.mono fun k hk => (tG k hk).elim (fun h => (tN' k h).1) (fun h => by omega))
        clear hR16 hP15b hP16 tV' tB' tN' tG hf14 hf15 hf16
        have hS : ((convert 22 9 (.slice A9 64 c9)).run Try.prog w16.drew = .ok (.string (str (R))) w16.drew) ∧ ((convert 22 9 (.slice (some ⟨gw, 0, none⟩) 64 64)).run Try.prog w16.drew = .ok (.string (str (R))) w16.drew) ∧ ((convert 22 9 (.slice A12 64 c12)).run Try.prog w16.drew = .ok (.string (str (rep g))) w16.drew) ∧ ((convert 22 9 (.slice A14 64 c14)).run Try.prog w16.drew = .ok (.string (str (R))) w16.drew) ∧ ((convert 22 9 (.slice A16 64 c16)).run Try.prog w16.drew = .ok (.string (str (rep f))) w16.drew) := ⟨conv_row (w := w16.drew) hB16, conv_row (w := w16.drew) hV16, conv_row (w := w16.drew) hD16, conv_row (w := w16.drew) hX16, conv_row (w := w16.drew) hY16⟩
        go_wp2_with fail
        refine wpU_region (k := 49) (S := fun w' => ((convert 22 9 (.slice A9 64 c9)).run Try.prog w' = .ok (.string (str (R))) w') ∧ ((convert 22 9 (.slice (some ⟨gw, 0, none⟩) 64 64)).run Try.prog w' = .ok (.string (str (R))) w') ∧ ((convert 22 9 (.slice A12 64 c12)).run Try.prog w' = .ok (.string (str (rep g))) w') ∧ ((convert 22 9 (.slice A14 64 c14)).run Try.prog w' = .ok (.string (str (R))) w') ∧ ((convert 22 9 (.slice A16 64 c16)).run Try.prog w' = .ok (.string (str (rep f))) w')) (by kernel_rfl) ?_
        refine wpU_take (i := 0) (v := ?_) rfl (by kernel_rfl) (by kernel_rfl) (fun _ _ _ h => h) _ _ _ _ (by kernel_rfl) (by kernel_rfl) (by kernel_rfl) (Or.inl ⟨by kernel_rfl, ?_⟩) hS ?_
        rotate_left
        · (intro w9 hS9; obtain ⟨s0, s1, s2, s3, s4⟩ := hS9; go_simp); (try with_reducible rfl)
        try simp only [Act.put, List.setIfInBounds_toArray, List.set_cons_zero, List.set_cons_succ]
        refine wpU_take (i := 1) (v := ?_) rfl (by kernel_rfl) (by kernel_rfl) (fun _ _ _ h => h) _ _ _ _ (by kernel_rfl) (by kernel_rfl) (by kernel_rfl) (Or.inl ⟨by kernel_rfl, ?_⟩) hS ?_
        rotate_left
        · (intro w9 hS9; obtain ⟨s0, s1, s2, s3, s4⟩ := hS9; go_simp); (try with_reducible rfl)
        try simp only [Act.put, List.setIfInBounds_toArray, List.set_cons_zero, List.set_cons_succ]
        refine wpU_take (i := 2) (v := ?_) rfl (by kernel_rfl) (by kernel_rfl) (fun _ _ _ h => h) _ _ _ _ (by kernel_rfl) (by kernel_rfl) (by kernel_rfl) (Or.inl ⟨by kernel_rfl, ?_⟩) hS ?_
        rotate_left
        · (intro w9 hS9; obtain ⟨s0, s1, s2, s3, s4⟩ := hS9; go_simp); (try with_reducible rfl)
        try simp only [Act.put, List.setIfInBounds_toArray, List.set_cons_zero, List.set_cons_succ]
        refine wpU_take (i := 3) (v := ?_) rfl (by kernel_rfl) (by kernel_rfl) (fun _ _ _ h => h) _ _ _ _ (by kernel_rfl) (by kernel_rfl) (by kernel_rfl) (Or.inl ⟨by kernel_rfl, ?_⟩) hS ?_
        rotate_left
        · (intro w9 hS9; obtain ⟨s0, s1, s2, s3, s4⟩ := hS9; go_simp); (try with_reducible rfl)
        try simp only [Act.put, List.setIfInBounds_toArray, List.set_cons_zero, List.set_cons_succ]
        refine wpU_take (i := 4) (v := ?_) rfl (by kernel_rfl) (by kernel_rfl) (fun _ _ _ h => h) _ _ _ _ (by kernel_rfl) (by kernel_rfl) (by kernel_rfl) (Or.inl ⟨by kernel_rfl, ?_⟩) hS ?_
        rotate_left
        · (intro w9 hS9; obtain ⟨s0, s1, s2, s3, s4⟩ := hS9; go_simp); (try with_reducible rfl)
        try simp only [Act.put, List.setIfInBounds_toArray, List.set_cons_zero, List.set_cons_succ]
        refine wpU_take (i := 5) (v := ?_) rfl (by kernel_rfl) (by kernel_rfl) (fun _ _ _ h => h) _ _ _ _ (by kernel_rfl) (by kernel_rfl) (by kernel_rfl) (Or.inl ⟨by kernel_rfl, ?_⟩) hS ?_
        rotate_left
        · (intro w9 hS9; obtain ⟨s0, s1, s2, s3, s4⟩ := hS9; go_simp); (try with_reducible rfl)
        try simp only [Act.put, List.setIfInBounds_toArray, List.set_cons_zero, List.set_cons_succ]
        refine wpU_take (i := 6) (v := ?_) rfl (by kernel_rfl) (by kernel_rfl) (fun _ _ _ h => h) _ _ _ _ (by kernel_rfl) (by kernel_rfl) (by kernel_rfl) (Or.inl ⟨by kernel_rfl, ?_⟩) hS ?_
        rotate_left
        · (intro w9 hS9; obtain ⟨s0, s1, s2, s3, s4⟩ := hS9; go_simp); (try with_reducible rfl)
        try simp only [Act.put, List.setIfInBounds_toArray, List.set_cons_zero, List.set_cons_succ]
        refine wpU_take (i := 7) (v := ?_) rfl (by kernel_rfl) (by kernel_rfl) (fun _ _ _ h => h) _ _ _ _ (by kernel_rfl) (by kernel_rfl) (by kernel_rfl) (Or.inl ⟨by kernel_rfl, ?_⟩) hS ?_
        rotate_left
        · (intro w9 hS9; obtain ⟨s0, s1, s2, s3, s4⟩ := hS9; go_simp); (try with_reducible rfl)
        try simp only [Act.put, List.setIfInBounds_toArray, List.set_cons_zero, List.set_cons_succ]
        refine wpU_take (i := 8) (v := ?_) rfl (by kernel_rfl) (by kernel_rfl) (fun _ _ _ h => h) _ _ _ _ (by kernel_rfl) (by kernel_rfl) (by kernel_rfl) (Or.inl ⟨by kernel_rfl, ?_⟩) hS ?_
        rotate_left
        · (intro w9 hS9; obtain ⟨s0, s1, s2, s3, s4⟩ := hS9; go_simp); (try with_reducible rfl)
        try simp only [Act.put, List.setIfInBounds_toArray, List.set_cons_zero, List.set_cons_succ]
        refine wpU_take (i := 9) (v := ?_) rfl (by kernel_rfl) (by kernel_rfl) (fun _ _ _ h => h) _ _ _ _ (by kernel_rfl) (by kernel_rfl) (by kernel_rfl) (Or.inl ⟨by kernel_rfl, ?_⟩) hS ?_
        rotate_left
        · (intro w9 hS9; obtain ⟨s0, s1, s2, s3, s4⟩ := hS9; go_simp); (try with_reducible rfl)
        try simp only [Act.put, List.setIfInBounds_toArray, List.set_cons_zero, List.set_cons_succ]
        refine wpU_take (i := 10) (v := ?_) rfl (by kernel_rfl) (by kernel_rfl) (fun _ _ _ h => h) _ _ _ _ (by kernel_rfl) (by kernel_rfl) (by kernel_rfl) (Or.inl ⟨by kernel_rfl, ?_⟩) hS ?_
        rotate_left
        · (intro w9 hS9; obtain ⟨s0, s1, s2, s3, s4⟩ := hS9; go_simp); (try with_reducible rfl)
        try simp only [Act.put, List.setIfInBounds_toArray, List.set_cons_zero, List.set_cons_succ]
        refine wpU_take (i := 11) (v := ?_) rfl (by kernel_rfl) (by kernel_rfl) (fun _ _ _ h => h) _ _ _ _ (by kernel_rfl) (by kernel_rfl) (by kernel_rfl) (Or.inl ⟨by kernel_rfl, ?_⟩) hS ?_
        rotate_left
        · (intro w9 hS9; obtain ⟨s0, s1, s2, s3, s4⟩ := hS9; go_simp); (try with_reducible rfl)
        try simp only [Act.put, List.setIfInBounds_toArray, List.set_cons_zero, List.set_cons_succ]
        refine wpU_take (i := 12) (v := ?_) rfl (by kernel_rfl) (by kernel_rfl) (fun _ _ _ h => h) _ _ _ _ (by kernel_rfl) (by kernel_rfl) (by kernel_rfl) (Or.inl ⟨by kernel_rfl, ?_⟩) hS ?_
        rotate_left
        · (intro w9 hS9; obtain ⟨s0, s1, s2, s3, s4⟩ := hS9; go_simp); (try with_reducible rfl)
        try simp only [Act.put, List.setIfInBounds_toArray, List.set_cons_zero, List.set_cons_succ]
        refine wpU_take (i := 13) (v := ?_) rfl (by kernel_rfl) (by kernel_rfl) (fun _ _ _ h => h) _ _ _ _ (by kernel_rfl) (by kernel_rfl) (by kernel_rfl) (Or.inl ⟨by kernel_rfl, ?_⟩) hS ?_
        rotate_left
        · (intro w9 hS9; obtain ⟨s0, s1, s2, s3, s4⟩ := hS9; go_simp); (try with_reducible rfl)
        try simp only [Act.put, List.setIfInBounds_toArray, List.set_cons_zero, List.set_cons_succ]
        refine wpU_take (i := 14) (v := ?_) rfl (by kernel_rfl) (by kernel_rfl) (fun _ _ _ h => h) _ _ _ _ (by kernel_rfl) (by kernel_rfl) (by kernel_rfl) (Or.inl ⟨by kernel_rfl, ?_⟩) hS ?_
        rotate_left
        · (intro w9 hS9; obtain ⟨s0, s1, s2, s3, s4⟩ := hS9; go_simp); (try with_reducible rfl)
        try simp only [Act.put, List.setIfInBounds_toArray, List.set_cons_zero, List.set_cons_succ]
        refine wpU_take (i := 15) (v := ?_) rfl (by kernel_rfl) (by kernel_rfl) (fun _ _ _ h => h) _ _ _ _ (by kernel_rfl) (by kernel_rfl) (by kernel_rfl) (Or.inl ⟨by kernel_rfl, ?_⟩) hS ?_
        rotate_left
        · (intro w9 hS9; obtain ⟨s0, s1, s2, s3, s4⟩ := hS9; go_simp); (try with_reducible rfl)
        try simp only [Act.put, List.setIfInBounds_toArray, List.set_cons_zero, List.set_cons_succ]
        refine wpU_take (i := 16) (v := ?_) rfl (by kernel_rfl) (by kernel_rfl) (fun _ _ _ h => h) _ _ _ _ (by kernel_rfl) (by kernel_rfl) (by kernel_rfl) (Or.inl ⟨by kernel_rfl, ?_⟩) hS ?_
        rotate_left
        · (intro w9 hS9; obtain ⟨s0, s1, s2, s3, s4⟩ := hS9; go_simp); (try with_reducible rfl)
        try simp only [Act.put, List.setIfInBounds_toArray, List.set_cons_zero, List.set_cons_succ]
        refine wpU_take (i := 17) (v := ?_) rfl (by kernel_rfl) (by kernel_rfl) (fun _ _ _ h => h) _ _ _ _ (by kernel_rfl) (by kernel_rfl) (by kernel_rfl) (Or.inl ⟨by kernel_rfl, ?_⟩) hS ?_
        rotate_left
        · (intro w9 hS9; obtain ⟨s0, s1, s2, s3, s4⟩ := hS9; go_simp); (try with_reducible rfl)
        try simp only [Act.put, List.setIfInBounds_toArray, List.set_cons_zero, List.set_cons_succ]
        refine wpU_take (i := 18) (v := ?_) rfl (by kernel_rfl) (by kernel_rfl) (fun _ _ _ h => h) _ _ _ _ (by kernel_rfl) (by kernel_rfl) (by kernel_rfl) (Or.inl ⟨by kernel_rfl, ?_⟩) hS ?_
        rotate_left
        · (intro w9 hS9; obtain ⟨s0, s1, s2, s3, s4⟩ := hS9; go_simp); (try with_reducible rfl)
        try simp only [Act.put, List.setIfInBounds_toArray, List.set_cons_zero, List.set_cons_succ]
        refine wpU_take (i := 19) (v := ?_) rfl (by kernel_rfl) (by kernel_rfl) (fun _ _ _ h => h) _ _ _ _ (by kernel_rfl) (by kernel_rfl) (by kernel_rfl) (Or.inl ⟨by kernel_rfl, ?_⟩) hS ?_
        rotate_left
        · (intro w9 hS9; obtain ⟨s0, s1, s2, s3, s4⟩ := hS9; go_simp); (try with_reducible rfl)
        try simp only [Act.put, List.setIfInBounds_toArray, List.set_cons_zero, List.set_cons_succ]
        refine wpU_take (i := 20) (v := ?_) rfl (by kernel_rfl) (by kernel_rfl) (fun _ _ _ h => h) _ _ _ _ (by kernel_rfl) (by kernel_rfl) (by kernel_rfl) (Or.inl ⟨by kernel_rfl, ?_⟩) hS ?_
        rotate_left
        · (intro w9 hS9; obtain ⟨s0, s1, s2, s3, s4⟩ := hS9; go_simp); (try with_reducible rfl)
        try simp only [Act.put, List.setIfInBounds_toArray, List.set_cons_zero, List.set_cons_succ]
        refine wpU_take (i := 21) (v := ?_) rfl (by kernel_rfl) (by kernel_rfl) (fun _ _ _ h => h) _ _ _ _ (by kernel_rfl) (by kernel_rfl) (by kernel_rfl) (Or.inl ⟨by kernel_rfl, ?_⟩) hS ?_
        rotate_left
        · (intro w9 hS9; obtain ⟨s0, s1, s2, s3, s4⟩ := hS9; go_simp); (try with_reducible rfl)
        try simp only [Act.put, List.setIfInBounds_toArray, List.set_cons_zero, List.set_cons_succ]
        refine wpU_take (i := 22) (v := ?_) rfl (by kernel_rfl) (by kernel_rfl) (fun _ _ _ h => h) _ _ _ _ (by kernel_rfl) (by kernel_rfl) (by kernel_rfl) (Or.inl ⟨by kernel_rfl, ?_⟩) hS ?_
        rotate_left
        · (intro w9 hS9; obtain ⟨s0, s1, s2, s3, s4⟩ := hS9; go_simp); (try with_reducible rfl)
        try simp only [Act.put, List.setIfInBounds_toArray, List.set_cons_zero, List.set_cons_succ]
        refine wpU_take (i := 23) (v := ?_) rfl (by kernel_rfl) (by kernel_rfl) (fun _ _ _ h => h) _ _ _ _ (by kernel_rfl) (by kernel_rfl) (by kernel_rfl) (Or.inl ⟨by kernel_rfl, ?_⟩) hS ?_
        rotate_left
        · (intro w9 hS9; obtain ⟨s0, s1, s2, s3, s4⟩ := hS9; go_simp); (try with_reducible rfl)
        try simp only [Act.put, List.setIfInBounds_toArray, List.set_cons_zero, List.set_cons_succ]
        refine wpU_take (i := 24) (v := ?_) rfl (by kernel_rfl) (by kernel_rfl) (fun _ _ _ h => h) _ _ _ _ (by kernel_rfl) (by kernel_rfl) (by kernel_rfl) (Or.inl ⟨by kernel_rfl, ?_⟩) hS ?_
        rotate_left
        · (intro w9 hS9; obtain ⟨s0, s1, s2, s3, s4⟩ := hS9; go_simp); (try with_reducible rfl)
        try simp only [Act.put, List.setIfInBounds_toArray, List.set_cons_zero, List.set_cons_succ]
        refine wpU_take (i := 25) (v := ?_) rfl (by kernel_rfl) (by kernel_rfl) (fun _ _ _ h => h) _ _ _ _ (by kernel_rfl) (by kernel_rfl) (by kernel_rfl) (Or.inl ⟨by kernel_rfl, ?_⟩) hS ?_
        rotate_left
        · (intro w9 hS9; obtain ⟨s0, s1, s2, s3, s4⟩ := hS9; go_simp); (try with_reducible rfl)
        try simp only [Act.put, List.setIfInBounds_toArray, List.set_cons_zero, List.set_cons_succ]
        refine wpU_take (i := 26) (v := ?_) rfl (by kernel_rfl) (by kernel_rfl) (fun _ _ _ h => h) _ _ _ _ (by kernel_rfl) (by kernel_rfl) (by kernel_rfl) (Or.inl ⟨by kernel_rfl, ?_⟩) hS ?_
        rotate_left
        · (intro w9 hS9; obtain ⟨s0, s1, s2, s3, s4⟩ := hS9; go_simp); (try with_reducible rfl)
        try simp only [Act.put, List.setIfInBounds_toArray, List.set_cons_zero, List.set_cons_succ]
        refine wpU_take (i := 27) (v := ?_) rfl (by kernel_rfl) (by kernel_rfl) (fun _ _ _ h => h) _ _ _ _ (by kernel_rfl) (by kernel_rfl) (by kernel_rfl) (Or.inl ⟨by kernel_rfl, ?_⟩) hS ?_
        rotate_left
        · (intro w9 hS9; obtain ⟨s0, s1, s2, s3, s4⟩ := hS9; go_simp); (try with_reducible rfl)
        try simp only [Act.put, List.setIfInBounds_toArray, List.set_cons_zero, List.set_cons_succ]
        refine wpU_take (i := 28) (v := ?_) rfl (by kernel_rfl) (by kernel_rfl) (fun _ _ _ h => h) _ _ _ _ (by kernel_rfl) (by kernel_rfl) (by kernel_rfl) (Or.inl ⟨by kernel_rfl, ?_⟩) hS ?_
        rotate_left
        · (intro w9 hS9; obtain ⟨s0, s1, s2, s3, s4⟩ := hS9; go_simp); (try with_reducible rfl)
        try simp only [Act.put, List.setIfInBounds_toArray, List.set_cons_zero, List.set_cons_succ]
        refine wpU_take (i := 29) (v := ?_) rfl (by kernel_rfl) (by kernel_rfl) (fun _ _ _ h => h) _ _ _ _ (by kernel_rfl) (by kernel_rfl) (by kernel_rfl) (Or.inl ⟨by kernel_rfl, ?_⟩) hS ?_
        rotate_left
        · (intro w9 hS9; obtain ⟨s0, s1, s2, s3, s4⟩ := hS9; go_simp); (try with_reducible rfl)
        try simp only [Act.put, List.setIfInBounds_toArray, List.set_cons_zero, List.set_cons_succ]
        refine wpU_next (i := 30) rfl (by kernel_rfl) (fun K hK => ?_)
        go_simp
        have hw : IntKind.u8.wrap ((f : Int) + 1) = (g : Int) := by rw [← hg]; simp [IntKind.wrap, IntKind.bits, IntKind.signed]
        rw [hw]
        refine (full_rep g w16.drew).mono ?_
        rintro e wA ⟨gA, rfl, hRA, hfA⟩
        have cA := conv_row hRA.view
        have iB := View.fr (w := w16.drew) hB16 hfA fun _ _ _ h => h
        have iV := View.fr (w := w16.drew) hV16 hfA fun _ _ _ h => h
        have iD := View.fr (w := w16.drew) hD16 hfA fun _ _ _ h => h
        have iX := View.fr (w := w16.drew) hX16 hfA fun _ _ _ h => h
        have iY := View.fr (w := w16.drew) hY16 hfA fun _ _ _ h => h
        have hSA := And.intro (conv_row iB) (And.intro (conv_row iV) (And.intro (conv_row iD) (And.intro (conv_row iX) (conv_row iY))))
        refine hK.out _ _ (fun _ => hSA) ?_
        clear hK K
        try simp only [Act.put, List.setIfInBounds_toArray, List.set_cons_zero, List.set_cons_succ]
        refine wpU_next (i := 31) rfl (by kernel_rfl) (fun K hK => ?_)
        go_simp
        refine hK.out _ _ (fun _ => hSA) ?_
        clear hK K
        try simp only [Act.put, List.setIfInBounds_toArray, List.set_cons_zero, List.set_cons_succ]
        refine wpU_take (i := 32) (v := ?_) rfl (by kernel_rfl) (by kernel_rfl) (fun _ _ _ h => h) _ _ _ _ (by kernel_rfl) (by kernel_rfl) (by kernel_rfl) (Or.inl ⟨by kernel_rfl, ?_⟩) hSA ?_
        rotate_left
        · (intro w9 hS9; obtain ⟨s0, s1, s2, s3, s4⟩ := hS9; go_simp); (try with_reducible rfl)
        try simp only [Act.put, List.setIfInBounds_toArray, List.set_cons_zero, List.set_cons_succ]
        refine wpU_take (i := 33) (v := ?_) rfl (by kernel_rfl) (by kernel_rfl) (fun _ _ _ h => h) _ _ _ _ (by kernel_rfl) (by kernel_rfl) (by kernel_rfl) (Or.inl ⟨by kernel_rfl, ?_⟩) hSA ?_
        rotate_left
        · (intro w9 hS9; obtain ⟨s0, s1, s2, s3, s4⟩ := hS9; go_simp); (try with_reducible rfl)
        try simp only [Act.put, List.setIfInBounds_toArray, List.set_cons_zero, List.set_cons_succ]
        refine wpU_take (i := 34) (v := ?_) rfl (by kernel_rfl) (by kernel_rfl) (fun _ _ _ h => h) _ _ _ _ (by kernel_rfl) (by kernel_rfl) (by kernel_rfl) (Or.inl ⟨by kernel_rfl, ?_⟩) hSA ?_
        rotate_left
        · (intro w9 hS9; obtain ⟨s0, s1, s2, s3, s4⟩ := hS9; go_simp); (try with_reducible rfl)
        try simp only [Act.put, List.setIfInBounds_toArray, List.set_cons_zero, List.set_cons_succ]
        refine wpU_take (i := 35) (v := ?_) rfl (by kernel_rfl) (by kernel_rfl) (fun _ _ _ h => h) _ _ _ _ (by kernel_rfl) (by kernel_rfl) (by kernel_rfl) (Or.inl ⟨by kernel_rfl, ?_⟩) hSA ?_
        rotate_left
        · (intro w9 hS9; obtain ⟨s0, s1, s2, s3, s4⟩ := hS9; go_simp); (try with_reducible rfl)
        try simp only [Act.put, List.setIfInBounds_toArray, List.set_cons_zero, List.set_cons_succ]
        refine wpU_take (i := 36) (v := ?_) rfl (by kernel_rfl) (by kernel_rfl) (fun _ _ _ h => h) _ _ _ _ (by kernel_rfl) (by kernel_rfl) (by kernel_rfl) (Or.inl ⟨by kernel_rfl, ?_⟩) hSA ?_
        rotate_left
        · (intro w9 hS9; obtain ⟨s0, s1, s2, s3, s4⟩ := hS9; go_simp); (try with_reducible rfl)
        try simp only [Act.put, List.setIfInBounds_toArray, List.set_cons_zero, List.set_cons_succ]
        refine wpU_take (i := 37) (v := ?_) rfl (by kernel_rfl) (by kernel_rfl) (fun _ _ _ h => h) _ _ _ _ (by kernel_rfl) (by kernel_rfl) (by kernel_rfl) (Or.inl ⟨by kernel_rfl, ?_⟩) hSA ?_
        rotate_left
        · (intro w9 hS9; obtain ⟨s0, s1, s2, s3, s4⟩ := hS9; go_simp); (try with_reducible rfl)
        try simp only [Act.put, List.setIfInBounds_toArray, List.set_cons_zero, List.set_cons_succ]
        refine wpU_take (i := 38) (v := ?_) rfl (by kernel_rfl) (by kernel_rfl) (fun _ _ _ h => h) _ _ _ _ (by kernel_rfl) (by kernel_rfl) (by kernel_rfl) (Or.inl ⟨by kernel_rfl, ?_⟩) hSA ?_
        rotate_left
        · (intro w9 hS9; obtain ⟨s0, s1, s2, s3, s4⟩ := hS9; go_simp); (try with_reducible rfl)
        try simp only [Act.put, List.setIfInBounds_toArray, List.set_cons_zero, List.set_cons_succ]
        refine wpU_take (i := 39) (v := ?_) rfl (by kernel_rfl) (by kernel_rfl) (fun _ _ _ h => h) _ _ _ _ (by kernel_rfl) (by kernel_rfl) (by kernel_rfl) (Or.inl ⟨by kernel_rfl, ?_⟩) hSA ?_
        rotate_left
        · (intro w9 hS9; obtain ⟨s0, s1, s2, s3, s4⟩ := hS9; go_simp); (try with_reducible rfl)
        try simp only [Act.put, List.setIfInBounds_toArray, List.set_cons_zero, List.set_cons_succ]
        refine wpU_take (i := 40) (v := ?_) rfl (by kernel_rfl) (by kernel_rfl) (fun _ _ _ h => h) _ _ _ _ (by kernel_rfl) (by kernel_rfl) (by kernel_rfl) (Or.inl ⟨by kernel_rfl, ?_⟩) hSA ?_
        rotate_left
        · (intro w9 hS9; obtain ⟨s0, s1, s2, s3, s4⟩ := hS9; go_simp); (try with_reducible rfl)
        try simp only [Act.put, List.setIfInBounds_toArray, List.set_cons_zero, List.set_cons_succ]
        refine wpU_take (i := 41) (v := ?_) rfl (by kernel_rfl) (by kernel_rfl) (fun _ _ _ h => h) _ _ _ _ (by kernel_rfl) (by kernel_rfl) (by kernel_rfl) (Or.inl ⟨by kernel_rfl, ?_⟩) hSA ?_
        rotate_left
        · (intro w9 hS9; obtain ⟨s0, s1, s2, s3, s4⟩ := hS9; go_simp); (try with_reducible rfl)
        try simp only [Act.put, List.setIfInBounds_toArray, List.set_cons_zero, List.set_cons_succ]
        refine wpU_take (i := 42) (v := ?_) rfl (by kernel_rfl) (by kernel_rfl) (fun _ _ _ h => h) _ _ _ _ (by kernel_rfl) (by kernel_rfl) (by kernel_rfl) (Or.inl ⟨by kernel_rfl, ?_⟩) hSA ?_
        rotate_left
        · (intro w9 hS9; obtain ⟨s0, s1, s2, s3, s4⟩ := hS9; go_simp); (try with_reducible rfl)
        try simp only [Act.put, List.setIfInBounds_toArray, List.set_cons_zero, List.set_cons_succ]
        refine wpU_take (i := 43) (v := ?_) rfl (by kernel_rfl) (by kernel_rfl) (fun _ _ _ h => h) _ _ _ _ (by kernel_rfl) (by kernel_rfl) (by kernel_rfl) (Or.inl ⟨by kernel_rfl, ?_⟩) hSA ?_
        rotate_left
        · (intro w9 hS9; obtain ⟨s0, s1, s2, s3, s4⟩ := hS9; go_simp); (try with_reducible rfl)
        try simp only [Act.put, List.setIfInBounds_toArray, List.set_cons_zero, List.set_cons_succ]
        refine wpU_take (i := 44) (v := ?_) rfl (by kernel_rfl) (by kernel_rfl) (fun _ _ _ h => h) _ _ _ _ (by kernel_rfl) (by kernel_rfl) (by kernel_rfl) (Or.inl ⟨by kernel_rfl, ?_⟩) hSA ?_
        rotate_left
        · (intro w9 hS9; obtain ⟨s0, s1, s2, s3, s4⟩ := hS9; go_simp); (try with_reducible rfl)
        try simp only [Act.put, List.setIfInBounds_toArray, List.set_cons_zero, List.set_cons_succ]
        refine wpU_next (i := 45) rfl (by kernel_rfl) (fun K hK => ?_)
        go_simp
        refine (full_rep f wA).mono ?_
        rintro e wB ⟨gB, rfl, hRB, hfB⟩
        have cB := conv_row hRB.view
        have hSB := And.intro (conv_row (iB.fr hfB fun _ _ _ h => h)) (And.intro (conv_row (iV.fr hfB fun _ _ _ h => h)) (And.intro (conv_row (iD.fr hfB fun _ _ _ h => h)) (And.intro (conv_row (iX.fr hfB fun _ _ _ h => h)) (conv_row (iY.fr hfB fun _ _ _ h => h)))))
        refine hK.out _ _ (fun _ => hSB) ?_
        clear hK K
        try simp only [Act.put, List.setIfInBounds_toArray, List.set_cons_zero, List.set_cons_succ]
        refine wpU_next (i := 46) rfl (by kernel_rfl) (fun K hK => ?_)
        go_simp
        refine hK.out _ _ (fun _ => hSB) ?_
        clear hK K
        try simp only [Act.put, List.setIfInBounds_toArray, List.set_cons_zero, List.set_cons_succ]
        refine wpU_take (i := 47) (v := ?_) rfl (by kernel_rfl) (by kernel_rfl) (fun _ _ _ h => h) _ _ _ _ (by kernel_rfl) (by kernel_rfl) (by kernel_rfl) (Or.inl ⟨by kernel_rfl, ?_⟩) hSB ?_
        rotate_left
        · (intro w9 hS9; obtain ⟨s0, s1, s2, s3, s4⟩ := hS9; go_simp); (try with_reducible rfl)
        try simp only [Act.put, List.setIfInBounds_toArray, List.set_cons_zero, List.set_cons_succ]
        refine wpU_take (i := 48) (v := ?_) rfl (by kernel_rfl) (by kernel_rfl) (fun _ _ _ h => h) _ _ _ _ (by kernel_rfl) (by kernel_rfl) (by kernel_rfl) (Or.inl ⟨by kernel_rfl, ?_⟩) hSB ?_
        rotate_left
        · (intro w9 hS9; obtain ⟨s0, s1, s2, s3, s4⟩ := hS9; go_simp); (try with_reducible rfl)
        try simp only [Act.put, List.setIfInBounds_toArray, List.set_cons_zero, List.set_cons_succ]
        refine wpU_next (i := 49) rfl (by kernel_rfl) (fun K hK => ?_)
        go_simp
        refine hK.out _ _ (fun h => absurd rfl h) ?_
        refine wpU_done (by kernel_rfl) ?_ _
        clear hK K
        go_wp2
        go_ret
        exact ⟨rfl, hf1.trans (((hF16.drew).then hfA.nil).then hfB.nil) (fun k hk => .inr (by omega))⟩
end Go.Proofs.Ytidjmjfoheagmaa

/- platter's Rot. Conditions: the platter is a block of the program's own. -/
import Derived.Test.YtidjmjfoheagmaaQPlatF
set_option linter.unusedSimpArgs false
set_option linter.unusedVariables false
namespace Go.Proofs.Ytidjmjfoheagmaa
open Go.RowKit

theorem rot_bad (T : Nat → Prop) (pb : Nat) (p : Pl) (n bit mask : Int) (w : World) (h : IsP w T pb p) (hb : ¬ (0 ≤ n ∧ n < p.bl.length) ∨ bit < 0 ∨ 512 ≤ bit) :
    Calls Try.prog 17 #[.pointer (some ⟨pb, 0, none⟩), .int .i64 n, .int .i64 bit, .int .u32 mask] w fun e w' => e = .returned (.bool false) ∧ w = w' := by
  go_enter Try.func17, Try.ntmps17
  go_wp2_with fail
  refine (there_ok T pb p n w h).mono ?_
  rintro e w2 ⟨rfl, rfl⟩
  by_cases ht : 0 ≤ n ∧ n < p.bl.length
  · rw [decide_eq_true ht]
    have hb2 : bit < 0 ∨ 512 ≤ bit := hb.elim (fun h => absurd ht h) id
    clear hb ht
    by_cases h1 : bit < 0
    · go_wp2
      go_ret
      exact ⟨rfl, rfl⟩
    · have h2 : 512 ≤ bit := by omega
      go_wp2
      go_ret
      exact ⟨rfl, rfl⟩
  · rw [decide_eq_false ht]
    clear ht hb
    go_wp2
    go_ret
    exact ⟨rfl, rfl⟩

/-- What is turned in a byte by bit i of the mask. -/
def fx (mask bit i : Nat) : Nat := (mask / 2 ^ i % 2) * 2 ^ ((bit + i) % 8)
theorem fx_lt (mask bit i : Nat) : fx mask bit i < 256 := by
  unfold fx
  have h1 : mask / 2 ^ i % 2 ≤ 1 := by omega
  have h2 : 2 ^ ((bit + i) % 8) ≤ 128 := by
    have : (bit + i) % 8 ≤ 7 := by omega
    exact Nat.le_trans (Nat.pow_le_pow_right (by omega) this) (by decide)
  have := Nat.mul_le_mul h1 h2
  omega
theorem xor_lt {x y : Nat} (hx : x < 256) (hy : y < 256) : x ^^^ y < 256 := Nat.xor_lt_two_pow (n := 8) hx hy
theorem rotv (y mask bit i : Nat) (hy : y < 256) (hm : mask < 4294967296) : bits .xor .u8 (y : Int) (bits .and .u32 ((mask : Int) / 2 ^ i) 1 % 256 * 2 ^ ((bit + i) % 8) % 256) = ((y ^^^ fx mask bit i : Nat) : Int) := by
  have h1 : ((mask : Int) / 2 ^ i) = ((mask / 2 ^ i : Nat) : Int) := by simp
  have h0 : mask / 2 ^ i < 4294967296 := Nat.lt_of_le_of_lt (Nat.div_le_self _ _) hm
  have h2 : bits .and .u32 ((mask / 2 ^ i : Nat) : Int) 1 = ((mask / 2 ^ i % 2 : Nat) : Int) := by
    have h := u32_and_nat (mask / 2 ^ i) 1 h0 (by omega)
    rw [Nat.and_one_is_mod] at h
    exact h
  have h3 : ((mask / 2 ^ i % 2 : Nat) : Int) % 256 * 2 ^ ((bit + i) % 8) % 256 = ((fx mask bit i : Nat) : Int) := by
    have h4 := fx_lt mask bit i
    have h5 : ((mask / 2 ^ i % 2 : Nat) : Int) % 256 = ((mask / 2 ^ i % 2 : Nat) : Int) := by omega
    rw [h5]
    have h6 : (((mask / 2 ^ i % 2 : Nat) : Int) * 2 ^ ((bit + i) % 8)) = ((fx mask bit i : Nat) : Int) := by unfold fx; simp
    rw [h6]
    omega
  rw [h1, h2, h3]
  have h4 := fx_lt mask bit i
  rw [u8_xor (y : Int) _ (by omega) (by omega) (by omega) (by omega), Int.toNat_natCast, Int.toNat_natCast]
def stepR (bit mask : Nat) (xs : List Nat) (i : Nat) : List Nat := xs.set ((bit + i) / 8) (xs.getD ((bit + i) / 8) 0 ^^^ fx mask bit i)
def rotN (xs : List Nat) (bit mask m : Nat) : List Nat := (List.range m).foldl (stepR bit mask) xs
theorem rotN_succ (xs : List Nat) (bit mask m : Nat) : rotN xs bit mask (m + 1) = stepR bit mask (rotN xs bit mask m) m := by simp [rotN, List.range_succ]
theorem rotN_len (xs : List Nat) (bit mask m : Nat) : (rotN xs bit mask m).length = xs.length := by
  induction m with
  | zero => rfl
  | succ m ih => rw [rotN_succ]; simp [stepR, ih]
theorem stepR_byt {xs : List Nat} (h : Byt xs) (bit mask i : Nat) : Byt (stepR bit mask xs i) := by
  intro c hc
  unfold stepR at hc
  rcases List.mem_or_eq_of_mem_set hc with hc | rfl
  · exact h c hc
  · refine xor_lt ?_ (fx_lt _ _ _)
    unfold List.getD
    cases hg : xs[(bit + i) / 8]? with
    | none => simp
    | some y => exact h y (List.mem_of_getElem? hg)
theorem rotN_byt {xs : List Nat} (h : Byt xs) (bit mask m : Nat) : Byt (rotN xs bit mask m) := by
  induction m with
  | zero => exact h
  | succ m ih => rw [rotN_succ]; exact stepR_byt ih _ _ _
def Pl.rot (p : Pl) (n bit mask : Nat) : Pl := { p with bl := p.bl.set n (rotN (p.bl.getD n []) bit mask (min 32 (512 - bit))) }

set_option maxRecDepth 100000 in
set_option maxHeartbeats 3200000 in
theorem rot_ok (T : Nat → Prop) (pb : Nat) (p : Pl) (n bit mask : Nat) (w : World) (h : IsP w T pb p) (hn : n < p.bl.length) (hbit : bit < 512) (hmask : mask < 4294967296) :
    Calls Try.prog 17 #[.pointer (some ⟨pb, 0, none⟩), .int .i64 (n : Int), .int .i64 (bit : Int), .int .u32 (mask : Int)] w fun e w' => e = .returned (.bool true) ∧ IsP w' (Grow w T) pb (p.rot n bit mask) ∧ Fr T w w' := by
  have d1 : ¬ (bit : Int) < 0 := by omega
  have d2 : ¬ (512 : Int) ≤ (bit : Int) := by omega
  go_enter Try.func17, Try.ntmps17
  go_wp2_with fail
  refine (there_ok T pb p n w h).mono ?_
  rintro e w2 ⟨rfl, rfl⟩
  rw [decide_eq_true (show (0 : Int) ≤ (n : Int) ∧ (n : Int) < (p.bl.length : Int) by omega)]
  obtain ⟨g0, vb, vc, vf, g1, ⟨bs, g2, g2'⟩, g3, g4⟩ := h
  have hbl : bs.length = p.bl.length := by have := g2.length; rwa [Nat.mul_one] at this
  obtain ⟨gb, kb, rfl, hTb, hltb⟩ := g2.form (by omega)
  have hc0 : w.cell? ⟨pb, 0, none⟩ = some (.slice (some ⟨gb, 0, none⟩) p.bl.length kb) := g1.cell 0
  have hpn : p.bl[n]? = some p.bl[n] := List.getElem?_eq_getElem hn
  obtain ⟨u, hu, hdu⟩ := g2' n _ hpn
  have hcu : w.cell? ⟨gb, n, none⟩ = some u := g2.cell hu
  have hb0 : ((n : Int)) < ((p.bl.length : Int)) := by omega
  have hb1 : (0 : Int) ≤ (n : Int) := by omega
  have hgd : Hid (p.bl.getD n [] = p.bl[n]) := hid (by simp [List.getD, hpn])
  generalize p.bl[n] = x0 at *
  obtain ⟨Au, ku, rfl⟩ : ∃ A c, u = .slice A 64 c := let ⟨_, A, c, e, _⟩ := hdu.2.2; ⟨A, c, e⟩
  go_wp2_with fail
  refine (clone_ok _ (.slice Au 64 ku) 64 x0 (by omega) w hdu.2.2).mono ?_
  rintro e w2 ⟨A2, k2, rfl, hR2, hf2, -⟩
  obtain ⟨gr, k2', hgr, -, hltr⟩ := hR2.form (by omega)
  injection hgr with hgr1 _ hgr2
  subst hgr1; subst hgr2
  by_cases hq : (512 : Int) - (bit : Int) < 32
  · go_wp2_with fail
    go_loopw [39] (fun v39 wr => ∃ i : Nat, v39 = .int .i64 i ∧ i ≤ 512 - bit ∧ Fr (fun k => k = gr) w2 wr ∧ Row wr (New w) 5 1 (.slice (some ⟨gr, 0, none⟩) 64 k2) 64 (bys (rotN x0 bit mask i))) (fun v39 _ => 512 - bit - (intOf v39).toNat)
    case atStart => exact ⟨0, rfl, by omega, Fr.refl _ _, hR2⟩
    case round =>
      obtain ⟨i, rfl, hi, hfr, hR⟩ := hrel
      have hxl : (rotN x0 bit mask i).length = 64 := by rw [rotN_len]; exact hdu.1
      have hxB := rotN_byt hdu.2.1 bit mask i
      have HS := hid (rotN_succ x0 bit mask i)
      by_cases hlt : (i : Int) < 512 - (bit : Int)
      · have hk : (bit + i) / 8 < (rotN x0 bit mask i).length := by omega
        have hgx : (rotN x0 bit mask i)[(bit + i) / 8]? = some (rotN x0 bit mask i)[(bit + i) / 8] := List.getElem?_eq_getElem hk
        have hgd2 : Hid ((rotN x0 bit mask i).getD ((bit + i) / 8) 0 = (rotN x0 bit mask i)[(bit + i) / 8]) := hid (by simp [List.getD, hgx])
        have hcell : wr.cell? ⟨gr, (bit + i) / 8, none⟩ = some (.int .u8 (((rotN x0 bit mask i)[(bit + i) / 8] : Nat) : Int)) := hR.cell (by simp [bys, hgx])
        have hfz : wr.frozen? ⟨gr, (bit + i) / 8, none⟩ = false := hR.frozen _
        have hy : (rotN x0 bit mask i)[(bit + i) / 8] < 256 := hxB _ (List.getElem_mem hk)
        generalize (rotN x0 bit mask i)[(bit + i) / 8] = y at *
        have hval := hid (rotv y mask bit i hy hmask)
        clear hgx
        go_wp2_with fail
        go_region
        rw [hval.out]
        go_wp2
        go_roundw
        case rel =>
          refine ⟨i + 1, by go_num, by omega, (hfr.setCell (a := ⟨gr, (bit + i) / 8, none⟩) (.inl rfl) _).drew, ?_⟩
          rw [HS.out]
          unfold stepR
          rw [hgd2.out]
          have := (hR.store ((bit + i) / 8) (.int .u8 ((y ^^^ fx mask bit i : Nat) : Int))).drew
          have e9 : (bys (rotN x0 bit mask i)).set ((bit + i) / 8) (.int .u8 ((y ^^^ fx mask bit i : Nat) : Int)) = bys ((rotN x0 bit mask i).set ((bit + i) / 8) (y ^^^ fx mask bit i)) := by simp [bys, List.map_set]
          rw [e9] at this
          exact this
        case measure => simp [intOf]; omega
      · have hic : Hid (i = 512 - bit ∧ 512 - bit = min 32 (512 - bit)) := hid (by omega)
        have hf02 : Fr (fun k => k = gr) w wr := hf2.nil.then hfr
        have hltr2 : w.heap.size ≤ gr := hR.2 gr rfl
        have hne1 : pb ≠ gr := by have := g1.lt; omega
        have c0 : wr.cell? ⟨pb, 0, none⟩ = some (.slice (some ⟨gb, 0, none⟩) p.bl.length kb) := hf02.cell hc0 hne1
        have hne2 : gb ≠ gr := by omega
        have cn : wr.cell? ⟨gb, n, none⟩ = some (.slice Au 64 ku) := hf02.cell hcu hne2
        have g2r := g2.fr hf02 (fun k hk e => by simp [Value.ownBlock] at hk; omega)
        have zn : wr.frozen? ⟨gb, n, none⟩ = false := g2r.frozen n
        go_wp2
        go_ret
        have hfw : Fr (fun k => k = gb) wr (wr.setCell ⟨gb, n, none⟩ (.slice (some ⟨gr, 0, none⟩) 64 k2)) := (Fr.refl (fun k => k = gb) wr).setCell (a := ⟨gb, n, none⟩) (.inl rfl) _
        have hY : ∀ k, True → k < w.heap.size → k = gr → Typ w k 4 := fun k _ h1 h2 => by omega
        have hYb : ∀ (T' : Nat → Prop) k, T' k → k < wr.heap.size → k = gb → Typ wr k 22 := fun T' k _ _ h2 => by rw [h2]; exact g2r.own_typ rfl
        have hdat : Dat wr (Grow w T) (.slice (some ⟨gr, 0, none⟩) 64 k2) (rotN x0 bit mask i) := ⟨hxl, hxB, hR.vt.mono fun k hk => .inr hk⟩
        refine ⟨rfl, ⟨.inl g0, _, vc, vf, (g1.fr hf02 hne1).fr hfw (fun e => by rw [e] at g1; exact absurd (g1.typ.one (g2.own_typ rfl)) (by decide)), ⟨bs.set n (.slice (some ⟨gr, 0, none⟩) 64 k2), ?_, ?_⟩, ?_, ?_⟩, ?_⟩
        · show Row _ _ _ 1 _ (p.bl.set n _).length _
          rw [List.length_set]
          exact (g2r.store n _).mono fun k hk => .inl hk
        · intro j z hz
          have hz2 : (p.bl.set n (rotN (p.bl.getD n []) bit mask (min 32 (512 - bit))))[j]? = some z := hz
          rw [List.getElem?_set] at hz2
          by_cases hnj : n = j
          · rw [if_pos hnj] at hz2
            subst hnj
            rw [if_pos hn] at hz2
            injection hz2 with hz2
            subst hz2
            refine ⟨_, by rw [List.getElem?_set, if_pos rfl, if_pos (by omega)], ?_⟩
            rw [hgd.out, ← hic.out.2, ← hic.out.1]
            exact Dat.fr hdat hfw (hYb _) (by decide)
          · rw [if_neg hnj] at hz2
            obtain ⟨v, hv, hd⟩ := g2' j z hz2
            refine ⟨v, by rw [List.getElem?_set, if_neg hnj]; exact hv, ?_⟩
            exact (Dat.fr (Dat.fr hd hf02 hY (by decide)) hfw (hYb _) (by decide)).mono fun k hk => .inl hk
        · exact (CacOk.fr (CacOk.fr g3 hf02 hY (by decide) (by decide)) hfw (hYb _) (by decide) (by decide)).mono fun k hk => .inl hk
        · exact VT.mono (VT.fr (VT.fr g4 hf02 hY (by decide)) hfw (hYb _) (by decide)) fun k hk => .inl hk
        · exact (Fr.trans (S := T) (Fr.refl T w) hf02 (fun k hk => .inr (by omega))).trans hfw (fun k hk => .inl (by rw [hk]; exact hTb))
  · go_wp2_with fail
    go_loopw [39] (fun v39 wr => ∃ i : Nat, v39 = .int .i64 i ∧ i ≤ 32 ∧ Fr (fun k => k = gr) w2 wr ∧ Row wr (New w) 5 1 (.slice (some ⟨gr, 0, none⟩) 64 k2) 64 (bys (rotN x0 bit mask i))) (fun v39 _ => 32 - (intOf v39).toNat)
    case atStart => exact ⟨0, rfl, by omega, Fr.refl _ _, hR2⟩
    case round =>
      obtain ⟨i, rfl, hi, hfr, hR⟩ := hrel
      have hxl : (rotN x0 bit mask i).length = 64 := by rw [rotN_len]; exact hdu.1
      have hxB := rotN_byt hdu.2.1 bit mask i
      have HS := hid (rotN_succ x0 bit mask i)
      by_cases hlt : (i : Int) < (32 : Int)
      · have hk : (bit + i) / 8 < (rotN x0 bit mask i).length := by omega
        have hgx : (rotN x0 bit mask i)[(bit + i) / 8]? = some (rotN x0 bit mask i)[(bit + i) / 8] := List.getElem?_eq_getElem hk
        have hgd2 : Hid ((rotN x0 bit mask i).getD ((bit + i) / 8) 0 = (rotN x0 bit mask i)[(bit + i) / 8]) := hid (by simp [List.getD, hgx])
        have hcell : wr.cell? ⟨gr, (bit + i) / 8, none⟩ = some (.int .u8 (((rotN x0 bit mask i)[(bit + i) / 8] : Nat) : Int)) := hR.cell (by simp [bys, hgx])
        have hfz : wr.frozen? ⟨gr, (bit + i) / 8, none⟩ = false := hR.frozen _
        have hy : (rotN x0 bit mask i)[(bit + i) / 8] < 256 := hxB _ (List.getElem_mem hk)
        generalize (rotN x0 bit mask i)[(bit + i) / 8] = y at *
        have hval := hid (rotv y mask bit i hy hmask)
        clear hgx
        go_wp2_with fail
        go_region
        rw [hval.out]
        go_wp2
        go_roundw
        case rel =>
          refine ⟨i + 1, by go_num, by omega, (hfr.setCell (a := ⟨gr, (bit + i) / 8, none⟩) (.inl rfl) _).drew, ?_⟩
          rw [HS.out]
          unfold stepR
          rw [hgd2.out]
          have := (hR.store ((bit + i) / 8) (.int .u8 ((y ^^^ fx mask bit i : Nat) : Int))).drew
          have e9 : (bys (rotN x0 bit mask i)).set ((bit + i) / 8) (.int .u8 ((y ^^^ fx mask bit i : Nat) : Int)) = bys ((rotN x0 bit mask i).set ((bit + i) / 8) (y ^^^ fx mask bit i)) := by simp [bys, List.map_set]
          rw [e9] at this
          exact this
        case measure => simp [intOf]; omega
      · have hic : Hid (i = 32 ∧ 32 = min 32 (512 - bit)) := hid (by omega)
        have hf02 : Fr (fun k => k = gr) w wr := hf2.nil.then hfr
        have hltr2 : w.heap.size ≤ gr := hR.2 gr rfl
        have hne1 : pb ≠ gr := by have := g1.lt; omega
        have c0 : wr.cell? ⟨pb, 0, none⟩ = some (.slice (some ⟨gb, 0, none⟩) p.bl.length kb) := hf02.cell hc0 hne1
        have hne2 : gb ≠ gr := by omega
        have cn : wr.cell? ⟨gb, n, none⟩ = some (.slice Au 64 ku) := hf02.cell hcu hne2
        have g2r := g2.fr hf02 (fun k hk e => by simp [Value.ownBlock] at hk; omega)
        have zn : wr.frozen? ⟨gb, n, none⟩ = false := g2r.frozen n
        go_wp2
        go_ret
        have hfw : Fr (fun k => k = gb) wr (wr.setCell ⟨gb, n, none⟩ (.slice (some ⟨gr, 0, none⟩) 64 k2)) := (Fr.refl (fun k => k = gb) wr).setCell (a := ⟨gb, n, none⟩) (.inl rfl) _
        have hY : ∀ k, True → k < w.heap.size → k = gr → Typ w k 4 := fun k _ h1 h2 => by omega
        have hYb : ∀ (T' : Nat → Prop) k, T' k → k < wr.heap.size → k = gb → Typ wr k 22 := fun T' k _ _ h2 => by rw [h2]; exact g2r.own_typ rfl
        have hdat : Dat wr (Grow w T) (.slice (some ⟨gr, 0, none⟩) 64 k2) (rotN x0 bit mask i) := ⟨hxl, hxB, hR.vt.mono fun k hk => .inr hk⟩
        refine ⟨rfl, ⟨.inl g0, _, vc, vf, (g1.fr hf02 hne1).fr hfw (fun e => by rw [e] at g1; exact absurd (g1.typ.one (g2.own_typ rfl)) (by decide)), ⟨bs.set n (.slice (some ⟨gr, 0, none⟩) 64 k2), ?_, ?_⟩, ?_, ?_⟩, ?_⟩
        · show Row _ _ _ 1 _ (p.bl.set n _).length _
          rw [List.length_set]
          exact (g2r.store n _).mono fun k hk => .inl hk
        · intro j z hz
          have hz2 : (p.bl.set n (rotN (p.bl.getD n []) bit mask (min 32 (512 - bit))))[j]? = some z := hz
          rw [List.getElem?_set] at hz2
          by_cases hnj : n = j
          · rw [if_pos hnj] at hz2
            subst hnj
            rw [if_pos hn] at hz2
            injection hz2 with hz2
            subst hz2
            refine ⟨_, by rw [List.getElem?_set, if_pos rfl, if_pos (by omega)], ?_⟩
            rw [hgd.out, ← hic.out.2, ← hic.out.1]
            exact Dat.fr hdat hfw (hYb _) (by decide)
          · rw [if_neg hnj] at hz2
            obtain ⟨v, hv, hd⟩ := g2' j z hz2
            refine ⟨v, by rw [List.getElem?_set, if_neg hnj]; exact hv, ?_⟩
            exact (Dat.fr (Dat.fr hd hf02 hY (by decide)) hfw (hYb _) (by decide)).mono fun k hk => .inl hk
        · exact (CacOk.fr (CacOk.fr g3 hf02 hY (by decide) (by decide)) hfw (hYb _) (by decide) (by decide)).mono fun k hk => .inl hk
        · exact VT.mono (VT.fr (VT.fr g4 hf02 hY (by decide)) hfw (hYb _) (by decide)) fun k hk => .inl hk
        · exact (Fr.trans (S := T) (Fr.refl T w) hf02 (fun k hk => .inr (by omega))).trans hfw (fun k hk => .inl (by rw [hk]; exact hTb))

/-! ### whether or not the bit lies within the block -/
def rotted (b : Bool) (p : Pl) (n bit mask : Nat) : Pl := if b then p.rot n bit mask else p
theorem rot_any (T : Nat → Prop) (pb : Nat) (p : Pl) (n bit mask : Nat) (w : World) (b : Bool) (hb : b = decide (bit < 512)) (h : IsP w T pb p) (hn : n < p.bl.length) (hmask : mask < 4294967296) :
    Calls Try.prog 17 #[.pointer (some ⟨pb, 0, none⟩), .int .i64 (n : Int), .int .i64 (bit : Int), .int .u32 (mask : Int)] w fun e w' => e = .returned (.bool b) ∧ IsP w' (Grow w T) pb (rotted b p n bit mask) ∧ Fr T w w' := by
  subst hb
  by_cases hlt : bit < 512
  · have hd : decide (bit < 512) = true := decide_eq_true hlt
    rw [hd]
    exact rot_ok T pb p n bit mask w h hn hlt hmask
  · have hd : decide (bit < 512) = false := decide_eq_false hlt
    rw [hd]
    exact (rot_bad T pb p n bit mask w h (.inr (.inr (by omega)))).mono fun e w' ⟨h1, h2⟩ => ⟨h1, by subst h2; exact h.mono fun k hk => .inl hk, by subst h2; exact Fr.refl _ _⟩
theorem rotted_len (b : Bool) (p : Pl) (n bit mask : Nat) : (rotted b p n bit mask).bl.length = p.bl.length := by
  cases b with
  | false => rfl
  | true => exact List.length_set ..
theorem rotted_get (b : Bool) (p : Pl) (n bit mask : Nat) (hb : b = decide (bit < 512)) (hn : n < p.bl.length) : (rotted b p n bit mask).bl.getD n [] = rotN (p.bl.getD n []) bit mask (min 32 (512 - bit)) := by
  subst hb
  by_cases hlt : bit < 512
  · have hd : decide (bit < 512) = true := decide_eq_true hlt
    rw [hd]
    show (p.bl.set n _).getD n [] = _
    generalize rotN (p.bl.getD n []) bit mask (min 32 (512 - bit)) = y
    simp [List.getD, hn]
  · have hd : decide (bit < 512) = false := decide_eq_false hlt
    rw [hd, show min 32 (512 - bit) = 0 by omega]
    rfl
theorem rotted_okm {p : Pl} {m : Nat} (h : p.okm m) (b : Bool) (n bit mask : Nat) : (rotted b p n bit mask).okm m := by
  have hl := rotted_len b p n bit mask
  cases b with
  | false => exact h
  | true => exact ⟨h.1, h.2.1, by rw [hl]; exact h.2.2.1, h.2.2.2.1, fun q hq => by rw [hl]; exact h.2.2.2.2 q hq⟩
theorem rotted_ca (b : Bool) (p : Pl) (n bit mask : Nat) : (rotted b p n bit mask).ca = p.ca ∧ (rotted b p n bit mask).fa = p.fa := by cases b <;> exact ⟨rfl, rfl⟩

/-- Twice the same turns all back. -/
theorem rotN_at (xs : List Nat) (bit mask m j : Nat) : ∃ z, ∀ ys : List Nat, ys.length = xs.length → (rotN ys bit mask m).getD j 0 = if j < xs.length then ys.getD j 0 ^^^ z else 0 := by
  induction m with
  | zero =>
    refine ⟨0, fun ys hl => ?_⟩
    show ys.getD j 0 = _
    split
    · simp
    · unfold List.getD; rw [List.getElem?_eq_none (by omega)]; rfl
  | succ m ih =>
    obtain ⟨z, hz⟩ := ih
    refine ⟨z ^^^ (if (bit + m) / 8 = j then fx mask bit m else 0), fun ys hl => ?_⟩
    have h1 := hz ys hl
    have hl2 := rotN_len ys bit mask m
    rw [rotN_succ]
    unfold stepR
    by_cases hj : (bit + m) / 8 = j
    · subst hj
      by_cases hlt : (bit + m) / 8 < xs.length
      · rw [if_pos hlt] at h1 ⊢
        rw [h1]
        simp only [if_true]
        unfold List.getD
        rw [List.getElem?_set, if_pos rfl, if_pos (by omega)]
        simp only [Option.getD_some]
        rw [Nat.xor_assoc]
      · rw [if_neg hlt] at h1 ⊢
        unfold List.getD
        rw [List.getElem?_eq_none (by simp; omega)]
        rfl
    · rw [if_neg hj, Nat.xor_zero, ← h1]
      unfold List.getD
      rw [List.getElem?_set, if_neg hj]
theorem rotN_twice (xs : List Nat) (bit mask m : Nat) : rotN (rotN xs bit mask m) bit mask m = xs := by
  refine List.ext_getElem? fun j => ?_
  obtain ⟨z, hz⟩ := rotN_at xs bit mask m j
  have h1 := hz (rotN xs bit mask m) (rotN_len _ _ _ _)
  have h2 := hz xs rfl
  by_cases hj : j < xs.length
  · rw [if_pos hj] at h1 h2
    rw [h2, Nat.xor_assoc, Nat.xor_self, Nat.xor_zero] at h1
    have e1 : (rotN (rotN xs bit mask m) bit mask m).length = xs.length := by rw [rotN_len, rotN_len]
    unfold List.getD at h1
    rw [List.getElem?_eq_getElem (by omega), List.getElem?_eq_getElem hj] at h1 ⊢
    simp only [Option.getD_some] at h1
    rw [h1]
  · rw [List.getElem?_eq_none (by rw [rotN_len, rotN_len]; omega), List.getElem?_eq_none (by omega)]
end Go.Proofs.Ytidjmjfoheagmaa

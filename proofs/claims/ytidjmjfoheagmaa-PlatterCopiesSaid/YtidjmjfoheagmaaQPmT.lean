/- The reference's Platter: Rot. -/
import Derived.Test.YtidjmjfoheagmaaQPmS
set_option linter.unusedSimpArgs false
set_option linter.unusedVariables false
namespace Go.Proofs.Ytidjmjfoheagmaa
open Go.RowKit
theorem fx_bit' (mask bit i : Nat) : fx mask bit i = if mask / 2 ^ i % 2 = 1 then 2 ^ ((bit + i) % 8) else 0 := by
  unfold fx
  split
  · rename_i h; rw [h, Nat.one_mul]
  · rename_i h; rw [show mask / 2 ^ i % 2 = 0 by omega, Nat.zero_mul]
theorem and1' (mask i : Nat) (hm : mask < 4294967296) : bits .and .u32 ((mask : Int) / 2 ^ i) 1 = ((mask / 2 ^ i % 2 : Nat) : Int) := by
  have h1 : ((mask : Int) / 2 ^ i) = ((mask / 2 ^ i : Nat) : Int) := by simp
  have h := u32_and_nat (mask / 2 ^ i) 1 (Nat.lt_of_le_of_lt (Nat.div_le_self _ _) hm) (by omega)
  rw [Nat.and_one_is_mod] at h
  rw [h1]
  exact h
theorem xorv' (y k : Nat) (hy : y < 256) : bits .xor .u8 (y : Int) (2 ^ (k % 8) % 256) = ((y ^^^ 2 ^ (k % 8) : Nat) : Int) := by
  have h1 : 2 ^ (k % 8) ≤ 128 := by
    have : k % 8 ≤ 7 := by omega
    exact Nat.le_trans (Nat.pow_le_pow_right (by omega) this) (by decide)
  have h2 : ((2 : Int) ^ (k % 8)) = ((2 ^ (k % 8) : Nat) : Int) := by simp
  rw [h2]
  generalize 2 ^ (k % 8) = z at *
  rw [show ((z : Int) % 256) = (z : Int) by omega, u8_xor (y : Int) _ (by omega) (by omega) (by omega) (by omega), Int.toNat_natCast, Int.toNat_natCast]
def rtB (p : Pl) (n bit : Int) : Bool := inB p n && decide (0 ≤ bit ∧ bit < 512)
def rtP (p : Pl) (n bit : Int) (mask : Nat) : Pl := if rtB p n bit then p.rot n.toNat bit.toNat mask else p
theorem rt_no {p : Pl} {n bit : Int} {mask : Nat} (h : ¬ (0 ≤ n ∧ n < (p.bl.length : Int)) ∨ ¬ (0 ≤ bit ∧ bit < 512)) : rtB p n bit = false ∧ rtP p n bit mask = p := by
  have : rtB p n bit = false := by
    unfold rtB
    rcases h with h | h
    · rw [show inB p n = false from decide_eq_false h]; rfl
    · rw [decide_eq_false h, Bool.and_false]
  unfold rtP
  rw [this]
  exact ⟨rfl, rfl⟩
theorem rt_yes {p : Pl} {n bit : Nat} {mask : Nat} (h : n < p.bl.length) (h2 : bit < 512) : rtB p (n : Nat) (bit : Nat) = true ∧ rtP p (n : Nat) (bit : Nat) mask = p.rot n bit mask := by
  have : rtB p (n : Nat) (bit : Nat) = true := by
    unfold rtB
    rw [inB_yes (by omega), decide_eq_true (by omega)]; rfl
  unfold rtP
  rw [this]
  exact ⟨rfl, rfl⟩
set_option maxRecDepth 100000 in
set_option maxHeartbeats 3200000 in
theorem m_rot (T : Nat → Prop) (mb : Nat) (p : Pl) (n bit : Int) (mask : Nat) (hn : -9223372036854775808 ≤ n ∧ n < 9223372036854775808) (hbit : -9223372036854775808 ≤ bit ∧ bit < 9223372036854775808) (hmask : mask < 4294967296) (w : World) (h : IsM w T mb p) :
    Calls Try.prog 41 #[.pointer (some ⟨mb, 0, none⟩), .int .i64 n, .int .i64 bit, .int .u32 (mask : Int)] w fun e w' => e = .returned (.bool (rtB p n bit)) ∧ IsM w' (Grow w T) mb (rtP p n bit mask) ∧ Fr T w w' := by
  have HM := hid h
  obtain ⟨g0, vb, vc, vf, g1, ⟨bs, g2, g2'⟩, g3, g4⟩ := h
  obtain ⟨Ab, kb, rfl⟩ := g2.slice
  have hc0 : w.cell? ⟨mb, 0, none⟩ = some (.slice Ab p.bl.length kb) := g1.cell 0
  have hbl9 : p.bl.length ≤ 9223372036854775807 := g2.le
  have hbl : bs.length = p.bl.length := by have := g2.length; rwa [Nat.mul_one] at this
  have G1 := hid g1
  have G2 := hid g2
  have G2' := hid g2'
  have G3 := hid g3
  have G4 := hid g4
  have HT0 := hid g0
  have Hbl := hid hbl
  clear g0 g1 g2 g2' g3 g4 hbl
  go_enter Try.func41, Try.ntmps41
  by_cases h1 : n < 0
  · have E := hid (rt_no (p := p) (n := n) (bit := bit) (mask := mask) (.inl (by omega)))
    go_wp2
    go_ret
    exact ⟨by rw [E.out.1]; rfl, by rw [E.out.2]; exact HM.out.mono fun k hk => .inl hk, Fr.refl _ _⟩
  obtain ⟨N, rfl⟩ : ∃ N : Nat, n = N := ⟨n.toNat, by omega⟩
  clear h1
  by_cases h2 : p.bl.length ≤ N
  · have E := hid (rt_no (p := p) (n := (N : Nat)) (bit := bit) (mask := mask) (.inl (by omega)))
    go_wp2
    go_ret
    exact ⟨by rw [E.out.1]; rfl, by rw [E.out.2]; exact HM.out.mono fun k hk => .inl hk, Fr.refl _ _⟩
  have h2 : N < p.bl.length := by omega
  by_cases h3 : bit < 0
  · have E := hid (rt_no (p := p) (n := (N : Nat)) (bit := bit) (mask := mask) (.inr (by omega)))
    go_wp2
    go_ret
    exact ⟨by rw [E.out.1]; rfl, by rw [E.out.2]; exact HM.out.mono fun k hk => .inl hk, Fr.refl _ _⟩
  obtain ⟨att, rfl⟩ : ∃ N : Nat, bit = N := ⟨bit.toNat, by omega⟩
  clear h3
  by_cases h4 : 512 ≤ att
  · have E := hid (rt_no (p := p) (n := (N : Nat)) (bit := (att : Nat)) (mask := mask) (.inr (by omega)))
    go_wp2
    go_ret
    exact ⟨by rw [E.out.1]; rfl, by rw [E.out.2]; exact HM.out.mono fun k hk => .inl hk, Fr.refl _ _⟩
  have h4 : att < 512 := by omega
  have E := hid (rt_yes (p := p) (n := N) (bit := att) (mask := mask) h2 h4)
  have hpn : p.bl[N]? = some (p.bl[N]'h2) := List.getElem?_eq_getElem h2
  obtain ⟨gb, u, rfl, hTb, hcu, -, hltb, hdu⟩ := blk_at G2.out G2'.out h2
  have Hgd := hid (show p.bl.getD N [] = p.bl[N]'h2 by simp [List.getD, hpn])
  clear hpn
  obtain ⟨x0, hx0⟩ : ∃ x0, x0 = p.bl[N]'h2 := ⟨_, rfl⟩
  rw [← hx0] at hdu Hgd
  clear hx0
  obtain ⟨Au, ku, rfl⟩ := hdu.slice
  have Hdu := hid hdu
  clear hdu
  go_wp2_with (at_builtin; refine wp_app_view rfl _ _ 22 rfl (.int .u8 0) 1 Try.underlying22 info_u8m rfl (by decide) (Row.nil _ (New w) _ _) rfl Hdu.out.2.2 rfl (bys_cell _) (by omega) (by decide) ?_)
  intro A5 c5 w2 r1 r2 r3
  have hR2 : Row w2 (New w) 5 1 (.slice A5 64 c5) 64 (bys x0) := r1.mono fun k hk => hk.elim (fun h => by simp [Value.ownBlock] at h) fun h => h
  have hf2 : Fr Nil w w2 := r2.mono fun k hk => absurd hk (by simp [Value.ownBlock])
  clear r1 r2 r3
  obtain ⟨gr, k2, hgr, -, hltr⟩ := hR2.form (by omega)
  injection hgr with hgr1 _ hgr2
  subst hgr1; subst hgr2
  obtain ⟨cnt, hcnt⟩ : ∃ cnt, cnt = min 32 (512 - att) := ⟨_, rfl⟩
  have hc1 : Hid (∀ i : Nat, i < cnt ↔ (i < 32 ∧ att + i < 512)) := hid (fun i => by omega)
  have hc32 : cnt ≤ 32 := by omega
  have Hcnt := hid hcnt; clear hcnt
  have HR2 := hid hR2
  have HF2 := hid hf2
  have hgrw : Hid (w.heap.size ≤ gr) := hid (hR2.2 gr rfl)
  clear hR2 hf2 hltr
  go_wp2_with fail
  go_loopw [10] (fun v10 wr => ∃ i : Nat, v10 = .int .i64 i ∧ i ≤ cnt ∧ Fr (fun k => k = gr) w2 wr ∧ Row wr (New w) 5 1 (.slice (some ⟨gr, 0, none⟩) 64 c5) 64 (bys (rotN x0 att mask i))) (fun v10 _ => cnt - (intOf v10).toNat)
  case atStart => exact ⟨0, rfl, by omega, Fr.refl _ _, HR2.out⟩
  case round =>
    obtain ⟨i, rfl, hi, hfr, hR⟩ := hrel
    have hxl : (rotN x0 att mask i).length = 64 := by rw [rotN_len]; exact Hdu.out.1
    have hxB := rotN_byt Hdu.out.2.1 att mask i
    have HS := hid (rotN_succ x0 att mask i)
    by_cases hlt : i < cnt
    · have hb := (hc1.out i).1 hlt
      have q1 : (i : Int) < 32 := by omega
      have q2 : (att : Int) + (i : Int) < 512 := by omega
      have hk : (att + i) / 8 < (rotN x0 att mask i).length := by omega
      have hgx : (rotN x0 att mask i)[(att + i) / 8]? = some (rotN x0 att mask i)[(att + i) / 8] := List.getElem?_eq_getElem hk
      have hgd2 : Hid ((rotN x0 att mask i).getD ((att + i) / 8) 0 = (rotN x0 att mask i)[(att + i) / 8]) := hid (by simp [List.getD, hgx])
      have hcell : wr.cell? ⟨gr, (att + i) / 8, none⟩ = some (.int .u8 (((rotN x0 att mask i)[(att + i) / 8] : Nat) : Int)) := hR.cell (by simp [bys, hgx])
      have hfz : wr.frozen? ⟨gr, (att + i) / 8, none⟩ = false := hR.frozen _
      have hy : (rotN x0 att mask i)[(att + i) / 8] < 256 := hxB _ (List.getElem_mem hk)
      generalize (rotN x0 att mask i)[(att + i) / 8] = y at *
      have hand := and1' mask i hmask
      have hfx := hid (fx_bit' mask att i)
      have Hb := hid hb; clear hb hgx
      by_cases hbit : mask / 2 ^ i % 2 = 1
      · rw [hbit] at hand
        have Hbit := hid hbit; clear hbit
        have hxv := hid (xorv' y (att + i) hy)
        go_wp2
        go_roundw
        case rel =>
          rw [hxv.out]
          refine ⟨i + 1, by go_num, by omega, hfr.setCell (a := ⟨gr, (att + i) / 8, none⟩) (.inl rfl) _, ?_⟩
          rw [HS.out]
          unfold stepR
          rw [hgd2.out, hfx.out, if_pos Hbit.out]
          have := hR.store ((att + i) / 8) (.int .u8 ((y ^^^ 2 ^ ((att + i) % 8) : Nat) : Int))
          have e9 : (bys (rotN x0 att mask i)).set ((att + i) / 8) (.int .u8 ((y ^^^ 2 ^ ((att + i) % 8) : Nat) : Int)) = bys ((rotN x0 att mask i).set ((att + i) / 8) (y ^^^ 2 ^ ((att + i) % 8))) := by simp [bys, List.map_set]
          rw [e9] at this
          exact this
        case measure => simp [intOf]; omega
      · have hz : mask / 2 ^ i % 2 = 0 := by omega
        rw [hz] at hand
        have Hz := hid hz; have Hbit := hid hbit; clear hz hbit
        go_wp2
        go_roundw
        case rel =>
          refine ⟨i + 1, by go_num, by omega, hfr, ?_⟩
          rw [HS.out]
          unfold stepR
          rw [hgd2.out, hfx.out, if_neg Hbit.out, Nat.xor_zero, ← hgd2.out]
          have e9 : (rotN x0 att mask i).set ((att + i) / 8) ((rotN x0 att mask i).getD ((att + i) / 8) 0) = rotN x0 att mask i := by
            unfold List.getD
            rw [List.getElem?_eq_getElem hk]
            simp
          rw [e9]
          exact hR
        case measure => simp [intOf]; omega
    · have hic : Hid (i = min 32 (512 - att)) := hid (by have := Hcnt.out; omega)
      have hf02 : Fr (fun k => k = gr) w wr := HF2.out.nil.then hfr
      have hne1 : mb ≠ gr := by have := G1.out.lt; have := hgrw.out; omega
      have c0 : wr.cell? ⟨mb, 0, none⟩ = some (.slice (some ⟨gb, 0, none⟩) p.bl.length kb) := hf02.cell hc0 hne1
      have hne2 : gb ≠ gr := by have := hgrw.out; omega
      have cn : wr.cell? ⟨gb, N, none⟩ = some (.slice Au 64 ku) := hf02.cell hcu hne2
      have g2r := G2.out.fr hf02 (fun k hk e => by simp [Value.ownBlock] at hk; omega)
      have zn : wr.frozen? ⟨gb, N, none⟩ = false := g2r.frozen N
      have Hfin := hid (show IsM (wr.setCell ⟨gb, N, none⟩ (.slice (some ⟨gr, 0, none⟩) 64 c5)) (Grow w T) mb (p.rot N att mask) ∧ Fr T w (wr.setCell ⟨gb, N, none⟩ (.slice (some ⟨gr, 0, none⟩) 64 c5)) from by
        have hfw : Fr (fun k => k = gb) wr (wr.setCell ⟨gb, N, none⟩ (.slice (some ⟨gr, 0, none⟩) 64 c5)) := (Fr.refl (fun k => k = gb) wr).setCell (a := ⟨gb, N, none⟩) (.inl rfl) _
        have hY : ∀ k, True → k < w.heap.size → k = gr → Typ w k 4 := fun k _ h1 h2 => by have := hgrw.out; omega
        have hYb : ∀ (T' : Nat → Prop) k, T' k → k < wr.heap.size → k = gb → Typ wr k 22 := fun T' k _ _ h2 => by rw [h2]; exact g2r.own_typ rfl
        have hdat : Dat wr (Grow w T) (.slice (some ⟨gr, 0, none⟩) 64 c5) (rotN x0 att mask i) := ⟨hxl, hxB, hR.vt.mono fun k hk => .inr hk⟩
        have g1 := G1.out
        refine ⟨⟨.inl HT0.out, _, vc, vf, (g1.fr hf02 hne1).fr hfw (fun e => by rw [e] at g1; exact absurd (g1.typ.one (G2.out.own_typ rfl)) (by decide)), ⟨bs.set N (.slice (some ⟨gr, 0, none⟩) 64 c5), ?_, ?_⟩, ?_, ?_⟩, ?_⟩
        · show Row _ _ _ 1 _ (p.bl.set N _).length _
          rw [List.length_set]
          exact (g2r.store N _).mono fun k hk => .inl hk
        · intro j z hz
          have hz2 : (p.bl.set N (rotN (p.bl.getD N []) att mask (min 32 (512 - att))))[j]? = some z := hz
          rw [List.getElem?_set] at hz2
          by_cases hnj : N = j
          · rw [if_pos hnj] at hz2
            subst hnj
            rw [if_pos h2] at hz2
            injection hz2 with hz2
            subst hz2
            refine ⟨_, by rw [List.getElem?_set, if_pos rfl, if_pos (by have := Hbl.out; omega)], ?_⟩
            rw [Hgd.out, ← hic.out]
            exact Dat.fr hdat hfw (hYb _) (by decide)
          · rw [if_neg hnj] at hz2
            obtain ⟨v, hv, hd⟩ := G2'.out j z hz2
            refine ⟨v, by rw [List.getElem?_set, if_neg hnj]; exact hv, ?_⟩
            exact (Dat.fr (Dat.fr hd hf02 hY (by decide)) hfw (hYb _) (by decide)).mono fun k hk => .inl hk
        · exact (CacM.fr (CacM.fr G3.out hf02 hY (by decide) (by decide)) hfw (hYb _) (by decide) (by decide)).mono fun k hk => .inl hk
        · exact VT.mono (VT.fr (VT.fr G4.out hf02 hY (by decide)) hfw (hYb _) (by decide)) fun k hk => .inl hk
        · exact (Fr.trans (S := T) (Fr.refl T w) hf02 (fun k hk => .inr (by have := hgrw.out; omega))).trans hfw (fun k hk => .inl (by rw [hk]; exact hTb)))
      have hguard : Hid (¬ (i < 32 ∧ att + i < 512)) := hid (fun h => hlt ((hc1.out i).2 h))
      have hi0 : i ≤ 32 := by omega
      have C0 := hid c0
      have CN := hid cn
      have ZN := hid zn
      clear c0 cn zn hne1 hne2 hxl hxB hfr hR hf02 g2r HS
      have hb0 : (N : Int) < (p.bl.length : Int) := by omega
      have hb1 : (0 : Int) ≤ (N : Int) := by omega
      by_cases h9 : i < 32
      · have h10 : ¬ att + i < 512 := fun h => hguard.out ⟨h9, h⟩
        go_upto_region 9 with (fail)
        clear h9 h10 hi0 hlt hc32
        have c0 := C0.out
        have cn := CN.out
        have zn := ZN.out
        go_wp2
        go_ret
        exact ⟨by rw [E.out.1]; rfl, by rw [E.out.2]; exact Hfin.out.1, Hfin.out.2⟩
      · go_upto_region 9 with (fail)
        clear h9 hi0 hlt hc32
        have c0 := C0.out
        have cn := CN.out
        have zn := ZN.out
        go_wp2
        go_ret
        exact ⟨by rw [E.out.1]; rfl, by rw [E.out.2]; exact Hfin.out.1, Hfin.out.2⟩
end Go.Proofs.Ytidjmjfoheagmaa

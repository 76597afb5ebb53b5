/- The law SharesLate: its walk. -/
import Derived.Test.YtjieckaeplkafaaShG
import Derived.Test.YtjieckaeplkafaaShPL2
import Derived.Test.YtjieckaeplkafaaSRpW
import Derived.Test.YtjieckaeplkafaaUntil
set_option linter.unusedSimpArgs false
set_option linter.unusedVariables false
namespace Go.Proofs.Ytjieckaeplkafaa
open Go.RowKit
theorem intAt {k : IntKind} {w : World} {S : Nat → Prop} {A : Option Addr} {n c : Nat} {l : List Int} (h : View w S 1 (.slice A n c) n (ints k l)) {i : Nat} (hi : i < n) :
    ∃ b o, A = some ⟨b, o, none⟩ ∧ S b ∧ b < w.heap.size ∧ w.cell? ⟨b, o + i, none⟩ = some (.int k (l.getD i 0)) := by
  obtain ⟨hl, A', c', e, _, _, _, _, h5⟩ := h
  injection e with ea _ ec
  subst ea; subst ec
  obtain ⟨b, o, hA, hS, hb, hc⟩ := h5 (by omega)
  have hl' : i < l.length := by rw [ints_length] at hl; omega
  exact ⟨b, o, hA, hS, hb, hc _ _ (by rw [ints_at _ _ _ hl']; simp [List.getElem?_eq_getElem hl'])⟩
def nats (l : List Nat) : Array Value := (l.map fun n => Value.int .i64 (n : Nat)).toArray
theorem nats_size (l : List Nat) : (nats l).size = l.length := by simp [nats]
theorem nats_at {l : List Nat} {k : Nat} (h : k < l.length) : (nats l)[k]? = some (.int .i64 (l.getD k 0 : Nat)) := by
  simp [nats, List.getElem?_eq_getElem h]
theorem nats_set (l : List Nat) (k v : Nat) : (nats l).setIfInBounds k (.int .i64 (v : Nat)) = nats (l.set k v) := by
  simp [nats, List.map_set]
theorem info_int : (Try.prog.info? 3).map (fun i => (i.zero, i.size, i.bytes)) = some (some (.int .i64 0), 1, 8) := by kernel_rfl
theorem mk_int (n : Nat) (hn : n ≤ 1000000) (w : World) : (Instr.makeSlice 28 (.int .i64 (n : Int)) (.int .i64 (n : Int))).run Try.prog w = .ok (.slice (some ⟨w.heap.size, 0, none⟩) n n) (w.alloc (.cells (nats (List.replicate n 0)) 3)) := by
  have h := run_make_row' 28 3 (.int .i64 0) 8 Try.underlying28 info_int rfl .i64 .i64 n (by omega) (by omega) w
  rw [h]
  have hl : (madeCells #[Value.int .i64 0] n) = nats (List.replicate n 0) := by
    apply Array.toList_inj.1
    simp only [madeCells, Array.toList_map, Array.toList_range, nats]
    refine List.ext_getElem? fun i => ?_
    by_cases hi : i < n <;> simp [hi, Nat.mod_one, List.getElem?_replicate]
  rw [← hl]
theorem late_take : ∀ i, i < 12 → takeI [⟨3 * i, 60 - 3 * i⟩] 3 = 0 ∧ takeL [⟨3 * i, 60 - 3 * i⟩] 3 = [⟨3 * (i + 1), 60 - 3 * (i + 1)⟩] := by decide
theorem Inv.uses_le {bl N : Nat} {U L H : List Us} {A l : List Rn} (h : Inv bl N U L H A l) (i : Int) : usesI U i ≤ N := by
  by_cases h0 : usesI U i = 0
  · omega
  · have := (h.ku _ (ux_pos h0).2.2).2
    rw [usesI_ux]; exact this
set_option maxRecDepth 20000 in
set_option maxHeartbeats 1000000 in
theorem late_law (A0 : Option Addr) (m c0 : Nat) (zs0 : List Int) (A1 : Option Addr) (n c1 : Nat) (zs1 : List Int) (w : World) (hr0 : IsRow .u8 w A0 m c0 zs0) (hr1 : IsRow .u8 w A1 n c1 zs1) :
    Calls Try.prog 3 #[.slice A0 m c0, .slice A1 n c1] w fun e w' => e = .returned (.bool true) ∧ Fr Nil w w' := by
  obtain ⟨hv, hlen, hwf⟩ := hr0.view
  obtain ⟨hv2, hlen2, hwf2⟩ := hr1.view
  have hnle := hv.le
  have hnle2 := hv2.le
  have Hv := hid hv
  have Hlen := hid hlen
  have Hwf := hid hwf
  have Hv2 := hid hv2
  have Hlen2 := hid hlen2
  have Hwf2 := hid hwf2
  clear hv hlen hwf hv2 hlen2 hwf2 hr0 hr1
  generalize zs0.take m = l0 at *
  generalize zs1.take n = l1 at *
  go_enter Try.func3, Try.ntmps3
  go_wp2_with fail
  refine (awake_ok w).mono ?_
  rintro e w1 ⟨rfl, f1⟩
  have F1 := hid f1
  clear f1
  by_cases hn : 12 < m
  · go_wp2
    go_ret
    exact ⟨rfl, F1.out⟩
  by_cases hn2 : 60 < n
  · go_wp2
    go_ret
    exact ⟨rfl, F1.out⟩
  go_wp2_with fail
  refine (sw_new 60 w1).mono ?_
  rintro e w2 ⟨pb, T, rfl, h1, h2, f2⟩
  rw [show newBl 60 = 60 by decide, show newL 60 = [⟨0, 60⟩] by decide] at h1
  have H1 := hid h1; have H2 := hid h2; have F2 := hid f2
  clear h1 h2 f2
  go_wp2_with fail
  refine (sw_shares H1.out H2.out F2.out).mono ?_
  rintro e w3 ⟨sb, rfl, h3⟩
  have H3 := hid (Sg.of (N := 1) h3 (Inv.new (by decide) (by decide)))
  clear h3 H1 H2 F2
  have hm12 : m ≤ 12 := by omega
  have hn60 : n ≤ 60 := by omega
  have hmk := mk_int m (by omega) w3
  go_upto_region 10 with (fail)
  clear hmk
  obtain ⟨W, hW⟩ : ∃ W, W = w3.alloc (.cells (nats (List.replicate m 0)) 3) := ⟨_, rfl⟩
  obtain ⟨gb, hgb⟩ : ∃ gb, gb = w3.heap.size := ⟨_, rfl⟩
  have fW : Fr Nil w3 W := by rw [hW]; exact (Fr.refl _ _).alloc _
  have hB : Blk W gb (nats (List.replicate m 0)) 3 := by rw [hW, hgb]; exact Blk.new _ _ _
  rw [← hW, ← hgb]
  have HS := hid (H3.out.fr (Q' := fun k => k = gb) fW (fun k h => h.elim) (fun k h => h.elim) fun k hk => ⟨.inr (by omega), by have := hB.lt; omega⟩)
  have HB := hid hB
  have hgl : w1.heap.size ≤ gb := by rw [hgb]; exact H3.out.fr0.size
  have Hgl := hid hgl
  clear hW fW hB hgb hgl H3 hn hn2
  go_wp2_with fail
  go_loopw [8] (fun v8 wr => ∃ (i : Nat) (lf : List Nat) (U : List Us) (A : List Rn), v8 = .int .i64 i ∧ i ≤ m ∧ Hid (Sg (fun k => k = gb) w1 wr sb pb 60 (1 + 4 * i) U [] [] A [⟨3 * i, 60 - 3 * i⟩] ∧ LS m i lf U [] ∧ Blk wr gb (nats lf) 3)) (fun v8 _ => m - (intOf v8).toNat)
  case atStart => exact ⟨0, _, _, _, rfl, by omega, hid ⟨HS.out, LS.zero m, HB.out⟩⟩
  case round =>
    obtain ⟨i, lf, U, A, rfl, hi, hA⟩ := hrel
    by_cases hlt : i < m
    · have ⟨t1, t2⟩ := late_take i (by omega)
      have hti : takeI [⟨3 * i, 60 - 3 * i⟩] ((3 : Nat) : Int) < [(⟨3 * i, 60 - 3 * i⟩ : Rn)].length := by
        rw [show ((3 : Nat) : Int) = 3 from rfl, t1]; exact Nat.zero_lt_one
      have Hti := hid hti
      have T1 := hid t1
      have T2 := hid t2
      clear hti t1 t2
      go_wp2_with fail
      refine (sg_take hA.out.1 3 (by decide) Hti.out).mono ?_
      rintro e w4 ⟨a, rfl, ha60, ha, hH, hf⟩
      have h3a : 3 * (i : Int) = (a : Int) := by
        rw [show ((3 : Nat) : Int) = 3 from rfl, T1.out] at ha
        have : a = 3 * i := ha
        omega
      have HH := hid hH
      have F4 := hid hf
      have HB4 := hid (hA.out.2.2.fr hf (by simp))
      have H3a := hid h3a
      clear hH hf ha
      go_wp2_with fail
      refine (sg_add HH.out (by omega)).mono ?_
      rintro e w5 ⟨rfl, hG, hf⟩
      rw [show ((3 : Nat) : Int) = 3 from rfl, T2.out] at hG
      have hgn := HH.out.inv.no_key (a := a) (by
        have h9 := (take_has HH.out.inv.r.wf ((3 : Nat) : Int) Hti.out 0).2 a (btw_iff.2 ⟨by rw [← HH.out.ha]; exact Nat.le_refl _, by rw [← HH.out.ha]; simp⟩)
        exact h9)
      have Hgn := hid hgn.1
      have HG := hid hG
      have HB5 := hid (HB4.out.fr hf (by simp))
      clear hG hf hgn
      go_wp2_with fail
      refine (sg_addno HG.out (a : Nat) 1 (wf_i64 (by omega)) (by
        unfold fineI
        rw [usesI_uput, if_pos rfl]
        simp)).mono ?_
      rintro e w6 ⟨rfl, hG, hf⟩
      have HG6 := hid hG
      have HB6 := hid (HB5.out.fr hf (fun h => h))
      clear hG hf HG HB5 HB4 F4 h3a
      obtain ⟨zb, zo, rfl, -, hbl, q0⟩ := intAt (Hv.out.fr (F1.out.then HG6.out.fr0) fun _ _ _ h => h) hlt
      have hz : 0 ≤ l0.getD i 0 ∧ l0.getD i 0 < 256 := bounds_u8 (Hwf.out _ (by
        simp [List.getD, List.getElem?_eq_getElem (show i < l0.length by rw [Hlen.out]; exact hlt)]))
      obtain ⟨z, hz2⟩ : ∃ z : Nat, l0.getD i 0 = z := ⟨(l0.getD i 0).toNat, by omega⟩
      rw [hz2] at q0 hz
      clear hz2
      have hz256 : z < 256 := by omega
      clear hz
      have hlb := HB6.out.lt
      have hfz := HB6.out.frozen i
      have hll := hA.out.2.1.len
      have hcl := HB6.out.cell i
      rw [nats_at (by omega)] at hcl
      go_upto_region 17 with (fail)
      clear hcl hfz hlb
      obtain ⟨c, hc⟩ : ∃ c, c = 1 + z % 4 := ⟨_, rfl⟩
      have hc4 : 1 ≤ c ∧ c ≤ 4 := by omega
      rw [show (1 + (z : Int) % 4) = ((c : Nat) : Int) from by omega]
      obtain ⟨W7, hW7⟩ : ∃ W7, W7 = w6.setCell ⟨gb, i, none⟩ (.int .i64 (c : Nat)) := ⟨_, rfl⟩
      have f7 : Fr (fun k => k = gb) w6 W7 := by rw [hW7]; exact (Fr.refl (fun k => k = gb) w6).setCell (a := ⟨gb, i, none⟩) (.inl rfl) _
      have hb7 : Blk W7 gb (nats (lf.set i c)) 3 := by rw [hW7, ← nats_set]; exact HB6.out.set i _
      rw [← hW7]
      have HG7 := hid (HG6.out.fr (Q' := fun k => k = gb) f7 (fun k h => h) (fun k h => by rw [h]; exact Hgl.out) (fun k hk => ⟨.inl hk, by have := hb7.lt; omega⟩))
      have HB7 := hid hb7
      have Hll := hid hll
      have Hc := hid hc
      clear hW7 f7 hb7 HG6 HB6 q0 hll hc hz256
      have hc1 : 1 ≤ c := hc4.1
      have hc44 : c ≤ 4 := hc4.2
      clear hc4
      go_wp2_with fail
      go_loopw [11] (fun v11 wx => ∃ (k : Nat) (U' : List Us), v11 = .int .i64 k ∧ 1 ≤ k ∧ k ≤ c ∧ Hid (Sg (fun k => k = gb) w1 wx sb pb 60 (4 * i + k) U' [] [] (A ++ [⟨a, 3⟩]) [⟨3 * (i + 1), 60 - 3 * (i + 1)⟩] ∧ U'.map Us.r = (uput U ⟨a, 3, 1⟩).map Us.r ∧ (∀ j : Int, usesI U' j = if j = (a : Nat) then k else usesI U j) ∧ Blk wx gb (nats (lf.set i c)) 3)) (fun v11 _ => c - (intOf v11).toNat)
      case atStart => exact ⟨1, _, rfl, Nat.le_refl _, by omega, hid ⟨HG7.out.mono (by omega), rfl, fun j => usesI_uput U ⟨a, 3, 1⟩ j, HB7.out⟩⟩
      case round =>
        obtain ⟨k, U', rfl, hk1, hkc, hB⟩ := hrel
        have hcl := hB.out.2.2.2.cell i
        have hln : i < (lf.set i c).length := by rw [List.length_set, Hll.out]; exact hlt
        rw [nats_at hln, getDN_set (by rw [Hll.out]; exact hlt), if_pos rfl] at hcl
        by_cases hkl : k < c
        · have Hln := hid hln
          clear hln
          go_wp2_with fail
          refine (sg_more hB.out.1 (a : Nat) (wf_i64 (by omega)) (by omega)).mono ?_
          rintro e w8 ⟨rfl, hG, hf⟩
          have hu : usesI U' (a : Nat) = k := by rw [hB.out.2.2.1, if_pos rfl]
          have hmr := hB.out.1.inv.more_runs (a : Nat)
          have hub : ∀ j : Int, usesI (moreU U' (a : Nat)) j = if j = (a : Nat) then k + 1 else usesI U j := fun j => by
            rw [usesI_more, hu, hB.out.2.2.1]
            by_cases h : j = (a : Nat)
            · rw [if_pos ⟨h, by omega⟩, if_pos h]
            · rw [if_neg (fun h' => h h'.1), if_neg h, if_neg h]
          have hd : decide (usesI U' (a : Nat) ≠ 0) = true := by rw [hu]; simp; omega
          rw [hd]
          have HN := hid (And.intro hG (And.intro (hmr.trans hB.out.2.1) (And.intro hub (hB.out.2.2.2.fr hf (by simp)))))
          clear hG hf hu hmr hub hd hcl
          go_wp2_with fail
          go_roundw
          case rel => exact ⟨k + 1, _, by go_num, by omega, by omega, hid HN.out⟩
          case measure => simp [intOf]; omega
        · have hkc2 : k = c := by omega
          subst hkc2
          clear hln
          go_wp2_with fail
          go_roundw
          case rel => exact ⟨i + 1, _, _, _, by go_num, by omega, hid ⟨hB.out.1.mono (by omega), hA.out.2.1.add hlt (by have := H3a.out; rw [show ((3 * i : Nat) : Int) = (a : Nat) from by omega]; exact Hgn.out) (by omega) (by rw [hB.out.2.1, show a = 3 * i from by have := H3a.out; omega]) (fun j => by rw [hB.out.2.2.1, show ((3 * i : Nat) : Int) = (a : Nat) from by have := H3a.out; omega]), hB.out.2.2.2⟩⟩
          case measure => simp [intOf]; omega
    · have hE : i = m := by omega
      subst hE
      have HA := hid hA.out
      clear hA HS HB
      go_wp2_with fail
      go_loopw [12] (fun v12 wx => ∃ (j : Nat) (lf : List Nat) (U L : List Us), v12 = .int .i64 j ∧ j ≤ n ∧ Hid (Sg (fun k => k = gb) w1 wx sb pb 60 (1 + 4 * i) U L [] A [⟨3 * i, 60 - 3 * i⟩] ∧ LS i i lf U L ∧ Blk wx gb (nats lf) 3)) (fun v12 _ => n - (intOf v12).toNat)
      case atStart => exact ⟨0, _, _, _, rfl, by omega, hid HA.out⟩
      case round =>
        obtain ⟨j, lf, U, L, rfl, hj, hA⟩ := hrel
        by_cases hgo : j < n ∧ 0 < i
        · obtain ⟨hjn, hi0⟩ := hgo
          obtain ⟨zb, zo, rfl, -, hbl, q0⟩ := intAt (Hv2.out.fr (F1.out.then hA.out.1.fr0) fun _ _ _ h => h) hjn
          have hz : 0 ≤ l1.getD j 0 ∧ l1.getD j 0 < 256 := bounds_u8 (Hwf2.out _ (by
            simp [List.getD, List.getElem?_eq_getElem (show j < l1.length by rw [Hlen2.out]; exact hjn)]))
          obtain ⟨z, hz2⟩ : ∃ z : Nat, l1.getD j 0 = z := ⟨(l1.getD j 0).toNat, by omega⟩
          rw [hz2] at q0 hz
          clear hz2
          have hz256 : z < 256 := by omega
          clear hz
          go_upto_region 26 with (fail)
          rw [show ((z : Int) % (i : Int)) = ((z % i : Nat) : Int) from by simp]
          obtain ⟨k, hk⟩ : ∃ k, k = z % i := ⟨_, rfl⟩
          rw [← hk]
          have hki : k < i := by rw [hk]; exact Nat.mod_lt _ hi0
          clear hk q0 hz256
          have hll := hA.out.2.1.len
          obtain ⟨c, hc⟩ : ∃ c, c = lf.getD k 0 := ⟨_, rfl⟩
          have hck : (nats lf)[k]? = some (.int .i64 (c : Nat)) := by rw [nats_at (by omega), hc]
          obtain ⟨q, hq⟩ : ∃ q, q = 3 * k := ⟨_, rfl⟩
          have h3k : 3 * (k : Int) = (q : Int) := by omega
          have hq60 : q ≤ 60 := by omega
          have hus : usesI U (q : Nat) = c := by rw [hq, hA.out.2.1.us k hki, hc]
          have Hwq := hid (show IntKind.i64.wrap (q : Int) = (q : Int) from by rw [IntKind.wrap_i64]; omega)
          have Hcn := hid (show c ≤ 60 from by have := hA.out.1.inv.uses_le (q : Nat); rw [hus] at this; omega)
          have Hus := hid hus
          have Hq := hid hq60
          have Hqk := hid hq
          have Hi12 := hid hm12
          have Hll := hid hll
          have Hc := hid hc
          clear hus hq hll hc
          by_cases hc0 : c = 0
          · have Hd := hid (show decide (usesI U (q : Nat) ≠ 0) = false from by rw [Hus.out]; simp [hc0])
            have hcb : decide (0 < c) = false := by simp [hc0]
            have Hc0 := hid hc0
            clear hc0
            have hS : (fun w' : World => w'.cell? ⟨gb, k, none⟩ = some (.int .i64 (c : Nat))) wr.drew := hA.out.2.2.drew.cell k |>.trans hck
            have Hck := hid hck
            clear hck
            refine wpU_region (k := 9) (S := (fun w' : World => w'.cell? ⟨gb, k, none⟩ = some (.int .i64 (c : Nat)))) (by kernel_rfl) ?_
            refine wpU_take (i := 0) (v := ?_) rfl (by kernel_rfl) (by kernel_rfl) (fun _ _ _ h => h) _ _ _ _ (by kernel_rfl) (by kernel_rfl) (by kernel_rfl) (Or.inl ⟨by kernel_rfl, ?_⟩) hS ?_
            rotate_left
            · (intro w9 hS9; obtain s0 := hS9; go_simp); (try with_reducible rfl)
            try simp only [Act.put, List.getElem_toArray, List.getElem_cons_succ, List.getElem_cons_zero, List.setIfInBounds_toArray, List.set_cons_zero, List.set_cons_succ]
            refine wpU_take (i := 1) (v := ?_) rfl (by kernel_rfl) (by kernel_rfl) (fun _ _ _ h => h) _ _ _ _ (by kernel_rfl) (by kernel_rfl) (by kernel_rfl) (Or.inl ⟨by kernel_rfl, ?_⟩) hS ?_
            rotate_left
            · (intro w9 hS9; obtain s0 := hS9; go_simp); (try with_reducible rfl)
            try simp only [Act.put, List.getElem_toArray, List.getElem_cons_succ, List.getElem_cons_zero, List.setIfInBounds_toArray, List.set_cons_zero, List.set_cons_succ]
            refine wpU_take (i := 2) (v := ?_) rfl (by kernel_rfl) (by kernel_rfl) (fun _ _ _ h => h) _ _ _ _ (by kernel_rfl) (by kernel_rfl) (by kernel_rfl) (Or.inl ⟨by kernel_rfl, ?_⟩) hS ?_
            rotate_left
            · (intro w9 hS9; obtain s0 := hS9; go_simp); (try with_reducible rfl)
            try simp only [Act.put, List.getElem_toArray, List.getElem_cons_succ, List.getElem_cons_zero, List.setIfInBounds_toArray, List.set_cons_zero, List.set_cons_succ]
            refine wpU_take (i := 4) (v := ?_) rfl (by kernel_rfl) (by kernel_rfl) (fun _ _ _ h => h) _ _ _ _ (by kernel_rfl) (by kernel_rfl) (by kernel_rfl) (Or.inl ⟨by kernel_rfl, ?_⟩) hS ?_
            rotate_left
            · (intro w9 hS9; obtain s0 := hS9; go_simp); (try with_reducible rfl)
            try simp only [Act.put, List.getElem_toArray, List.getElem_cons_succ, List.getElem_cons_zero, List.setIfInBounds_toArray, List.set_cons_zero, List.set_cons_succ]
            refine wpU_take (i := 5) (v := ?_) rfl (by kernel_rfl) (by kernel_rfl) (fun _ _ _ h => h) _ _ _ _ (by kernel_rfl) (by kernel_rfl) (by kernel_rfl) (Or.inl ⟨by kernel_rfl, ?_⟩) hS ?_
            rotate_left
            · (intro w9 hS9; obtain s0 := hS9; go_simp); (try with_reducible rfl)
            try simp only [Act.put, List.getElem_toArray, List.getElem_cons_succ, List.getElem_cons_zero, List.setIfInBounds_toArray, List.set_cons_zero, List.set_cons_succ]
            refine wpU_take (i := 6) (v := ?_) rfl (by kernel_rfl) (by kernel_rfl) (fun _ _ _ h => h) _ _ _ _ (by kernel_rfl) (by kernel_rfl) (by kernel_rfl) (Or.inl ⟨by kernel_rfl, ?_⟩) hS ?_
            rotate_left
            · (intro w9 hS9; obtain s0 := hS9; go_simp); (try with_reducible rfl)
            try simp only [Act.put, List.getElem_toArray, List.getElem_cons_succ, List.getElem_cons_zero, List.setIfInBounds_toArray, List.set_cons_zero, List.set_cons_succ]
            refine wpU_take (i := 7) (v := ?_) rfl (by kernel_rfl) (by kernel_rfl) (fun _ _ _ h => h) _ _ _ _ (by kernel_rfl) (by kernel_rfl) (by kernel_rfl) (Or.inl ⟨by kernel_rfl, ?_⟩) hS ?_
            rotate_left
            · (intro w9 hS9; obtain s0 := hS9; go_simp); (try with_reducible rfl)
            try simp only [Act.put, List.getElem_toArray, List.getElem_cons_succ, List.getElem_cons_zero, List.setIfInBounds_toArray, List.set_cons_zero, List.set_cons_succ]
            refine wpU_take (i := 8) (v := ?_) rfl (by kernel_rfl) (by kernel_rfl) (fun _ _ _ h => h) _ _ _ _ (by kernel_rfl) (by kernel_rfl) (by kernel_rfl) (Or.inl ⟨by kernel_rfl, ?_⟩) hS ?_
            rotate_left
            · (intro w9 hS9; obtain s0 := hS9; go_simp); (try with_reducible rfl)
            try simp only [Act.put, List.getElem_toArray, List.getElem_cons_succ, List.getElem_cons_zero, List.setIfInBounds_toArray, List.set_cons_zero, List.set_cons_succ]
            refine wpU_next (i := 3) rfl (by kernel_rfl) (fun K hK => ?_)
            go_simp
            rw [Hwq.out]
            refine (sg_less (hA.out.1.nil (Fr.refl _ _).drew) (q : Nat) (wf_i64 (by have := Hq.out; omega)) (by have := Hi12.out; omega)).mono ?_
            rintro e w4 ⟨rfl, hG, hf⟩
            rw [Hd.out]
            have HG := hid hG
            have HB4 := hid (hA.out.2.2.drew.fr hf (by simp))
            have hS4 : (fun w' : World => w'.cell? ⟨gb, k, none⟩ = some (.int .i64 (c : Nat))) w4 := HB4.out.cell k |>.trans Hck.out
            clear hS hG hf
            refine hK.out _ _ (fun _ => hS4) ?_
            clear hK K
            try simp only [Act.put, List.getElem_toArray, List.getElem_cons_succ, List.getElem_cons_zero, List.setIfInBounds_toArray, List.set_cons_zero, List.set_cons_succ]
            refine wpU_next (i := 9) rfl (by kernel_rfl) (fun K hK => ?_)
            go_simp
            refine hK.out _ _ (fun h => absurd rfl h.1) ?_
            refine wpU_done (by kernel_rfl) ?_ _
            clear hK K
            have cl4 : w4.cell? ⟨gb, k, none⟩ = some (.int .i64 (c : Nat)) := hS4
            have fz4 := HB4.out.frozen k
            have lt4 := HB4.out.lt
            clear hS4
            have hcz : c = 0 := Hc0.out
            go_upto_region 29 with (fail)
            rw [show max (0 : Int) (-1) = ((c - 1 : Nat) : Int) from by rw [Hc0.out]; rfl]; clear hcz
            have HN := hid (hA.out.2.1.less hA.out.1.inv hki)
            rw [← Hqk.out, ← Hc.out] at HN
            obtain ⟨W5, hW5⟩ : ∃ W5, W5 = w4.setCell ⟨gb, k, none⟩ (.int .i64 ((c - 1 : Nat) : Nat)) := ⟨_, rfl⟩
            have f5 : Fr (fun k => k = gb) w4 W5 := by rw [hW5]; exact (Fr.refl (fun k => k = gb) w4).setCell (a := ⟨gb, k, none⟩) (.inl rfl) _
            have hb5 : Blk W5 gb (nats (lf.set k (c - 1))) 3 := by rw [hW5, ← nats_set]; exact HB4.out.set k _
            rw [← hW5]
            have HG5 := hid (HG.out.fr (Q' := fun k => k = gb) f5 (fun k h => h) (fun k h => by rw [h]; exact Hgl.out) (fun k hk => ⟨.inl hk, by have := hb5.lt; omega⟩))
            have HB5 := hid hb5
            obtain ⟨d, hd⟩ : ∃ d, d = c - 1 := ⟨_, rfl⟩
            have hu5 : usesI (lessU U (q : Nat)) (q : Nat) = d := by rw [usesI_less, if_pos rfl, Hus.out, hd]
            rw [← hd] at HN HB5 hb5
            have hcl5 : W5.cell? ⟨gb, k, none⟩ = some (.int .i64 (d : Nat)) := by
              rw [HB5.out.cell, nats_at (by rw [List.length_set, Hll.out]; exact hki), getDN_set (by rw [Hll.out]; exact hki), if_pos rfl]
            have hdc : d ≤ 100 := by have := Hcn.out; omega
            obtain ⟨t, ht⟩ : ∃ t, t = 3 * i := ⟨_, rfl⟩
            have h3i : 3 * (i : Int) = (t : Int) := by omega
            have hsum := HN.out.free HG5.out.inv
            obtain ⟨s, hs⟩ : ∃ s, s = sumN [⟨3 * i, 60 - 3 * i⟩] := ⟨_, rfl⟩
            rw [← hs, ← ht] at hsum
            have h60 : 60 - (t : Int) = (s : Int) := by omega
            have hw1 : IntKind.i64.wrap (t : Int) = (t : Int) := by rw [IntKind.wrap_i64]; omega
            have hw2 : IntKind.i64.wrap (s : Int) = (s : Int) := by rw [IntKind.wrap_i64]; omega
            have hwq := Hwq.out
            have Hs := hid hs
            have Hu5 := hid hu5
            clear hW5 f5 hb5 hd ht hsum hs hu5 HB4 HG cl4 fz4 lt4 hcb
            have hS5 : (fun w' : World => w'.cell? ⟨gb, k, none⟩ = some (.int .i64 (d : Nat))) W5.drew := hcl5
            clear hcl5
            refine wpU_region (k := 17) (S := (fun w' : World => w'.cell? ⟨gb, k, none⟩ = some (.int .i64 (d : Nat)))) (by kernel_rfl) ?_
            refine wpU_take (i := 0) (v := ?_) rfl (by kernel_rfl) (by kernel_rfl) (fun _ _ _ h => h) _ _ _ _ (by kernel_rfl) (by kernel_rfl) (by kernel_rfl) (Or.inl ⟨by kernel_rfl, ?_⟩) hS5 ?_
            rotate_left
            · (intro w9 hS9; obtain s0 := hS9; go_simp); (try with_reducible rfl)
            try simp only [Act.put, List.getElem_toArray, List.getElem_cons_succ, List.getElem_cons_zero, List.setIfInBounds_toArray, List.set_cons_zero, List.set_cons_succ]
            refine wpU_take (i := 1) (v := ?_) rfl (by kernel_rfl) (by kernel_rfl) (fun _ _ _ h => h) _ _ _ _ (by kernel_rfl) (by kernel_rfl) (by kernel_rfl) (Or.inl ⟨by kernel_rfl, ?_⟩) hS5 ?_
            rotate_left
            · (intro w9 hS9; obtain s0 := hS9; go_simp); (try with_reducible rfl)
            try simp only [Act.put, List.getElem_toArray, List.getElem_cons_succ, List.getElem_cons_zero, List.setIfInBounds_toArray, List.set_cons_zero, List.set_cons_succ]
            refine wpU_take (i := 2) (v := ?_) rfl (by kernel_rfl) (by kernel_rfl) (fun _ _ _ h => h) _ _ _ _ (by kernel_rfl) (by kernel_rfl) (by kernel_rfl) (Or.inl ⟨by kernel_rfl, ?_⟩) hS5 ?_
            rotate_left
            · (intro w9 hS9; obtain s0 := hS9; go_simp); (try with_reducible rfl)
            try simp only [Act.put, List.getElem_toArray, List.getElem_cons_succ, List.getElem_cons_zero, List.setIfInBounds_toArray, List.set_cons_zero, List.set_cons_succ]
            refine wpU_take (i := 4) (v := ?_) rfl (by kernel_rfl) (by kernel_rfl) (fun _ _ _ h => h) _ _ _ _ (by kernel_rfl) (by kernel_rfl) (by kernel_rfl) (Or.inl ⟨by kernel_rfl, ?_⟩) hS5 ?_
            rotate_left
            · (intro w9 hS9; obtain s0 := hS9; go_simp); (try with_reducible rfl)
            try simp only [Act.put, List.getElem_toArray, List.getElem_cons_succ, List.getElem_cons_zero, List.setIfInBounds_toArray, List.set_cons_zero, List.set_cons_succ]
            refine wpU_take (i := 5) (v := ?_) rfl (by kernel_rfl) (by kernel_rfl) (fun _ _ _ h => h) _ _ _ _ (by kernel_rfl) (by kernel_rfl) (by kernel_rfl) (Or.inl ⟨by kernel_rfl, ?_⟩) hS5 ?_
            rotate_left
            · (intro w9 hS9; obtain s0 := hS9; go_simp); (try with_reducible rfl)
            try simp only [Act.put, List.getElem_toArray, List.getElem_cons_succ, List.getElem_cons_zero, List.setIfInBounds_toArray, List.set_cons_zero, List.set_cons_succ]
            refine wpU_take (i := 6) (v := ?_) rfl (by kernel_rfl) (by kernel_rfl) (fun _ _ _ h => h) _ _ _ _ (by kernel_rfl) (by kernel_rfl) (by kernel_rfl) (Or.inl ⟨by kernel_rfl, ?_⟩) hS5 ?_
            rotate_left
            · (intro w9 hS9; obtain s0 := hS9; go_simp); (try with_reducible rfl)
            try simp only [Act.put, List.getElem_toArray, List.getElem_cons_succ, List.getElem_cons_zero, List.setIfInBounds_toArray, List.set_cons_zero, List.set_cons_succ]
            refine wpU_take (i := 7) (v := ?_) rfl (by kernel_rfl) (by kernel_rfl) (fun _ _ _ h => h) _ _ _ _ (by kernel_rfl) (by kernel_rfl) (by kernel_rfl) (Or.inl ⟨by kernel_rfl, ?_⟩) hS5 ?_
            rotate_left
            · (intro w9 hS9; obtain s0 := hS9; go_simp); (try with_reducible rfl)
            try simp only [Act.put, List.getElem_toArray, List.getElem_cons_succ, List.getElem_cons_zero, List.setIfInBounds_toArray, List.set_cons_zero, List.set_cons_succ]
            refine wpU_next (i := 3) rfl (by kernel_rfl) (fun K hK => ?_)
            go_simp
            refine (sg_uses (HG5.out.nil (Fr.refl _ _).drew) (q : Nat) (wf_i64 (by have := Hq.out; clear hw1 hw2 hwq; omega))).mono ?_
            rintro e w6 ⟨rfl, rfl⟩
            rw [Hu5.out]
            refine hK.out _ _ (fun _ => hS5) ?_
            clear hK K
            try simp only [Act.put, List.getElem_toArray, List.getElem_cons_succ, List.getElem_cons_zero, List.setIfInBounds_toArray, List.set_cons_zero, List.set_cons_succ]
            refine wpU_take (i := 8) (v := ?_) rfl (by kernel_rfl) (by kernel_rfl) (fun _ _ _ h => h) _ _ _ _ (by kernel_rfl) (by kernel_rfl) (by kernel_rfl) (Or.inl ⟨by kernel_rfl, ?_⟩) hS5 ?_
            rotate_left
            · (intro w9 hS9; obtain s0 := hS9; go_simp); (try with_reducible rfl)
            try simp only [Act.put, List.getElem_toArray, List.getElem_cons_succ, List.getElem_cons_zero, List.setIfInBounds_toArray, List.set_cons_zero, List.set_cons_succ]
            refine wpU_take (i := 9) (v := ?_) rfl (by kernel_rfl) (by kernel_rfl) (fun _ _ _ h => h) _ _ _ _ (by kernel_rfl) (by kernel_rfl) (by kernel_rfl) (Or.inl ⟨by kernel_rfl, ?_⟩) hS5 ?_
            rotate_left
            · (intro w9 hS9; obtain s0 := hS9; go_simp); (try with_reducible rfl)
            try simp only [Act.put, List.getElem_toArray, List.getElem_cons_succ, List.getElem_cons_zero, List.setIfInBounds_toArray, List.set_cons_zero, List.set_cons_succ]
            refine wpU_take (i := 10) (v := ?_) rfl (by kernel_rfl) (by kernel_rfl) (fun _ _ _ h => h) _ _ _ _ (by kernel_rfl) (by kernel_rfl) (by kernel_rfl) (Or.inl ⟨by kernel_rfl, ?_⟩) hS5 ?_
            rotate_left
            · (intro w9 hS9; obtain s0 := hS9; go_simp); (try with_reducible rfl)
            try simp only [Act.put, List.getElem_toArray, List.getElem_cons_succ, List.getElem_cons_zero, List.setIfInBounds_toArray, List.set_cons_zero, List.set_cons_succ]
            refine wpU_take (i := 12) (v := ?_) rfl (by kernel_rfl) (by kernel_rfl) (fun _ _ _ h => h) _ _ _ _ (by kernel_rfl) (by kernel_rfl) (by kernel_rfl) (Or.inl ⟨by kernel_rfl, ?_⟩) hS5 ?_
            rotate_left
            · (intro w9 hS9; obtain s0 := hS9; go_simp); (try with_reducible rfl)
            try simp only [Act.put, List.getElem_toArray, List.getElem_cons_succ, List.getElem_cons_zero, List.setIfInBounds_toArray, List.set_cons_zero, List.set_cons_succ]
            refine wpU_take (i := 13) (v := ?_) rfl (by kernel_rfl) (by kernel_rfl) (fun _ _ _ h => h) _ _ _ _ (by kernel_rfl) (by kernel_rfl) (by kernel_rfl) (Or.inl ⟨by kernel_rfl, ?_⟩) hS5 ?_
            rotate_left
            · (intro w9 hS9; obtain s0 := hS9; go_simp); (try with_reducible rfl)
            try simp only [Act.put, List.getElem_toArray, List.getElem_cons_succ, List.getElem_cons_zero, List.setIfInBounds_toArray, List.set_cons_zero, List.set_cons_succ]
            refine wpU_take (i := 14) (v := ?_) rfl (by kernel_rfl) (by kernel_rfl) (fun _ _ _ h => h) _ _ _ _ (by kernel_rfl) (by kernel_rfl) (by kernel_rfl) (Or.inl ⟨by kernel_rfl, ?_⟩) hS5 ?_
            rotate_left
            · (intro w9 hS9; obtain s0 := hS9; go_simp); (try with_reducible rfl)
            try simp only [Act.put, List.getElem_toArray, List.getElem_cons_succ, List.getElem_cons_zero, List.setIfInBounds_toArray, List.set_cons_zero, List.set_cons_succ]
            refine wpU_take (i := 15) (v := ?_) rfl (by kernel_rfl) (by kernel_rfl) (fun _ _ _ h => h) _ _ _ _ (by kernel_rfl) (by kernel_rfl) (by kernel_rfl) (Or.inl ⟨by kernel_rfl, ?_⟩) hS5 ?_
            rotate_left
            · (intro w9 hS9; obtain s0 := hS9; go_simp); (try with_reducible rfl)
            try simp only [Act.put, List.getElem_toArray, List.getElem_cons_succ, List.getElem_cons_zero, List.setIfInBounds_toArray, List.set_cons_zero, List.set_cons_succ]
            refine wpU_next (i := 11) rfl (by kernel_rfl) (fun K hK => ?_)
            go_simp
            refine (sg_free (HG5.out.nil (Fr.refl _ _).drew)).mono ?_
            rintro e w7 ⟨rfl, f7⟩
            rw [← Hs.out]
            have HG7 := hid ((HG5.out.nil (Fr.refl _ _).drew).nil f7)
            have HB7 := hid (HB5.out.drew.fr f7 fun h => h)
            have hS7 : (fun w' : World => w'.cell? ⟨gb, k, none⟩ = some (.int .i64 (d : Nat))) w7 := f7.cell (w := W5.drew) hS5 fun h => h
            clear hS5 f7
            refine hK.out _ _ (fun _ => hS7) ?_
            clear hK K
            try simp only [Act.put, List.getElem_toArray, List.getElem_cons_succ, List.getElem_cons_zero, List.setIfInBounds_toArray, List.set_cons_zero, List.set_cons_succ]
            refine wpU_take (i := 16) (v := ?_) rfl (by kernel_rfl) (by kernel_rfl) (fun _ _ _ h => h) _ _ _ _ (by kernel_rfl) (by kernel_rfl) (by kernel_rfl) (Or.inl ⟨by kernel_rfl, ?_⟩) hS7 ?_
            rotate_left
            · (intro w9 hS9; obtain s0 := hS9; go_simp); (try with_reducible rfl)
            try simp only [Act.put, List.getElem_toArray, List.getElem_cons_succ, List.getElem_cons_zero, List.setIfInBounds_toArray, List.set_cons_zero, List.set_cons_succ]
            refine wpU_next (i := 17) rfl (by kernel_rfl) (fun K hK => ?_)
            go_simp
            refine hK.out _ _ (fun h => absurd rfl h.1) ?_
            refine wpU_done (by kernel_rfl) ?_ _
            clear hK K
            clear hw1 hw2 hwq hS7
            go_wp2_with fail
            go_roundw
            case rel => exact ⟨j + 1, _, _, _, by go_num, by omega, hid ⟨HG7.out, HN.out, HB7.out⟩⟩
            case measure => simp [intOf]; omega
          · have Hd := hid (show decide (usesI U (q : Nat) ≠ 0) = true from by rw [Hus.out]; simp [hc0])
            have hcb : decide (0 < c) = true := by simp; omega
            have Hc0 := hid hc0
            clear hc0
            have hS : (fun w' : World => w'.cell? ⟨gb, k, none⟩ = some (.int .i64 (c : Nat))) wr.drew := hA.out.2.2.drew.cell k |>.trans hck
            have Hck := hid hck
            clear hck
            refine wpU_region (k := 9) (S := (fun w' : World => w'.cell? ⟨gb, k, none⟩ = some (.int .i64 (c : Nat)))) (by kernel_rfl) ?_
            refine wpU_take (i := 0) (v := ?_) rfl (by kernel_rfl) (by kernel_rfl) (fun _ _ _ h => h) _ _ _ _ (by kernel_rfl) (by kernel_rfl) (by kernel_rfl) (Or.inl ⟨by kernel_rfl, ?_⟩) hS ?_
            rotate_left
            · (intro w9 hS9; obtain s0 := hS9; go_simp); (try with_reducible rfl)
            try simp only [Act.put, List.getElem_toArray, List.getElem_cons_succ, List.getElem_cons_zero, List.setIfInBounds_toArray, List.set_cons_zero, List.set_cons_succ]
            refine wpU_take (i := 1) (v := ?_) rfl (by kernel_rfl) (by kernel_rfl) (fun _ _ _ h => h) _ _ _ _ (by kernel_rfl) (by kernel_rfl) (by kernel_rfl) (Or.inl ⟨by kernel_rfl, ?_⟩) hS ?_
            rotate_left
            · (intro w9 hS9; obtain s0 := hS9; go_simp); (try with_reducible rfl)
            try simp only [Act.put, List.getElem_toArray, List.getElem_cons_succ, List.getElem_cons_zero, List.setIfInBounds_toArray, List.set_cons_zero, List.set_cons_succ]
            refine wpU_take (i := 2) (v := ?_) rfl (by kernel_rfl) (by kernel_rfl) (fun _ _ _ h => h) _ _ _ _ (by kernel_rfl) (by kernel_rfl) (by kernel_rfl) (Or.inl ⟨by kernel_rfl, ?_⟩) hS ?_
            rotate_left
            · (intro w9 hS9; obtain s0 := hS9; go_simp); (try with_reducible rfl)
            try simp only [Act.put, List.getElem_toArray, List.getElem_cons_succ, List.getElem_cons_zero, List.setIfInBounds_toArray, List.set_cons_zero, List.set_cons_succ]
            refine wpU_take (i := 4) (v := ?_) rfl (by kernel_rfl) (by kernel_rfl) (fun _ _ _ h => h) _ _ _ _ (by kernel_rfl) (by kernel_rfl) (by kernel_rfl) (Or.inl ⟨by kernel_rfl, ?_⟩) hS ?_
            rotate_left
            · (intro w9 hS9; obtain s0 := hS9; go_simp); (try with_reducible rfl)
            try simp only [Act.put, List.getElem_toArray, List.getElem_cons_succ, List.getElem_cons_zero, List.setIfInBounds_toArray, List.set_cons_zero, List.set_cons_succ]
            refine wpU_take (i := 5) (v := ?_) rfl (by kernel_rfl) (by kernel_rfl) (fun _ _ _ h => h) _ _ _ _ (by kernel_rfl) (by kernel_rfl) (by kernel_rfl) (Or.inl ⟨by kernel_rfl, ?_⟩) hS ?_
            rotate_left
            · (intro w9 hS9; obtain s0 := hS9; go_simp); (try with_reducible rfl)
            try simp only [Act.put, List.getElem_toArray, List.getElem_cons_succ, List.getElem_cons_zero, List.setIfInBounds_toArray, List.set_cons_zero, List.set_cons_succ]
            refine wpU_take (i := 6) (v := ?_) rfl (by kernel_rfl) (by kernel_rfl) (fun _ _ _ h => h) _ _ _ _ (by kernel_rfl) (by kernel_rfl) (by kernel_rfl) (Or.inl ⟨by kernel_rfl, ?_⟩) hS ?_
            rotate_left
            · (intro w9 hS9; obtain s0 := hS9; go_simp); (try with_reducible rfl)
            try simp only [Act.put, List.getElem_toArray, List.getElem_cons_succ, List.getElem_cons_zero, List.setIfInBounds_toArray, List.set_cons_zero, List.set_cons_succ]
            refine wpU_take (i := 7) (v := ?_) rfl (by kernel_rfl) (by kernel_rfl) (fun _ _ _ h => h) _ _ _ _ (by kernel_rfl) (by kernel_rfl) (by kernel_rfl) (Or.inl ⟨by kernel_rfl, ?_⟩) hS ?_
            rotate_left
            · (intro w9 hS9; obtain s0 := hS9; go_simp); (try with_reducible rfl)
            try simp only [Act.put, List.getElem_toArray, List.getElem_cons_succ, List.getElem_cons_zero, List.setIfInBounds_toArray, List.set_cons_zero, List.set_cons_succ]
            refine wpU_take (i := 8) (v := ?_) rfl (by kernel_rfl) (by kernel_rfl) (fun _ _ _ h => h) _ _ _ _ (by kernel_rfl) (by kernel_rfl) (by kernel_rfl) (Or.inl ⟨by kernel_rfl, ?_⟩) hS ?_
            rotate_left
            · (intro w9 hS9; obtain s0 := hS9; go_simp); (try with_reducible rfl)
            try simp only [Act.put, List.getElem_toArray, List.getElem_cons_succ, List.getElem_cons_zero, List.setIfInBounds_toArray, List.set_cons_zero, List.set_cons_succ]
            refine wpU_next (i := 3) rfl (by kernel_rfl) (fun K hK => ?_)
            go_simp
            rw [Hwq.out]
            refine (sg_less (hA.out.1.nil (Fr.refl _ _).drew) (q : Nat) (wf_i64 (by have := Hq.out; omega)) (by have := Hi12.out; omega)).mono ?_
            rintro e w4 ⟨rfl, hG, hf⟩
            rw [Hd.out]
            have HG := hid hG
            have HB4 := hid (hA.out.2.2.drew.fr hf (by simp))
            have hS4 : (fun w' : World => w'.cell? ⟨gb, k, none⟩ = some (.int .i64 (c : Nat))) w4 := HB4.out.cell k |>.trans Hck.out
            clear hS hG hf
            refine hK.out _ _ (fun _ => hS4) ?_
            clear hK K
            try simp only [Act.put, List.getElem_toArray, List.getElem_cons_succ, List.getElem_cons_zero, List.setIfInBounds_toArray, List.set_cons_zero, List.set_cons_succ]
            refine wpU_next (i := 9) rfl (by kernel_rfl) (fun K hK => ?_)
            go_simp
            refine hK.out _ _ (fun h => absurd rfl h.1) ?_
            refine wpU_done (by kernel_rfl) ?_ _
            clear hK K
            have cl4 : w4.cell? ⟨gb, k, none⟩ = some (.int .i64 (c : Nat)) := hS4
            have fz4 := HB4.out.frozen k
            have lt4 := HB4.out.lt
            clear hS4
            have hcp : 0 < c := by have := Hc0.out; omega
            go_upto_region 29 with (fail)
            rw [show max (0 : Int) (wrap64 ((c : Int) - 1)) = ((c - 1 : Nat) : Int) from by have := Hcn.out; unfold wrap64; omega]; clear hcp
            have HN := hid (hA.out.2.1.less hA.out.1.inv hki)
            rw [← Hqk.out, ← Hc.out] at HN
            obtain ⟨W5, hW5⟩ : ∃ W5, W5 = w4.setCell ⟨gb, k, none⟩ (.int .i64 ((c - 1 : Nat) : Nat)) := ⟨_, rfl⟩
            have f5 : Fr (fun k => k = gb) w4 W5 := by rw [hW5]; exact (Fr.refl (fun k => k = gb) w4).setCell (a := ⟨gb, k, none⟩) (.inl rfl) _
            have hb5 : Blk W5 gb (nats (lf.set k (c - 1))) 3 := by rw [hW5, ← nats_set]; exact HB4.out.set k _
            rw [← hW5]
            have HG5 := hid (HG.out.fr (Q' := fun k => k = gb) f5 (fun k h => h) (fun k h => by rw [h]; exact Hgl.out) (fun k hk => ⟨.inl hk, by have := hb5.lt; omega⟩))
            have HB5 := hid hb5
            obtain ⟨d, hd⟩ : ∃ d, d = c - 1 := ⟨_, rfl⟩
            have hu5 : usesI (lessU U (q : Nat)) (q : Nat) = d := by rw [usesI_less, if_pos rfl, Hus.out, hd]
            rw [← hd] at HN HB5 hb5
            have hcl5 : W5.cell? ⟨gb, k, none⟩ = some (.int .i64 (d : Nat)) := by
              rw [HB5.out.cell, nats_at (by rw [List.length_set, Hll.out]; exact hki), getDN_set (by rw [Hll.out]; exact hki), if_pos rfl]
            have hdc : d ≤ 100 := by have := Hcn.out; omega
            obtain ⟨t, ht⟩ : ∃ t, t = 3 * i := ⟨_, rfl⟩
            have h3i : 3 * (i : Int) = (t : Int) := by omega
            have hsum := HN.out.free HG5.out.inv
            obtain ⟨s, hs⟩ : ∃ s, s = sumN [⟨3 * i, 60 - 3 * i⟩] := ⟨_, rfl⟩
            rw [← hs, ← ht] at hsum
            have h60 : 60 - (t : Int) = (s : Int) := by omega
            have hw1 : IntKind.i64.wrap (t : Int) = (t : Int) := by rw [IntKind.wrap_i64]; omega
            have hw2 : IntKind.i64.wrap (s : Int) = (s : Int) := by rw [IntKind.wrap_i64]; omega
            have hwq := Hwq.out
            have Hs := hid hs
            have Hu5 := hid hu5
            clear hW5 f5 hb5 hd ht hsum hs hu5 HB4 HG cl4 fz4 lt4 hcb
            have hS5 : (fun w' : World => w'.cell? ⟨gb, k, none⟩ = some (.int .i64 (d : Nat))) W5.drew := hcl5
            clear hcl5
            refine wpU_region (k := 17) (S := (fun w' : World => w'.cell? ⟨gb, k, none⟩ = some (.int .i64 (d : Nat)))) (by kernel_rfl) ?_
            refine wpU_take (i := 0) (v := ?_) rfl (by kernel_rfl) (by kernel_rfl) (fun _ _ _ h => h) _ _ _ _ (by kernel_rfl) (by kernel_rfl) (by kernel_rfl) (Or.inl ⟨by kernel_rfl, ?_⟩) hS5 ?_
            rotate_left
            · (intro w9 hS9; obtain s0 := hS9; go_simp); (try with_reducible rfl)
            try simp only [Act.put, List.getElem_toArray, List.getElem_cons_succ, List.getElem_cons_zero, List.setIfInBounds_toArray, List.set_cons_zero, List.set_cons_succ]
            refine wpU_take (i := 1) (v := ?_) rfl (by kernel_rfl) (by kernel_rfl) (fun _ _ _ h => h) _ _ _ _ (by kernel_rfl) (by kernel_rfl) (by kernel_rfl) (Or.inl ⟨by kernel_rfl, ?_⟩) hS5 ?_
            rotate_left
            · (intro w9 hS9; obtain s0 := hS9; go_simp); (try with_reducible rfl)
            try simp only [Act.put, List.getElem_toArray, List.getElem_cons_succ, List.getElem_cons_zero, List.setIfInBounds_toArray, List.set_cons_zero, List.set_cons_succ]
            refine wpU_take (i := 2) (v := ?_) rfl (by kernel_rfl) (by kernel_rfl) (fun _ _ _ h => h) _ _ _ _ (by kernel_rfl) (by kernel_rfl) (by kernel_rfl) (Or.inl ⟨by kernel_rfl, ?_⟩) hS5 ?_
            rotate_left
            · (intro w9 hS9; obtain s0 := hS9; go_simp); (try with_reducible rfl)
            try simp only [Act.put, List.getElem_toArray, List.getElem_cons_succ, List.getElem_cons_zero, List.setIfInBounds_toArray, List.set_cons_zero, List.set_cons_succ]
            refine wpU_take (i := 4) (v := ?_) rfl (by kernel_rfl) (by kernel_rfl) (fun _ _ _ h => h) _ _ _ _ (by kernel_rfl) (by kernel_rfl) (by kernel_rfl) (Or.inl ⟨by kernel_rfl, ?_⟩) hS5 ?_
            rotate_left
            · (intro w9 hS9; obtain s0 := hS9; go_simp); (try with_reducible rfl)
            try simp only [Act.put, List.getElem_toArray, List.getElem_cons_succ, List.getElem_cons_zero, List.setIfInBounds_toArray, List.set_cons_zero, List.set_cons_succ]
            refine wpU_take (i := 5) (v := ?_) rfl (by kernel_rfl) (by kernel_rfl) (fun _ _ _ h => h) _ _ _ _ (by kernel_rfl) (by kernel_rfl) (by kernel_rfl) (Or.inl ⟨by kernel_rfl, ?_⟩) hS5 ?_
            rotate_left
            · (intro w9 hS9; obtain s0 := hS9; go_simp); (try with_reducible rfl)
            try simp only [Act.put, List.getElem_toArray, List.getElem_cons_succ, List.getElem_cons_zero, List.setIfInBounds_toArray, List.set_cons_zero, List.set_cons_succ]
            refine wpU_take (i := 6) (v := ?_) rfl (by kernel_rfl) (by kernel_rfl) (fun _ _ _ h => h) _ _ _ _ (by kernel_rfl) (by kernel_rfl) (by kernel_rfl) (Or.inl ⟨by kernel_rfl, ?_⟩) hS5 ?_
            rotate_left
            · (intro w9 hS9; obtain s0 := hS9; go_simp); (try with_reducible rfl)
            try simp only [Act.put, List.getElem_toArray, List.getElem_cons_succ, List.getElem_cons_zero, List.setIfInBounds_toArray, List.set_cons_zero, List.set_cons_succ]
            refine wpU_take (i := 7) (v := ?_) rfl (by kernel_rfl) (by kernel_rfl) (fun _ _ _ h => h) _ _ _ _ (by kernel_rfl) (by kernel_rfl) (by kernel_rfl) (Or.inl ⟨by kernel_rfl, ?_⟩) hS5 ?_
            rotate_left
            · (intro w9 hS9; obtain s0 := hS9; go_simp); (try with_reducible rfl)
            try simp only [Act.put, List.getElem_toArray, List.getElem_cons_succ, List.getElem_cons_zero, List.setIfInBounds_toArray, List.set_cons_zero, List.set_cons_succ]
            refine wpU_next (i := 3) rfl (by kernel_rfl) (fun K hK => ?_)
            go_simp
            refine (sg_uses (HG5.out.nil (Fr.refl _ _).drew) (q : Nat) (wf_i64 (by have := Hq.out; clear hw1 hw2 hwq; omega))).mono ?_
            rintro e w6 ⟨rfl, rfl⟩
            rw [Hu5.out]
            refine hK.out _ _ (fun _ => hS5) ?_
            clear hK K
            try simp only [Act.put, List.getElem_toArray, List.getElem_cons_succ, List.getElem_cons_zero, List.setIfInBounds_toArray, List.set_cons_zero, List.set_cons_succ]
            refine wpU_take (i := 8) (v := ?_) rfl (by kernel_rfl) (by kernel_rfl) (fun _ _ _ h => h) _ _ _ _ (by kernel_rfl) (by kernel_rfl) (by kernel_rfl) (Or.inl ⟨by kernel_rfl, ?_⟩) hS5 ?_
            rotate_left
            · (intro w9 hS9; obtain s0 := hS9; go_simp); (try with_reducible rfl)
            try simp only [Act.put, List.getElem_toArray, List.getElem_cons_succ, List.getElem_cons_zero, List.setIfInBounds_toArray, List.set_cons_zero, List.set_cons_succ]
            refine wpU_take (i := 9) (v := ?_) rfl (by kernel_rfl) (by kernel_rfl) (fun _ _ _ h => h) _ _ _ _ (by kernel_rfl) (by kernel_rfl) (by kernel_rfl) (Or.inl ⟨by kernel_rfl, ?_⟩) hS5 ?_
            rotate_left
            · (intro w9 hS9; obtain s0 := hS9; go_simp); (try with_reducible rfl)
            try simp only [Act.put, List.getElem_toArray, List.getElem_cons_succ, List.getElem_cons_zero, List.setIfInBounds_toArray, List.set_cons_zero, List.set_cons_succ]
            refine wpU_take (i := 10) (v := ?_) rfl (by kernel_rfl) (by kernel_rfl) (fun _ _ _ h => h) _ _ _ _ (by kernel_rfl) (by kernel_rfl) (by kernel_rfl) (Or.inl ⟨by kernel_rfl, ?_⟩) hS5 ?_
            rotate_left
            · (intro w9 hS9; obtain s0 := hS9; go_simp); (try with_reducible rfl)
            try simp only [Act.put, List.getElem_toArray, List.getElem_cons_succ, List.getElem_cons_zero, List.setIfInBounds_toArray, List.set_cons_zero, List.set_cons_succ]
            refine wpU_take (i := 12) (v := ?_) rfl (by kernel_rfl) (by kernel_rfl) (fun _ _ _ h => h) _ _ _ _ (by kernel_rfl) (by kernel_rfl) (by kernel_rfl) (Or.inl ⟨by kernel_rfl, ?_⟩) hS5 ?_
            rotate_left
            · (intro w9 hS9; obtain s0 := hS9; go_simp); (try with_reducible rfl)
            try simp only [Act.put, List.getElem_toArray, List.getElem_cons_succ, List.getElem_cons_zero, List.setIfInBounds_toArray, List.set_cons_zero, List.set_cons_succ]
            refine wpU_take (i := 13) (v := ?_) rfl (by kernel_rfl) (by kernel_rfl) (fun _ _ _ h => h) _ _ _ _ (by kernel_rfl) (by kernel_rfl) (by kernel_rfl) (Or.inl ⟨by kernel_rfl, ?_⟩) hS5 ?_
            rotate_left
            · (intro w9 hS9; obtain s0 := hS9; go_simp); (try with_reducible rfl)
            try simp only [Act.put, List.getElem_toArray, List.getElem_cons_succ, List.getElem_cons_zero, List.setIfInBounds_toArray, List.set_cons_zero, List.set_cons_succ]
            refine wpU_take (i := 14) (v := ?_) rfl (by kernel_rfl) (by kernel_rfl) (fun _ _ _ h => h) _ _ _ _ (by kernel_rfl) (by kernel_rfl) (by kernel_rfl) (Or.inl ⟨by kernel_rfl, ?_⟩) hS5 ?_
            rotate_left
            · (intro w9 hS9; obtain s0 := hS9; go_simp); (try with_reducible rfl)
            try simp only [Act.put, List.getElem_toArray, List.getElem_cons_succ, List.getElem_cons_zero, List.setIfInBounds_toArray, List.set_cons_zero, List.set_cons_succ]
            refine wpU_take (i := 15) (v := ?_) rfl (by kernel_rfl) (by kernel_rfl) (fun _ _ _ h => h) _ _ _ _ (by kernel_rfl) (by kernel_rfl) (by kernel_rfl) (Or.inl ⟨by kernel_rfl, ?_⟩) hS5 ?_
            rotate_left
            · (intro w9 hS9; obtain s0 := hS9; go_simp); (try with_reducible rfl)
            try simp only [Act.put, List.getElem_toArray, List.getElem_cons_succ, List.getElem_cons_zero, List.setIfInBounds_toArray, List.set_cons_zero, List.set_cons_succ]
            refine wpU_next (i := 11) rfl (by kernel_rfl) (fun K hK => ?_)
            go_simp
            refine (sg_free (HG5.out.nil (Fr.refl _ _).drew)).mono ?_
            rintro e w7 ⟨rfl, f7⟩
            rw [← Hs.out]
            have HG7 := hid ((HG5.out.nil (Fr.refl _ _).drew).nil f7)
            have HB7 := hid (HB5.out.drew.fr f7 fun h => h)
            have hS7 : (fun w' : World => w'.cell? ⟨gb, k, none⟩ = some (.int .i64 (d : Nat))) w7 := f7.cell (w := W5.drew) hS5 fun h => h
            clear hS5 f7
            refine hK.out _ _ (fun _ => hS7) ?_
            clear hK K
            try simp only [Act.put, List.getElem_toArray, List.getElem_cons_succ, List.getElem_cons_zero, List.setIfInBounds_toArray, List.set_cons_zero, List.set_cons_succ]
            refine wpU_take (i := 16) (v := ?_) rfl (by kernel_rfl) (by kernel_rfl) (fun _ _ _ h => h) _ _ _ _ (by kernel_rfl) (by kernel_rfl) (by kernel_rfl) (Or.inl ⟨by kernel_rfl, ?_⟩) hS7 ?_
            rotate_left
            · (intro w9 hS9; obtain s0 := hS9; go_simp); (try with_reducible rfl)
            try simp only [Act.put, List.getElem_toArray, List.getElem_cons_succ, List.getElem_cons_zero, List.setIfInBounds_toArray, List.set_cons_zero, List.set_cons_succ]
            refine wpU_next (i := 17) rfl (by kernel_rfl) (fun K hK => ?_)
            go_simp
            refine hK.out _ _ (fun h => absurd rfl h.1) ?_
            refine wpU_done (by kernel_rfl) ?_ _
            clear hK K
            clear hw1 hw2 hwq hS7
            go_wp2_with fail
            go_roundw
            case rel => exact ⟨j + 1, _, _, _, by go_num, by omega, hid ⟨HG7.out, HN.out, HB7.out⟩⟩
            case measure => simp [intOf]; omega
        · by_cases hjn : j < n
          · have hi0 : ¬ 0 < i := fun h => hgo ⟨hjn, h⟩
            clear hgo
            have HA2 := hid hA.out
            clear hA HA
            go_wp2_with fail
            go_loopw [14, 15] (fun v14 v15 wx => ∃ (t : Nat), v15 = .int .i64 t ∧ v14 = .int .i64 (cntZ (lf.take t) : Nat) ∧ t ≤ i ∧ Hid (Sg (fun k => k = gb) w1 wx sb pb 60 (1 + 4 * i) U L [] A [⟨3 * i, 60 - 3 * i⟩] ∧ Blk wx gb (nats lf) 3)) (fun _ v15 _ => i - (intOf v15).toNat)
            case atStart => exact ⟨0, rfl, rfl, by omega, hid ⟨HA2.out.1, HA2.out.2.2⟩⟩
            case round =>
              obtain ⟨t, rfl, rfl, ht, hC⟩ := hrel
              have hlen := HA2.out.2.1.len
              have hctl : cntZ (lf.take t) ≤ t := by unfold cntZ; exact Nat.le_trans List.countP_le_length (by rw [List.length_take]; omega)
              by_cases htl : t < i
              · have hcl := hC.out.2.cell t
                rw [nats_at (by omega)] at hcl
                have hst := hid (cntZ_take (lf := lf) (i := t) (by omega))
                have hct9 : cntZ (lf.take t) ≤ 100 := by omega
                obtain ⟨x, hx⟩ : ∃ x, x = lf.getD t 0 := ⟨_, rfl⟩
                rw [← hx] at hcl hst
                have hlb := hC.out.2.lt
                clear hlen hctl hx
                by_cases hx0 : x = 0
                · have hst2 := hid (show cntZ (lf.take (t + 1)) = cntZ (lf.take t) + 1 from by rw [hst.out, if_pos hx0])
                  clear hst
                  have hx0b : (((x : Nat) : Int) == 0) = true := by simp [hx0]
                  go_wp2_with fail
                  go_roundw
                  case rel => exact ⟨t + 1, by go_num, by rw [hst2.out]; simp, by omega, hid hC.out⟩
                  case measure => simp [intOf]; omega
                · have hst2 := hid (show cntZ (lf.take (t + 1)) = cntZ (lf.take t) from by rw [hst.out, if_neg hx0]; rfl)
                  clear hst
                  have hx0b : (((x : Nat) : Int) == 0) = false := by simp [hx0]
                  go_wp2_with fail
                  go_roundw
                  case rel => exact ⟨t + 1, by go_num, by rw [hst2.out], by omega, hid hC.out⟩
                  case measure => simp [intOf]; omega
              · obtain rfl : t = i := by omega
                have hls := HA2.out.2.1
                have hz1 := cntZ_add lf
                have hz2 := hls.cu
                have hz3 := hls.cl
                rw [List.take_of_length_le (by omega)]
                obtain ⟨y, hy⟩ : ∃ y, y = cntZ lf := ⟨_, rfl⟩
                have hLy : L.length = y := by omega
                obtain ⟨x, hx⟩ : ∃ x, x = U.length := ⟨_, rfl⟩
                have hxy : (t : Int) - (y : Int) = (x : Int) := by omega
                rw [← hy]
                have hy12 : y ≤ 12 := by omega
                have hx12 : x ≤ 12 := by omega
                have hlate := hls.late
                have hn3 := hid (fun r hr => hls.n3 r (List.mem_append_left _ hr) : ∀ r ∈ U.map Us.r, r.n = 3)
                have hX := hid hx
                have HLY := hid hLy
                have Hlate := hid hlate
                have Hxy := hid hxy
                clear hlen hctl hls hz1 hz2 hz3 hy hx hxy hLy hlate HA2
                go_wp2_with fail
                refine (sg_late hC.out.1).mono ?_
                rintro e w4 ⟨B4, c4, rfl, -, f4⟩
                rw [HLY.out]
                have HC4 := hid (hC.out.1.nil f4)
                clear f4 hC
                go_wp2_with fail
                refine (sg_list HC4.out).mono ?_
                rintro e w5 ⟨B5, c5, rfl, -, f5⟩
                rw [← hX.out]
                have HC5 := hid (HC4.out.nil f5)
                have hxy := Hxy.out
                clear f5 HC4
                go_wp2_with fail
                refine (sg_settle HC5.out).mono ?_
                rintro e w6 ⟨rfl, hG, hf⟩
                rw [Hlate.out, HLY.out]
                obtain ⟨q, hq⟩ : ∃ q, q = 3 * y := ⟨_, rfl⟩
                have h3y : 3 * (y : Int) = (q : Int) := by omega
                have hq36 : q ≤ 36 := by omega
                rw [← hq]
                have HC6 := hid hG
                clear hG hf hq HC5
                go_wp2_with fail
                refine (sg_settle HC6.out).mono ?_
                rintro e w7 ⟨rfl, hG, hf⟩
                rw [lst_nil, show sumN [] = 0 from rfl] at *
                have HC7 := hid hG
                have hsum := hG.inv.r.sum
                rw [List.map_nil, List.append_nil, sum3 hn3.out, List.length_map, ← hX.out] at hsum
                clear hG hf HC6
                go_wp2_with fail
                refine (sg_free HC7.out).mono ?_
                rintro e w8 ⟨rfl, f8⟩
                generalize hsl : sumN (givs 60 (givs 60 [⟨3 * t, 60 - 3 * t⟩] (lst L)) []) = s8 at *
                have HC8 := hid (HC7.out.nil f8)
                obtain ⟨p, hp⟩ : ∃ p, p = 3 * x := ⟨_, rfl⟩
                have h3x : 3 * (x : Int) = (p : Int) := by omega
                have h60 : 60 - (p : Int) = (s8 : Int) := by omega
                have hp36 : p ≤ 36 := by omega
                have hs60 : s8 ≤ 60 := by omega
                clear f8 HC7 hsum hp hsl
                go_wp2_with fail
                refine (sg_late HC8.out).mono ?_
                rintro e w9 ⟨B9, c9, rfl, -, f9⟩
                have HC9 := hid (HC8.out.nil f9)
                clear f9 HC8
                go_wp2
                go_ret
                exact ⟨rfl, F1.out.then HC9.out.fr0⟩
          · clear hgo
            have HA2 := hid hA.out
            clear hA HA
            go_wp2_with fail
            go_loopw [14, 15] (fun v14 v15 wx => ∃ (t : Nat), v15 = .int .i64 t ∧ v14 = .int .i64 (cntZ (lf.take t) : Nat) ∧ t ≤ i ∧ Hid (Sg (fun k => k = gb) w1 wx sb pb 60 (1 + 4 * i) U L [] A [⟨3 * i, 60 - 3 * i⟩] ∧ Blk wx gb (nats lf) 3)) (fun _ v15 _ => i - (intOf v15).toNat)
            case atStart => exact ⟨0, rfl, rfl, by omega, hid ⟨HA2.out.1, HA2.out.2.2⟩⟩
            case round =>
              obtain ⟨t, rfl, rfl, ht, hC⟩ := hrel
              have hlen := HA2.out.2.1.len
              have hctl : cntZ (lf.take t) ≤ t := by unfold cntZ; exact Nat.le_trans List.countP_le_length (by rw [List.length_take]; omega)
              by_cases htl : t < i
              · have hcl := hC.out.2.cell t
                rw [nats_at (by omega)] at hcl
                have hst := hid (cntZ_take (lf := lf) (i := t) (by omega))
                have hct9 : cntZ (lf.take t) ≤ 100 := by omega
                obtain ⟨x, hx⟩ : ∃ x, x = lf.getD t 0 := ⟨_, rfl⟩
                rw [← hx] at hcl hst
                have hlb := hC.out.2.lt
                clear hlen hctl hx
                by_cases hx0 : x = 0
                · have hst2 := hid (show cntZ (lf.take (t + 1)) = cntZ (lf.take t) + 1 from by rw [hst.out, if_pos hx0])
                  clear hst
                  have hx0b : (((x : Nat) : Int) == 0) = true := by simp [hx0]
                  go_wp2_with fail
                  go_roundw
                  case rel => exact ⟨t + 1, by go_num, by rw [hst2.out]; simp, by omega, hid hC.out⟩
                  case measure => simp [intOf]; omega
                · have hst2 := hid (show cntZ (lf.take (t + 1)) = cntZ (lf.take t) from by rw [hst.out, if_neg hx0]; rfl)
                  clear hst
                  have hx0b : (((x : Nat) : Int) == 0) = false := by simp [hx0]
                  go_wp2_with fail
                  go_roundw
                  case rel => exact ⟨t + 1, by go_num, by rw [hst2.out], by omega, hid hC.out⟩
                  case measure => simp [intOf]; omega
              · obtain rfl : t = i := by omega
                have hls := HA2.out.2.1
                have hz1 := cntZ_add lf
                have hz2 := hls.cu
                have hz3 := hls.cl
                rw [List.take_of_length_le (by omega)]
                obtain ⟨y, hy⟩ : ∃ y, y = cntZ lf := ⟨_, rfl⟩
                have hLy : L.length = y := by omega
                obtain ⟨x, hx⟩ : ∃ x, x = U.length := ⟨_, rfl⟩
                have hxy : (t : Int) - (y : Int) = (x : Int) := by omega
                rw [← hy]
                have hy12 : y ≤ 12 := by omega
                have hx12 : x ≤ 12 := by omega
                have hlate := hls.late
                have hn3 := hid (fun r hr => hls.n3 r (List.mem_append_left _ hr) : ∀ r ∈ U.map Us.r, r.n = 3)
                have hX := hid hx
                have HLY := hid hLy
                have Hlate := hid hlate
                have Hxy := hid hxy
                clear hlen hctl hls hz1 hz2 hz3 hy hx hxy hLy hlate HA2
                go_wp2_with fail
                refine (sg_late hC.out.1).mono ?_
                rintro e w4 ⟨B4, c4, rfl, -, f4⟩
                rw [HLY.out]
                have HC4 := hid (hC.out.1.nil f4)
                clear f4 hC
                go_wp2_with fail
                refine (sg_list HC4.out).mono ?_
                rintro e w5 ⟨B5, c5, rfl, -, f5⟩
                rw [← hX.out]
                have HC5 := hid (HC4.out.nil f5)
                have hxy := Hxy.out
                clear f5 HC4
                go_wp2_with fail
                refine (sg_settle HC5.out).mono ?_
                rintro e w6 ⟨rfl, hG, hf⟩
                rw [Hlate.out, HLY.out]
                obtain ⟨q, hq⟩ : ∃ q, q = 3 * y := ⟨_, rfl⟩
                have h3y : 3 * (y : Int) = (q : Int) := by omega
                have hq36 : q ≤ 36 := by omega
                rw [← hq]
                have HC6 := hid hG
                clear hG hf hq HC5
                go_wp2_with fail
                refine (sg_settle HC6.out).mono ?_
                rintro e w7 ⟨rfl, hG, hf⟩
                rw [lst_nil, show sumN [] = 0 from rfl] at *
                have HC7 := hid hG
                have hsum := hG.inv.r.sum
                rw [List.map_nil, List.append_nil, sum3 hn3.out, List.length_map, ← hX.out] at hsum
                clear hG hf HC6
                go_wp2_with fail
                refine (sg_free HC7.out).mono ?_
                rintro e w8 ⟨rfl, f8⟩
                generalize hsl : sumN (givs 60 (givs 60 [⟨3 * t, 60 - 3 * t⟩] (lst L)) []) = s8 at *
                have HC8 := hid (HC7.out.nil f8)
                obtain ⟨p, hp⟩ : ∃ p, p = 3 * x := ⟨_, rfl⟩
                have h3x : 3 * (x : Int) = (p : Int) := by omega
                have h60 : 60 - (p : Int) = (s8 : Int) := by omega
                have hp36 : p ≤ 36 := by omega
                have hs60 : s8 ≤ 60 := by omega
                clear f8 HC7 hsum hp hsl
                go_wp2_with fail
                refine (sg_late HC8.out).mono ?_
                rintro e w9 ⟨B9, c9, rfl, -, f9⟩
                have HC9 := hid (HC8.out.nil f9)
                clear f9 HC8
                go_wp2
                go_ret
                exact ⟨rfl, F1.out.then HC9.out.fr0⟩
end Go.Proofs.Ytjieckaeplkafaa

/- The texts SlX4, SlX5 of this proof, one behind the other. Conditions: those of each. -/
import Derived.Test.YtgoghmblfdlnbaaGreatGR38
import Derived.Laws.IdiomArrays
import Derived.ProofKit
import Derived.Test.YtgoghmblfdlnbaaGreatGN2
section
/- The law SlabNodes: its walk ends with true and changes nothing that was there. Conditions: the arguments are drawn as the law says. -/
set_option linter.unusedSimpArgs false
set_option linter.unusedVariables false
namespace Go.Proofs.YtgoghmblfdlnbaaGreat
open Go.RowKit
open nd (Nd Kd Vs MayNd pre ncells)
namespace nd
theorem may_lens {x : Nd} (h : MayNd x) : x.ps.length ≤ 8 ∧ x.gs.length = x.ps.length ∧ x.ds.length ≤ 8 := by
  have h1 := h.2.1.1
  by_cases h0 : x.h = 0
  · obtain ⟨a, b, c, _⟩ := h.2.2.1 h0; omega
  · obtain ⟨_, a, b, c, _⟩ := h.2.2.2 h0; omega
end nd
theorem NdAt.all {w : World} {b o : Nat} {q : nd.Ptr} {x : Nd} (h : NdAt w b o q x) : w.cell? ⟨b, o, none⟩ = some (.int .i64 x.h) ∧ w.cell? ⟨b, o + 1, none⟩ = some (.slice q.A1 x.ks.length q.c1) ∧ w.cell? ⟨b, o + 2, none⟩ = some (.slice q.A2 x.ps.length q.c2) ∧ w.cell? ⟨b, o + 3, none⟩ = some (.slice q.A3 x.gs.length q.c3) ∧ w.cell? ⟨b, o + 4, none⟩ = some (.slice q.A4 x.ds.length q.c4) := ⟨h.c0, h.c1, h.c2, h.c3, h.c4⟩
set_option maxRecDepth 100000 in
set_option maxHeartbeats 8000000 in
theorem slnodes_ok (v : Value) (n0 n1 at2 mk : Nat) (h0 : n0 < 65536) (h1 : n1 < 65536) (h2 : at2 < 65536) (h3 : mk < 4294967296) (w : World) (hv : NodesArg w v) :
    Calls Tryz.prog 6 #[v, .agg #[.int .u16 (n0 : Nat), .int .u16 (n1 : Nat)], .int .u16 (at2 : Nat), .int .u32 (mk : Nat)] w fun e w' => e = .returned (.bool true) ∧ Fr Nil w w' := by
  obtain ⟨A, n, c, f, rfl, hnle, hat⟩ := hv
  have Hat := hid hat
  clear hat
  go_enter Tryz.func6, Tryz.ntmps6
  go_upto_region 1 with (fail)
  obtain ⟨W0, hW0⟩ : ∃ W0, W0 = w.alloc (.cells #[.int .u16 (n0 : Nat), .int .u16 (n1 : Nat)] 28) := ⟨_, rfl⟩
  obtain ⟨nb, hnb⟩ : ∃ nb, nb = w.heap.size := ⟨_, rfl⟩
  have hb0 : Blk W0 nb #[.int .u16 (n0 : Nat), .int .u16 (n1 : Nat)] 28 := by rw [hW0, hnb]; exact Blk.new _ _ _
  have hf0 : Fr Nil w W0 := by rw [hW0]; exact (Fr.refl _ _).alloc _
  rw [← hW0, ← hnb]
  have F0 := hid hf0
  have HB0 := hid hb0
  clear hW0 hnb hf0 hb0
  by_cases hn0 : n = 0
  · subst hn0
    go_wp2_with fail
    refine (slawake_ok _).mono ?_
    rintro e w9 ⟨rfl, f9⟩
    have F9 := hid f9
    clear f9
    go_wp2
    go_ret
    exact ⟨rfl, F0.out.then F9.out⟩
  have hn0i : ¬ (n : Int) = 0 := by omega
  by_cases hn10 : 10 < n
  · go_wp2_with fail
    refine (slawake_ok _).mono ?_
    rintro e w9 ⟨rfl, f9⟩
    have F9 := hid f9
    clear f9
    go_wp2
    go_ret
    exact ⟨rfl, F0.out.then F9.out⟩
  by_cases hmk : mk = 0
  · subst hmk
    go_wp2_with fail
    refine (slawake_ok _).mono ?_
    rintro e w9 ⟨rfl, f9⟩
    have F9 := hid f9
    clear f9
    go_wp2
    go_ret
    exact ⟨rfl, F0.out.then F9.out⟩
  have hmki : ¬ (mk : Int) = 0 := by omega
  have hb1 : ((n : Int) == 0) = false := by simp; omega
  have hb2 : ((mk : Int) == 0) = false := by simp; omega
  have hn10i : (n : Int) ≤ 10 := by omega
  have hn10j : ¬ (10 : Int) < (n : Int) := by omega
  clear hn0 hmk
  have c00 : W0.cell? ⟨nb, 0, none⟩ = some (.int .u16 (n0 : Nat)) := HB0.out.cell 0
  go_wp2_with fail
  refine (slawmake_ok 1000 128 n0 (by decide) (by decide) (by omega) W0).mono ?_
  rintro e w1 ⟨lb, plb, pb, sb, TP0, rfl, hS, f1⟩
  have HS := hid hS
  clear hS f1 c00
  clear hb1 hb2
  go_wp2_with fail
  go_loopw [13] (fun v13 wr => ∃ (i left m g : Nat) (TP : Nat → Prop) (p : Pl) (rs : List Rn), v13 = .int .i64 i ∧ i ≤ n ∧ m ≤ 100 * i ∧ 126 ≤ left + 4 * i ∧ left ≤ 126 ∧ (i = 0 → g = n0) ∧ p.fa = [] ∧ Hid (Sl (fun _ => False) TP W0 wr lb plb sb pb 128 1000 g m p (us1 rs) [] [] rs (freeN 128 left)) ∧ Hid (∀ r ∈ rs, 1 ≤ r.n ∧ r.a + r.n ≤ 128 - left)) (fun v13 _ => n - (intOf v13).toNat)
  case atStart => exact ⟨0, 126, 0, n0, TP0, fresh 128, [], rfl, by omega, by omega, by omega, by omega, fun _ => rfl, rfl, HS, hid fun r hr => by simp at hr⟩
  case round =>
    clear HS
    obtain ⟨i, left, m, g0, TP, p, rs, rfl, hi, hm, hl1, hl2, hg0, hfa, hS, hpos⟩ := hrel
    by_cases hlt : i < n
    · obtain ⟨b, o, rfl, hbl, hnd, hvs⟩ := Hat.out i hlt
      have fw : Fr Nil w wr := F0.out.then hS.out.g.fr0
      have Hnd := hid hnd
      have Hvs := hid hvs
      have HND := hid (hnd.fr fw)
      have HVS := hid (hvs.nil fw)
      have hblw := Nat.lt_of_lt_of_le hbl fw.size
      obtain ⟨d0, d1, d2, d3, d4⟩ := HND.out.all
      have Hbl := hid hbl
      obtain ⟨⟨q, x⟩, hqx⟩ : ∃ y, y = f i := ⟨_, rfl⟩
      rw [← hqx] at Hnd Hvs HND HVS d0 d1 d2 d3 d4
      dsimp only at Hnd Hvs HND HVS d0 d1 d2 d3 d4
      have Hfa := hid hfa
      have Hg0 := hid hg0
      clear hnd hvs fw hbl hqx hfa hg0
      go_wp2_with fail
      refine (nd.few_ok q x (decide (nd.FewNd x)) rfl wr).mono ?_
      rintro e w1 ⟨rfl, f1⟩
      have H1 := hid (hS.out.nil f1)
      clear hS f1 d0 d1 d2 d3 d4 HND HVS hblw
      by_cases hfew : nd.FewNd x
      · rw [decide_eq_true hfew]
        have Hfew := hid hfew
        obtain ⟨g, hg⟩ : ∃ g, g = n0 + i := ⟨_, rfl⟩
        have hgi : (n0 : Int) + (i : Int) = (g : Int) := by omega
        have hg9 : g ≤ 65545 := by omega
        have Hg := hid hg
        clear hfew hg
        by_cases hi0 : i = 0
        · have H2 := hid (show Sl (fun _ => False) TP W0 w1 lb plb sb pb 128 1000 g m p (us1 rs) [] [] rs (freeN 128 left) from by
            have h := H1.out
            rw [Hg0.out hi0] at h
            rw [Hg.out, hi0]
            exact h)
          have hi0i : ¬ (0 : Int) < (i : Int) := by omega
          have Hi0 := hid hi0
          obtain ⟨w2, hw2⟩ : ∃ w2, w2 = w1 := ⟨_, rfl⟩
          rw [← hw2] at H2 ⊢
          clear hi0 hw2 H1 Hg0
          have fw2 : Fr Nil w w2 := F0.out.then H2.out.g.fr0
          have HVS2 := hid (Hvs.out.nil fw2)
          obtain ⟨d0, d1, d2, d3, d4⟩ := (Hnd.out.fr fw2).all
          have hblw := Nat.lt_of_lt_of_le Hbl.out fw2.size
          clear fw2
          go_wp2_with fail
          refine (nd.lawnode_ok _ q x Hfew.out w2 HVS2.out).mono ?_
          rintro e w3 ⟨q', rfl, hV3, hf3⟩
          have H3 := hid (H2.out.nil hf3)
          have HV3 := hid hV3
          clear hV3 hf3 H2 HVS2 d0 d1 d2 d3 d4 hblw
          by_cases hmay : MayNd x
          · have hnx := nN_le hmay
            have hn1 := nN_pos x
            have hfy := freeN_yes (bl := 128) (left := left) (n := nN x) hn1 (by omega) (by omega)
            have Hfy := hid hfy
            have Hmay := hid hmay
            clear hfy hmay
            go_wp2_with fail
            refine ssave_k H3.out (by decide) q' x Hmay.out HV3.out (by omega) Hfa.out (by omega) Hfy.out.1 _ ?_
            intro a p' TP' w4 hh
            rw [Hfy.out.2.1, Hfy.out.2.2] at hh
            obtain ⟨ha, hab, hS4, hA4, hg4, hf4⟩ := hh
            have hput : uput (us1 rs) ⟨a, nN x, 1⟩ = us1 (rs ++ [⟨a, nN x⟩]) := by rw [ha]; exact us1_put hpos.out
            rw [hput] at hS4
            have hpos2 := hid (show ∀ r ∈ rs ++ [(⟨a, nN x⟩ : Rn)], 1 ≤ r.n ∧ r.a + r.n ≤ 128 - (left - nN x) from by rw [ha]; exact pos_add hpos.out hn1 (by omega) (by omega))
            have HA4 := hid hA4
            have HG4 := hid hg4
            have HS4 := hid hS4
            have ha128 : a ≤ 128 := by omega
            have Hab := hid hab
            have Hk := hid (show w4.heap.size = w4.heap.size from rfl)
            clear ha hab hput hA4 hg4 hS4 hf4 H3 HV3 Hfy hpos
            generalize rs ++ [(⟨a, nN x⟩ : Rn)] = rs2 at *
            obtain ⟨N, hN⟩ : ∃ N, N = nN x := ⟨_, rfl⟩
            rw [← hN]
            rw [← hN] at HS4 hpos2 Hab hnx hn1
            have HN := hid hN
            clear hN Hk
            go_upto_region 14 with (fail)
            obtain ⟨W5, hW5⟩ : ∃ W5, W5 = w4.alloc (.cells #[.int .i64 (a : Nat), .int .i64 (N : Nat), .int .i64 (g : Nat)] 57) := ⟨_, rfl⟩
            obtain ⟨kb, hkb⟩ : ∃ kb, kb = w4.heap.size := ⟨_, rfl⟩
            have hk5 : Blk W5 kb #[.int .i64 (a : Nat), .int .i64 (N : Nat), .int .i64 (g : Nat)] 57 := by rw [hW5, hkb]; exact Blk.new _ _ _
            have hf5 : Fr Nil w4 W5 := by rw [hW5]; exact (Fr.refl _ _).alloc _
            rw [← hW5, ← hkb]
            have H5 := hid (HS4.out.drop (Q := fun k => k = kb) hf5 (fun k hk => .inr (by omega)) fun k hk => by rw [hk]; exact hk5.lt)
            have HK5 := hid hk5
            have Hkb0 := hid (show W0.heap.size ≤ kb from by have := HS4.out.g.fr0.size; omega)
            have fw5 : Fr Nil w W5 := F0.out.then H5.out.g.fr0
            have HVS5 := hid (Hvs.out.nil fw5)
            obtain ⟨d0, d1, d2, d3, d4⟩ := (Hnd.out.fr fw5).all
            have hblw := Nat.lt_of_lt_of_le Hbl.out fw5.size
            clear hW5 hkb hk5 hf5 fw5 HS4
            go_wp2_with fail
            refine (nd.refmay_ok _ q x true (decide_eq_true Hmay.out) W5 HVS5.out).mono ?_
            rintro e w6 ⟨rfl, f6⟩
            have H6 := hid (H5.out.nil f6)
            have HK6 := hid (HK5.out.fr f6 fun h => h)
            clear f6 H5 HVS5 HK5 d0 d1 d2 d3 d4 hblw
            have k0 : w6.cell? ⟨kb, 0, none⟩ = some (.int .i64 (a : Nat)) := HK6.out.cell 0
            have k1 : w6.cell? ⟨kb, 1, none⟩ = some (.int .i64 (N : Nat)) := HK6.out.cell 1
            have k2 : w6.cell? ⟨kb, 2, none⟩ = some (.int .i64 (g : Nat)) := HK6.out.cell 2
            have hkl := HK6.out.lt
            have HX := hid (show frm p' a N = frameF 78 g (datN x) from by rw [HN.out]; exact frm_chunks (frameF_length 78 g (datN x)) HG4.out)
            have HBy := hid (fr_byt 78 g (datN x) (by decide) (encs_byt _))
            go_wp2_with fail
            refine sload_gen H6.out a N g (frameF 78 g (datN x)) HX.out HBy.out hn1 (by omega) (by omega) (HA4.out.fa.trans Hfa.out) (by omega) Hab.out _ ?_
            intro e p2 w7 hh
            obtain ⟨hL, hS7, hA7, hf7⟩ := hh
            rw [loadF_frame Hmay.out (by omega), if_pos rfl] at hL
            obtain ⟨q2, rfl, hV7⟩ := hL
            have HT := hid (fun k (hk : TP' k) => (H6.out.q k (.inl hk)).2)
            have H7 := hid hS7
            have HK7 := hid (HK6.out.fr hf7 fun h => HT.out _ h rfl)
            have HV7 := hid hV7
            have Hfa7 := hid (hA7.fa.trans (HA4.out.fa.trans Hfa.out))
            have HX7 := hid (show frm p2 a N = frameF 78 g (datN x) from by rw [← HX.out]; unfold frm; rw [List.flatMap_def, List.flatMap_def]; congr 1; exact List.map_congr_left fun j _ => hA7.get _ fun h => h)
            clear hS7 hA7 hf7 hV7 k0 k1 k2 hkl H6 HK6 HT HX HA4 HG4
            unfold ncells
            go_upto_region 18 with (fail)
            obtain ⟨W8, hW8⟩ : ∃ W8, W8 = w7.alloc (.cells #[.int .i64 x.h, .slice q2.A1 x.ks.length q2.c1, .slice q2.A2 x.ps.length q2.c2, .slice q2.A3 x.gs.length q2.c3, .slice q2.A4 x.ds.length q2.c4] 62) := ⟨_, rfl⟩
            obtain ⟨xb, hxb⟩ : ∃ xb, xb = w7.heap.size := ⟨_, rfl⟩
            have hx8 : Blk W8 xb (ncells x q2) 62 := by rw [hW8, hxb]; exact Blk.new _ _ _
            have hf8 : Fr Nil w7 W8 := by rw [hW8]; exact (Fr.refl _ _).alloc _
            rw [← hW8, ← hxb]
            have H8 := hid (H7.out.nil hf8.drew)
            have fw8 : Fr Nil w W8.drew := F0.out.then H8.out.g.fr0
            have HV8 := hid (Hvs.out.nil fw8)
            have HQ8 := hid (HV7.out.nil hf8.drew)
            have HK8 := hid (HK7.out.fr hf8.drew fun h => h)
            have hblw : b < W8.heap.size := Nat.lt_of_lt_of_le Hbl.out fw8.size
            have hS : (fun w' : World => (w'.cell? ⟨xb, 0, none⟩ = some (.int .i64 x.h) ∧ w'.cell? ⟨xb, 1, none⟩ = some (.slice q2.A1 x.ks.length q2.c1) ∧ w'.cell? ⟨xb, 2, none⟩ = some (.slice q2.A2 x.ps.length q2.c2) ∧ w'.cell? ⟨xb, 3, none⟩ = some (.slice q2.A3 x.gs.length q2.c3) ∧ w'.cell? ⟨xb, 4, none⟩ = some (.slice q2.A4 x.ds.length q2.c4)) ∧ (w'.cell? ⟨b, o + i * 5, none⟩ = some (.int .i64 x.h) ∧ w'.cell? ⟨b, o + i * 5 + 1, none⟩ = some (.slice q.A1 x.ks.length q.c1) ∧ w'.cell? ⟨b, o + i * 5 + 2, none⟩ = some (.slice q.A2 x.ps.length q.c2) ∧ w'.cell? ⟨b, o + i * 5 + 3, none⟩ = some (.slice q.A3 x.gs.length q.c3) ∧ w'.cell? ⟨b, o + i * 5 + 4, none⟩ = some (.slice q.A4 x.ds.length q.c4)) ∧ w'.cell? ⟨kb, 2, none⟩ = some (.int .i64 (g : Nat)) ∧ w'.cell? ⟨nb, 0, none⟩ = some (.int .u16 (n0 : Nat))) W8.drew := ⟨nd_cells hx8.drew, (Hnd.out.fr fw8).all, HK8.out.cell 2, (HB0.out.fr H8.out.g.fr0 fun h => h).cell 0⟩
            have HSX := hid (fun (w' : World) (hf : Fr Nil W8.drew w') => show (fun w' : World => (w'.cell? ⟨xb, 0, none⟩ = some (.int .i64 x.h) ∧ w'.cell? ⟨xb, 1, none⟩ = some (.slice q2.A1 x.ks.length q2.c1) ∧ w'.cell? ⟨xb, 2, none⟩ = some (.slice q2.A2 x.ps.length q2.c2) ∧ w'.cell? ⟨xb, 3, none⟩ = some (.slice q2.A3 x.gs.length q2.c3) ∧ w'.cell? ⟨xb, 4, none⟩ = some (.slice q2.A4 x.ds.length q2.c4)) ∧ (w'.cell? ⟨b, o + i * 5, none⟩ = some (.int .i64 x.h) ∧ w'.cell? ⟨b, o + i * 5 + 1, none⟩ = some (.slice q.A1 x.ks.length q.c1) ∧ w'.cell? ⟨b, o + i * 5 + 2, none⟩ = some (.slice q.A2 x.ps.length q.c2) ∧ w'.cell? ⟨b, o + i * 5 + 3, none⟩ = some (.slice q.A3 x.gs.length q.c3) ∧ w'.cell? ⟨b, o + i * 5 + 4, none⟩ = some (.slice q.A4 x.ds.length q.c4)) ∧ w'.cell? ⟨kb, 2, none⟩ = some (.int .i64 (g : Nat)) ∧ w'.cell? ⟨nb, 0, none⟩ = some (.int .u16 (n0 : Nat))) w' from ⟨nd_cells (Blk.fr (w := W8.drew) hx8.drew hf fun h => h), ((Hnd.out.fr fw8).fr hf).all, (HK8.out.fr hf fun h => h).cell 2, (HB0.out.fr (H8.out.g.fr0.then hf) fun h => h).cell 0⟩)
            clear hW8 hxb hx8 hf8 H7 HK7 HV7 fw8
            have hwn : IntKind.i64.wrap (n0 : Int) = (n0 : Int) := by rw [IntKind.wrap_i64]; omega
            have hwg : IntKind.i64.wrap (g : Int) = (g : Int) := by rw [IntKind.wrap_i64]; omega
            refine wpU_region (k := 25) (S := (fun w' : World => (w'.cell? ⟨xb, 0, none⟩ = some (.int .i64 x.h) ∧ w'.cell? ⟨xb, 1, none⟩ = some (.slice q2.A1 x.ks.length q2.c1) ∧ w'.cell? ⟨xb, 2, none⟩ = some (.slice q2.A2 x.ps.length q2.c2) ∧ w'.cell? ⟨xb, 3, none⟩ = some (.slice q2.A3 x.gs.length q2.c3) ∧ w'.cell? ⟨xb, 4, none⟩ = some (.slice q2.A4 x.ds.length q2.c4)) ∧ (w'.cell? ⟨b, o + i * 5, none⟩ = some (.int .i64 x.h) ∧ w'.cell? ⟨b, o + i * 5 + 1, none⟩ = some (.slice q.A1 x.ks.length q.c1) ∧ w'.cell? ⟨b, o + i * 5 + 2, none⟩ = some (.slice q.A2 x.ps.length q.c2) ∧ w'.cell? ⟨b, o + i * 5 + 3, none⟩ = some (.slice q.A3 x.gs.length q.c3) ∧ w'.cell? ⟨b, o + i * 5 + 4, none⟩ = some (.slice q.A4 x.ds.length q.c4)) ∧ w'.cell? ⟨kb, 2, none⟩ = some (.int .i64 (g : Nat)) ∧ w'.cell? ⟨nb, 0, none⟩ = some (.int .u16 (n0 : Nat)))) (by kernel_rfl) ?_
            refine wpU_take (i := 0) (v := ?_) rfl (by kernel_rfl) (by kernel_rfl) (fun _ _ _ h => h) _ _ _ _ (by kernel_rfl) (by kernel_rfl) (by kernel_rfl) (Or.inl ⟨by kernel_rfl, ?_⟩) hS ?_
            rotate_left
            · (intro w9 hS9; obtain ⟨s0, s1, s2, s3⟩ := hS9; go_simp); (try with_reducible rfl)
            try simp only [Act.put, List.getElem_toArray, List.getElem_cons_succ, List.getElem_cons_zero, List.setIfInBounds_toArray, List.set_cons_zero, List.set_cons_succ]
            refine wpU_take (i := 1) (v := ?_) rfl (by kernel_rfl) (by kernel_rfl) (fun _ _ _ h => h) _ _ _ _ (by kernel_rfl) (by kernel_rfl) (by kernel_rfl) (Or.inl ⟨by kernel_rfl, ?_⟩) hS ?_
            rotate_left
            · (intro w9 hS9; obtain ⟨s0, s1, s2, s3⟩ := hS9; go_simp); (try with_reducible rfl)
            try simp only [Act.put, List.getElem_toArray, List.getElem_cons_succ, List.getElem_cons_zero, List.setIfInBounds_toArray, List.set_cons_zero, List.set_cons_succ]
            refine wpU_take (i := 2) (v := ?_) rfl (by kernel_rfl) (by kernel_rfl) (fun _ _ _ h => h) _ _ _ _ (by kernel_rfl) (by kernel_rfl) (by kernel_rfl) (Or.inl ⟨by kernel_rfl, ?_⟩) hS ?_
            rotate_left
            · (intro w9 hS9; obtain ⟨s0, s1, s2, s3⟩ := hS9; go_simp); (try with_reducible rfl)
            try simp only [Act.put, List.getElem_toArray, List.getElem_cons_succ, List.getElem_cons_zero, List.setIfInBounds_toArray, List.set_cons_zero, List.set_cons_succ]
            refine wpU_take (i := 3) (v := ?_) rfl (by kernel_rfl) (by kernel_rfl) (fun _ _ _ h => h) _ _ _ _ (by kernel_rfl) (by kernel_rfl) (by kernel_rfl) (Or.inl ⟨by kernel_rfl, ?_⟩) hS ?_
            rotate_left
            · (intro w9 hS9; obtain ⟨s0, s1, s2, s3⟩ := hS9; go_simp); (try with_reducible rfl)
            try simp only [Act.put, List.getElem_toArray, List.getElem_cons_succ, List.getElem_cons_zero, List.setIfInBounds_toArray, List.set_cons_zero, List.set_cons_succ]
            refine wpU_take (i := 4) (v := ?_) rfl (by kernel_rfl) (by kernel_rfl) (fun _ _ _ h => h) _ _ _ _ (by kernel_rfl) (by kernel_rfl) (by kernel_rfl) (Or.inl ⟨by kernel_rfl, ?_⟩) hS ?_
            rotate_left
            · (intro w9 hS9; obtain ⟨s0, s1, s2, s3⟩ := hS9; go_simp); (try with_reducible rfl)
            try simp only [Act.put, List.getElem_toArray, List.getElem_cons_succ, List.getElem_cons_zero, List.setIfInBounds_toArray, List.set_cons_zero, List.set_cons_succ]
            refine wpU_take (i := 5) (v := ?_) rfl (by kernel_rfl) (by kernel_rfl) (fun _ _ _ h => h) _ _ _ _ (by kernel_rfl) (by kernel_rfl) (by kernel_rfl) (Or.inl ⟨by kernel_rfl, ?_⟩) hS ?_
            rotate_left
            · (intro w9 hS9; obtain ⟨s0, s1, s2, s3⟩ := hS9; go_simp); (try with_reducible rfl)
            try simp only [Act.put, List.getElem_toArray, List.getElem_cons_succ, List.getElem_cons_zero, List.setIfInBounds_toArray, List.set_cons_zero, List.set_cons_succ]
            refine wpU_take (i := 6) (v := ?_) rfl (by kernel_rfl) (by kernel_rfl) (fun _ _ _ h => h) _ _ _ _ (by kernel_rfl) (by kernel_rfl) (by kernel_rfl) (Or.inl ⟨by kernel_rfl, ?_⟩) hS ?_
            rotate_left
            · (intro w9 hS9; obtain ⟨s0, s1, s2, s3⟩ := hS9; go_simp); (try with_reducible rfl)
            try simp only [Act.put, List.getElem_toArray, List.getElem_cons_succ, List.getElem_cons_zero, List.setIfInBounds_toArray, List.set_cons_zero, List.set_cons_succ]
            refine wpU_take (i := 7) (v := ?_) rfl (by kernel_rfl) (by kernel_rfl) (fun _ _ _ h => h) _ _ _ _ (by kernel_rfl) (by kernel_rfl) (by kernel_rfl) (Or.inl ⟨by kernel_rfl, ?_⟩) hS ?_
            rotate_left
            · (intro w9 hS9; obtain ⟨s0, s1, s2, s3⟩ := hS9; go_simp); (try with_reducible rfl)
            try simp only [Act.put, List.getElem_toArray, List.getElem_cons_succ, List.getElem_cons_zero, List.setIfInBounds_toArray, List.set_cons_zero, List.set_cons_succ]
            refine wpU_take (i := 8) (v := ?_) rfl (by kernel_rfl) (by kernel_rfl) (fun _ _ _ h => h) _ _ _ _ (by kernel_rfl) (by kernel_rfl) (by kernel_rfl) (Or.inl ⟨by kernel_rfl, ?_⟩) hS ?_
            rotate_left
            · (intro w9 hS9; obtain ⟨s0, s1, s2, s3⟩ := hS9; go_simp); (try with_reducible rfl)
            try simp only [Act.put, List.getElem_toArray, List.getElem_cons_succ, List.getElem_cons_zero, List.setIfInBounds_toArray, List.set_cons_zero, List.set_cons_succ]
            refine wpU_take (i := 9) (v := ?_) rfl (by kernel_rfl) (by kernel_rfl) (fun _ _ _ h => h) _ _ _ _ (by kernel_rfl) (by kernel_rfl) (by kernel_rfl) (Or.inl ⟨by kernel_rfl, ?_⟩) hS ?_
            rotate_left
            · (intro w9 hS9; obtain ⟨s0, s1, s2, s3⟩ := hS9; go_simp); (try with_reducible rfl)
            try simp only [Act.put, List.getElem_toArray, List.getElem_cons_succ, List.getElem_cons_zero, List.setIfInBounds_toArray, List.set_cons_zero, List.set_cons_succ]
            refine wpU_take (i := 10) (v := ?_) rfl (by kernel_rfl) (by kernel_rfl) (fun _ _ _ h => h) _ _ _ _ (by kernel_rfl) (by kernel_rfl) (by kernel_rfl) (Or.inl ⟨by kernel_rfl, ?_⟩) hS ?_
            rotate_left
            · (intro w9 hS9; obtain ⟨s0, s1, s2, s3⟩ := hS9; go_simp); (try with_reducible rfl)
            try simp only [Act.put, List.getElem_toArray, List.getElem_cons_succ, List.getElem_cons_zero, List.setIfInBounds_toArray, List.set_cons_zero, List.set_cons_succ]
            refine wpU_take (i := 11) (v := ?_) rfl (by kernel_rfl) (by kernel_rfl) (fun _ _ _ h => h) _ _ _ _ (by kernel_rfl) (by kernel_rfl) (by kernel_rfl) (Or.inl ⟨by kernel_rfl, ?_⟩) hS ?_
            rotate_left
            · (intro w9 hS9; obtain ⟨s0, s1, s2, s3⟩ := hS9; go_simp); (try with_reducible rfl)
            try simp only [Act.put, List.getElem_toArray, List.getElem_cons_succ, List.getElem_cons_zero, List.setIfInBounds_toArray, List.set_cons_zero, List.set_cons_succ]
            refine wpU_take (i := 12) (v := ?_) rfl (by kernel_rfl) (by kernel_rfl) (fun _ _ _ h => h) _ _ _ _ (by kernel_rfl) (by kernel_rfl) (by kernel_rfl) (Or.inl ⟨by kernel_rfl, ?_⟩) hS ?_
            rotate_left
            · (intro w9 hS9; obtain ⟨s0, s1, s2, s3⟩ := hS9; go_simp); (try with_reducible rfl)
            try simp only [Act.put, List.getElem_toArray, List.getElem_cons_succ, List.getElem_cons_zero, List.setIfInBounds_toArray, List.set_cons_zero, List.set_cons_succ]
            refine wpU_take (i := 13) (v := ?_) rfl (by kernel_rfl) (by kernel_rfl) (fun _ _ _ h => h) _ _ _ _ (by kernel_rfl) (by kernel_rfl) (by kernel_rfl) (Or.inl ⟨by kernel_rfl, ?_⟩) hS ?_
            rotate_left
            · (intro w9 hS9; obtain ⟨s0, s1, s2, s3⟩ := hS9; go_simp); (try with_reducible rfl)
            try simp only [Act.put, List.getElem_toArray, List.getElem_cons_succ, List.getElem_cons_zero, List.setIfInBounds_toArray, List.set_cons_zero, List.set_cons_succ]
            refine wpU_take (i := 14) (v := ?_) rfl (by kernel_rfl) (by kernel_rfl) (fun _ _ _ h => h) _ _ _ _ (by kernel_rfl) (by kernel_rfl) (by kernel_rfl) (Or.inl ⟨by kernel_rfl, ?_⟩) hS ?_
            rotate_left
            · (intro w9 hS9; obtain ⟨s0, s1, s2, s3⟩ := hS9; go_simp); (try with_reducible rfl)
            try simp only [Act.put, List.getElem_toArray, List.getElem_cons_succ, List.getElem_cons_zero, List.setIfInBounds_toArray, List.set_cons_zero, List.set_cons_succ]
            refine wpU_take (i := 15) (v := ?_) rfl (by kernel_rfl) (by kernel_rfl) (fun _ _ _ h => h) _ _ _ _ (by kernel_rfl) (by kernel_rfl) (by kernel_rfl) (Or.inl ⟨by kernel_rfl, ?_⟩) hS ?_
            rotate_left
            · (intro w9 hS9; obtain ⟨s0, s1, s2, s3⟩ := hS9; go_simp); (try with_reducible rfl)
            try simp only [Act.put, List.getElem_toArray, List.getElem_cons_succ, List.getElem_cons_zero, List.setIfInBounds_toArray, List.set_cons_zero, List.set_cons_succ]
            refine wpU_take (i := 16) (v := ?_) rfl (by kernel_rfl) (by kernel_rfl) (fun _ _ _ h => h) _ _ _ _ (by kernel_rfl) (by kernel_rfl) (by kernel_rfl) (Or.inl ⟨by kernel_rfl, ?_⟩) hS ?_
            rotate_left
            · (intro w9 hS9; obtain ⟨s0, s1, s2, s3⟩ := hS9; go_simp); (try with_reducible rfl)
            try simp only [Act.put, List.getElem_toArray, List.getElem_cons_succ, List.getElem_cons_zero, List.setIfInBounds_toArray, List.set_cons_zero, List.set_cons_succ]
            refine wpU_take (i := 17) (v := ?_) rfl (by kernel_rfl) (by kernel_rfl) (fun _ _ _ h => h) _ _ _ _ (by kernel_rfl) (by kernel_rfl) (by kernel_rfl) (Or.inl ⟨by kernel_rfl, ?_⟩) hS ?_
            rotate_left
            · (intro w9 hS9; obtain ⟨s0, s1, s2, s3⟩ := hS9; go_simp); (try with_reducible rfl)
            try simp only [Act.put, List.getElem_toArray, List.getElem_cons_succ, List.getElem_cons_zero, List.setIfInBounds_toArray, List.set_cons_zero, List.set_cons_succ]
            refine wpU_take (i := 19) (v := ?_) rfl (by kernel_rfl) (by kernel_rfl) (fun _ _ _ h => h) _ _ _ _ (by kernel_rfl) (by kernel_rfl) (by kernel_rfl) (Or.inl ⟨by kernel_rfl, ?_⟩) hS ?_
            rotate_left
            · (intro w9 hS9; obtain ⟨s0, s1, s2, s3⟩ := hS9; go_simp); (try with_reducible rfl)
            try simp only [Act.put, List.getElem_toArray, List.getElem_cons_succ, List.getElem_cons_zero, List.setIfInBounds_toArray, List.set_cons_zero, List.set_cons_succ]
            refine wpU_take (i := 20) (v := ?_) rfl (by kernel_rfl) (by kernel_rfl) (fun _ _ _ h => h) _ _ _ _ (by kernel_rfl) (by kernel_rfl) (by kernel_rfl) (Or.inl ⟨by kernel_rfl, ?_⟩) hS ?_
            rotate_left
            · (intro w9 hS9; obtain ⟨s0, s1, s2, s3⟩ := hS9; go_simp); (try with_reducible rfl)
            try simp only [Act.put, List.getElem_toArray, List.getElem_cons_succ, List.getElem_cons_zero, List.setIfInBounds_toArray, List.set_cons_zero, List.set_cons_succ]
            refine wpU_take (i := 21) (v := ?_) rfl (by kernel_rfl) (by kernel_rfl) (fun _ _ _ h => h) _ _ _ _ (by kernel_rfl) (by kernel_rfl) (by kernel_rfl) (Or.inl ⟨by kernel_rfl, ?_⟩) hS ?_
            rotate_left
            · (intro w9 hS9; obtain ⟨s0, s1, s2, s3⟩ := hS9; go_simp); (try with_reducible rfl)
            try simp only [Act.put, List.getElem_toArray, List.getElem_cons_succ, List.getElem_cons_zero, List.setIfInBounds_toArray, List.set_cons_zero, List.set_cons_succ]
            refine wpU_take (i := 22) (v := ?_) rfl (by kernel_rfl) (by kernel_rfl) (fun _ _ _ h => h) _ _ _ _ (by kernel_rfl) (by kernel_rfl) (by kernel_rfl) (Or.inl ⟨by kernel_rfl, ?_⟩) hS ?_
            rotate_left
            · (intro w9 hS9; obtain ⟨s0, s1, s2, s3⟩ := hS9; go_simp); (try with_reducible rfl)
            try simp only [Act.put, List.getElem_toArray, List.getElem_cons_succ, List.getElem_cons_zero, List.setIfInBounds_toArray, List.set_cons_zero, List.set_cons_succ]
            refine wpU_next (i := 18) rfl (by kernel_rfl) (fun K hK => ?_)
            go_simp
            refine (nd.lawback_ok _ q2 x (by have := Hfew.out.2.2.2; omega) W8.drew HQ8.out).mono ?_
            rintro e w9 ⟨q7, rfl, hV9, hf9⟩
            have hS9 : (fun w' : World => (w'.cell? ⟨xb, 0, none⟩ = some (.int .i64 x.h) ∧ w'.cell? ⟨xb, 1, none⟩ = some (.slice q2.A1 x.ks.length q2.c1) ∧ w'.cell? ⟨xb, 2, none⟩ = some (.slice q2.A2 x.ps.length q2.c2) ∧ w'.cell? ⟨xb, 3, none⟩ = some (.slice q2.A3 x.gs.length q2.c3) ∧ w'.cell? ⟨xb, 4, none⟩ = some (.slice q2.A4 x.ds.length q2.c4)) ∧ (w'.cell? ⟨b, o + i * 5, none⟩ = some (.int .i64 x.h) ∧ w'.cell? ⟨b, o + i * 5 + 1, none⟩ = some (.slice q.A1 x.ks.length q.c1) ∧ w'.cell? ⟨b, o + i * 5 + 2, none⟩ = some (.slice q.A2 x.ps.length q.c2) ∧ w'.cell? ⟨b, o + i * 5 + 3, none⟩ = some (.slice q.A3 x.gs.length q.c3) ∧ w'.cell? ⟨b, o + i * 5 + 4, none⟩ = some (.slice q.A4 x.ds.length q.c4)) ∧ w'.cell? ⟨kb, 2, none⟩ = some (.int .i64 (g : Nat)) ∧ w'.cell? ⟨nb, 0, none⟩ = some (.int .u16 (n0 : Nat))) w9 := HSX.out w9 hf9
            have HV9 := hid hV9
            have F9 := hid hf9
            clear hS hV9 hf9
            refine hK.out _ _ (fun _ => hS9) ?_
            clear hK K
            try simp only [Act.put, List.getElem_toArray, List.getElem_cons_succ, List.getElem_cons_zero, List.setIfInBounds_toArray, List.set_cons_zero, List.set_cons_succ]
            refine wpU_next (i := 23) rfl (by kernel_rfl) (fun K hK => ?_)
            go_simp
            refine (nd.refsame_ok _ _ q7 q x (nd.may_lens Hmay.out).2.1 w9 HV9.out (HV8.out.nil F9.out)).mono ?_
            rintro e w10 ⟨rfl, hf10⟩
            have hS10 : (fun w' : World => (w'.cell? ⟨xb, 0, none⟩ = some (.int .i64 x.h) ∧ w'.cell? ⟨xb, 1, none⟩ = some (.slice q2.A1 x.ks.length q2.c1) ∧ w'.cell? ⟨xb, 2, none⟩ = some (.slice q2.A2 x.ps.length q2.c2) ∧ w'.cell? ⟨xb, 3, none⟩ = some (.slice q2.A3 x.gs.length q2.c3) ∧ w'.cell? ⟨xb, 4, none⟩ = some (.slice q2.A4 x.ds.length q2.c4)) ∧ (w'.cell? ⟨b, o + i * 5, none⟩ = some (.int .i64 x.h) ∧ w'.cell? ⟨b, o + i * 5 + 1, none⟩ = some (.slice q.A1 x.ks.length q.c1) ∧ w'.cell? ⟨b, o + i * 5 + 2, none⟩ = some (.slice q.A2 x.ps.length q.c2) ∧ w'.cell? ⟨b, o + i * 5 + 3, none⟩ = some (.slice q.A3 x.gs.length q.c3) ∧ w'.cell? ⟨b, o + i * 5 + 4, none⟩ = some (.slice q.A4 x.ds.length q.c4)) ∧ w'.cell? ⟨kb, 2, none⟩ = some (.int .i64 (g : Nat)) ∧ w'.cell? ⟨nb, 0, none⟩ = some (.int .u16 (n0 : Nat))) w10 := HSX.out w10 (F9.out.then hf10)
            have H10 := hid (H8.out.nil (F9.out.then hf10))
            have HK10 := hid (HK8.out.fr (F9.out.then hf10) fun h => h)
            clear hS9 hf10
            refine hK.out _ _ (fun _ => hS10) ?_
            clear hK K
            try simp only [Act.put, List.getElem_toArray, List.getElem_cons_succ, List.getElem_cons_zero, List.setIfInBounds_toArray, List.set_cons_zero, List.set_cons_succ]
            refine wpU_take (i := 24) (v := ?_) rfl (by kernel_rfl) (by kernel_rfl) (fun _ _ _ h => h) _ _ _ _ (by kernel_rfl) (by kernel_rfl) (by kernel_rfl) (Or.inl ⟨by kernel_rfl, ?_⟩) hS10 ?_
            rotate_left
            · (intro w9 hS9; obtain ⟨s0, s1, s2, s3⟩ := hS9; go_simp); (try with_reducible rfl)
            try simp only [Act.put, List.getElem_toArray, List.getElem_cons_succ, List.getElem_cons_zero, List.setIfInBounds_toArray, List.set_cons_zero, List.set_cons_succ]
            refine wpU_next (i := 25) rfl (by kernel_rfl) (fun K hK => ?_)
            go_simp
            refine hK.out _ _ (fun h => absurd rfl h.1) ?_
            refine wpU_done (by kernel_rfl) ?_ _
            clear hK K
            clear hS10 HSX H8 HK8 HV8 HQ8 HV9 F9 hblw
            have k2 : w10.cell? ⟨kb, 2, none⟩ = some (.int .i64 (g : Nat)) := HK10.out.cell 2
            have z2 := HK10.out.frozen 2
            have cn1 : w10.cell? ⟨nb, 1, none⟩ = some (.int .u16 (n1 : Nat)) := (HB0.out.fr H10.out.g.fr0 fun h => h).cell 1
            have hkl := HK10.out.lt
            have hnbl := (HB0.out.fr H10.out.g.fr0 fun h => h).lt
            obtain ⟨g2, hg2⟩ : ∃ g2, g2 = g + 1 + n1 := ⟨_, rfl⟩
            have hgi2 : (g : Int) + 1 + (n1 : Int) = (g2 : Int) := by omega
            have hgb : (g2 : Int) - 1 - (n1 : Int) = (g : Int) := by omega
            have hg29 : g2 ≤ 200000 := by omega
            have Hg2 := hid (show g ≠ g2 by omega)
            clear hg2
            have Hst := hid (HK10.out.set 2 (.int .i64 (g2 : Nat)))
            have hfs : Fr (fun k => k = kb) w10 (w10.setCell ⟨kb, 2, none⟩ (.int .i64 (g2 : Nat))) := (Fr.refl (fun k => k = kb) w10).setCell (a := ⟨kb, 2, none⟩) (.inl rfl) _
            have H11 := hid (H10.out.app (Q := fun k => k = kb) hfs (fun k hk => hk) (fun k hk => by rw [hk]; exact Hkb0.out) fun k hk => ⟨.inl hk, Nat.lt_of_lt_of_le (H10.out.tlt k (.inl hk)) hfs.size⟩)
            clear hfs H10 HK10
            go_upto_region 21 with (fail)
            generalize w10.setCell ⟨kb, 2, none⟩ (.int .i64 (g2 : Nat)) = w11 at *
            have HK11 := hid (show Blk w11 kb #[.int .i64 (a : Nat), .int .i64 (N : Nat), .int .i64 (g2 : Nat)] 57 from Hst.out)
            clear k2 z2 cn1 hkl hnbl Hst
            have k0 : w11.cell? ⟨kb, 0, none⟩ = some (.int .i64 (a : Nat)) := HK11.out.cell 0
            have k1 : w11.cell? ⟨kb, 1, none⟩ = some (.int .i64 (N : Nat)) := HK11.out.cell 1
            have k2 : w11.cell? ⟨kb, 2, none⟩ = some (.int .i64 (g2 : Nat)) := HK11.out.cell 2
            have hkl := HK11.out.lt
            go_wp2_with fail
            refine sload_gen H11.out a N g2 (frameF 78 g (datN x)) HX7.out HBy.out hn1 (by omega) (by omega) Hfa7.out (by omega) Hab.out _ ?_
            intro e p3 w12 hh
            obtain ⟨hL, hS12, hA12, hf12⟩ := hh
            rw [loadF_frame Hmay.out (by omega), if_neg Hg2.out] at hL
            obtain rfl : e = _ := hL
            have HT := hid (fun k (hk : TP' k) => (H11.out.q k (.inl hk)).2)
            have H12 := hid hS12
            have HK12 := hid (HK11.out.fr hf12 fun h => HT.out _ h rfl)
            have Hfa12 := hid (hA12.fa.trans Hfa7.out)
            have HX12 := hid (show frm p3 a N = frameF 78 g (datN x) from by rw [← HX7.out]; unfold frm; rw [List.flatMap_def, List.flatMap_def]; congr 1; exact List.map_congr_left fun j _ => hA12.get _ fun h => h)
            clear hS12 hA12 hf12 k0 k1 k2 hkl H11 HK11 HT HX7 Hfa7
            unfold nd.nil5
            go_upto_region 22 with (fail)
            have hf13 : Fr Nil w12 (w12.alloc (.cells #[.int .i64 0, .slice none 0 0, .slice none 0 0, .slice none 0 0, .slice none 0 0] 62)) := (Fr.refl _ _).alloc _
            have H13 := hid (H12.out.nil hf13)
            have HK13 := hid (HK12.out.fr hf13 fun h => h)
            clear hf13 H12 HK12
            generalize w12.alloc (.cells #[.int .i64 0, .slice none 0 0, .slice none 0 0, .slice none 0 0, .slice none 0 0] 62) = w13 at *
            have k2 : w13.cell? ⟨kb, 2, none⟩ = some (.int .i64 (g2 : Nat)) := HK13.out.cell 2
            have z2 := HK13.out.frozen 2
            have cn1 : w13.cell? ⟨nb, 1, none⟩ = some (.int .u16 (n1 : Nat)) := (HB0.out.fr H13.out.g.fr0 fun h => h).cell 1
            have hkl := HK13.out.lt
            have hnbl := (HB0.out.fr H13.out.g.fr0 fun h => h).lt
            have Hst := hid (HK13.out.set 2 (.int .i64 (g : Nat)))
            have hfs : Fr (fun k => k = kb) w13 (w13.setCell ⟨kb, 2, none⟩ (.int .i64 (g : Nat))) := (Fr.refl (fun k => k = kb) w13).setCell (a := ⟨kb, 2, none⟩) (.inl rfl) _
            have H14 := hid (H13.out.app (Q := fun k => k = kb) hfs (fun k hk => hk) (fun k hk => by rw [hk]; exact Hkb0.out) fun k hk => ⟨.inl hk, Nat.lt_of_lt_of_le (H13.out.tlt k (.inl hk)) hfs.size⟩)
            clear hfs H13 HK13
            go_upto_region 23 with (fail)
            generalize w13.setCell ⟨kb, 2, none⟩ (.int .i64 (g : Nat)) = w14 at *
            have HK14 := hid (show Blk w14 kb #[.int .i64 (a : Nat), .int .i64 (N : Nat), .int .i64 (g : Nat)] 57 from Hst.out)
            clear k2 z2 cn1 hkl hnbl Hst hgi2 hgb
            have k0 : w14.cell? ⟨kb, 0, none⟩ = some (.int .i64 (a : Nat)) := HK14.out.cell 0
            have k1 : w14.cell? ⟨kb, 1, none⟩ = some (.int .i64 (N : Nat)) := HK14.out.cell 1
            have k2 : w14.cell? ⟨kb, 2, none⟩ = some (.int .i64 (g : Nat)) := HK14.out.cell 2
            have hkl := HK14.out.lt
            go_wp2_with fail
            refine (opened_bad H14.out a N (g : Nat) hn1 (by omega) Hab.out Hfa12.out (by omega) (by rw [HX12.out, (openF_frame (k := 78) (k2 := 231) (by decide) (show g ≤ 2147483647 by omega) (show (datN x).length ≤ 4096 by have := datN_len Hmay.out; omega)).1, if_pos (by decide)]; decide)).mono ?_
            rintro e w15 ⟨er, p4, her, rfl, hS15, hA15, hf15⟩
            have HT := hid (fun k (hk : TP' k) => (H14.out.q k (.inl hk)).2)
            have H15 := hid hS15
            have HK15 := hid (HK14.out.fr hf15 fun h => HT.out _ h rfl)
            have Hfa15 := hid (hA15.fa.trans Hfa12.out)
            have hern : (er == 0) = false := by simp; exact her
            clear hS15 hA15 hf15 her k0 k1 k2 hkl H14 HK14 HT HX12 Hfa12
            go_wp2_with fail
            refine (sync_ok TP' plb p4 w15 H15.out.pl (H15.out.ok.ok (by omega)) (not_bad Hfa15.out 3)).mono ?_
            rintro e w16 ⟨rfl, hp16, hf16⟩
            have HT := hid (fun k (hk : TP' k) => (H15.out.q k (.inl hk)).2)
            have H16 := hid (H15.out.plat hp16.bd (fun k hk => ⟨.inl hk.1, hk.2⟩) hf16 ((H15.out.ok.ask 3).settle _) (settle_bl _))
            have HK16 := hid (HK15.out.fr hf16 fun h => HT.out _ h rfl)
            have Hfa16 := hid (show ((p4.ask 3).settle fun _ => true).fa = [] from Hfa15.out)
            clear hp16 hf16 H15 HK15 HT Hfa15 hern
            generalize (p4.ask 3).settle (fun _ => true) = p5 at *
            generalize (fun k => TP' k ∧ k < w16.heap.size) = TQ at *
            have k0 : w16.cell? ⟨kb, 0, none⟩ = some (.int .i64 (a : Nat)) := HK16.out.cell 0
            have hkl := HK16.out.lt
            obtain ⟨bit, hbit⟩ : ∃ bit, bit = at2 % 480 := ⟨_, rfl⟩
            have hbi : (at2 : Int) % 480 = (bit : Int) := by omega
            have hb480 : bit < 480 := by omega
            have hapl : a < p5.bl.length := by rw [H16.out.pbl]; have := Hab.out; omega
            clear hbit
            go_wp2_with fail
            refine (rot_ok TQ plb p5 a bit mk w16 H16.out.pl hapl (by omega) h3).mono ?_
            rintro e w17 ⟨rfl, hp17, hf17⟩
            have HT := hid (fun k (hk : TQ k) => (H16.out.q k (.inl hk)).2)
            have H17 := hid (H16.out.plat (p' := p5.rot a bit mk) hp17.bd (fun k hk => hk) hf17 (okm_rot H16.out.ok a bit mk) (by simp [Pl.rot]))
            have HK17 := hid (HK16.out.fr hf17 fun h => HT.out _ h rfl)
            have Hfa17 := hid (show (p5.rot a bit mk).fa = [] from Hfa16.out)
            clear hp17 hf17 H16 HK16 HT Hfa16 k0 hkl hbi hb480 hapl
            generalize p5.rot a bit mk = p6 at *
            generalize (fun k => Grow w16 TQ k ∧ k < w17.heap.size) = TR at *
            have Hfr := hid (frm_all H17.out.pl (a := a) N (by rw [H17.out.pbl]; exact Hab.out))
            have k0 : w17.cell? ⟨kb, 0, none⟩ = some (.int .i64 (a : Nat)) := HK17.out.cell 0
            have k1 : w17.cell? ⟨kb, 1, none⟩ = some (.int .i64 (N : Nat)) := HK17.out.cell 1
            have hkl := HK17.out.lt
            go_wp2_with fail
            refine (sread_ok H17.out a N hn1 Hab.out (by omega)).mono ?_
            rintro e w18 ⟨er2, kk, cb, ys, B, p7, rfl, hrow, hS18, hA18, hcase, hok, hF⟩
            obtain rfl : er2 = 0 := hok Hfa17.out
            obtain ⟨rfl, rfl⟩ : kk = 64 * N ∧ ys = frm p6 a N := by
              rcases hcase with h | h
              · exact h.2
              · exact absurd h.1 (by decide)
            obtain ⟨gB, cc, hBe, hgB, hglB⟩ := hrow.form (by omega)
            injection hBe with hBe _ hcc
            subst hBe; subst hcc
            have HT := hid (fun k (hk : TR k) => (H17.out.q k (.inl hk)).2)
            have H18 := hid (hS18.sub (Q := fun k => k = kb) fun k hk => .inl hk)
            have HK18 := hid (HK17.out.fr hF fun h => HT.out _ h rfl)
            have HW := hid hrow
            have Hfa18 := hid (hA18.fa.trans Hfa17.out)
            have HX18 := hid (show frm p7 a N = frm p6 a N from by unfold frm; rw [List.flatMap_def, List.flatMap_def]; congr 1; exact List.map_congr_left fun j _ => hA18.get _ fun h => h)
            clear hrow hS18 hA18 hcase hok hF k0 k1 hkl H17 HK17 HT Hfa17
            generalize frm p6 a N = ys at *
            go_wp2_with fail
            refine (refopen_ok _ 78 (by decide) gB 0 (64 * N) cb ys (by omega) (by omega) w18 HW.out.view Hfr.out.2).mono ?_
            rintro e w19 ⟨⟨gz, vz, rfl⟩, hf19⟩
            have H19 := hid (H18.out.nil hf19)
            have HK19 := hid (HK18.out.fr hf19 fun h => h)
            clear hf19 H18 HK18 HW
            have k0 : w19.cell? ⟨kb, 0, none⟩ = some (.int .i64 (a : Nat)) := HK19.out.cell 0
            have k1 : w19.cell? ⟨kb, 1, none⟩ = some (.int .i64 (N : Nat)) := HK19.out.cell 1
            have k2 : w19.cell? ⟨kb, 2, none⟩ = some (.int .i64 (g : Nat)) := HK19.out.cell 2
            have hkl := HK19.out.lt
            obtain ⟨wt, hwt⟩ : ∃ wt, wt = openF 78 ys := ⟨_, rfl⟩
            rw [← hwt]
            have Hwt := hid hwt
            clear hwt
            go_wp2_with fail
            refine sload_gen H19.out a N g ys HX18.out Hfr.out.2 hn1 (by omega) (by omega) Hfa18.out (by omega) Hab.out _ ?_
            intro e p8 w20 hh
            obtain ⟨hL, hS20, hA20, hf20⟩ := hh
            have H20 := hid (hS20.sub (Q := fun _ => False) fun k hk => hk.elim)
            have Hfa20 := hid (hA20.fa.trans Hfa18.out)
            clear hS20 hA20 hf20 k0 k1 k2 hkl H19 HK19 Hfr HX18 Hfa18
            by_cases hw0 : wt = 0
            · have hwi : (wt : Int) = 0 := by omega
              have hwb : ((wt : Int) != 0) = false := by rw [hwi]; rfl
              clear hw0
              cases hlf : loadF g ys with
              | inl y =>
                rw [hlf] at hL
                obtain ⟨qz, rfl, -⟩ := hL
                unfold ncells
                clear hlf
                go_upto_region 31 with (fail)
                have hf21 : Fr Nil w20 (w20.alloc (.cells #[.int .i64 y.h, .slice qz.A1 y.ks.length qz.c1, .slice qz.A2 y.ps.length qz.c2, .slice qz.A3 y.gs.length qz.c3, .slice qz.A4 y.ds.length qz.c4] 62)) := (Fr.refl _ _).alloc _
                have H21 := hid (H20.out.nil hf21)
                clear hf21 H20
                generalize w20.alloc (.cells #[.int .i64 y.h, .slice qz.A1 y.ks.length qz.c1, .slice qz.A2 y.ps.length qz.c2, .slice qz.A3 y.gs.length qz.c3, .slice qz.A4 y.ds.length qz.c4] 62) = w21 at *
                go_wp2_with fail
                exact ⟨⟨i + 1, left - N, m + 2 * N + N + N + N + 1 + N + N, g, TR, p8, rs2, by go_num, by omega, by omega, by omega, by omega, fun h => by omega, Hfa20.out, H21, hpos2⟩, by simp [intOf]; omega⟩
              | inr er3 =>
                rw [hlf] at hL
                obtain rfl : e = _ := hL
                unfold nd.nil5
                clear hlf
                go_upto_region 31 with (fail)
                have hf21 : Fr Nil w20 (w20.alloc (.cells #[.int .i64 0, .slice none 0 0, .slice none 0 0, .slice none 0 0, .slice none 0 0] 62)) := (Fr.refl _ _).alloc _
                have H21 := hid (H20.out.nil hf21)
                clear hf21 H20
                generalize w20.alloc (.cells #[.int .i64 0, .slice none 0 0, .slice none 0 0, .slice none 0 0, .slice none 0 0] 62) = w21 at *
                go_wp2_with fail
                exact ⟨⟨i + 1, left - N, m + 2 * N + N + N + N + 1 + N + N, g, TR, p8, rs2, by go_num, by omega, by omega, by omega, by omega, fun h => by omega, Hfa20.out, H21, hpos2⟩, by simp [intOf]; omega⟩
            · have hlf : loadF g ys = .inr (wt : Nat) := by unfold loadF; rw [if_pos (by rw [← Hwt.out]; exact hw0), ← Hwt.out]
              rw [hlf] at hL
              obtain rfl : e = _ := hL
              unfold nd.nil5
              have hwb : ((wt : Int) == 0) = false := by simp; omega
              have hwi : ¬ (wt : Int) = 0 := by omega
              clear hlf hw0
              go_upto_region 31 with (fail)
              have hf21 : Fr Nil w20 (w20.alloc (.cells #[.int .i64 0, .slice none 0 0, .slice none 0 0, .slice none 0 0, .slice none 0 0] 62)) := (Fr.refl _ _).alloc _
              have H21 := hid (H20.out.nil hf21)
              clear hf21 H20
              generalize w20.alloc (.cells #[.int .i64 0, .slice none 0 0, .slice none 0 0, .slice none 0 0, .slice none 0 0] 62) = w21 at *
              go_wp2_with fail
              exact ⟨⟨i + 1, left - N, m + 2 * N + N + N + N + 1 + N + N, g, TR, p8, rs2, by go_num, by omega, by omega, by omega, by omega, fun h => by omega, Hfa20.out, H21, hpos2⟩, by simp [intOf]; omega⟩
          · go_wp2_with fail
            refine (ssave_bad H3.out q' x hmay HV3.out).mono ?_
            rintro e w4 ⟨rfl, hS4, f4⟩
            have hf5 : Fr Nil w4 (w4.alloc (.cells #[.int .i64 0, .int .i64 0, .int .i64 0] 57)) := (Fr.refl _ _).alloc _
            have H5 := hid (hS4.nil hf5)
            have fw5 : Fr Nil w (w4.alloc (.cells #[.int .i64 0, .int .i64 0, .int .i64 0] 57)) := F0.out.then H5.out.g.fr0
            have HVS5 := hid (Hvs.out.nil fw5)
            have HND5 := hid (Hnd.out.fr fw5)
            have hblw := Nat.lt_of_lt_of_le Hbl.out fw5.size
            clear hS4 f4 hf5 H3 HV3 fw5
            go_upto_region 14 with (fail)
            generalize w4.alloc (.cells #[.int .i64 0, .int .i64 0, .int .i64 0] 57) = W5 at *
            obtain ⟨d0, d1, d2, d3, d4⟩ := HND5.out.all
            go_wp2_with fail
            refine (nd.refmay_ok _ q x false (decide_eq_false hmay) W5 HVS5.out).mono ?_
            rintro e w6 ⟨rfl, f6⟩
            have H6 := hid (H5.out.nil f6)
            clear f6 H5 HVS5 HND5 d0 d1 d2 d3 d4 hblw hmay
            go_wp2_with fail
            exact ⟨⟨i + 1, left, m, g, TP, p, rs, by go_num, by omega, by omega, by omega, by omega, fun h => by omega, Hfa.out, H6, hpos⟩, by simp [intOf]; omega⟩
        · have hi0i : (0 : Int) < (i : Int) := by omega
          have cn0 : w1.cell? ⟨nb, 0, none⟩ = some (.int .u16 (n0 : Nat)) := (HB0.out.fr H1.out.g.fr0 fun h => h).cell 0
          have hnbl := (HB0.out.fr H1.out.g.fr0 fun h => h).lt
          clear hi0
          go_wp2_with fail
          refine (sgen_ok H1.out g).mono ?_
          rintro e w2 ⟨rfl, hS2, -⟩
          have H2 := hid hS2
          clear hS2 H1 cn0 hnbl Hg0
          have fw2 : Fr Nil w w2 := F0.out.then H2.out.g.fr0
          have HVS2 := hid (Hvs.out.nil fw2)
          obtain ⟨d0, d1, d2, d3, d4⟩ := (Hnd.out.fr fw2).all
          have hblw := Nat.lt_of_lt_of_le Hbl.out fw2.size
          clear fw2
          go_wp2_with fail
          refine (nd.lawnode_ok _ q x Hfew.out w2 HVS2.out).mono ?_
          rintro e w3 ⟨q', rfl, hV3, hf3⟩
          have H3 := hid (H2.out.nil hf3)
          have HV3 := hid hV3
          clear hV3 hf3 H2 HVS2 d0 d1 d2 d3 d4 hblw
          by_cases hmay : MayNd x
          · have hnx := nN_le hmay
            have hn1 := nN_pos x
            have hfy := freeN_yes (bl := 128) (left := left) (n := nN x) hn1 (by omega) (by omega)
            have Hfy := hid hfy
            have Hmay := hid hmay
            clear hfy hmay
            go_wp2_with fail
            refine ssave_k H3.out (by decide) q' x Hmay.out HV3.out (by omega) Hfa.out (by omega) Hfy.out.1 _ ?_
            intro a p' TP' w4 hh
            rw [Hfy.out.2.1, Hfy.out.2.2] at hh
            obtain ⟨ha, hab, hS4, hA4, hg4, hf4⟩ := hh
            have hput : uput (us1 rs) ⟨a, nN x, 1⟩ = us1 (rs ++ [⟨a, nN x⟩]) := by rw [ha]; exact us1_put hpos.out
            rw [hput] at hS4
            have hpos2 := hid (show ∀ r ∈ rs ++ [(⟨a, nN x⟩ : Rn)], 1 ≤ r.n ∧ r.a + r.n ≤ 128 - (left - nN x) from by rw [ha]; exact pos_add hpos.out hn1 (by omega) (by omega))
            have HA4 := hid hA4
            have HG4 := hid hg4
            have HS4 := hid hS4
            have ha128 : a ≤ 128 := by omega
            have Hab := hid hab
            have Hk := hid (show w4.heap.size = w4.heap.size from rfl)
            clear ha hab hput hA4 hg4 hS4 hf4 H3 HV3 Hfy hpos
            generalize rs ++ [(⟨a, nN x⟩ : Rn)] = rs2 at *
            obtain ⟨N, hN⟩ : ∃ N, N = nN x := ⟨_, rfl⟩
            rw [← hN]
            rw [← hN] at HS4 hpos2 Hab hnx hn1
            have HN := hid hN
            clear hN Hk
            go_upto_region 14 with (fail)
            obtain ⟨W5, hW5⟩ : ∃ W5, W5 = w4.alloc (.cells #[.int .i64 (a : Nat), .int .i64 (N : Nat), .int .i64 (g : Nat)] 57) := ⟨_, rfl⟩
            obtain ⟨kb, hkb⟩ : ∃ kb, kb = w4.heap.size := ⟨_, rfl⟩
            have hk5 : Blk W5 kb #[.int .i64 (a : Nat), .int .i64 (N : Nat), .int .i64 (g : Nat)] 57 := by rw [hW5, hkb]; exact Blk.new _ _ _
            have hf5 : Fr Nil w4 W5 := by rw [hW5]; exact (Fr.refl _ _).alloc _
            rw [← hW5, ← hkb]
            have H5 := hid (HS4.out.drop (Q := fun k => k = kb) hf5 (fun k hk => .inr (by omega)) fun k hk => by rw [hk]; exact hk5.lt)
            have HK5 := hid hk5
            have Hkb0 := hid (show W0.heap.size ≤ kb from by have := HS4.out.g.fr0.size; omega)
            have fw5 : Fr Nil w W5 := F0.out.then H5.out.g.fr0
            have HVS5 := hid (Hvs.out.nil fw5)
            obtain ⟨d0, d1, d2, d3, d4⟩ := (Hnd.out.fr fw5).all
            have hblw := Nat.lt_of_lt_of_le Hbl.out fw5.size
            clear hW5 hkb hk5 hf5 fw5 HS4
            go_wp2_with fail
            refine (nd.refmay_ok _ q x true (decide_eq_true Hmay.out) W5 HVS5.out).mono ?_
            rintro e w6 ⟨rfl, f6⟩
            have H6 := hid (H5.out.nil f6)
            have HK6 := hid (HK5.out.fr f6 fun h => h)
            clear f6 H5 HVS5 HK5 d0 d1 d2 d3 d4 hblw
            have k0 : w6.cell? ⟨kb, 0, none⟩ = some (.int .i64 (a : Nat)) := HK6.out.cell 0
            have k1 : w6.cell? ⟨kb, 1, none⟩ = some (.int .i64 (N : Nat)) := HK6.out.cell 1
            have k2 : w6.cell? ⟨kb, 2, none⟩ = some (.int .i64 (g : Nat)) := HK6.out.cell 2
            have hkl := HK6.out.lt
            have HX := hid (show frm p' a N = frameF 78 g (datN x) from by rw [HN.out]; exact frm_chunks (frameF_length 78 g (datN x)) HG4.out)
            have HBy := hid (fr_byt 78 g (datN x) (by decide) (encs_byt _))
            go_wp2_with fail
            refine sload_gen H6.out a N g (frameF 78 g (datN x)) HX.out HBy.out hn1 (by omega) (by omega) (HA4.out.fa.trans Hfa.out) (by omega) Hab.out _ ?_
            intro e p2 w7 hh
            obtain ⟨hL, hS7, hA7, hf7⟩ := hh
            rw [loadF_frame Hmay.out (by omega), if_pos rfl] at hL
            obtain ⟨q2, rfl, hV7⟩ := hL
            have HT := hid (fun k (hk : TP' k) => (H6.out.q k (.inl hk)).2)
            have H7 := hid hS7
            have HK7 := hid (HK6.out.fr hf7 fun h => HT.out _ h rfl)
            have HV7 := hid hV7
            have Hfa7 := hid (hA7.fa.trans (HA4.out.fa.trans Hfa.out))
            have HX7 := hid (show frm p2 a N = frameF 78 g (datN x) from by rw [← HX.out]; unfold frm; rw [List.flatMap_def, List.flatMap_def]; congr 1; exact List.map_congr_left fun j _ => hA7.get _ fun h => h)
            clear hS7 hA7 hf7 hV7 k0 k1 k2 hkl H6 HK6 HT HX HA4 HG4
            unfold ncells
            go_upto_region 18 with (fail)
            obtain ⟨W8, hW8⟩ : ∃ W8, W8 = w7.alloc (.cells #[.int .i64 x.h, .slice q2.A1 x.ks.length q2.c1, .slice q2.A2 x.ps.length q2.c2, .slice q2.A3 x.gs.length q2.c3, .slice q2.A4 x.ds.length q2.c4] 62) := ⟨_, rfl⟩
            obtain ⟨xb, hxb⟩ : ∃ xb, xb = w7.heap.size := ⟨_, rfl⟩
            have hx8 : Blk W8 xb (ncells x q2) 62 := by rw [hW8, hxb]; exact Blk.new _ _ _
            have hf8 : Fr Nil w7 W8 := by rw [hW8]; exact (Fr.refl _ _).alloc _
            rw [← hW8, ← hxb]
            have H8 := hid (H7.out.nil hf8.drew)
            have fw8 : Fr Nil w W8.drew := F0.out.then H8.out.g.fr0
            have HV8 := hid (Hvs.out.nil fw8)
            have HQ8 := hid (HV7.out.nil hf8.drew)
            have HK8 := hid (HK7.out.fr hf8.drew fun h => h)
            have hblw : b < W8.heap.size := Nat.lt_of_lt_of_le Hbl.out fw8.size
            have hS : (fun w' : World => (w'.cell? ⟨xb, 0, none⟩ = some (.int .i64 x.h) ∧ w'.cell? ⟨xb, 1, none⟩ = some (.slice q2.A1 x.ks.length q2.c1) ∧ w'.cell? ⟨xb, 2, none⟩ = some (.slice q2.A2 x.ps.length q2.c2) ∧ w'.cell? ⟨xb, 3, none⟩ = some (.slice q2.A3 x.gs.length q2.c3) ∧ w'.cell? ⟨xb, 4, none⟩ = some (.slice q2.A4 x.ds.length q2.c4)) ∧ (w'.cell? ⟨b, o + i * 5, none⟩ = some (.int .i64 x.h) ∧ w'.cell? ⟨b, o + i * 5 + 1, none⟩ = some (.slice q.A1 x.ks.length q.c1) ∧ w'.cell? ⟨b, o + i * 5 + 2, none⟩ = some (.slice q.A2 x.ps.length q.c2) ∧ w'.cell? ⟨b, o + i * 5 + 3, none⟩ = some (.slice q.A3 x.gs.length q.c3) ∧ w'.cell? ⟨b, o + i * 5 + 4, none⟩ = some (.slice q.A4 x.ds.length q.c4)) ∧ w'.cell? ⟨kb, 2, none⟩ = some (.int .i64 (g : Nat)) ∧ w'.cell? ⟨nb, 0, none⟩ = some (.int .u16 (n0 : Nat))) W8.drew := ⟨nd_cells hx8.drew, (Hnd.out.fr fw8).all, HK8.out.cell 2, (HB0.out.fr H8.out.g.fr0 fun h => h).cell 0⟩
            have HSX := hid (fun (w' : World) (hf : Fr Nil W8.drew w') => show (fun w' : World => (w'.cell? ⟨xb, 0, none⟩ = some (.int .i64 x.h) ∧ w'.cell? ⟨xb, 1, none⟩ = some (.slice q2.A1 x.ks.length q2.c1) ∧ w'.cell? ⟨xb, 2, none⟩ = some (.slice q2.A2 x.ps.length q2.c2) ∧ w'.cell? ⟨xb, 3, none⟩ = some (.slice q2.A3 x.gs.length q2.c3) ∧ w'.cell? ⟨xb, 4, none⟩ = some (.slice q2.A4 x.ds.length q2.c4)) ∧ (w'.cell? ⟨b, o + i * 5, none⟩ = some (.int .i64 x.h) ∧ w'.cell? ⟨b, o + i * 5 + 1, none⟩ = some (.slice q.A1 x.ks.length q.c1) ∧ w'.cell? ⟨b, o + i * 5 + 2, none⟩ = some (.slice q.A2 x.ps.length q.c2) ∧ w'.cell? ⟨b, o + i * 5 + 3, none⟩ = some (.slice q.A3 x.gs.length q.c3) ∧ w'.cell? ⟨b, o + i * 5 + 4, none⟩ = some (.slice q.A4 x.ds.length q.c4)) ∧ w'.cell? ⟨kb, 2, none⟩ = some (.int .i64 (g : Nat)) ∧ w'.cell? ⟨nb, 0, none⟩ = some (.int .u16 (n0 : Nat))) w' from ⟨nd_cells (Blk.fr (w := W8.drew) hx8.drew hf fun h => h), ((Hnd.out.fr fw8).fr hf).all, (HK8.out.fr hf fun h => h).cell 2, (HB0.out.fr (H8.out.g.fr0.then hf) fun h => h).cell 0⟩)
            clear hW8 hxb hx8 hf8 H7 HK7 HV7 fw8
            have hwn : IntKind.i64.wrap (n0 : Int) = (n0 : Int) := by rw [IntKind.wrap_i64]; omega
            have hwg : IntKind.i64.wrap (g : Int) = (g : Int) := by rw [IntKind.wrap_i64]; omega
            refine wpU_region (k := 25) (S := (fun w' : World => (w'.cell? ⟨xb, 0, none⟩ = some (.int .i64 x.h) ∧ w'.cell? ⟨xb, 1, none⟩ = some (.slice q2.A1 x.ks.length q2.c1) ∧ w'.cell? ⟨xb, 2, none⟩ = some (.slice q2.A2 x.ps.length q2.c2) ∧ w'.cell? ⟨xb, 3, none⟩ = some (.slice q2.A3 x.gs.length q2.c3) ∧ w'.cell? ⟨xb, 4, none⟩ = some (.slice q2.A4 x.ds.length q2.c4)) ∧ (w'.cell? ⟨b, o + i * 5, none⟩ = some (.int .i64 x.h) ∧ w'.cell? ⟨b, o + i * 5 + 1, none⟩ = some (.slice q.A1 x.ks.length q.c1) ∧ w'.cell? ⟨b, o + i * 5 + 2, none⟩ = some (.slice q.A2 x.ps.length q.c2) ∧ w'.cell? ⟨b, o + i * 5 + 3, none⟩ = some (.slice q.A3 x.gs.length q.c3) ∧ w'.cell? ⟨b, o + i * 5 + 4, none⟩ = some (.slice q.A4 x.ds.length q.c4)) ∧ w'.cell? ⟨kb, 2, none⟩ = some (.int .i64 (g : Nat)) ∧ w'.cell? ⟨nb, 0, none⟩ = some (.int .u16 (n0 : Nat)))) (by kernel_rfl) ?_
            refine wpU_take (i := 0) (v := ?_) rfl (by kernel_rfl) (by kernel_rfl) (fun _ _ _ h => h) _ _ _ _ (by kernel_rfl) (by kernel_rfl) (by kernel_rfl) (Or.inl ⟨by kernel_rfl, ?_⟩) hS ?_
            rotate_left
            · (intro w9 hS9; obtain ⟨s0, s1, s2, s3⟩ := hS9; go_simp); (try with_reducible rfl)
            try simp only [Act.put, List.getElem_toArray, List.getElem_cons_succ, List.getElem_cons_zero, List.setIfInBounds_toArray, List.set_cons_zero, List.set_cons_succ]
            refine wpU_take (i := 1) (v := ?_) rfl (by kernel_rfl) (by kernel_rfl) (fun _ _ _ h => h) _ _ _ _ (by kernel_rfl) (by kernel_rfl) (by kernel_rfl) (Or.inl ⟨by kernel_rfl, ?_⟩) hS ?_
            rotate_left
            · (intro w9 hS9; obtain ⟨s0, s1, s2, s3⟩ := hS9; go_simp); (try with_reducible rfl)
            try simp only [Act.put, List.getElem_toArray, List.getElem_cons_succ, List.getElem_cons_zero, List.setIfInBounds_toArray, List.set_cons_zero, List.set_cons_succ]
            refine wpU_take (i := 2) (v := ?_) rfl (by kernel_rfl) (by kernel_rfl) (fun _ _ _ h => h) _ _ _ _ (by kernel_rfl) (by kernel_rfl) (by kernel_rfl) (Or.inl ⟨by kernel_rfl, ?_⟩) hS ?_
            rotate_left
            · (intro w9 hS9; obtain ⟨s0, s1, s2, s3⟩ := hS9; go_simp); (try with_reducible rfl)
            try simp only [Act.put, List.getElem_toArray, List.getElem_cons_succ, List.getElem_cons_zero, List.setIfInBounds_toArray, List.set_cons_zero, List.set_cons_succ]
            refine wpU_take (i := 3) (v := ?_) rfl (by kernel_rfl) (by kernel_rfl) (fun _ _ _ h => h) _ _ _ _ (by kernel_rfl) (by kernel_rfl) (by kernel_rfl) (Or.inl ⟨by kernel_rfl, ?_⟩) hS ?_
            rotate_left
            · (intro w9 hS9; obtain ⟨s0, s1, s2, s3⟩ := hS9; go_simp); (try with_reducible rfl)
            try simp only [Act.put, List.getElem_toArray, List.getElem_cons_succ, List.getElem_cons_zero, List.setIfInBounds_toArray, List.set_cons_zero, List.set_cons_succ]
            refine wpU_take (i := 4) (v := ?_) rfl (by kernel_rfl) (by kernel_rfl) (fun _ _ _ h => h) _ _ _ _ (by kernel_rfl) (by kernel_rfl) (by kernel_rfl) (Or.inl ⟨by kernel_rfl, ?_⟩) hS ?_
            rotate_left
            · (intro w9 hS9; obtain ⟨s0, s1, s2, s3⟩ := hS9; go_simp); (try with_reducible rfl)
            try simp only [Act.put, List.getElem_toArray, List.getElem_cons_succ, List.getElem_cons_zero, List.setIfInBounds_toArray, List.set_cons_zero, List.set_cons_succ]
            refine wpU_take (i := 5) (v := ?_) rfl (by kernel_rfl) (by kernel_rfl) (fun _ _ _ h => h) _ _ _ _ (by kernel_rfl) (by kernel_rfl) (by kernel_rfl) (Or.inl ⟨by kernel_rfl, ?_⟩) hS ?_
            rotate_left
            · (intro w9 hS9; obtain ⟨s0, s1, s2, s3⟩ := hS9; go_simp); (try with_reducible rfl)
            try simp only [Act.put, List.getElem_toArray, List.getElem_cons_succ, List.getElem_cons_zero, List.setIfInBounds_toArray, List.set_cons_zero, List.set_cons_succ]
            refine wpU_take (i := 6) (v := ?_) rfl (by kernel_rfl) (by kernel_rfl) (fun _ _ _ h => h) _ _ _ _ (by kernel_rfl) (by kernel_rfl) (by kernel_rfl) (Or.inl ⟨by kernel_rfl, ?_⟩) hS ?_
            rotate_left
            · (intro w9 hS9; obtain ⟨s0, s1, s2, s3⟩ := hS9; go_simp); (try with_reducible rfl)
            try simp only [Act.put, List.getElem_toArray, List.getElem_cons_succ, List.getElem_cons_zero, List.setIfInBounds_toArray, List.set_cons_zero, List.set_cons_succ]
            refine wpU_take (i := 7) (v := ?_) rfl (by kernel_rfl) (by kernel_rfl) (fun _ _ _ h => h) _ _ _ _ (by kernel_rfl) (by kernel_rfl) (by kernel_rfl) (Or.inl ⟨by kernel_rfl, ?_⟩) hS ?_
            rotate_left
            · (intro w9 hS9; obtain ⟨s0, s1, s2, s3⟩ := hS9; go_simp); (try with_reducible rfl)
            try simp only [Act.put, List.getElem_toArray, List.getElem_cons_succ, List.getElem_cons_zero, List.setIfInBounds_toArray, List.set_cons_zero, List.set_cons_succ]
            refine wpU_take (i := 8) (v := ?_) rfl (by kernel_rfl) (by kernel_rfl) (fun _ _ _ h => h) _ _ _ _ (by kernel_rfl) (by kernel_rfl) (by kernel_rfl) (Or.inl ⟨by kernel_rfl, ?_⟩) hS ?_
            rotate_left
            · (intro w9 hS9; obtain ⟨s0, s1, s2, s3⟩ := hS9; go_simp); (try with_reducible rfl)
            try simp only [Act.put, List.getElem_toArray, List.getElem_cons_succ, List.getElem_cons_zero, List.setIfInBounds_toArray, List.set_cons_zero, List.set_cons_succ]
            refine wpU_take (i := 9) (v := ?_) rfl (by kernel_rfl) (by kernel_rfl) (fun _ _ _ h => h) _ _ _ _ (by kernel_rfl) (by kernel_rfl) (by kernel_rfl) (Or.inl ⟨by kernel_rfl, ?_⟩) hS ?_
            rotate_left
            · (intro w9 hS9; obtain ⟨s0, s1, s2, s3⟩ := hS9; go_simp); (try with_reducible rfl)
            try simp only [Act.put, List.getElem_toArray, List.getElem_cons_succ, List.getElem_cons_zero, List.setIfInBounds_toArray, List.set_cons_zero, List.set_cons_succ]
            refine wpU_take (i := 10) (v := ?_) rfl (by kernel_rfl) (by kernel_rfl) (fun _ _ _ h => h) _ _ _ _ (by kernel_rfl) (by kernel_rfl) (by kernel_rfl) (Or.inl ⟨by kernel_rfl, ?_⟩) hS ?_
            rotate_left
            · (intro w9 hS9; obtain ⟨s0, s1, s2, s3⟩ := hS9; go_simp); (try with_reducible rfl)
            try simp only [Act.put, List.getElem_toArray, List.getElem_cons_succ, List.getElem_cons_zero, List.setIfInBounds_toArray, List.set_cons_zero, List.set_cons_succ]
            refine wpU_take (i := 11) (v := ?_) rfl (by kernel_rfl) (by kernel_rfl) (fun _ _ _ h => h) _ _ _ _ (by kernel_rfl) (by kernel_rfl) (by kernel_rfl) (Or.inl ⟨by kernel_rfl, ?_⟩) hS ?_
            rotate_left
            · (intro w9 hS9; obtain ⟨s0, s1, s2, s3⟩ := hS9; go_simp); (try with_reducible rfl)
            try simp only [Act.put, List.getElem_toArray, List.getElem_cons_succ, List.getElem_cons_zero, List.setIfInBounds_toArray, List.set_cons_zero, List.set_cons_succ]
            refine wpU_take (i := 12) (v := ?_) rfl (by kernel_rfl) (by kernel_rfl) (fun _ _ _ h => h) _ _ _ _ (by kernel_rfl) (by kernel_rfl) (by kernel_rfl) (Or.inl ⟨by kernel_rfl, ?_⟩) hS ?_
            rotate_left
            · (intro w9 hS9; obtain ⟨s0, s1, s2, s3⟩ := hS9; go_simp); (try with_reducible rfl)
            try simp only [Act.put, List.getElem_toArray, List.getElem_cons_succ, List.getElem_cons_zero, List.setIfInBounds_toArray, List.set_cons_zero, List.set_cons_succ]
            refine wpU_take (i := 13) (v := ?_) rfl (by kernel_rfl) (by kernel_rfl) (fun _ _ _ h => h) _ _ _ _ (by kernel_rfl) (by kernel_rfl) (by kernel_rfl) (Or.inl ⟨by kernel_rfl, ?_⟩) hS ?_
            rotate_left
            · (intro w9 hS9; obtain ⟨s0, s1, s2, s3⟩ := hS9; go_simp); (try with_reducible rfl)
            try simp only [Act.put, List.getElem_toArray, List.getElem_cons_succ, List.getElem_cons_zero, List.setIfInBounds_toArray, List.set_cons_zero, List.set_cons_succ]
            refine wpU_take (i := 14) (v := ?_) rfl (by kernel_rfl) (by kernel_rfl) (fun _ _ _ h => h) _ _ _ _ (by kernel_rfl) (by kernel_rfl) (by kernel_rfl) (Or.inl ⟨by kernel_rfl, ?_⟩) hS ?_
            rotate_left
            · (intro w9 hS9; obtain ⟨s0, s1, s2, s3⟩ := hS9; go_simp); (try with_reducible rfl)
            try simp only [Act.put, List.getElem_toArray, List.getElem_cons_succ, List.getElem_cons_zero, List.setIfInBounds_toArray, List.set_cons_zero, List.set_cons_succ]
            refine wpU_take (i := 15) (v := ?_) rfl (by kernel_rfl) (by kernel_rfl) (fun _ _ _ h => h) _ _ _ _ (by kernel_rfl) (by kernel_rfl) (by kernel_rfl) (Or.inl ⟨by kernel_rfl, ?_⟩) hS ?_
            rotate_left
            · (intro w9 hS9; obtain ⟨s0, s1, s2, s3⟩ := hS9; go_simp); (try with_reducible rfl)
            try simp only [Act.put, List.getElem_toArray, List.getElem_cons_succ, List.getElem_cons_zero, List.setIfInBounds_toArray, List.set_cons_zero, List.set_cons_succ]
            refine wpU_take (i := 16) (v := ?_) rfl (by kernel_rfl) (by kernel_rfl) (fun _ _ _ h => h) _ _ _ _ (by kernel_rfl) (by kernel_rfl) (by kernel_rfl) (Or.inl ⟨by kernel_rfl, ?_⟩) hS ?_
            rotate_left
            · (intro w9 hS9; obtain ⟨s0, s1, s2, s3⟩ := hS9; go_simp); (try with_reducible rfl)
            try simp only [Act.put, List.getElem_toArray, List.getElem_cons_succ, List.getElem_cons_zero, List.setIfInBounds_toArray, List.set_cons_zero, List.set_cons_succ]
            refine wpU_take (i := 17) (v := ?_) rfl (by kernel_rfl) (by kernel_rfl) (fun _ _ _ h => h) _ _ _ _ (by kernel_rfl) (by kernel_rfl) (by kernel_rfl) (Or.inl ⟨by kernel_rfl, ?_⟩) hS ?_
            rotate_left
            · (intro w9 hS9; obtain ⟨s0, s1, s2, s3⟩ := hS9; go_simp); (try with_reducible rfl)
            try simp only [Act.put, List.getElem_toArray, List.getElem_cons_succ, List.getElem_cons_zero, List.setIfInBounds_toArray, List.set_cons_zero, List.set_cons_succ]
            refine wpU_take (i := 19) (v := ?_) rfl (by kernel_rfl) (by kernel_rfl) (fun _ _ _ h => h) _ _ _ _ (by kernel_rfl) (by kernel_rfl) (by kernel_rfl) (Or.inl ⟨by kernel_rfl, ?_⟩) hS ?_
            rotate_left
            · (intro w9 hS9; obtain ⟨s0, s1, s2, s3⟩ := hS9; go_simp); (try with_reducible rfl)
            try simp only [Act.put, List.getElem_toArray, List.getElem_cons_succ, List.getElem_cons_zero, List.setIfInBounds_toArray, List.set_cons_zero, List.set_cons_succ]
            refine wpU_take (i := 20) (v := ?_) rfl (by kernel_rfl) (by kernel_rfl) (fun _ _ _ h => h) _ _ _ _ (by kernel_rfl) (by kernel_rfl) (by kernel_rfl) (Or.inl ⟨by kernel_rfl, ?_⟩) hS ?_
            rotate_left
            · (intro w9 hS9; obtain ⟨s0, s1, s2, s3⟩ := hS9; go_simp); (try with_reducible rfl)
            try simp only [Act.put, List.getElem_toArray, List.getElem_cons_succ, List.getElem_cons_zero, List.setIfInBounds_toArray, List.set_cons_zero, List.set_cons_succ]
            refine wpU_take (i := 21) (v := ?_) rfl (by kernel_rfl) (by kernel_rfl) (fun _ _ _ h => h) _ _ _ _ (by kernel_rfl) (by kernel_rfl) (by kernel_rfl) (Or.inl ⟨by kernel_rfl, ?_⟩) hS ?_
            rotate_left
            · (intro w9 hS9; obtain ⟨s0, s1, s2, s3⟩ := hS9; go_simp); (try with_reducible rfl)
            try simp only [Act.put, List.getElem_toArray, List.getElem_cons_succ, List.getElem_cons_zero, List.setIfInBounds_toArray, List.set_cons_zero, List.set_cons_succ]
            refine wpU_take (i := 22) (v := ?_) rfl (by kernel_rfl) (by kernel_rfl) (fun _ _ _ h => h) _ _ _ _ (by kernel_rfl) (by kernel_rfl) (by kernel_rfl) (Or.inl ⟨by kernel_rfl, ?_⟩) hS ?_
            rotate_left
            · (intro w9 hS9; obtain ⟨s0, s1, s2, s3⟩ := hS9; go_simp); (try with_reducible rfl)
            try simp only [Act.put, List.getElem_toArray, List.getElem_cons_succ, List.getElem_cons_zero, List.setIfInBounds_toArray, List.set_cons_zero, List.set_cons_succ]
            refine wpU_next (i := 18) rfl (by kernel_rfl) (fun K hK => ?_)
            go_simp
            refine (nd.lawback_ok _ q2 x (by have := Hfew.out.2.2.2; omega) W8.drew HQ8.out).mono ?_
            rintro e w9 ⟨q7, rfl, hV9, hf9⟩
            have hS9 : (fun w' : World => (w'.cell? ⟨xb, 0, none⟩ = some (.int .i64 x.h) ∧ w'.cell? ⟨xb, 1, none⟩ = some (.slice q2.A1 x.ks.length q2.c1) ∧ w'.cell? ⟨xb, 2, none⟩ = some (.slice q2.A2 x.ps.length q2.c2) ∧ w'.cell? ⟨xb, 3, none⟩ = some (.slice q2.A3 x.gs.length q2.c3) ∧ w'.cell? ⟨xb, 4, none⟩ = some (.slice q2.A4 x.ds.length q2.c4)) ∧ (w'.cell? ⟨b, o + i * 5, none⟩ = some (.int .i64 x.h) ∧ w'.cell? ⟨b, o + i * 5 + 1, none⟩ = some (.slice q.A1 x.ks.length q.c1) ∧ w'.cell? ⟨b, o + i * 5 + 2, none⟩ = some (.slice q.A2 x.ps.length q.c2) ∧ w'.cell? ⟨b, o + i * 5 + 3, none⟩ = some (.slice q.A3 x.gs.length q.c3) ∧ w'.cell? ⟨b, o + i * 5 + 4, none⟩ = some (.slice q.A4 x.ds.length q.c4)) ∧ w'.cell? ⟨kb, 2, none⟩ = some (.int .i64 (g : Nat)) ∧ w'.cell? ⟨nb, 0, none⟩ = some (.int .u16 (n0 : Nat))) w9 := HSX.out w9 hf9
            have HV9 := hid hV9
            have F9 := hid hf9
            clear hS hV9 hf9
            refine hK.out _ _ (fun _ => hS9) ?_
            clear hK K
            try simp only [Act.put, List.getElem_toArray, List.getElem_cons_succ, List.getElem_cons_zero, List.setIfInBounds_toArray, List.set_cons_zero, List.set_cons_succ]
            refine wpU_next (i := 23) rfl (by kernel_rfl) (fun K hK => ?_)
            go_simp
            refine (nd.refsame_ok _ _ q7 q x (nd.may_lens Hmay.out).2.1 w9 HV9.out (HV8.out.nil F9.out)).mono ?_
            rintro e w10 ⟨rfl, hf10⟩
            have hS10 : (fun w' : World => (w'.cell? ⟨xb, 0, none⟩ = some (.int .i64 x.h) ∧ w'.cell? ⟨xb, 1, none⟩ = some (.slice q2.A1 x.ks.length q2.c1) ∧ w'.cell? ⟨xb, 2, none⟩ = some (.slice q2.A2 x.ps.length q2.c2) ∧ w'.cell? ⟨xb, 3, none⟩ = some (.slice q2.A3 x.gs.length q2.c3) ∧ w'.cell? ⟨xb, 4, none⟩ = some (.slice q2.A4 x.ds.length q2.c4)) ∧ (w'.cell? ⟨b, o + i * 5, none⟩ = some (.int .i64 x.h) ∧ w'.cell? ⟨b, o + i * 5 + 1, none⟩ = some (.slice q.A1 x.ks.length q.c1) ∧ w'.cell? ⟨b, o + i * 5 + 2, none⟩ = some (.slice q.A2 x.ps.length q.c2) ∧ w'.cell? ⟨b, o + i * 5 + 3, none⟩ = some (.slice q.A3 x.gs.length q.c3) ∧ w'.cell? ⟨b, o + i * 5 + 4, none⟩ = some (.slice q.A4 x.ds.length q.c4)) ∧ w'.cell? ⟨kb, 2, none⟩ = some (.int .i64 (g : Nat)) ∧ w'.cell? ⟨nb, 0, none⟩ = some (.int .u16 (n0 : Nat))) w10 := HSX.out w10 (F9.out.then hf10)
            have H10 := hid (H8.out.nil (F9.out.then hf10))
            have HK10 := hid (HK8.out.fr (F9.out.then hf10) fun h => h)
            clear hS9 hf10
            refine hK.out _ _ (fun _ => hS10) ?_
            clear hK K
            try simp only [Act.put, List.getElem_toArray, List.getElem_cons_succ, List.getElem_cons_zero, List.setIfInBounds_toArray, List.set_cons_zero, List.set_cons_succ]
            refine wpU_take (i := 24) (v := ?_) rfl (by kernel_rfl) (by kernel_rfl) (fun _ _ _ h => h) _ _ _ _ (by kernel_rfl) (by kernel_rfl) (by kernel_rfl) (Or.inl ⟨by kernel_rfl, ?_⟩) hS10 ?_
            rotate_left
            · (intro w9 hS9; obtain ⟨s0, s1, s2, s3⟩ := hS9; go_simp); (try with_reducible rfl)
            try simp only [Act.put, List.getElem_toArray, List.getElem_cons_succ, List.getElem_cons_zero, List.setIfInBounds_toArray, List.set_cons_zero, List.set_cons_succ]
            refine wpU_next (i := 25) rfl (by kernel_rfl) (fun K hK => ?_)
            go_simp
            refine hK.out _ _ (fun h => absurd rfl h.1) ?_
            refine wpU_done (by kernel_rfl) ?_ _
            clear hK K
            clear hS10 HSX H8 HK8 HV8 HQ8 HV9 F9 hblw
            have k2 : w10.cell? ⟨kb, 2, none⟩ = some (.int .i64 (g : Nat)) := HK10.out.cell 2
            have z2 := HK10.out.frozen 2
            have cn1 : w10.cell? ⟨nb, 1, none⟩ = some (.int .u16 (n1 : Nat)) := (HB0.out.fr H10.out.g.fr0 fun h => h).cell 1
            have hkl := HK10.out.lt
            have hnbl := (HB0.out.fr H10.out.g.fr0 fun h => h).lt
            obtain ⟨g2, hg2⟩ : ∃ g2, g2 = g + 1 + n1 := ⟨_, rfl⟩
            have hgi2 : (g : Int) + 1 + (n1 : Int) = (g2 : Int) := by omega
            have hgb : (g2 : Int) - 1 - (n1 : Int) = (g : Int) := by omega
            have hg29 : g2 ≤ 200000 := by omega
            have Hg2 := hid (show g ≠ g2 by omega)
            clear hg2
            have Hst := hid (HK10.out.set 2 (.int .i64 (g2 : Nat)))
            have hfs : Fr (fun k => k = kb) w10 (w10.setCell ⟨kb, 2, none⟩ (.int .i64 (g2 : Nat))) := (Fr.refl (fun k => k = kb) w10).setCell (a := ⟨kb, 2, none⟩) (.inl rfl) _
            have H11 := hid (H10.out.app (Q := fun k => k = kb) hfs (fun k hk => hk) (fun k hk => by rw [hk]; exact Hkb0.out) fun k hk => ⟨.inl hk, Nat.lt_of_lt_of_le (H10.out.tlt k (.inl hk)) hfs.size⟩)
            clear hfs H10 HK10
            go_upto_region 21 with (fail)
            generalize w10.setCell ⟨kb, 2, none⟩ (.int .i64 (g2 : Nat)) = w11 at *
            have HK11 := hid (show Blk w11 kb #[.int .i64 (a : Nat), .int .i64 (N : Nat), .int .i64 (g2 : Nat)] 57 from Hst.out)
            clear k2 z2 cn1 hkl hnbl Hst
            have k0 : w11.cell? ⟨kb, 0, none⟩ = some (.int .i64 (a : Nat)) := HK11.out.cell 0
            have k1 : w11.cell? ⟨kb, 1, none⟩ = some (.int .i64 (N : Nat)) := HK11.out.cell 1
            have k2 : w11.cell? ⟨kb, 2, none⟩ = some (.int .i64 (g2 : Nat)) := HK11.out.cell 2
            have hkl := HK11.out.lt
            go_wp2_with fail
            refine sload_gen H11.out a N g2 (frameF 78 g (datN x)) HX7.out HBy.out hn1 (by omega) (by omega) Hfa7.out (by omega) Hab.out _ ?_
            intro e p3 w12 hh
            obtain ⟨hL, hS12, hA12, hf12⟩ := hh
            rw [loadF_frame Hmay.out (by omega), if_neg Hg2.out] at hL
            obtain rfl : e = _ := hL
            have HT := hid (fun k (hk : TP' k) => (H11.out.q k (.inl hk)).2)
            have H12 := hid hS12
            have HK12 := hid (HK11.out.fr hf12 fun h => HT.out _ h rfl)
            have Hfa12 := hid (hA12.fa.trans Hfa7.out)
            have HX12 := hid (show frm p3 a N = frameF 78 g (datN x) from by rw [← HX7.out]; unfold frm; rw [List.flatMap_def, List.flatMap_def]; congr 1; exact List.map_congr_left fun j _ => hA12.get _ fun h => h)
            clear hS12 hA12 hf12 k0 k1 k2 hkl H11 HK11 HT HX7 Hfa7
            unfold nd.nil5
            go_upto_region 22 with (fail)
            have hf13 : Fr Nil w12 (w12.alloc (.cells #[.int .i64 0, .slice none 0 0, .slice none 0 0, .slice none 0 0, .slice none 0 0] 62)) := (Fr.refl _ _).alloc _
            have H13 := hid (H12.out.nil hf13)
            have HK13 := hid (HK12.out.fr hf13 fun h => h)
            clear hf13 H12 HK12
            generalize w12.alloc (.cells #[.int .i64 0, .slice none 0 0, .slice none 0 0, .slice none 0 0, .slice none 0 0] 62) = w13 at *
            have k2 : w13.cell? ⟨kb, 2, none⟩ = some (.int .i64 (g2 : Nat)) := HK13.out.cell 2
            have z2 := HK13.out.frozen 2
            have cn1 : w13.cell? ⟨nb, 1, none⟩ = some (.int .u16 (n1 : Nat)) := (HB0.out.fr H13.out.g.fr0 fun h => h).cell 1
            have hkl := HK13.out.lt
            have hnbl := (HB0.out.fr H13.out.g.fr0 fun h => h).lt
            have Hst := hid (HK13.out.set 2 (.int .i64 (g : Nat)))
            have hfs : Fr (fun k => k = kb) w13 (w13.setCell ⟨kb, 2, none⟩ (.int .i64 (g : Nat))) := (Fr.refl (fun k => k = kb) w13).setCell (a := ⟨kb, 2, none⟩) (.inl rfl) _
            have H14 := hid (H13.out.app (Q := fun k => k = kb) hfs (fun k hk => hk) (fun k hk => by rw [hk]; exact Hkb0.out) fun k hk => ⟨.inl hk, Nat.lt_of_lt_of_le (H13.out.tlt k (.inl hk)) hfs.size⟩)
            clear hfs H13 HK13
            go_upto_region 23 with (fail)
            generalize w13.setCell ⟨kb, 2, none⟩ (.int .i64 (g : Nat)) = w14 at *
            have HK14 := hid (show Blk w14 kb #[.int .i64 (a : Nat), .int .i64 (N : Nat), .int .i64 (g : Nat)] 57 from Hst.out)
            clear k2 z2 cn1 hkl hnbl Hst hgi2 hgb
            have k0 : w14.cell? ⟨kb, 0, none⟩ = some (.int .i64 (a : Nat)) := HK14.out.cell 0
            have k1 : w14.cell? ⟨kb, 1, none⟩ = some (.int .i64 (N : Nat)) := HK14.out.cell 1
            have k2 : w14.cell? ⟨kb, 2, none⟩ = some (.int .i64 (g : Nat)) := HK14.out.cell 2
            have hkl := HK14.out.lt
            go_wp2_with fail
            refine (opened_bad H14.out a N (g : Nat) hn1 (by omega) Hab.out Hfa12.out (by omega) (by rw [HX12.out, (openF_frame (k := 78) (k2 := 231) (by decide) (show g ≤ 2147483647 by omega) (show (datN x).length ≤ 4096 by have := datN_len Hmay.out; omega)).1, if_pos (by decide)]; decide)).mono ?_
            rintro e w15 ⟨er, p4, her, rfl, hS15, hA15, hf15⟩
            have HT := hid (fun k (hk : TP' k) => (H14.out.q k (.inl hk)).2)
            have H15 := hid hS15
            have HK15 := hid (HK14.out.fr hf15 fun h => HT.out _ h rfl)
            have Hfa15 := hid (hA15.fa.trans Hfa12.out)
            have hern : (er == 0) = false := by simp; exact her
            clear hS15 hA15 hf15 her k0 k1 k2 hkl H14 HK14 HT HX12 Hfa12
            go_wp2_with fail
            refine (sync_ok TP' plb p4 w15 H15.out.pl (H15.out.ok.ok (by omega)) (not_bad Hfa15.out 3)).mono ?_
            rintro e w16 ⟨rfl, hp16, hf16⟩
            have HT := hid (fun k (hk : TP' k) => (H15.out.q k (.inl hk)).2)
            have H16 := hid (H15.out.plat hp16.bd (fun k hk => ⟨.inl hk.1, hk.2⟩) hf16 ((H15.out.ok.ask 3).settle _) (settle_bl _))
            have HK16 := hid (HK15.out.fr hf16 fun h => HT.out _ h rfl)
            have Hfa16 := hid (show ((p4.ask 3).settle fun _ => true).fa = [] from Hfa15.out)
            clear hp16 hf16 H15 HK15 HT Hfa15 hern
            generalize (p4.ask 3).settle (fun _ => true) = p5 at *
            generalize (fun k => TP' k ∧ k < w16.heap.size) = TQ at *
            have k0 : w16.cell? ⟨kb, 0, none⟩ = some (.int .i64 (a : Nat)) := HK16.out.cell 0
            have hkl := HK16.out.lt
            obtain ⟨bit, hbit⟩ : ∃ bit, bit = at2 % 480 := ⟨_, rfl⟩
            have hbi : (at2 : Int) % 480 = (bit : Int) := by omega
            have hb480 : bit < 480 := by omega
            have hapl : a < p5.bl.length := by rw [H16.out.pbl]; have := Hab.out; omega
            clear hbit
            go_wp2_with fail
            refine (rot_ok TQ plb p5 a bit mk w16 H16.out.pl hapl (by omega) h3).mono ?_
            rintro e w17 ⟨rfl, hp17, hf17⟩
            have HT := hid (fun k (hk : TQ k) => (H16.out.q k (.inl hk)).2)
            have H17 := hid (H16.out.plat (p' := p5.rot a bit mk) hp17.bd (fun k hk => hk) hf17 (okm_rot H16.out.ok a bit mk) (by simp [Pl.rot]))
            have HK17 := hid (HK16.out.fr hf17 fun h => HT.out _ h rfl)
            have Hfa17 := hid (show (p5.rot a bit mk).fa = [] from Hfa16.out)
            clear hp17 hf17 H16 HK16 HT Hfa16 k0 hkl hbi hb480 hapl
            generalize p5.rot a bit mk = p6 at *
            generalize (fun k => Grow w16 TQ k ∧ k < w17.heap.size) = TR at *
            have Hfr := hid (frm_all H17.out.pl (a := a) N (by rw [H17.out.pbl]; exact Hab.out))
            have k0 : w17.cell? ⟨kb, 0, none⟩ = some (.int .i64 (a : Nat)) := HK17.out.cell 0
            have k1 : w17.cell? ⟨kb, 1, none⟩ = some (.int .i64 (N : Nat)) := HK17.out.cell 1
            have hkl := HK17.out.lt
            go_wp2_with fail
            refine (sread_ok H17.out a N hn1 Hab.out (by omega)).mono ?_
            rintro e w18 ⟨er2, kk, cb, ys, B, p7, rfl, hrow, hS18, hA18, hcase, hok, hF⟩
            obtain rfl : er2 = 0 := hok Hfa17.out
            obtain ⟨rfl, rfl⟩ : kk = 64 * N ∧ ys = frm p6 a N := by
              rcases hcase with h | h
              · exact h.2
              · exact absurd h.1 (by decide)
            obtain ⟨gB, cc, hBe, hgB, hglB⟩ := hrow.form (by omega)
            injection hBe with hBe _ hcc
            subst hBe; subst hcc
            have HT := hid (fun k (hk : TR k) => (H17.out.q k (.inl hk)).2)
            have H18 := hid (hS18.sub (Q := fun k => k = kb) fun k hk => .inl hk)
            have HK18 := hid (HK17.out.fr hF fun h => HT.out _ h rfl)
            have HW := hid hrow
            have Hfa18 := hid (hA18.fa.trans Hfa17.out)
            have HX18 := hid (show frm p7 a N = frm p6 a N from by unfold frm; rw [List.flatMap_def, List.flatMap_def]; congr 1; exact List.map_congr_left fun j _ => hA18.get _ fun h => h)
            clear hrow hS18 hA18 hcase hok hF k0 k1 hkl H17 HK17 HT Hfa17
            generalize frm p6 a N = ys at *
            go_wp2_with fail
            refine (refopen_ok _ 78 (by decide) gB 0 (64 * N) cb ys (by omega) (by omega) w18 HW.out.view Hfr.out.2).mono ?_
            rintro e w19 ⟨⟨gz, vz, rfl⟩, hf19⟩
            have H19 := hid (H18.out.nil hf19)
            have HK19 := hid (HK18.out.fr hf19 fun h => h)
            clear hf19 H18 HK18 HW
            have k0 : w19.cell? ⟨kb, 0, none⟩ = some (.int .i64 (a : Nat)) := HK19.out.cell 0
            have k1 : w19.cell? ⟨kb, 1, none⟩ = some (.int .i64 (N : Nat)) := HK19.out.cell 1
            have k2 : w19.cell? ⟨kb, 2, none⟩ = some (.int .i64 (g : Nat)) := HK19.out.cell 2
            have hkl := HK19.out.lt
            obtain ⟨wt, hwt⟩ : ∃ wt, wt = openF 78 ys := ⟨_, rfl⟩
            rw [← hwt]
            have Hwt := hid hwt
            clear hwt
            go_wp2_with fail
            refine sload_gen H19.out a N g ys HX18.out Hfr.out.2 hn1 (by omega) (by omega) Hfa18.out (by omega) Hab.out _ ?_
            intro e p8 w20 hh
            obtain ⟨hL, hS20, hA20, hf20⟩ := hh
            have H20 := hid (hS20.sub (Q := fun _ => False) fun k hk => hk.elim)
            have Hfa20 := hid (hA20.fa.trans Hfa18.out)
            clear hS20 hA20 hf20 k0 k1 k2 hkl H19 HK19 Hfr HX18 Hfa18
            by_cases hw0 : wt = 0
            · have hwi : (wt : Int) = 0 := by omega
              have hwb : ((wt : Int) != 0) = false := by rw [hwi]; rfl
              clear hw0
              cases hlf : loadF g ys with
              | inl y =>
                rw [hlf] at hL
                obtain ⟨qz, rfl, -⟩ := hL
                unfold ncells
                clear hlf
                go_upto_region 31 with (fail)
                have hf21 : Fr Nil w20 (w20.alloc (.cells #[.int .i64 y.h, .slice qz.A1 y.ks.length qz.c1, .slice qz.A2 y.ps.length qz.c2, .slice qz.A3 y.gs.length qz.c3, .slice qz.A4 y.ds.length qz.c4] 62)) := (Fr.refl _ _).alloc _
                have H21 := hid (H20.out.nil hf21)
                clear hf21 H20
                generalize w20.alloc (.cells #[.int .i64 y.h, .slice qz.A1 y.ks.length qz.c1, .slice qz.A2 y.ps.length qz.c2, .slice qz.A3 y.gs.length qz.c3, .slice qz.A4 y.ds.length qz.c4] 62) = w21 at *
                go_wp2_with fail
                exact ⟨⟨i + 1, left - N, m + 2 * N + N + N + N + 1 + N + N, g, TR, p8, rs2, by go_num, by omega, by omega, by omega, by omega, fun h => by omega, Hfa20.out, H21, hpos2⟩, by simp [intOf]; omega⟩
              | inr er3 =>
                rw [hlf] at hL
                obtain rfl : e = _ := hL
                unfold nd.nil5
                clear hlf
                go_upto_region 31 with (fail)
                have hf21 : Fr Nil w20 (w20.alloc (.cells #[.int .i64 0, .slice none 0 0, .slice none 0 0, .slice none 0 0, .slice none 0 0] 62)) := (Fr.refl _ _).alloc _
                have H21 := hid (H20.out.nil hf21)
                clear hf21 H20
                generalize w20.alloc (.cells #[.int .i64 0, .slice none 0 0, .slice none 0 0, .slice none 0 0, .slice none 0 0] 62) = w21 at *
                go_wp2_with fail
                exact ⟨⟨i + 1, left - N, m + 2 * N + N + N + N + 1 + N + N, g, TR, p8, rs2, by go_num, by omega, by omega, by omega, by omega, fun h => by omega, Hfa20.out, H21, hpos2⟩, by simp [intOf]; omega⟩
            · have hlf : loadF g ys = .inr (wt : Nat) := by unfold loadF; rw [if_pos (by rw [← Hwt.out]; exact hw0), ← Hwt.out]
              rw [hlf] at hL
              obtain rfl : e = _ := hL
              unfold nd.nil5
              have hwb : ((wt : Int) == 0) = false := by simp; omega
              have hwi : ¬ (wt : Int) = 0 := by omega
              clear hlf hw0
              go_upto_region 31 with (fail)
              have hf21 : Fr Nil w20 (w20.alloc (.cells #[.int .i64 0, .slice none 0 0, .slice none 0 0, .slice none 0 0, .slice none 0 0] 62)) := (Fr.refl _ _).alloc _
              have H21 := hid (H20.out.nil hf21)
              clear hf21 H20
              generalize w20.alloc (.cells #[.int .i64 0, .slice none 0 0, .slice none 0 0, .slice none 0 0, .slice none 0 0] 62) = w21 at *
              go_wp2_with fail
              exact ⟨⟨i + 1, left - N, m + 2 * N + N + N + N + 1 + N + N, g, TR, p8, rs2, by go_num, by omega, by omega, by omega, by omega, fun h => by omega, Hfa20.out, H21, hpos2⟩, by simp [intOf]; omega⟩
          · go_wp2_with fail
            refine (ssave_bad H3.out q' x hmay HV3.out).mono ?_
            rintro e w4 ⟨rfl, hS4, f4⟩
            have hf5 : Fr Nil w4 (w4.alloc (.cells #[.int .i64 0, .int .i64 0, .int .i64 0] 57)) := (Fr.refl _ _).alloc _
            have H5 := hid (hS4.nil hf5)
            have fw5 : Fr Nil w (w4.alloc (.cells #[.int .i64 0, .int .i64 0, .int .i64 0] 57)) := F0.out.then H5.out.g.fr0
            have HVS5 := hid (Hvs.out.nil fw5)
            have HND5 := hid (Hnd.out.fr fw5)
            have hblw := Nat.lt_of_lt_of_le Hbl.out fw5.size
            clear hS4 f4 hf5 H3 HV3 fw5
            go_upto_region 14 with (fail)
            generalize w4.alloc (.cells #[.int .i64 0, .int .i64 0, .int .i64 0] 57) = W5 at *
            obtain ⟨d0, d1, d2, d3, d4⟩ := HND5.out.all
            go_wp2_with fail
            refine (nd.refmay_ok _ q x false (decide_eq_false hmay) W5 HVS5.out).mono ?_
            rintro e w6 ⟨rfl, f6⟩
            have H6 := hid (H5.out.nil f6)
            clear f6 H5 HVS5 HND5 d0 d1 d2 d3 d4 hblw hmay
            go_wp2_with fail
            exact ⟨⟨i + 1, left, m, g, TP, p, rs, by go_num, by omega, by omega, by omega, by omega, fun h => by omega, Hfa.out, H6, hpos⟩, by simp [intOf]; omega⟩
      · rw [decide_eq_false hfew]
        clear hfew
        go_wp2_with fail
        refine (slawake_ok _).mono ?_
        rintro e w9 ⟨rfl, f9⟩
        have F9 := hid f9
        clear f9
        go_wp2
        go_ret
        exact ⟨rfl, (F0.out.then H1.out.g.fr0).then F9.out⟩
    · have H1 := hid hS.out.g.fr0
      clear hS hpos
      go_wp2_with fail
      refine (slawake_ok _).mono ?_
      rintro e w9 ⟨rfl, f9⟩
      have F9 := hid f9
      clear f9
      go_wp2
      go_ret
      exact ⟨rfl, (F0.out.then H1.out).then F9.out⟩
end Go.Proofs.YtgoghmblfdlnbaaGreat
end

section
/- The law SlabNodes: its walk ends with true and changes nothing that was there. Conditions: the arguments are drawn as the law says. -/
set_option linter.unusedSimpArgs false
set_option linter.unusedVariables false
namespace Go.Proofs.YtgoghmblfdlnbaaGreat
open Go.RowKit Go.ChangeShapes
def Arr3 (_ : World) (u : Value) : Prop := ∃ a b c : Nat, u = .agg #[.int .u16 (a : Nat), .int .u16 (b : Nat), .int .u16 (c : Nat)] ∧ a < 65536 ∧ b < 65536 ∧ c < 65536
set_option maxRecDepth 100000 in
theorem open_arr3 {H : Type} {enc : TypeId × Value → H} {W : World} {base : Nat} {v : Value} {d : DataW H} {p : List MemPlace} (hv : Value.okWide Tryz.prog W .any base 24 v) (h : DataW.Trod enc Tryz.prog W 0 (fun _ => true) true 24 v d p) : Arr3 W v := by
  obtain ⟨cs, rfl, hsz, _⟩ : ∃ cs, v = .agg cs ∧ cs.size = Tryz.prog.cellsOf 24 ∧ Row.okWide Tryz.prog W .any base 24 cs := by
    simpa [Value.okWide, Tryz.underlying24] using hv
  have hc3 : Tryz.prog.cellsOf 24 = 3 := by kernel_rfl
  rw [hc3] at hsz
  obtain ⟨l⟩ := cs
  match l, hsz with
  | [c0, c1, c2], _ =>
    obtain ⟨fuel, hf⟩ := h
    obtain ⟨y0, y1, y2, m, hx, hy0, hy1, hy2⟩ := trod_array3 Tryz.underlying24 (by kernel_rfl) hf
    obtain ⟨x0, e0, _, w0⟩ := DataW.trod_int Tryz.underlying23 hy0
    obtain ⟨x1, e1, _, w1⟩ := DataW.trod_int Tryz.underlying23 hy1
    obtain ⟨x2, e2, _, w2⟩ := DataW.trod_int Tryz.underlying23 hy2
    simp only [List.cons.injEq, and_true] at e0 e1 e2
    subst e0; subst e1; subst e2
    have b0 := bounds_u16 w0
    have b1 := bounds_u16 w1
    have b2 := bounds_u16 w2
    refine ⟨x0.toNat, x1.toNat, x2.toNat, ?_, by omega, by omega, by omega⟩
    rw [Int.toNat_of_nonneg b0.1, Int.toNat_of_nonneg b1.1, Int.toNat_of_nonneg b2.1]
set_option maxRecDepth 20000 in
set_option maxHeartbeats 1000000 in
theorem slabNodes_ok (v u : Value) (f : Int) (hfw : (Lit.int .u32 f).wf = true) (w : World) (hv : NodesArg w v) (hu : Arr3 w u) :
    Calls Tryz.prog 3 #[v, u, .int .u32 f] w fun e w' => e = .returned (.bool true) ∧ Fr Nil w w' := by
  obtain ⟨n0, n1, at2, rfl, h0, h1, h2⟩ := hu
  have hfb := bounds_u32 hfw
  obtain ⟨mk, hmk⟩ : ∃ mk : Nat, f = (mk : Nat) := ⟨f.toNat, by omega⟩
  subst hmk
  have h3 : mk < 4294967296 := by omega
  have Hn := hid (fun w' (hf : Fr Nil w w') => slnodes_ok v n0 n1 at2 mk h0 h1 h2 h3 w' (by
    obtain ⟨A, n, c, g, e, hn, hh⟩ := hv
    exact ⟨A, n, c, g, e, hn, fun i hi => by
      obtain ⟨b, o, hA, hb, hd, hV⟩ := hh i hi
      exact ⟨b, o, hA, Nat.lt_of_lt_of_le hb hf.size, hd.fr hf, (hV.nil hf).mono fun k hk => Nat.lt_of_lt_of_le hk hf.size⟩⟩))
  clear hv hfw hfb
  go_enter Tryz.func3, Tryz.ntmps3
  go_wp2_with fail
  obtain ⟨W1, hW1⟩ : ∃ W1, W1 = w.alloc (.cells #[.int .u16 (n0 : Nat), .int .u16 (n1 : Nat), .int .u16 (at2 : Nat)] 24) := ⟨_, rfl⟩
  obtain ⟨nb, hnb⟩ : ∃ nb, nb = w.heap.size := ⟨_, rfl⟩
  have hb1 : Blk W1 nb #[.int .u16 (n0 : Nat), .int .u16 (n1 : Nat), .int .u16 (at2 : Nat)] 24 := by rw [hW1, hnb]; exact Blk.new _ _ _
  have hf1 : Fr Nil w W1 := by rw [hW1]; exact (Fr.refl _ _).alloc _
  rw [← hW1, ← hnb]
  have HB1 := hid hb1
  have F1 := hid hf1
  clear hW1 hnb hb1 hf1
  refine (slawake_ok W1).mono ?_
  rintro e w2 ⟨rfl, f2⟩
  have F2 := hid (F1.out.then f2)
  have hb2 := HB1.out.fr f2 fun h => h
  have c0 : w2.cell? ⟨nb, 0, none⟩ = some (.int .u16 (n0 : Nat)) := hb2.cell 0
  have c1 : w2.cell? ⟨nb, 1, none⟩ = some (.int .u16 (n1 : Nat)) := hb2.cell 1
  have c2 : w2.cell? ⟨nb, 2, none⟩ = some (.int .u16 (at2 : Nat)) := hb2.cell 2
  have hlt := hb2.lt
  clear f2 hb2
  go_wp2_with fail
  refine (Hn.out w2 F2.out).mono ?_
  rintro e w3 ⟨rfl, f3⟩
  have F3 := hid (F2.out.then f3)
  clear f3
  go_wp2
  go_ret
  exact ⟨rfl, F3.out⟩
end Go.Proofs.YtgoghmblfdlnbaaGreat
end

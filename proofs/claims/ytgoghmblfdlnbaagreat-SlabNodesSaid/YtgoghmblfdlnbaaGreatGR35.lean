/- The texts VNdRS, SlS, VCellP3 of this proof, one behind the other. Conditions: those of each. -/
import Derived.Test.YtgoghmblfdlnbaaGreatGR23
import Derived.Test.YtgoghmblfdlnbaaGreatGR26
import Derived.Test.YtgoghmblfdlnbaaGreatGR27
import Derived.Test.YtgoghmblfdlnbaaGreatGR33
import Derived.Test.YtgoghmblfdlnbaaGreatGR34
section
/- The reference's Same: two nodes that are one (chapter 13). -/
set_option linter.unusedSimpArgs false
set_option linter.unusedVariables false
namespace Go.Proofs.YtgoghmblfdlnbaaGreat.nd
open Go.RowKit
set_option maxRecDepth 100000 in
set_option maxHeartbeats 1600000 in
theorem refsame_ok (S S2 : Nat → Prop) (q q2 : Ptr) (x : Nd) (hpg : x.gs.length = x.ps.length) (w : World) (hV : Vs w S q x) (hV2 : Vs w S2 q2 x) :
    Calls Tryz.prog 15 #[.agg #[.int .i64 x.h, .slice q.A1 x.ks.length q.c1, .slice q.A2 x.ps.length q.c2, .slice q.A3 x.gs.length q.c3, .slice q.A4 x.ds.length q.c4], .agg #[.int .i64 x.h, .slice q2.A1 x.ks.length q2.c1, .slice q2.A2 x.ps.length q2.c2, .slice q2.A3 x.gs.length q2.c3, .slice q2.A4 x.ds.length q2.c4]] w fun e w' => e = .returned (.bool true) ∧ Fr Nil w w' := by
  obtain ⟨h, ks, ps, gs, ds⟩ := x
  obtain ⟨A1, c1, A2, c2, A3, c3, A4, c4⟩ := q
  obtain ⟨B1, d1, B2, d2, B3, d3, B4, d4⟩ := q2
  obtain ⟨hk, hp, hg, hd⟩ := hV
  obtain ⟨hk2, hp2, hg2, hd2⟩ := hV2
  dsimp only at hpg hk hp hg hd hk2 hp2 hg2 hd2 ⊢
  rw [hpg] at hg hg2 ⊢
  clear hpg
  generalize ks.length = n at *
  generalize ps.length = n2 at *
  generalize ds.length = n4 at *
  have hle : n ≤ 9223372036854775807 := hk.le
  have hle2 : n2 ≤ 9223372036854775807 := hp.le
  have hle4 : n4 ≤ 9223372036854775807 := hd.le
  have hfr : Fr Nil w ((w.alloc (.cells #[.int .i64 h, .slice A1 n c1, .slice A2 n2 c2, .slice A3 n2 c3, .slice A4 n4 c4] 55)).alloc (.cells #[.int .i64 h, .slice B1 n d1, .slice B2 n2 d2, .slice B3 n2 d3, .slice B4 n4 d4] 55)) := ((Fr.refl Nil w).alloc _).alloc _
  go_enter Tryz.func15, Tryz.ntmps15
  go_wp2_with fail
  obtain ⟨W1, hW1⟩ : ∃ W1, W1 = (w.alloc (.cells #[.int .i64 h, .slice A1 n c1, .slice A2 n2 c2, .slice A3 n2 c3, .slice A4 n4 c4] 55)).alloc (.cells #[.int .i64 h, .slice B1 n d1, .slice B2 n2 d2, .slice B3 n2 d3, .slice B4 n4 d4] 55) := ⟨_, rfl⟩
  have hb : Blk W1 w.heap.size #[.int .i64 h, .slice A1 n c1, .slice A2 n2 c2, .slice A3 n2 c3, .slice A4 n4 c4] 55 := by rw [hW1]; exact (Blk.new _ _ _).alloc _
  have hb2 : Blk W1 (w.heap.size + 1) #[.int .i64 h, .slice B1 n d1, .slice B2 n2 d2, .slice B3 n2 d3, .slice B4 n4 d4] 55 := by
    rw [hW1]
    have := Blk.new (w.alloc (.cells #[.int .i64 h, .slice A1 n c1, .slice A2 n2 c2, .slice A3 n2 c3, .slice A4 n4 c4] 55)) #[.int .i64 h, .slice B1 n d1, .slice B2 n2 d2, .slice B3 n2 d3, .slice B4 n4 d4] 55
    rwa [World.size_alloc] at this
  rw [← hW1] at hfr ⊢
  clear hW1
  generalize w.heap.size = nb at *
  replace hk := hk.fr hfr fun _ _ _ h => h
  replace hp := hp.fr hfr fun _ _ _ h => h
  replace hg := hg.fr hfr fun _ _ _ h => h
  replace hd := hd.fr hfr fun _ _ _ h => h
  replace hk2 := hk2.fr hfr fun _ _ _ h => h
  replace hp2 := hp2.fr hfr fun _ _ _ h => h
  replace hg2 := hg2.fr hfr fun _ _ _ h => h
  replace hd2 := hd2.fr hfr fun _ _ _ h => h
  go_loopw [5] (fun v5 wr => ∃ i : Nat, v5 = .int .i64 i ∧ i ≤ n ∧ Fr Nil W1 wr) (fun v5 _ => n - (intOf v5).toNat)
  case atStart => exact ⟨0, rfl, by omega, Fr.refl _ _⟩
  case round =>
    obtain ⟨i, rfl, hi, hfw⟩ := hrel
    have b1 : wr.cell? ⟨nb, 1, none⟩ = some (.slice A1 n c1) := (hb.fr hfw fun h => h).cell 1
    by_cases hlt : i < n
    · obtain ⟨b, o, rfl, -, -, k0⟩ := int_at (hk.fr hfw fun _ _ _ h => h) hlt
      obtain ⟨b', o', rfl, -, -, k1⟩ := int_at (hk2.fr hfw fun _ _ _ h => h) hlt
      have b11 : wr.cell? ⟨nb + 1, 1, none⟩ = some (.slice (some ⟨b', o', none⟩) n d1) := (hb2.fr hfw fun h => h).cell 1
      have hz0 : (0 : Int) ≤ (i : Int) := by omega
      have hz1 : (i : Int) < (n : Int) := by omega
      go_wp2_with fail
      go_quiet (fail)
      go_wp2
      go_roundw
      case rel => exact ⟨i + 1, by go_num, by omega, hfw.drewN _⟩
      case measure => simp [intOf]; omega
    · go_wp2_with fail
      clear b1 hk hk2 hlt hi
      obtain ⟨w2, rfl⟩ : ∃ wo : World, wo = wr := ⟨_, rfl⟩
      go_loopw [6] (fun v6 wr => ∃ i : Nat, v6 = .int .i64 i ∧ i ≤ n2 ∧ Fr Nil W1 wr) (fun v6 _ => n2 - (intOf v6).toNat)
      case atStart => exact ⟨0, rfl, by omega, hfw⟩
      case round =>
        obtain ⟨j, rfl, hj, hfq⟩ := hrel
        have b2 : wr.cell? ⟨nb, 2, none⟩ = some (.slice A2 n2 c2) := (hb.fr hfq fun h => h).cell 2
        by_cases hlt : j < n2
        · obtain ⟨b, o, rfl, -, -, k0, k1, k2⟩ := kd_at (hp.fr hfq fun _ _ _ h => h) hlt
          obtain ⟨b', o', rfl, -, -, k3, k4, k5⟩ := kd_at (hp2.fr hfq fun _ _ _ h => h) hlt
          obtain ⟨e, f, rfl, -, -, k6⟩ := int_at (hg.fr hfq fun _ _ _ h => h) hlt
          obtain ⟨e', f', rfl, -, -, k7⟩ := int_at (hg2.fr hfq fun _ _ _ h => h) hlt
          have b21 : wr.cell? ⟨nb + 1, 2, none⟩ = some (.slice (some ⟨b', o', none⟩) n2 d2) := (hb2.fr hfq fun h => h).cell 2
          have b3 : wr.cell? ⟨nb, 3, none⟩ = some (.slice (some ⟨e, f, none⟩) n2 c3) := (hb.fr hfq fun h => h).cell 3
          have b31 : wr.cell? ⟨nb + 1, 3, none⟩ = some (.slice (some ⟨e', f', none⟩) n2 d3) := (hb2.fr hfq fun h => h).cell 3
          have hz0 : (0 : Int) ≤ (j : Int) := by omega
          have hz1 : (j : Int) < (n2 : Int) := by omega
          go_wp2_with fail
          go_quiet (fail)
          go_wp2
          go_roundw
          case rel => exact ⟨j + 1, by go_num, by omega, hfq.drewN _⟩
          case measure => simp [intOf]; omega
        · go_wp2_with fail
          clear b2 hp hp2 hg hg2 hlt hj
          obtain ⟨w3, rfl⟩ : ∃ wo : World, wo = wr := ⟨_, rfl⟩
          go_loopw [7] (fun v7 wr => ∃ i : Nat, v7 = .int .i64 i ∧ i ≤ n4 ∧ Fr Nil W1 wr) (fun v7 _ => n4 - (intOf v7).toNat)
          case atStart => exact ⟨0, rfl, by omega, hfq⟩
          case round =>
            obtain ⟨m, rfl, hm, hfv⟩ := hrel
            have b4 : wr.cell? ⟨nb, 4, none⟩ = some (.slice A4 n4 c4) := (hb.fr hfv fun h => h).cell 4
            by_cases hlt : m < n4
            · obtain ⟨b, o, rfl, -, -, k0, k1, k2⟩ := kd_at (hd.fr hfv fun _ _ _ h => h) hlt
              obtain ⟨b', o', rfl, -, -, k3, k4, k5⟩ := kd_at (hd2.fr hfv fun _ _ _ h => h) hlt
              have b41 : wr.cell? ⟨nb + 1, 4, none⟩ = some (.slice (some ⟨b', o', none⟩) n4 d4) := (hb2.fr hfv fun h => h).cell 4
              have hz0 : (0 : Int) ≤ (m : Int) := by omega
              have hz1 : (m : Int) < (n4 : Int) := by omega
              go_wp2_with fail
              go_quiet (fail)
              go_wp2
              go_roundw
              case rel => exact ⟨m + 1, by go_num, by omega, hfv.drewN _⟩
              case measure => simp [intOf]; omega
            · go_wp2
              go_ret
              exact ⟨rfl, hfr.then hfv⟩
end Go.Proofs.YtgoghmblfdlnbaaGreat.nd
end

section
/- Slab: Save. Conditions: no faults; there is room. -/
set_option linter.unusedSimpArgs false
set_option linter.unusedVariables false
namespace Go.Proofs.YtgoghmblfdlnbaaGreat
open Go.RowKit
open nd (Nd Kd Vs MayNd pre ncells)
abbrev datN (x : Nd) : List Nat := encs (pre x x.ks.length)
theorem datN_len {x : Nd} (h : MayNd x) : (datN x).length ≤ 200 := by
  have h1 := nd.pre_encs_len h (Nat.le_refl _)
  have h2 := h.2.1.1
  show (encs (pre x x.ks.length)).length ≤ 200
  omega
abbrev nN (x : Nd) : Nat := blkN (datN x).length
theorem nN_pos (x : Nd) : 1 ≤ nN x := by show 1 ≤ ((datN x).length + 79) / 64; omega
theorem nN_le {x : Nd} (h : MayNd x) : nN x ≤ 4 := by
  have := datN_len h
  show ((datN x).length + 79) / 64 ≤ 4
  omega
set_option maxRecDepth 20000 in
set_option maxHeartbeats 1600000 in
theorem ssave_k {Q TP S : Nat → Prop} {w0 w : World} {lb plb sb pb bl N gen m : Nat} {p : Pl} {U L H : List Us} {A l : List Rn} (h : Sl Q TP w0 w lb plb sb pb bl N gen m p U L H A l) (hN : 1 ≤ N) (q : nd.Ptr) (x : Nd) (hx : MayNd x) (hV : Vs w S q x) (hgen : gen ≤ 2147483647) (hfa : p.fa = []) (hm : m ≤ 900000) (hti : takeI l (nN x : Int) < l.length) (Post : Ending → World → Prop)
    (hP : ∀ (a : Nat) (p' : Pl) (TP' : Nat → Prop) (w' : World), a = (rn l (takeI l (nN x : Int))).a ∧ a + nN x ≤ bl ∧ Sl Q TP' w0 w' lb plb sb pb bl N gen (m + 2 * nN x) p' (uput U ⟨a, nN x, 1⟩) L H (A ++ [⟨a, nN x⟩]) (takeL l (nN x : Int)) ∧ After p p' (fun j => a ≤ j ∧ j < a + nN x) ∧ (∀ i, i < nN x → p'.get (a + i) = chunk (frameF 78 gen (datN x)) i) ∧ Fr (fun k => ¬ Q k) w w' → Post (.returned (.tuple #[.agg #[.int .i64 (a : Nat), .int .i64 (nN x : Nat), .int .i64 (gen : Nat)], .int .i64 0])) w') :
    Calls Tryz.prog 12 #[.pointer (some ⟨lb, 0, none⟩), .agg (ncells x q)] w Post := by
  have HPost := hid hP
  have HS0 := hid h
  have HV := hid hV
  have Hx := hid hx
  have Hfa := hid hfa
  have Hm := hid hm
  have Hti := hid hti
  have HN := hid hN
  clear hP h hV hx hfa hm hti hN
  have Hdl := hid (datN_len Hx.out)
  have Hn1 := hid (nN_pos x)
  have Hn4 := hid (nN_le Hx.out)
  unfold ncells
  go_enter Tryz.func12, Tryz.ntmps12
  go_wp2_with fail
  obtain ⟨W1, hW1⟩ : ∃ W1, W1 = (w.alloc (.cells (ncells x q) 62)).alloc (.cells #[.int .i64 0, .int .i64 0, .int .i64 0] 57) := ⟨_, rfl⟩
  obtain ⟨nb, hnb⟩ : ∃ nb, nb = w.heap.size := ⟨_, rfl⟩
  obtain ⟨rb, hrb⟩ : ∃ rb, rb = w.heap.size + 1 := ⟨_, rfl⟩
  have f1 : Fr Nil w W1 := by rw [hW1]; exact ((Fr.refl _ _).alloc _).alloc _
  have hN1 : Blk W1 nb (ncells x q) 62 := by rw [hW1, hnb]; exact (Blk.new _ _ _).alloc _
  have hR1 : Blk W1 rb #[.int .i64 0, .int .i64 0, .int .i64 0] 57 := by
    rw [hW1, hrb]
    have := Blk.new (w.alloc (.cells (ncells x q) 62)) #[.int .i64 0, .int .i64 0, .int .i64 0] 57
    rwa [World.size_alloc] at this
  rw [show (#[.int .i64 x.h, .slice q.A1 x.ks.length q.c1, .slice q.A2 x.ps.length q.c2, .slice q.A3 x.gs.length q.c3, .slice q.A4 x.ds.length q.c4] : Array Value) = ncells x q from rfl, ← hW1, ← hrb, ← hnb]
  have H1 := hid (HS0.out.drop (Q := fun k => Q k ∨ k = nb ∨ k = rb) f1 (fun k hk => hk.imp id fun e => by omega) fun k hk => by
    have h1 := hN1.lt
    have h2 := hR1.lt
    rcases hk with hk | hk | hk
    · exact Nat.lt_of_lt_of_le (HS0.out.tlt k (.inl hk)) f1.size
    · omega
    · omega)
  have HR1 := hid hR1
  have F1 := hid f1
  have Hrb := hid (show w.heap.size ≤ rb ∧ w.heap.size ≤ nb from by omega)
  have HV1 := hid (HV.out.nil f1)
  obtain ⟨n0, n1, n2, n3, n4⟩ : W1.cell? ⟨nb, 0, none⟩ = some (.int .i64 x.h) ∧ W1.cell? ⟨nb, 1, none⟩ = some (.slice q.A1 x.ks.length q.c1) ∧ W1.cell? ⟨nb, 2, none⟩ = some (.slice q.A2 x.ps.length q.c2) ∧ W1.cell? ⟨nb, 3, none⟩ = some (.slice q.A3 x.gs.length q.c3) ∧ W1.cell? ⟨nb, 4, none⟩ = some (.slice q.A4 x.ds.length q.c4) := ⟨hN1.cell 0, hN1.cell 1, hN1.cell 2, hN1.cell 3, hN1.cell 4⟩
  have Hw0 := hid (show w0.heap.size ≤ rb ∧ ¬ Q rb from ⟨by have := HS0.out.g.fr0.size; omega, fun hq => by have := HS0.out.tlt rb (.inl hq); omega⟩)
  clear hW1 hrb hnb f1 hR1 hN1 HV HS0
  refine (smade_ok H1.out).mono ?_
  rintro e w2 ⟨rfl, rfl⟩
  go_wp2_with fail
  refine (nd.nodeenc_ok S q x Hx.out W1 HV1.out).mono ?_
  rintro e w2 ⟨D, dc, rfl, hD, hf2⟩
  obtain ⟨d, hd⟩ : ∃ d, d = (encs (pre x x.ks.length)).length := ⟨_, rfl⟩
  rw [← hd] at hD
  rw [← hd]
  have Hd := hid hd
  have HD := hid hD
  have H2 := hid (H1.out.nil hf2)
  have F2 := hid (F1.out.then hf2)
  have HR2 := hid (HR1.out.fr hf2 fun h => h)
  have g2 : w2.cell? ⟨lb, 3, none⟩ = some (.int .i64 (gen : Nat)) := H2.out.b.cell 3
  clear hd hD hf2 n0 n1 n2 n3 n4 HR1 HV1
  go_wp2_with fail
  have hd9 : d ≤ 200 := by rw [Hd.out]; exact Hdl.out
  refine (lmake_ok _ 78 gen (by decide) hgen D dc (datN x) d (by omega) w2 (by have := HD.out.view; rwa [Hd.out] at this ⊢)).mono ?_
  rintro e w3 ⟨g, fm, rfl, hfm, hG, hf3⟩
  have HG := hid hG
  have hfm2 : fm = 64 * nN x := by rw [hfm, Hd.out]
  have Hfm := hid hfm2
  have H3 := hid (H2.out.drop (Q := fun k => (Q k ∨ k = nb ∨ k = rb) ∨ k = g) hf3 (fun k hk => hk.imp id fun e => by rw [e]; exact hG.2 g rfl) fun k hk => by
    rcases hk with hk | hk
    · exact Nat.lt_of_lt_of_le (H2.out.tlt k (.inl hk)) hf3.size
    · rw [hk]; exact hG.lt g rfl)
  have HR3 := hid (HR2.out.fr hf3 fun h => h)
  have F3 := hid (F2.out.then hf3)
  clear hG hf3 hfm hfm2 hd9 g2 HR2 H2
  have hbs : Byt (frameF 78 gen (datN x)) := fr_byt 78 gen _ (by decide) (encs_byt _)
  go_wp2_with fail
  refine (swrite_ok (SD := fun k => k = g) H3.out HN.out (fun k hk => .inr hk) (some ⟨g, 0, none⟩) fm fm (frameF 78 gen (datN x)) (nN x) Hn1.out (Nat.le_trans Hn4.out (by decide)) Hfm.out (Row.view ⟨HG.out.1, fun k hk => by simp [Value.ownBlock] at hk; exact hk.symm⟩) hbs Hm.out Hti.out).mono ?_
  rintro e w4 ⟨okb, a, p', TP', ha, hab, rfl, hS4, hA, hget, hok, hTP, hf4⟩
  obtain rfl : okb = true := hok Hfa.out
  have H4 := hid hS4
  have HA := hid hA
  have Hget := hid (hget rfl)
  have Ha := hid ha
  have Hab := hid hab
  have F4 := hid hf4
  have HR4 := hid (HR3.out.fr hf4 fun h => h (.inl (.inr (.inr rfl))))
  clear hS4 hA hget hok hTP hf4 ha hab HR3 hbs H3
  go_upto_region 12 with (fail)
  obtain ⟨W5, hW5⟩ : ∃ W5, W5 = w4.alloc (.cells #[.int .i64 (a : Nat), .int .i64 (nN x : Nat)] 39) := ⟨_, rfl⟩
  obtain ⟨xb, hxb⟩ : ∃ xb, xb = w4.heap.size := ⟨_, rfl⟩
  have f5 : Fr Nil w4 W5 := by rw [hW5]; exact (Fr.refl _ _).alloc _
  have hX5 : Blk W5 xb #[.int .i64 (a : Nat), .int .i64 (nN x : Nat)] 39 := by rw [hW5, hxb]; exact Blk.new _ _ _
  have hxr : ¬ xb = rb := fun e => by have := HR4.out.lt; omega
  have hlr : ¬ lb = rb := fun e => (H4.out.q lb (.inr rfl)).2 (.inl (.inr (.inr e)))
  rw [← hW5, ← hxb]
  have H5 := hid (H4.out.nil f5)
  have HR5 := hid (HR4.out.fr f5 fun h => h)
  have F5 := hid f5
  have hS : (fun w' : World => w'.cell? ⟨xb, 0, none⟩ = some (.int .i64 (a : Nat)) ∧ w'.cell? ⟨xb, 1, none⟩ = some (.int .i64 (nN x : Nat)) ∧ w'.cell? ⟨lb, 3, none⟩ = some (.int .i64 (gen : Nat))) W5.drew := ⟨hX5.drew.cell 0, hX5.drew.cell 1, H5.out.b.drew.cell 3⟩
  have HX5 := hid hX5
  have Hxr := hid hxr
  have Hlr := hid hlr
  clear hW5 hxb f5 hX5 hxr hlr
  refine wpU_region (k := 10) (S := (fun w' : World => w'.cell? ⟨xb, 0, none⟩ = some (.int .i64 (a : Nat)) ∧ w'.cell? ⟨xb, 1, none⟩ = some (.int .i64 (nN x : Nat)) ∧ w'.cell? ⟨lb, 3, none⟩ = some (.int .i64 (gen : Nat)))) (by kernel_rfl) ?_
  refine wpU_take (i := 0) (v := ?_) rfl (by kernel_rfl) (by kernel_rfl) (fun _ _ _ h => h) _ _ _ _ (by kernel_rfl) (by kernel_rfl) (by kernel_rfl) (Or.inl ⟨by kernel_rfl, ?_⟩) hS ?_
  rotate_left
  · (intro w9 hS9; obtain ⟨s0, s1, s2⟩ := hS9; go_simp); (try with_reducible rfl)
  try simp only [Act.put, List.getElem_toArray, List.getElem_cons_succ, List.getElem_cons_zero, List.setIfInBounds_toArray, List.set_cons_zero, List.set_cons_succ]
  refine wpU_take (i := 1) (v := ?_) rfl (by kernel_rfl) (by kernel_rfl) (fun _ _ _ h => h) _ _ _ _ (by kernel_rfl) (by kernel_rfl) (by kernel_rfl) (Or.inl ⟨by kernel_rfl, ?_⟩) hS ?_
  rotate_left
  · (intro w9 hS9; obtain ⟨s0, s1, s2⟩ := hS9; go_simp); (try with_reducible rfl)
  try simp only [Act.put, List.getElem_toArray, List.getElem_cons_succ, List.getElem_cons_zero, List.setIfInBounds_toArray, List.set_cons_zero, List.set_cons_succ]
  refine wpU_take (i := 2) (v := ?_) rfl (by kernel_rfl) (by kernel_rfl) (fun _ _ _ h => h) _ _ _ _ (by kernel_rfl) (by kernel_rfl) (by kernel_rfl) (Or.inl ⟨by kernel_rfl, ?_⟩) hS ?_
  rotate_left
  · (intro w9 hS9; obtain ⟨s0, s1, s2⟩ := hS9; go_simp); (try with_reducible rfl)
  try simp only [Act.put, List.getElem_toArray, List.getElem_cons_succ, List.getElem_cons_zero, List.setIfInBounds_toArray, List.set_cons_zero, List.set_cons_succ]
  refine wpU_take (i := 3) (v := ?_) rfl (by kernel_rfl) (by kernel_rfl) (fun _ _ _ h => h) _ _ _ _ (by kernel_rfl) (by kernel_rfl) (by kernel_rfl) (Or.inl ⟨by kernel_rfl, ?_⟩) hS ?_
  rotate_left
  · (intro w9 hS9; obtain ⟨s0, s1, s2⟩ := hS9; go_simp); (try with_reducible rfl)
  try simp only [Act.put, List.getElem_toArray, List.getElem_cons_succ, List.getElem_cons_zero, List.setIfInBounds_toArray, List.set_cons_zero, List.set_cons_succ]
  refine wpU_take (i := 4) (v := ?_) rfl (by kernel_rfl) (by kernel_rfl) (fun _ _ _ h => h) _ _ _ _ (by kernel_rfl) (by kernel_rfl) (by kernel_rfl) (Or.inl ⟨by kernel_rfl, ?_⟩) hS ?_
  rotate_left
  · (intro w9 hS9; obtain ⟨s0, s1, s2⟩ := hS9; go_simp); (try with_reducible rfl)
  try simp only [Act.put, List.getElem_toArray, List.getElem_cons_succ, List.getElem_cons_zero, List.setIfInBounds_toArray, List.set_cons_zero, List.set_cons_succ]
  refine wpU_take (i := 5) (v := ?_) rfl (by kernel_rfl) (by kernel_rfl) (fun _ _ _ h => h) _ _ _ _ (by kernel_rfl) (by kernel_rfl) (by kernel_rfl) (Or.inl ⟨by kernel_rfl, ?_⟩) hS ?_
  rotate_left
  · (intro w9 hS9; obtain ⟨s0, s1, s2⟩ := hS9; go_simp); (try with_reducible rfl)
  try simp only [Act.put, List.getElem_toArray, List.getElem_cons_succ, List.getElem_cons_zero, List.setIfInBounds_toArray, List.set_cons_zero, List.set_cons_succ]
  refine wpU_take (i := 6) (v := ?_) rfl (by kernel_rfl) (by kernel_rfl) (fun _ _ _ h => h) _ _ _ _ (by kernel_rfl) (by kernel_rfl) (by kernel_rfl) (Or.inl ⟨by kernel_rfl, ?_⟩) hS ?_
  rotate_left
  · (intro w9 hS9; obtain ⟨s0, s1, s2⟩ := hS9; go_simp); (try with_reducible rfl)
  try simp only [Act.put, List.getElem_toArray, List.getElem_cons_succ, List.getElem_cons_zero, List.setIfInBounds_toArray, List.set_cons_zero, List.set_cons_succ]
  refine wpU_take (i := 7) (v := ?_) rfl (by kernel_rfl) (by kernel_rfl) (fun _ _ _ h => h) _ _ _ _ (by kernel_rfl) (by kernel_rfl) (by kernel_rfl) (Or.inl ⟨by kernel_rfl, ?_⟩) hS ?_
  rotate_left
  · (intro w9 hS9; obtain ⟨s0, s1, s2⟩ := hS9; go_simp); (try with_reducible rfl)
  try simp only [Act.put, List.getElem_toArray, List.getElem_cons_succ, List.getElem_cons_zero, List.setIfInBounds_toArray, List.set_cons_zero, List.set_cons_succ]
  refine wpU_take (i := 8) (v := ?_) rfl (by kernel_rfl) (by kernel_rfl) (fun _ _ _ h => h) _ _ _ _ (by kernel_rfl) (by kernel_rfl) (by kernel_rfl) (Or.inl ⟨by kernel_rfl, ?_⟩) hS ?_
  rotate_left
  · (intro w9 hS9; obtain ⟨s0, s1, s2⟩ := hS9; go_simp); (try with_reducible rfl)
  try simp only [Act.put, List.getElem_toArray, List.getElem_cons_succ, List.getElem_cons_zero, List.setIfInBounds_toArray, List.set_cons_zero, List.set_cons_succ]
  have hr7 := HR5.out
  have k0 := hr7.cell 0
  have k1 := hr7.cell 1
  have k2 := hr7.cell 2
  have z0 := hr7.frozen 0
  have z1 := hr7.frozen 1
  have z2 := hr7.frozen 2
  have hrl := hr7.lt
  have HR7 := hid hr7
  clear hr7
  refine wpU_next (i := 9) rfl (by kernel_rfl) (fun K hK => ?_)
  go_simp
  have hfs : Fr (fun k => k = rb) W5 (((W5.setCell ⟨rb, 0, none⟩ (.int .i64 (a : Nat))).setCell ⟨rb, 1, none⟩ (.int .i64 (nN x : Nat))).setCell ⟨rb, 2, none⟩ (.int .i64 (gen : Nat))).drew := (((Fr.refl (fun k => k = rb) W5).setCell (a := ⟨rb, 0, none⟩) (.inl rfl) _).setCell (a := ⟨rb, 1, none⟩) (.inl rfl) _).setCell (a := ⟨rb, 2, none⟩) (.inl rfl) _ |>.drew
  have hb9 := (((HR7.out.set 0 (.int .i64 (a : Nat))).set 1 (.int .i64 (nN x : Nat))).set 2 (.int .i64 (gen : Nat))).drew
  generalize (((W5.setCell ⟨rb, 0, none⟩ (.int .i64 (a : Nat))).setCell ⟨rb, 1, none⟩ (.int .i64 (nN x : Nat))).setCell ⟨rb, 2, none⟩ (.int .i64 (gen : Nat))).drew = W9 at *
  have r0 : W9.cell? ⟨rb, 0, none⟩ = some (.int .i64 (a : Nat)) := hb9.cell 0
  have r1 : W9.cell? ⟨rb, 1, none⟩ = some (.int .i64 (nN x : Nat)) := hb9.cell 1
  have r2 : W9.cell? ⟨rb, 2, none⟩ = some (.int .i64 (gen : Nat)) := hb9.cell 2
  have HFS := hid hfs
  have hS9 : (fun w' : World => w'.cell? ⟨xb, 0, none⟩ = some (.int .i64 (a : Nat)) ∧ w'.cell? ⟨xb, 1, none⟩ = some (.int .i64 (nN x : Nat)) ∧ w'.cell? ⟨lb, 3, none⟩ = some (.int .i64 (gen : Nat))) W9 := ⟨hfs.cell (HX5.out.cell 0) Hxr.out, hfs.cell (HX5.out.cell 1) Hxr.out, hfs.cell (H5.out.b.cell 3) Hlr.out⟩
  clear hfs hb9 k0 k1 k2 z0 z1 z2 hrl hS
  refine hK.out _ _ (fun _ => hS9) ?_
  clear hK K
  try simp only [Act.put, List.getElem_toArray, List.getElem_cons_succ, List.getElem_cons_zero, List.setIfInBounds_toArray, List.set_cons_zero, List.set_cons_succ]
  clear hS9
  refine wpU_next (i := 10) rfl (by kernel_rfl) (fun K hK => ?_)
  go_simp
  refine hK.out _ _ (fun h => absurd rfl h.1) ?_
  refine wpU_done (by kernel_rfl) ?_ _
  clear hK K
  go_wp2
  simp [bodyPost, results, Tryz.results12, go_sem, r0, r1, r2]
  refine HPost.out _ _ _ _ ⟨Ha.out, Hab.out, H5.out.own HFS.out (fun k hk => .inl (.inr (.inr hk))) (fun k hk => by rw [hk]; exact Hw0.out.1) (fun k hk => .inl (.inl hk)), HA.out, Hget.out, ?_⟩
  exact ((F3.out.nil (S := fun k => ¬ Q k)).then (F4.out.mono fun k hk hq => hk (.inl (.inl hq)))).then (F5.out.nil.then (HFS.out.mono fun k hk => by rw [hk]; exact Hw0.out.2))
end Go.Proofs.YtgoghmblfdlnbaaGreat
end

section
/- Plain words on parts that are written and read back (no program). -/
set_option linter.unusedSimpArgs false
set_option linter.unusedVariables false
namespace Go.Proofs.YtgoghmblfdlnbaaGreat
open Go.RowKit

/-- A part: what it is, its number, its bytes. -/
structure Prt where
  d : Int
  n : Int
  b : List Nat
deriving Inhabited

/-- 28 bits of an int. -/
theorem i64_and28 (n : Int) : bits .and .i64 n 268435455 = n % 268435456 := by
  have h28 : (BitVec.ofInt 64 268435455).toNat = 2 ^ 28 - 1 := by decide
  have key : (BitVec.ofInt 64 n &&& BitVec.ofInt 64 268435455).toNat = (n % ((2 ^ 64 : Nat) : Int)).toNat % 2 ^ 28 := by
    rw [BitVec.toNat_and, BitVec.toNat_ofInt, h28, Nat.and_two_pow_sub_one_eq_mod]
  show IntKind.i64.wrap ((BitVec.ofInt 64 n &&& BitVec.ofInt 64 268435455).toNat : Nat) = n % 268435456
  rw [key, IntKind.wrap_i64]
  omega
theorem val_i64 (n : Int) : bits .and .i64 n 268435455 = ((val n : Nat) : Int) := by rw [i64_and28]; unfold val; omega

/-- A part's bytes. -/
def encP (p : Prt) : List Nat := if p.d = 2 then enc p.b.length ++ p.b else enc (val p.n)
def encsP (ps : List Prt) : List Nat := ps.flatMap encP
theorem encsP_nil : encsP [] = [] := rfl
theorem encsP_cons (p : Prt) (ps : List Prt) : encsP (p :: ps) = encP p ++ encsP ps := rfl
theorem encsP_snoc (ps : List Prt) (p : Prt) : encsP (ps ++ [p]) = encsP ps ++ encP p := by simp [encsP]
theorem encP_byt (p : Prt) (h : Byt p.b) : Byt (encP p) := by
  unfold encP; split
  · exact (enc_byt _).append h
  · exact enc_byt _
theorem encsP_byt (ps : List Prt) (h : ∀ p ∈ ps, Byt p.b) : Byt (encsP ps) := by
  intro c hc
  obtain ⟨p, hp, hm⟩ := List.mem_flatMap.1 hc
  exact encP_byt p (h p hp) c hm
theorem encP_len (p : Prt) (h : p.b.length ≤ 500) : (encP p).length ≤ 504 ∧ 0 < (encP p).length := by
  unfold encP; split
  · have := enc_len p.b.length (by omega); rw [List.length_append]; omega
  · have := enc_len (val p.n) (val_lt _); omega
theorem encsP_len (ps : List Prt) (h : ∀ p ∈ ps, p.b.length ≤ 500) : (encsP ps).length ≤ 504 * ps.length := by
  induction ps with
  | nil => simp [encsP]
  | cons p ps ih =>
    rw [encsP_cons, List.length_append, List.length_cons]
    have := (encP_len p (h p (by simp))).1
    have := ih (fun m hm => h m (List.mem_cons_of_mem _ hm))
    omega

/-- How a reading of parts goes: each is read as it was written, or the bytes end. -/
inductive Rd : List Prt → List Nat → Got Unit → Prop where
  | nil (bs : List Nat) : Rd [] bs (.ok () bs)
  | num (p : Prt) (ps : List Prt) (bs t : List Nat) (out : Got Unit) : p.d ≠ 2 → num bs = .ok (val p.n) t → Rd ps t out → Rd (p :: ps) bs out
  | byt (p : Prt) (ps : List Prt) (bs t : List Nat) (out : Got Unit) : p.d = 2 → byt 500 bs = .ok p.b t → Rd ps t out → Rd (p :: ps) bs out
  | numBad (p : Prt) (ps : List Prt) (bs : List Nat) (e : Int) : p.d ≠ 2 → num bs = .bad e → Rd (p :: ps) bs (.bad e)
  | bytBad (p : Prt) (ps : List Prt) (bs : List Nat) (e : Int) : p.d = 2 → byt 500 bs = .bad e → Rd (p :: ps) bs (.bad e)

/-- All of it. -/
theorem Rd.all (ps : List Prt) (h : ∀ p ∈ ps, p.b.length ≤ 500) (rest : List Nat) : Rd ps (encsP ps ++ rest) (.ok () rest) := by
  induction ps with
  | nil => exact .nil rest
  | cons p ps ih =>
    have h1 := ih (fun m hm => h m (List.mem_cons_of_mem _ hm))
    have hp := h p (by simp)
    rw [encsP_cons, List.append_assoc]
    unfold encP
    by_cases h2 : p.d = 2
    · rw [if_pos h2, List.append_assoc]
      exact .byt p ps _ _ _ h2 (byt_enc 500 p.b (by omega) (by omega) _) h1
    · rw [if_neg h2]
      exact .num p ps _ _ _ h2 (num_enc _ (val_lt _) _) h1

theorem numF_short : ∀ (f i x y k : Nat), (enc y).length ≤ f → k < (enc y).length → numF f i x ((enc y).take k) = .bad 2
  | 0, i, x, y, k, hf, hk => by omega
  | f + 1, i, x, y, 0, hf, hk => by simp [numF]
  | f + 1, i, x, y, k + 1, hf, hk => by
    by_cases h : y < 128
    · rw [enc_lo h] at hk; simp at hk
    · rw [enc_hi h] at hf hk ⊢
      simp only [List.take_succ_cons, numF]
      rw [if_neg (by omega)]
      exact numF_short f (i + 1) _ (y / 128) k (by simpa using hf) (by simpa using hk)
theorem num_short (y k : Nat) (h : y < 268435456) (hk : k < (enc y).length) : num ((enc y).take k) = .bad 2 := numF_short 4 0 0 y k (enc_len y h).1 hk
theorem byt_short (most : Int) (l : List Nat) (k : Nat) (h : (l.length : Int) ≤ most) (h2 : l.length < 268435456) (hk : k < (enc l.length ++ l).length) : byt most ((enc l.length ++ l).take k) = .bad 2 := by
  unfold byt
  by_cases h1 : k < (enc l.length).length
  · rw [List.take_append_of_le_length (by omega), num_short _ _ h2 h1]
  · rw [List.length_append] at hk
    rw [List.take_append, List.take_of_length_le (by omega), num_enc _ h2]
    simp only
    rw [if_neg (by omega), if_pos (by rw [List.length_take]; omega)]
/-- Cut anywhere. -/
theorem Rd.cut (ps : List Prt) (h : ∀ p ∈ ps, p.b.length ≤ 500) (k : Nat) (hk : k < (encsP ps).length) : Rd ps ((encsP ps).take k) (.bad 2) := by
  induction ps generalizing k with
  | nil => simp [encsP] at hk
  | cons p ps ih =>
    have hp := h p (by simp)
    rw [encsP_cons] at hk ⊢
    by_cases h1 : k < (encP p).length
    · rw [List.take_append_of_le_length (by omega)]
      unfold encP at h1 ⊢
      by_cases h2 : p.d = 2
      · rw [if_pos h2] at h1 ⊢
        exact .bytBad p ps _ _ h2 (byt_short 500 p.b k (by omega) (by omega) h1)
      · rw [if_neg h2] at h1 ⊢
        exact .numBad p ps _ _ h2 (num_short _ k (val_lt _) h1)
    · rw [List.length_append] at hk
      rw [List.take_append, List.take_of_length_le (by omega)]
      have h3 := ih (fun m hm => h m (List.mem_cons_of_mem _ hm)) (k - (encP p).length) (by omega)
      unfold encP
      by_cases h2 : p.d = 2
      · simp only [if_pos h2]
        rw [List.append_assoc]
        unfold encP at h3
        simp only [if_pos h2] at h3
        exact .byt p ps _ _ _ h2 (byt_enc 500 p.b (by omega) (by omega) _) h3
      · simp only [if_neg h2]
        unfold encP at h3
        simp only [if_neg h2] at h3
        exact .num p ps _ _ _ h2 (num_enc _ (val_lt _) _) h3
end Go.Proofs.YtgoghmblfdlnbaaGreat
end

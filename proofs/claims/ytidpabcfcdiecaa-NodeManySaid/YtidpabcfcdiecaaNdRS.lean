/- The reference's Same: two nodes that are one (chapter 13). -/
import Derived.Test.YtidpabcfcdiecaaNdRM2
set_option linter.unusedSimpArgs false
set_option linter.unusedVariables false
namespace Go.Proofs.Ytidpabcfcdiecaa
open Go.RowKit
set_option maxRecDepth 100000 in
set_option maxHeartbeats 1600000 in
theorem refsame_ok (S S2 : Nat → Prop) (q q2 : Ptr) (x : Nd) (hpg : x.gs.length = x.ps.length) (w : World) (hV : Vs w S q x) (hV2 : Vs w S2 q2 x) :
    Calls Try.prog 17 #[.agg #[.int .i64 x.h, .slice q.A1 x.ks.length q.c1, .slice q.A2 x.ps.length q.c2, .slice q.A3 x.gs.length q.c3, .slice q.A4 x.ds.length q.c4], .agg #[.int .i64 x.h, .slice q2.A1 x.ks.length q2.c1, .slice q2.A2 x.ps.length q2.c2, .slice q2.A3 x.gs.length q2.c3, .slice q2.A4 x.ds.length q2.c4]] w fun e w' => e = .returned (.bool true) ∧ Fr Nil w w' := by
  obtain ⟨h, ks, ps, gs, ds⟩ := x
  obtain ⟨A1, c1, A2, c2, A3, c3, A4, c4⟩ := q
  obtain ⟨B1, d1, B2, d2, B3, d3, B4, d4⟩ := q2
  obtain ⟨hk, hp, hg, hd⟩ := hV
  obtain ⟨hk2, hp2, hg2, hd2⟩ := hV2
  dsimp only at hpg hk hp hg hd hk2 hp2 hg2 hd2 ⊢
  rw [hpg] at hg hg2 ⊢
  clear hpg
  generalize ks.length = n at *
  generalize ps.length = n2 at *
  generalize ds.length = n4 at *
  have hle : n ≤ 9223372036854775807 := hk.le
  have hle2 : n2 ≤ 9223372036854775807 := hp.le
  have hle4 : n4 ≤ 9223372036854775807 := hd.le
  have hfr : Fr Nil w ((w.alloc (.cells #[.int .i64 h, .slice A1 n c1, .slice A2 n2 c2, .slice A3 n2 c3, .slice A4 n4 c4] 26)).alloc (.cells #[.int .i64 h, .slice B1 n d1, .slice B2 n2 d2, .slice B3 n2 d3, .slice B4 n4 d4] 26)) := ((Fr.refl Nil w).alloc _).alloc _
  go_enter Try.func17, Try.ntmps17
  go_wp2_with fail
  obtain ⟨W1, hW1⟩ : ∃ W1, W1 = (w.alloc (.cells #[.int .i64 h, .slice A1 n c1, .slice A2 n2 c2, .slice A3 n2 c3, .slice A4 n4 c4] 26)).alloc (.cells #[.int .i64 h, .slice B1 n d1, .slice B2 n2 d2, .slice B3 n2 d3, .slice B4 n4 d4] 26) := ⟨_, rfl⟩
  have hb : Blk W1 w.heap.size #[.int .i64 h, .slice A1 n c1, .slice A2 n2 c2, .slice A3 n2 c3, .slice A4 n4 c4] 26 := by rw [hW1]; exact (Blk.new _ _ _).alloc _
  have hb2 : Blk W1 (w.heap.size + 1) #[.int .i64 h, .slice B1 n d1, .slice B2 n2 d2, .slice B3 n2 d3, .slice B4 n4 d4] 26 := by
    rw [hW1]
    have := Blk.new (w.alloc (.cells #[.int .i64 h, .slice A1 n c1, .slice A2 n2 c2, .slice A3 n2 c3, .slice A4 n4 c4] 26)) #[.int .i64 h, .slice B1 n d1, .slice B2 n2 d2, .slice B3 n2 d3, .slice B4 n4 d4] 26
    rwa [World.size_alloc] at this
  rw [← hW1] at hfr ⊢
  clear hW1
  generalize w.heap.size = nb at *
  replace hk := hk.fr hfr fun _ _ _ h => h
  replace hp := hp.fr hfr fun _ _ _ h => h
  replace hg := hg.fr hfr fun _ _ _ h => h
  replace hd := hd.fr hfr fun _ _ _ h => h
  replace hk2 := hk2.fr hfr fun _ _ _ h => h
  replace hp2 := hp2.fr hfr fun _ _ _ h => h
  replace hg2 := hg2.fr hfr fun _ _ _ h => h
  replace hd2 := hd2.fr hfr fun _ _ _ h => h
  go_loopw [5] (fun v5 wr => ∃ i : Nat, v5 = .int .i64 i ∧ i ≤ n ∧ Fr Nil W1 wr) (fun v5 _ => n - (intOf v5).toNat)
  case atStart => exact ⟨0, rfl, by omega, Fr.refl _ _⟩
  case round =>
    obtain ⟨i, rfl, hi, hfw⟩ := hrel
    have b1 : wr.cell? ⟨nb, 1, none⟩ = some (.slice A1 n c1) := (hb.fr hfw fun h => h).cell 1
    by_cases hlt : i < n
    · obtain ⟨b, o, rfl, -, -, k0⟩ := int_at (hk.fr hfw fun _ _ _ h => h) hlt
      obtain ⟨b', o', rfl, -, -, k1⟩ := int_at (hk2.fr hfw fun _ _ _ h => h) hlt
      have b11 : wr.cell? ⟨nb + 1, 1, none⟩ = some (.slice (some ⟨b', o', none⟩) n d1) := (hb2.fr hfw fun h => h).cell 1
      have hz0 : (0 : Int) ≤ (i : Int) := by omega
      have hz1 : (i : Int) < (n : Int) := by omega
      go_wp2_with fail
      go_quiet (fail)
      go_wp2
      go_roundw
      case rel => exact ⟨i + 1, by go_num, by omega, hfw.drewN _⟩
      case measure => simp [intOf]; omega
    · go_wp2_with fail
      clear b1 hk hk2 hlt hi
      obtain ⟨w2, rfl⟩ : ∃ wo : World, wo = wr := ⟨_, rfl⟩
      go_loopw [6] (fun v6 wr => ∃ i : Nat, v6 = .int .i64 i ∧ i ≤ n2 ∧ Fr Nil W1 wr) (fun v6 _ => n2 - (intOf v6).toNat)
      case atStart => exact ⟨0, rfl, by omega, hfw⟩
      case round =>
        obtain ⟨j, rfl, hj, hfq⟩ := hrel
        have b2 : wr.cell? ⟨nb, 2, none⟩ = some (.slice A2 n2 c2) := (hb.fr hfq fun h => h).cell 2
        by_cases hlt : j < n2
        · obtain ⟨b, o, rfl, -, -, k0, k1, k2⟩ := kd_at (hp.fr hfq fun _ _ _ h => h) hlt
          obtain ⟨b', o', rfl, -, -, k3, k4, k5⟩ := kd_at (hp2.fr hfq fun _ _ _ h => h) hlt
          obtain ⟨e, f, rfl, -, -, k6⟩ := int_at (hg.fr hfq fun _ _ _ h => h) hlt
          obtain ⟨e', f', rfl, -, -, k7⟩ := int_at (hg2.fr hfq fun _ _ _ h => h) hlt
          have b21 : wr.cell? ⟨nb + 1, 2, none⟩ = some (.slice (some ⟨b', o', none⟩) n2 d2) := (hb2.fr hfq fun h => h).cell 2
          have b3 : wr.cell? ⟨nb, 3, none⟩ = some (.slice (some ⟨e, f, none⟩) n2 c3) := (hb.fr hfq fun h => h).cell 3
          have b31 : wr.cell? ⟨nb + 1, 3, none⟩ = some (.slice (some ⟨e', f', none⟩) n2 d3) := (hb2.fr hfq fun h => h).cell 3
          have hz0 : (0 : Int) ≤ (j : Int) := by omega
          have hz1 : (j : Int) < (n2 : Int) := by omega
          go_wp2_with fail
          go_quiet (fail)
          go_wp2
          go_roundw
          case rel => exact ⟨j + 1, by go_num, by omega, hfq.drewN _⟩
          case measure => simp [intOf]; omega
        · go_wp2_with fail
          clear b2 hp hp2 hg hg2 hlt hj
          obtain ⟨w3, rfl⟩ : ∃ wo : World, wo = wr := ⟨_, rfl⟩
          go_loopw [7] (fun v7 wr => ∃ i : Nat, v7 = .int .i64 i ∧ i ≤ n4 ∧ Fr Nil W1 wr) (fun v7 _ => n4 - (intOf v7).toNat)
          case atStart => exact ⟨0, rfl, by omega, hfq⟩
          case round =>
            obtain ⟨m, rfl, hm, hfv⟩ := hrel
            have b4 : wr.cell? ⟨nb, 4, none⟩ = some (.slice A4 n4 c4) := (hb.fr hfv fun h => h).cell 4
            by_cases hlt : m < n4
            · obtain ⟨b, o, rfl, -, -, k0, k1, k2⟩ := kd_at (hd.fr hfv fun _ _ _ h => h) hlt
              obtain ⟨b', o', rfl, -, -, k3, k4, k5⟩ := kd_at (hd2.fr hfv fun _ _ _ h => h) hlt
              have b41 : wr.cell? ⟨nb + 1, 4, none⟩ = some (.slice (some ⟨b', o', none⟩) n4 d4) := (hb2.fr hfv fun h => h).cell 4
              have hz0 : (0 : Int) ≤ (m : Int) := by omega
              have hz1 : (m : Int) < (n4 : Int) := by omega
              go_wp2_with fail
              go_quiet (fail)
              go_wp2
              go_roundw
              case rel => exact ⟨m + 1, by go_num, by omega, hfv.drewN _⟩
              case measure => simp [intOf]; omega
            · go_wp2
              go_ret
              exact ⟨rfl, hfr.then hfv⟩
end Go.Proofs.Ytidpabcfcdiecaa

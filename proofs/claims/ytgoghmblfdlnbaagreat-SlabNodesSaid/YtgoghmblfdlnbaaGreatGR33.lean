/- The texts VNdB of this proof, one behind the other. Conditions: those of each. -/
import Derived.Test.YtgoghmblfdlnbaaGreatGR32
section
/- The law's Back: a node as the reference has it (chapter 13). -/
set_option linter.unusedSimpArgs false
set_option linter.unusedVariables false
namespace Go.Proofs.YtgoghmblfdlnbaaGreat.nd
open Go.RowKit
theorem info_rkid : (Tryz.prog.info? 100).map (fun i => (i.zero, i.size, i.bytes)) = some (some (.agg #[.int .i64 0, .int .i64 0, .int .i64 0]), 3, 24) := by kernel_rfl
set_option maxRecDepth 100000 in
set_option maxHeartbeats 1600000 in
theorem lawback_ok (S : Nat → Prop) (q : Ptr) (x : Nd) (hs : x.ds.length ≤ 1000) (w : World) (hV : Vs w S q x) :
    Calls Tryz.prog 16 #[.agg #[.int .i64 x.h, .slice q.A1 x.ks.length q.c1, .slice q.A2 x.ps.length q.c2, .slice q.A3 x.gs.length q.c3, .slice q.A4 x.ds.length q.c4]] w fun e w' => ∃ q', e = .returned (.agg #[.int .i64 x.h, .slice q'.A1 x.ks.length q'.c1, .slice q'.A2 x.ps.length q'.c2, .slice q'.A3 x.gs.length q'.c3, .slice q'.A4 x.ds.length q'.c4]) ∧ Vs w' (Grow w S) q' x ∧ Fr Nil w w' := by
  obtain ⟨h, ks, ps, gs, ds⟩ := x
  obtain ⟨A1, c1, A2, c2, A3, c3, A4, c4⟩ := q
  obtain ⟨hk, hp, hg, hd⟩ := hV
  dsimp only at hk hp hg hd hs ⊢
  generalize hn1 : ks.length = n at *
  have Hk := hid hn1; clear hn1
  generalize hn2 : ps.length = n2 at *
  have Hp := hid hn2; clear hn2
  generalize hn3 : gs.length = n3 at *
  have Hg := hid hn3; clear hn3
  generalize hn4 : ds.length = n4 at *
  have Hlen := hid hn4; clear hn4
  have hfr : Fr Nil w ((w.alloc (.cells #[.int .i64 h, .slice A1 n c1, .slice A2 n2 c2, .slice A3 n3 c3, .slice A4 n4 c4] 62)).alloc (.cells #[.int .i64 0, .slice none 0 0, .slice none 0 0, .slice none 0 0, .slice none 0 0] 55)) := ((Fr.refl Nil w).alloc _).alloc _
  go_enter Tryz.func16, Tryz.ntmps16
  go_wp2_with fail
  obtain ⟨W1, hW1⟩ : ∃ W1, W1 = ((w.alloc (.cells #[.int .i64 h, .slice A1 n c1, .slice A2 n2 c2, .slice A3 n3 c3, .slice A4 n4 c4] 62)).alloc (.cells #[.int .i64 0, .slice none 0 0, .slice none 0 0, .slice none 0 0, .slice none 0 0] 55)).alloc (.cells #[.int .i64 h, .slice A1 n c1, .slice A2 n2 c2, .slice A3 n3 c3, .slice none 0 0] 55) := ⟨_, rfl⟩
  have hb : Blk W1 w.heap.size #[.int .i64 h, .slice A1 n c1, .slice A2 n2 c2, .slice A3 n3 c3, .slice A4 n4 c4] 62 := by rw [hW1]; exact ((Blk.new _ _ _).alloc _).alloc _
  have hrb : Blk W1 (w.heap.size + 1) #[.int .i64 0, .slice none 0 0, .slice none 0 0, .slice none 0 0, .slice none 0 0] 55 := by
    rw [hW1]
    have := (Blk.new (w.alloc (.cells #[.int .i64 h, .slice A1 n c1, .slice A2 n2 c2, .slice A3 n3 c3, .slice A4 n4 c4] 62)) #[.int .i64 0, .slice none 0 0, .slice none 0 0, .slice none 0 0, .slice none 0 0] 55).alloc (.cells #[.int .i64 h, .slice A1 n c1, .slice A2 n2 c2, .slice A3 n3 c3, .slice none 0 0] 55)
    rwa [World.size_alloc] at this
  have hg6 : Blk W1 (w.heap.size + 1 + 1) #[.int .i64 h, .slice A1 n c1, .slice A2 n2 c2, .slice A3 n3 c3, .slice none 0 0] 55 := by
    rw [hW1]
    have := Blk.new ((w.alloc (.cells #[.int .i64 h, .slice A1 n c1, .slice A2 n2 c2, .slice A3 n3 c3, .slice A4 n4 c4] 62)).alloc (.cells #[.int .i64 0, .slice none 0 0, .slice none 0 0, .slice none 0 0, .slice none 0 0] 55)) #[.int .i64 h, .slice A1 n c1, .slice A2 n2 c2, .slice A3 n3 c3, .slice none 0 0] 55
    rwa [World.size_alloc, World.size_alloc] at this
  replace hfr : Fr Nil w W1 := by rw [hW1]; exact hfr.alloc _
  have hsW : W1.heap.size = w.heap.size + 3 := by rw [hW1]; simp
  rw [← hW1]
  clear hW1
  replace hk := hk.bd.fr hfr fun _ _ _ h => h
  replace hp := hp.bd.fr hfr fun _ _ _ h => h
  replace hg := hg.bd.fr hfr fun _ _ _ h => h
  replace hd := hd.bd.fr hfr fun _ _ _ h => h
  obtain ⟨nb, hnb⟩ : ∃ nb, nb = w.heap.size := ⟨_, rfl⟩
  rw [← hnb] at hb hrb hg6 hk hp hg hd hsW ⊢
  have hnb2 : nb = w.heap.size := hnb
  have Hnb := hid hnb2
  clear hnb hnb2
  obtain ⟨g, hgg⟩ : ∃ g, g = nb + 1 + 1 := ⟨_, rfl⟩
  rw [← hgg] at hg6 ⊢
  obtain ⟨B, hBg⟩ : ∃ B, B = g := ⟨_, rfl⟩
  have hgB : B ≤ g := by omega
  have hBg2 : B = nb + 2 := by omega
  have HB := hid hBg2
  clear hBg hBg2 hgg hsW
  go_loopw [4] (fun v4 wr => ∃ (i c5 : Nat) (A5 : Option Addr), v4 = .int .i64 i ∧ i ≤ n4 ∧ Blk wr g #[.int .i64 h, .slice A1 n c1, .slice A2 n2 c2, .slice A3 n3 c3, .slice A5 i c5] 55 ∧
    Row wr (fun k => B ≤ k) 100 3 (.slice A5 i c5) i (tri (ds.take i)) ∧ Fr (fun k => B ≤ k) W1 wr) (fun v4 _ => n4 - (intOf v4).toNat)
  case atStart => exact ⟨0, 0, none, rfl, by omega, hg6, Row.nil _ _ _ _, Fr.refl _ _⟩
  case round =>
    obtain ⟨i, c5, A5, rfl, hi, hgr, hrr, hfr9⟩ := hrel
    have hnr := hb.fr hfr9 (fun h => by have := HB.out; omega)
    have b4 : wr.cell? ⟨nb, 4, none⟩ = some (.slice A4 n4 c4) := hnr.cell 4
    by_cases hlt : i < n4
    · obtain ⟨bd, od, rfl, hbd, -, kd0, kd1, kd2⟩ := kd_at (hd.fr hfr9 fun k hk _ (h : B ≤ k) => by have := hk.2; have := Hnb.out; have := HB.out; omega) hlt
      have hbd2 := hbd.2
      have hnbB : nb < B := by have := HB.out; omega
      have hBr : B ≤ wr.heap.size := by have := hgr.lt; omega
      have hnw1 : nb ≤ w.heap.size := by have := Hnb.out; omega
      have hnw2 : w.heap.size ≤ nb := by have := Hnb.out; omega
      have hz0 : (0 : Int) ≤ (i : Int) := by omega
      have hz1 : (i : Int) < (n4 : Int) := by omega
      have hSK : (fun w' : World => w'.cell? ⟨g, 4, none⟩ = some (.slice A5 i c5) ∧ w'.cell? ⟨nb, 4, none⟩ = some (.slice (some ⟨bd, od, none⟩) n4 c4) ∧ w'.cell? ⟨bd, od + i * 3, none⟩ = some (.int .i64 (kd ds i).a) ∧ w'.cell? ⟨bd, od + i * 3 + 1, none⟩ = some (.int .i64 (kd ds i).n) ∧ w'.cell? ⟨bd, od + i * 3 + 2, none⟩ = some (.int .i64 (kd ds i).g)) wr.drew := ⟨hgr.drew.cell 4, hnr.drew.cell 4, kd0, kd1, kd2⟩
      go_wp2_with fail
      clear kd0 kd1 kd2 b4
      refine wpU_region (k := 24) (S := (fun w' : World => w'.cell? ⟨g, 4, none⟩ = some (.slice A5 i c5) ∧ w'.cell? ⟨nb, 4, none⟩ = some (.slice (some ⟨bd, od, none⟩) n4 c4) ∧ w'.cell? ⟨bd, od + i * 3, none⟩ = some (.int .i64 (kd ds i).a) ∧ w'.cell? ⟨bd, od + i * 3 + 1, none⟩ = some (.int .i64 (kd ds i).n) ∧ w'.cell? ⟨bd, od + i * 3 + 2, none⟩ = some (.int .i64 (kd ds i).g))) (by kernel_rfl) ?_
      refine wpU_take (i := 0) (v := ?_) rfl (by kernel_rfl) (by kernel_rfl) (fun _ _ _ h => h) _ _ _ _ (by kernel_rfl) (by kernel_rfl) (by kernel_rfl) (Or.inl ⟨by kernel_rfl, ?_⟩) hSK ?_
      rotate_left
      · (intro w9 hS9; obtain ⟨s0, s1, s2, s3, s4⟩ := hS9; go_simp); (try with_reducible rfl)
      try simp only [Act.put, List.getElem_toArray, List.getElem_cons_succ, List.getElem_cons_zero, List.setIfInBounds_toArray, List.set_cons_zero, List.set_cons_succ]
      refine wpU_take (i := 1) (v := ?_) rfl (by kernel_rfl) (by kernel_rfl) (fun _ _ _ h => h) _ _ _ _ (by kernel_rfl) (by kernel_rfl) (by kernel_rfl) (Or.inl ⟨by kernel_rfl, ?_⟩) hSK ?_
      rotate_left
      · (intro w9 hS9; obtain ⟨s0, s1, s2, s3, s4⟩ := hS9; go_simp); (try with_reducible rfl)
      try simp only [Act.put, List.getElem_toArray, List.getElem_cons_succ, List.getElem_cons_zero, List.setIfInBounds_toArray, List.set_cons_zero, List.set_cons_succ]
      refine wpU_take (i := 2) (v := ?_) rfl (by kernel_rfl) (by kernel_rfl) (fun _ _ _ h => h) _ _ _ _ (by kernel_rfl) (by kernel_rfl) (by kernel_rfl) (Or.inl ⟨by kernel_rfl, ?_⟩) hSK ?_
      rotate_left
      · (intro w9 hS9; obtain ⟨s0, s1, s2, s3, s4⟩ := hS9; go_simp); (try with_reducible rfl)
      try simp only [Act.put, List.getElem_toArray, List.getElem_cons_succ, List.getElem_cons_zero, List.setIfInBounds_toArray, List.set_cons_zero, List.set_cons_succ]
      refine wpU_take (i := 3) (v := ?_) rfl (by kernel_rfl) (by kernel_rfl) (fun _ _ _ h => h) _ _ _ _ (by kernel_rfl) (by kernel_rfl) (by kernel_rfl) (Or.inl ⟨by kernel_rfl, ?_⟩) hSK ?_
      rotate_left
      · (intro w9 hS9; obtain ⟨s0, s1, s2, s3, s4⟩ := hS9; go_simp); (try with_reducible rfl)
      try simp only [Act.put, List.getElem_toArray, List.getElem_cons_succ, List.getElem_cons_zero, List.setIfInBounds_toArray, List.set_cons_zero, List.set_cons_succ]
      refine wpU_take (i := 4) (v := ?_) rfl (by kernel_rfl) (by kernel_rfl) (fun _ _ _ h => h) _ _ _ _ (by kernel_rfl) (by kernel_rfl) (by kernel_rfl) (Or.inl ⟨by kernel_rfl, ?_⟩) hSK ?_
      rotate_left
      · (intro w9 hS9; obtain ⟨s0, s1, s2, s3, s4⟩ := hS9; go_simp); (try with_reducible rfl)
      try simp only [Act.put, List.getElem_toArray, List.getElem_cons_succ, List.getElem_cons_zero, List.setIfInBounds_toArray, List.set_cons_zero, List.set_cons_succ]
      refine wpU_take (i := 5) (v := ?_) rfl (by kernel_rfl) (by kernel_rfl) (fun _ _ _ h => h) _ _ _ _ (by kernel_rfl) (by kernel_rfl) (by kernel_rfl) (Or.inl ⟨by kernel_rfl, ?_⟩) hSK ?_
      rotate_left
      · (intro w9 hS9; obtain ⟨s0, s1, s2, s3, s4⟩ := hS9; go_simp); (try with_reducible rfl)
      try simp only [Act.put, List.getElem_toArray, List.getElem_cons_succ, List.getElem_cons_zero, List.setIfInBounds_toArray, List.set_cons_zero, List.set_cons_succ]
      refine wpU_take (i := 6) (v := ?_) rfl (by kernel_rfl) (by kernel_rfl) (fun _ _ _ h => h) _ _ _ _ (by kernel_rfl) (by kernel_rfl) (by kernel_rfl) (Or.inl ⟨by kernel_rfl, ?_⟩) hSK ?_
      rotate_left
      · (intro w9 hS9; obtain ⟨s0, s1, s2, s3, s4⟩ := hS9; go_simp); (try with_reducible rfl)
      try simp only [Act.put, List.getElem_toArray, List.getElem_cons_succ, List.getElem_cons_zero, List.setIfInBounds_toArray, List.set_cons_zero, List.set_cons_succ]
      refine wpU_take (i := 7) (v := ?_) rfl (by kernel_rfl) (by kernel_rfl) (fun _ _ _ h => h) _ _ _ _ (by kernel_rfl) (by kernel_rfl) (by kernel_rfl) (Or.inl ⟨by kernel_rfl, ?_⟩) hSK ?_
      rotate_left
      · (intro w9 hS9; obtain ⟨s0, s1, s2, s3, s4⟩ := hS9; go_simp); (try with_reducible rfl)
      try simp only [Act.put, List.getElem_toArray, List.getElem_cons_succ, List.getElem_cons_zero, List.setIfInBounds_toArray, List.set_cons_zero, List.set_cons_succ]
      refine wpU_take (i := 8) (v := ?_) rfl (by kernel_rfl) (by kernel_rfl) (fun _ _ _ h => h) _ _ _ _ (by kernel_rfl) (by kernel_rfl) (by kernel_rfl) (Or.inl ⟨by kernel_rfl, ?_⟩) hSK ?_
      rotate_left
      · (intro w9 hS9; obtain ⟨s0, s1, s2, s3, s4⟩ := hS9; go_simp); (try with_reducible rfl)
      try simp only [Act.put, List.getElem_toArray, List.getElem_cons_succ, List.getElem_cons_zero, List.setIfInBounds_toArray, List.set_cons_zero, List.set_cons_succ]
      refine wpU_take (i := 9) (v := ?_) rfl (by kernel_rfl) (by kernel_rfl) (fun _ _ _ h => h) _ _ _ _ (by kernel_rfl) (by kernel_rfl) (by kernel_rfl) (Or.inl ⟨by kernel_rfl, ?_⟩) hSK ?_
      rotate_left
      · (intro w9 hS9; obtain ⟨s0, s1, s2, s3, s4⟩ := hS9; go_simp); (try with_reducible rfl)
      try simp only [Act.put, List.getElem_toArray, List.getElem_cons_succ, List.getElem_cons_zero, List.setIfInBounds_toArray, List.set_cons_zero, List.set_cons_succ]
      refine wpU_take (i := 10) (v := ?_) rfl (by kernel_rfl) (by kernel_rfl) (fun _ _ _ h => h) _ _ _ _ (by kernel_rfl) (by kernel_rfl) (by kernel_rfl) (Or.inl ⟨by kernel_rfl, ?_⟩) hSK ?_
      rotate_left
      · (intro w9 hS9; obtain ⟨s0, s1, s2, s3, s4⟩ := hS9; go_simp); (try with_reducible rfl)
      try simp only [Act.put, List.getElem_toArray, List.getElem_cons_succ, List.getElem_cons_zero, List.setIfInBounds_toArray, List.set_cons_zero, List.set_cons_succ]
      refine wpU_take (i := 11) (v := ?_) rfl (by kernel_rfl) (by kernel_rfl) (fun _ _ _ h => h) _ _ _ _ (by kernel_rfl) (by kernel_rfl) (by kernel_rfl) (Or.inl ⟨by kernel_rfl, ?_⟩) hSK ?_
      rotate_left
      · (intro w9 hS9; obtain ⟨s0, s1, s2, s3, s4⟩ := hS9; go_simp); (try with_reducible rfl)
      try simp only [Act.put, List.getElem_toArray, List.getElem_cons_succ, List.getElem_cons_zero, List.setIfInBounds_toArray, List.set_cons_zero, List.set_cons_succ]
      refine wpU_take (i := 12) (v := ?_) rfl (by kernel_rfl) (by kernel_rfl) (fun _ _ _ h => h) _ _ _ _ (by kernel_rfl) (by kernel_rfl) (by kernel_rfl) (Or.inl ⟨by kernel_rfl, ?_⟩) hSK ?_
      rotate_left
      · (intro w9 hS9; obtain ⟨s0, s1, s2, s3, s4⟩ := hS9; go_simp); (try with_reducible rfl)
      try simp only [Act.put, List.getElem_toArray, List.getElem_cons_succ, List.getElem_cons_zero, List.setIfInBounds_toArray, List.set_cons_zero, List.set_cons_succ]
      refine wpU_take (i := 13) (v := ?_) rfl (by kernel_rfl) (by kernel_rfl) (fun _ _ _ h => h) _ _ _ _ (by kernel_rfl) (by kernel_rfl) (by kernel_rfl) (Or.inl ⟨by kernel_rfl, ?_⟩) hSK ?_
      rotate_left
      · (intro w9 hS9; obtain ⟨s0, s1, s2, s3, s4⟩ := hS9; go_simp); (try with_reducible rfl)
      try simp only [Act.put, List.getElem_toArray, List.getElem_cons_succ, List.getElem_cons_zero, List.setIfInBounds_toArray, List.set_cons_zero, List.set_cons_succ]
      refine wpU_take (i := 14) (v := ?_) rfl (by kernel_rfl) (by kernel_rfl) (fun _ _ _ h => h) _ _ _ _ (by kernel_rfl) (by kernel_rfl) (by kernel_rfl) (Or.inl ⟨by kernel_rfl, ?_⟩) hSK ?_
      rotate_left
      · (intro w9 hS9; obtain ⟨s0, s1, s2, s3, s4⟩ := hS9; go_simp); (try with_reducible rfl)
      try simp only [Act.put, List.getElem_toArray, List.getElem_cons_succ, List.getElem_cons_zero, List.setIfInBounds_toArray, List.set_cons_zero, List.set_cons_succ]
      refine wpU_take (i := 15) (v := ?_) rfl (by kernel_rfl) (by kernel_rfl) (fun _ _ _ h => h) _ _ _ _ (by kernel_rfl) (by kernel_rfl) (by kernel_rfl) (Or.inl ⟨by kernel_rfl, ?_⟩) hSK ?_
      rotate_left
      · (intro w9 hS9; obtain ⟨s0, s1, s2, s3, s4⟩ := hS9; go_simp); (try with_reducible rfl)
      try simp only [Act.put, List.getElem_toArray, List.getElem_cons_succ, List.getElem_cons_zero, List.setIfInBounds_toArray, List.set_cons_zero, List.set_cons_succ]
      refine wpU_take (i := 16) (v := ?_) rfl (by kernel_rfl) (by kernel_rfl) (fun _ _ _ h => h) _ _ _ _ (by kernel_rfl) (by kernel_rfl) (by kernel_rfl) (Or.inl ⟨by kernel_rfl, ?_⟩) hSK ?_
      rotate_left
      · (intro w9 hS9; obtain ⟨s0, s1, s2, s3, s4⟩ := hS9; go_simp); (try with_reducible rfl)
      try simp only [Act.put, List.getElem_toArray, List.getElem_cons_succ, List.getElem_cons_zero, List.setIfInBounds_toArray, List.set_cons_zero, List.set_cons_succ]
      refine wpU_take (i := 17) (v := ?_) rfl (by kernel_rfl) (by kernel_rfl) (fun _ _ _ h => h) _ _ _ _ (by kernel_rfl) (by kernel_rfl) (by kernel_rfl) (Or.inl ⟨by kernel_rfl, ?_⟩) hSK ?_
      rotate_left
      · (intro w9 hS9; obtain ⟨s0, s1, s2, s3, s4⟩ := hS9; go_simp); (try with_reducible rfl)
      try simp only [Act.put, List.getElem_toArray, List.getElem_cons_succ, List.getElem_cons_zero, List.setIfInBounds_toArray, List.set_cons_zero, List.set_cons_succ]
      refine wpU_take (i := 18) (v := ?_) rfl (by kernel_rfl) (by kernel_rfl) (fun _ _ _ h => h) _ _ _ _ (by kernel_rfl) (by kernel_rfl) (by kernel_rfl) (Or.inl ⟨by kernel_rfl, ?_⟩) hSK ?_
      rotate_left
      · (intro w9 hS9; obtain ⟨s0, s1, s2, s3, s4⟩ := hS9; go_simp); (try with_reducible rfl)
      try simp only [Act.put, List.getElem_toArray, List.getElem_cons_succ, List.getElem_cons_zero, List.setIfInBounds_toArray, List.set_cons_zero, List.set_cons_succ]
      refine wpU_take (i := 19) (v := ?_) rfl (by kernel_rfl) (by kernel_rfl) (fun _ _ _ h => h) _ _ _ _ (by kernel_rfl) (by kernel_rfl) (by kernel_rfl) (Or.inl ⟨by kernel_rfl, ?_⟩) hSK ?_
      rotate_left
      · (intro w9 hS9; obtain ⟨s0, s1, s2, s3, s4⟩ := hS9; go_simp); (try with_reducible rfl)
      try simp only [Act.put, List.getElem_toArray, List.getElem_cons_succ, List.getElem_cons_zero, List.setIfInBounds_toArray, List.set_cons_zero, List.set_cons_succ]
      refine wpU_take (i := 20) (v := ?_) rfl (by kernel_rfl) (by kernel_rfl) (fun _ _ _ h => h) _ _ _ _ (by kernel_rfl) (by kernel_rfl) (by kernel_rfl) (Or.inl ⟨by kernel_rfl, ?_⟩) hSK ?_
      rotate_left
      · (intro w9 hS9; obtain ⟨s0, s1, s2, s3, s4⟩ := hS9; go_simp); (try with_reducible rfl)
      try simp only [Act.put, List.getElem_toArray, List.getElem_cons_succ, List.getElem_cons_zero, List.setIfInBounds_toArray, List.set_cons_zero, List.set_cons_succ]
      refine wpU_next (i := 21) rfl (by kernel_rfl) (fun K hK => ?_)
      go_simp
      obtain ⟨W7, hW7⟩ : ∃ W7, W7 = (wr.alloc (.cells #[.int .i64 (kd ds i).a, .int .i64 (kd ds i).n, .int .i64 (kd ds i).g] 100)).drew := ⟨_, rfl⟩
      have hf7 : Fr Nil wr.drew W7 := by rw [hW7]; exact (Fr.refl Nil wr.drew).alloc _
      have hv7 : View W7 (New wr) 3 (.slice (some ⟨wr.heap.size, 0, none⟩) 1 1) 1 (kcells (kd ds i)) := by
        rw [hW7]; exact View.lit (s := 3) wr.drew #[.int .i64 (kd ds i).a, .int .i64 (kd ds i).n, .int .i64 (kd ds i).g] 100 (0, 0) 1 rfl (by decide)
      have hSK7 : (fun w' : World => w'.cell? ⟨g, 4, none⟩ = some (.slice A5 i c5) ∧ w'.cell? ⟨nb, 4, none⟩ = some (.slice (some ⟨bd, od, none⟩) n4 c4) ∧ w'.cell? ⟨bd, od + i * 3, none⟩ = some (.int .i64 (kd ds i).a) ∧ w'.cell? ⟨bd, od + i * 3 + 1, none⟩ = some (.int .i64 (kd ds i).n) ∧ w'.cell? ⟨bd, od + i * 3 + 2, none⟩ = some (.int .i64 (kd ds i).g)) W7 := mk5n hf7 hSK
      rw [← hW7]
      clear hW7
      refine hK.out _ _ (fun _ => hSK7) ?_
      clear hK K
      try simp only [Act.put, List.getElem_toArray, List.getElem_cons_succ, List.getElem_cons_zero, List.setIfInBounds_toArray, List.set_cons_zero, List.set_cons_succ]
      have hg7 := hgr.drew.fr hf7 fun h => h
      have hr7 := hrr.drew.fr hf7 fun _ _ h => h
      have hB7 : B ≤ W7.heap.size := by have := hf7.size; have : wr.drew.heap.size = wr.heap.size := rfl; omega
      refine wpU_next (i := 22) rfl (by kernel_rfl) (fun K hK => ?_)
      refine step_app_view rfl _ _ 53 (by rfl) (.agg #[.int .i64 0, .int .i64 0, .int .i64 0]) 24 Tryz.underlying53 info_rkid rfl (by decide) hr7 (by rfl) hv7 (by rfl) (kcells_cell (kd ds i)) (by omega) (by decide) ?_
      intro A6 c6 w6 q1 q2
      obtain ⟨k1, k2, k3, k4⟩ := kid_step hg7 hgB hr7 (by decide) hB7 q1 q2
      have hown : ∀ k, (Value.slice A5 i c5).ownBlock = some k → B ≤ k := fun k hk => hrr.2 k hk
      have hSK9 : (fun w' : World => w'.cell? ⟨g, 4, none⟩ = some (.slice A5 i c5) ∧ w'.cell? ⟨nb, 4, none⟩ = some (.slice (some ⟨bd, od, none⟩) n4 c4) ∧ w'.cell? ⟨bd, od + i * 3, none⟩ = some (.int .i64 (kd ds i).a) ∧ w'.cell? ⟨bd, od + i * 3 + 1, none⟩ = some (.int .i64 (kd ds i).n) ∧ w'.cell? ⟨bd, od + i * 3 + 2, none⟩ = some (.int .i64 (kd ds i).g)) w6 := mk5s q2 hSK7 (k1.cell 4) (fun h => by have := hown _ h; dsimp only at this; omega) (fun h => by have := hown _ h; dsimp only at this; omega) (fun h => by have := hown _ h; dsimp only at this; omega) (fun h => by have := hown _ h; dsimp only at this; omega)
      refine hK.out _ _ (fun _ => hSK9) ?_
      clear hK K
      try simp only [Act.put, List.getElem_toArray, List.getElem_cons_succ, List.getElem_cons_zero, List.setIfInBounds_toArray, List.set_cons_zero, List.set_cons_succ]
      refine wpU_next (i := 23) rfl (by kernel_rfl) (fun K hK => ?_)
      go_simp
      refine hK.out _ _ (fun _ => hSK9) ?_
      clear hK K
      try simp only [Act.put, List.getElem_toArray, List.getElem_cons_succ, List.getElem_cons_zero, List.setIfInBounds_toArray, List.set_cons_zero, List.set_cons_succ]
      have kc := k1.cell 4
      have kz := k1.frozen 4
      refine wpU_next (i := 24) rfl (by kernel_rfl) (fun K hK => ?_)
      go_simp
      refine hK.out _ _ (fun h => absurd rfl h.1) ?_
      refine wpU_done (by kernel_rfl) ?_ _
      clear hK K
      clear kc kz hSK hSK7 hSK9
      have hfr10 := (hfr9.drew.then hf7.nil).then k4
      rw [← kids_take (by have := Hlen.out; omega)] at k3
      clear q1 q2 k1 hgr hrr hfr9 hf7 hg7 hr7 hv7 hnr hown
      generalize w6.setCell ⟨g, 4, none⟩ (.slice A6 (i + 1) c6) = w7 at *
      go_wp2
      go_roundw
      case rel => exact ⟨i + 1, c6, A6, by go_num, by omega, k2, k3, hfr10⟩
      case measure => simp [intOf]; omega
    · obtain rfl : i = n4 := by omega
      have hrb9 := hrb.fr hfr9 (fun h => by have := HB.out; omega)
      rw [List.take_of_length_le (by have := Hlen.out; omega)] at hrr
      have e0 : wr.cell? ⟨g, 0, none⟩ = some (.int .i64 h) := hgr.cell 0
      have e1 : wr.cell? ⟨g, 1, none⟩ = some (.slice A1 n c1) := hgr.cell 1
      have e2 : wr.cell? ⟨g, 2, none⟩ = some (.slice A2 n2 c2) := hgr.cell 2
      have e3 : wr.cell? ⟨g, 3, none⟩ = some (.slice A3 n3 c3) := hgr.cell 3
      have e4 : wr.cell? ⟨g, 4, none⟩ = some (.slice A5 i c5) := hgr.cell 4
      have i0 : wr.cell? ⟨nb + 1, 0, none⟩ = some (.int .i64 0) := hrb9.cell 0
      have i1 : wr.cell? ⟨nb + 1, 1, none⟩ = some (.slice none 0 0) := hrb9.cell 1
      have i2 : wr.cell? ⟨nb + 1, 2, none⟩ = some (.slice none 0 0) := hrb9.cell 2
      have i3 : wr.cell? ⟨nb + 1, 3, none⟩ = some (.slice none 0 0) := hrb9.cell 3
      have i4 : wr.cell? ⟨nb + 1, 4, none⟩ = some (.slice none 0 0) := hrb9.cell 4
      have z0 := hrb9.frozen 0
      have z1 := hrb9.frozen 1
      have z2 := hrb9.frozen 2
      have z3 := hrb9.frozen 3
      have z4 := hrb9.frozen 4
      have hlt9 := hrb9.lt
      go_wp2
      have hb6 := st5_blk hrb9 (.int .i64 h) (.slice A1 n c1) (.slice A2 n2 c2) (.slice A3 n3 c3) (.slice A5 i c5)
      have hst := st5_fr wr (nb + 1) (.int .i64 h) (.slice A1 n c1) (.slice A2 n2 c2) (.slice A3 n3 c3) (.slice A5 i c5)
      have hnw1 : nb ≤ w.heap.size := by have := Hnb.out; omega
      have hnw2 : w.heap.size ≤ nb := by have := Hnb.out; omega
      have hBn : B = nb + 2 := HB.out
      have q4 := hrr.fr hst (fun k hk e => hrr.apart_blk hrb9 (by decide) (by rw [hk, e]))
      have q1 := (hk.fr hfr9 fun k hk _ (h : B ≤ k) => by have := hk.2; omega).fr hst (fun k hk _ (e : k = nb + 1) => by have := hk.2; omega)
      have q2 := (hp.fr hfr9 fun k hk _ (h : B ≤ k) => by have := hk.2; omega).fr hst (fun k hk _ (e : k = nb + 1) => by have := hk.2; omega)
      have q3 := (hg.fr hfr9 fun k hk _ (h : B ≤ k) => by have := hk.2; omega).fr hst (fun k hk _ (e : k = nb + 1) => by have := hk.2; omega)
      have hff : Fr Nil w (st5 wr (nb + 1) (.int .i64 h) (.slice A1 n c1) (.slice A2 n2 c2) (.slice A3 n3 c3) (.slice A5 i c5)) := (hfr.trans hfr9 (fun k (hk : B ≤ k) => .inr (by omega))).trans hst (fun k (hk : k = nb + 1) => .inr (by omega))
      unfold st5 at hb6 q1 q2 q3 q4 hff
      clear e0 e1 e2 e3 e4 z0 z1 z2 z3 z4 i0 i1 i2 i3 i4 hlt9
      clear hBn
      generalize (((((wr.setCell ⟨nb + 1, 0, none⟩ (.int .i64 h)).setCell ⟨nb + 1, 1, none⟩ (.slice A1 n c1)).setCell ⟨nb + 1, 2, none⟩ (.slice A2 n2 c2)).setCell ⟨nb + 1, 3, none⟩ (.slice A3 n3 c3)).setCell ⟨nb + 1, 4, none⟩ (.slice A5 i c5)) = w7 at *
      have r0 : w7.cell? ⟨nb + 1, 0, none⟩ = some (.int .i64 h) := hb6.cell 0
      have r1 : w7.cell? ⟨nb + 1, 1, none⟩ = some (.slice A1 n c1) := hb6.cell 1
      have r2 : w7.cell? ⟨nb + 1, 2, none⟩ = some (.slice A2 n2 c2) := hb6.cell 2
      have r3 : w7.cell? ⟨nb + 1, 3, none⟩ = some (.slice A3 n3 c3) := hb6.cell 3
      have r4 : w7.cell? ⟨nb + 1, 4, none⟩ = some (.slice A5 i c5) := hb6.cell 4
      simp [bodyPost, results, Tryz.results16, go_sem, r0, r1, r2, r3, r4]
      have hle1 : ∀ k, B ≤ k → Grow w S k := fun k hk => .inr (by have := HB.out; omega)
      have hle2 : ∀ k, S k ∧ k < nb → Grow w S k := fun k hk => .inl hk.1
      exact ⟨⟨A1, c1, A2, c2, A3, c3, A5, c5⟩, ⟨⟨rfl, rfl⟩, ⟨rfl, rfl⟩, ⟨rfl, rfl⟩, ⟨rfl, rfl⟩⟩, ⟨by dsimp only; rw [Hk.out]; exact q1.mono hle2, by dsimp only; rw [Hp.out]; exact q2.mono hle2, by dsimp only; rw [Hg.out]; exact q3.mono hle2, by dsimp only; rw [Hlen.out]; exact q4.view.mono hle1⟩, hff⟩
end Go.Proofs.YtgoghmblfdlnbaaGreat.nd
end

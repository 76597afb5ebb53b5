/- CellMany: as many numbers as one likes come back one by one. -/
import Derived.Test.YtknkilobdeeiaaaCellA
import Derived.Test.YtknkilobdeeiaaaCellP2
set_option linter.unusedSimpArgs false
set_option linter.unusedVariables false
namespace Go.Proofs.Ytknkilobdeeiaaa
open Go.RowKit

/-- 28 bits of a number. -/
def val (z : Int) : Nat := (z % 268435456).toNat
theorem val_lt (z : Int) : val z < 268435456 := by unfold val; omega
theorem val_eq (z : Int) (h0 : 0 ≤ z) (h1 : z < 4294967296) : wrap64 (bits .and .u32 z 268435455) = ((val z : Nat) : Int) := by
  rw [and28 z h0 h1]; unfold val wrap64; omega
def vals (zs : List Int) : List Nat := zs.map val
theorem vals_lt (zs : List Int) : ∀ n ∈ vals zs, n < 268435456 := by
  intro n hn
  obtain ⟨z, _, rfl⟩ := List.mem_map.1 hn
  exact val_lt z
theorem vals_drop (zs : List Int) (i : Nat) (h : i < zs.length) : encs ((vals zs).drop i) = enc (val zs[i]) ++ encs ((vals zs).drop (i + 1)) := by
  rw [← encs_cons]
  congr 1
  rw [List.drop_eq_getElem_cons (by simpa [vals] using h)]
  simp [vals]
theorem vals_take (zs : List Int) (i : Nat) (h : i < zs.length) : encs ((vals zs).take (i + 1)) = encs ((vals zs).take i) ++ enc (val zs[i]) := by
  rw [← encs_snoc]
  congr 1
  rw [List.take_succ_eq_append_getElem (by simpa [vals] using h)]
  simp [vals]

set_option maxRecDepth 100000 in
set_option maxHeartbeats 800000 in
theorem many1_ok (S S1 : Nat → Prop) (rb lb ob n c : Nat) (A : Option Addr) (zs : List Int) (hn : zs.length = n) (hz : ∀ z ∈ zs, 0 ≤ z ∧ z < 4294967296) (hle : n ≤ 300) (w : World) (hR : IsR w S rb (encs (vals zs)))
    (hl : Blk w lb #[.slice A n c] 54) (hv : View w S1 1 (.slice A n c) n (ints .u32 zs)) (ho : Blk w ob #[.bool true] 4) (h1 : ∀ k, S1 k → ¬ S k ∧ k ≠ ob) (h2 : ¬ S lb) (h3 : ¬ S ob) (h4 : lb ≠ ob) :
    Calls Try.prog 33 #[.pointer (some ⟨rb, 0, none⟩), .pointer (some ⟨lb, 0, none⟩), .pointer (some ⟨ob, 0, none⟩)] w fun e w' => e = .returned (.tuple #[]) ∧ Fr (fun k => k = ob ∨ k = rb) w w' ∧ IsR w' S rb [] ∧ Blk w' ob #[.bool true] 4 := by
  have hSr := hR.1
  go_enter Try.func33, Try.ntmps33
  go_wp2_with fail
  go_loopw [4] (fun v4 wr => ∃ i : Nat, v4 = .int .i64 i ∧ i ≤ n ∧ Fr (fun k => k = ob ∨ k = rb) w wr ∧ IsR wr S rb (encs ((vals zs).drop i)) ∧ Blk wr ob #[.bool true] 4) (fun v4 _ => n - (intOf v4).toNat)
  case atStart => exact ⟨0, rfl, by omega, Fr.refl _ _, hR, ho⟩
  case round =>
    obtain ⟨i, rfl, hi, hfr, hRr, hor⟩ := hrel
    have hlr := hl.fr hfr (fun h => h.elim h4 (fun h => h2 (h ▸ hSr)))
    have hvr := hv.fr hfr (fun k hk _ h => h.elim (h1 k hk).2 (fun h => (h1 k hk).1 (h ▸ hSr)))
    have hcl : wr.cell? ⟨lb, 0, none⟩ = some (.slice A n c) := hlr.cell 0
    by_cases hlt : i < n
    · have hi2 : i < zs.length := by omega
      obtain ⟨_, A', c', e, -, -, -, -, h5⟩ := hvr
      injection e with ea _ ec
      subst ea; subst ec
      obtain ⟨b, o, rfl, hS1b, hbl, hcells⟩ := h5 (by omega)
      have hz1 := hz zs[i] (List.getElem_mem hi2)
      have hci : wr.cell? ⟨b, o + i, none⟩ = some (.int .u32 zs[i]) := hcells i _ (ints_at _ _ i hi2)
      have hd := vals_drop zs i hi2
      have hvl := val_lt zs[i]
      have hve := val_eq zs[i] hz1.1 hz1.2
      have hb1 : Byt (encs ((vals zs).drop i)) := encs_byt _
      have hlen1 : (encs ((vals zs).drop i)).length ≤ 4 * ((vals zs).drop i).length := encs_len _ (fun m hm => vals_lt zs m (List.mem_of_mem_drop hm))
      have hlen2 : ((vals zs).drop i).length ≤ n := by rw [List.length_drop]; simp [vals]; omega
      clear hcells h5
      generalize zs[i] = z at *
      have hnum := num_enc (val z) hvl (encs ((vals zs).drop (i + 1)))
      rw [← hd] at hnum
      generalize encs ((vals zs).drop i) = bs0 at *
      generalize hg1 : encs ((vals zs).drop (i + 1)) = bs1 at *
      have Hg1 := hid hg1; clear hg1
      obtain ⟨L0, hL0⟩ : ∃ L0, bs0.length = L0 := ⟨_, rfl⟩
      obtain ⟨L1, hL1⟩ : ∃ L1, bs1.length = L1 := ⟨_, rfl⟩
      have hLL : decide (L1 < L0) = true := by have := num_le hnum; simp; omega
      have Hd := hid hd; have Hnum := hid hnum; have HL0 := hid hL0; have HL1 := hid hL1; have Hz := hid hz; have H1 := hid h1
      clear hd hnum hL0 hL1 hz h1
      go_wp2_with fail
      refine (left_ok S rb bs0 L0 HL0.out wr hRr).mono ?_
      rintro e w1 ⟨rfl, rfl⟩
      go_wp2_with fail
      refine (rnum_any S rb bs0 (by omega) hb1 wr hRr).mono ?_
      intro e w1 hp
      rw [Hnum.out] at hp
      obtain ⟨rfl, hf1, hR1⟩ := hp
      have hfr1 : Fr (fun k => k = ob ∨ k = rb) w w1 := hfr.then (hf1.mono fun _ h => .inr h)
      have hlr1 := hlr.fr hf1 (fun h => h2 (h ▸ hSr))
      have hcl1 : w1.cell? ⟨lb, 0, none⟩ = some (.slice (some ⟨b, o, none⟩) n c) := hlr1.cell 0
      have hci1 : w1.cell? ⟨b, o + i, none⟩ = some (.int .u32 z) := hf1.cell hci (fun (h : b = rb) => (H1.out b hS1b).1 (h ▸ hSr))
      have hor1 := hor.fr hf1 (fun h => h3 (h ▸ hSr))
      have hco1 : w1.cell? ⟨ob, 0, none⟩ = some (.bool true) := hor1.cell 0
      have hzo1 : w1.frozen? ⟨ob, 0, none⟩ = false := hor1.frozen 0
      go_wp2_with (go_at_call 29; ((with_reducible refine (left_ok S rb bs1 L1 HL1.out w1 hR1).mono ?_); rintro e w2 ⟨rfl, rfl⟩))
      go_roundw
      case rel =>
        refine ⟨i + 1, by go_num, by omega, hfr1.setCell (a := ⟨ob, 0, none⟩) (.inl (.inl rfl)) _, ?_, hor1.set 0 _⟩
        rw [Hg1.out]
        exact IsR.fr (S1 := fun k => k = ob) hR1 ((Fr.refl (fun k => k = ob) w1).setCell (a := ⟨ob, 0, none⟩) (.inl rfl) _) (fun k hk _ (h : k = ob) => h3 (h ▸ hk))
      case measure => simp [intOf]; omega
    · have hin : i = n := by omega
      have hnil : encs ((vals zs).drop i) = [] := by rw [List.drop_of_length_le (by simp [vals]; omega)]; rfl
      rw [hnil] at hRr
      have hco : wr.cell? ⟨ob, 0, none⟩ = some (.bool true) := hor.cell 0
      have hzo : wr.frozen? ⟨ob, 0, none⟩ = false := hor.frozen 0
      have Hin := hid hin; clear hin hnil
      have Hz := hid hz; have H1 := hid h1; clear hz h1
      go_wp2_with (go_at_call 29; ((with_reducible refine (left_ok S rb [] 0 rfl wr hRr).mono ?_); rintro e w2 ⟨rfl, rfl⟩))
      go_end0
      refine ⟨rfl, hfr.setCell (a := ⟨ob, 0, none⟩) (.inl (.inl rfl)) _, ?_, hor.set 0 _⟩
      exact IsR.fr (S1 := fun k => k = ob) hRr ((Fr.refl (fun k => k = ob) wr).setCell (a := ⟨ob, 0, none⟩) (.inl rfl) _) (fun k hk _ (h : k = ob) => h3 (h ▸ hk))

theorem call_many1 (args : Array Value) (w : World) : (callFunc 33 args).run Try.prog w = .ok (.enter 33 args) w := by kernel_rfl

set_option maxRecDepth 100000 in
set_option maxHeartbeats 800000 in
/-- The law's walk. -/
theorem many_ok (a0 : Option Addr) (len0 cap0 : Nat) (z0 : List Int) (w : World) (w0 : IsRow .u32 w a0 len0 cap0 z0) :
    Calls Try.prog 8 #[.slice a0 len0 cap0] w fun e w' => e = .returned (.bool true) ∧ Fr Nil w w' := by
  obtain ⟨hv, hzl, hwf⟩ := w0.view
  go_enter Try.func8, Try.ntmps8
  go_wp2_with fail
  refine (awake_ok _).mono ?_
  rintro e w1 ⟨rfl, hf1⟩
  have hl1 : Blk w1 w.heap.size #[.slice a0 len0 cap0] 54 := (Blk.new w _ _).fr hf1 (fun h => h)
  have hcl1 : w1.cell? ⟨w.heap.size, 0, none⟩ = some (.slice a0 len0 cap0) := hl1.cell 0
  replace hf1 : Fr Nil w w1 := ((Fr.refl Nil w).alloc _).then hf1
  by_cases hlen : 300 < len0
  · go_wp2
    go_ret
    exact ⟨rfl, hf1⟩
  have hlen' : len0 ≤ 300 := by omega
  obtain ⟨zs, hzs⟩ : ∃ zs, z0.take len0 = zs := ⟨_, rfl⟩
  rw [hzs] at hv hzl hwf
  have hz : ∀ z ∈ zs, 0 ≤ z ∧ z < 4294967296 := fun z hm => bounds_u32 (hwf z hm)
  have hv1 := hv.fr hf1 (fun _ _ _ h => h)
  clear hzs w0 hwf hv
  have hszw : w.heap.size < w1.heap.size := hl1.lt
  go_wp2_with fail
  have hW0 : IsW (w1.alloc (.cells #[.slice none 0 0] 26)) (New w1) w1.heap.size [] := ⟨Nat.le_refl _, _, Blk.new _ _ _, Row.nil _ _ _ _⟩
  go_loopw [4, 5] (fun v4 v5 wr => ∃ i : Nat, v5 = .int .i64 i ∧ i ≤ len0 ∧ v4 = .int .i64 (encs ((vals zs).take i)).length ∧ Fr Nil w1 wr ∧ IsW wr (New w1) w1.heap.size (encs ((vals zs).take i))) (fun _ v5 _ => len0 - (intOf v5).toNat)
  case atStart => exact ⟨0, rfl, by omega, rfl, (Fr.refl _ _).alloc _, hW0⟩
  case round =>
    obtain ⟨i, rfl, hi, rfl, hfr, hW⟩ := hrel
    have hlr := hl1.fr hfr (fun h => h)
    have hcl : wr.cell? ⟨w.heap.size, 0, none⟩ = some (.slice a0 len0 cap0) := hlr.cell 0
    by_cases hlt : i < len0
    · have hi2 : i < zs.length := by omega
      have hvr := hv1.fr hfr (fun _ _ _ h => h)
      obtain ⟨_, A', c', e, -, -, -, -, h5⟩ := hvr
      injection e with ea _ ec
      subst ea; subst ec
      obtain ⟨b, o, rfl, hS1b, hbl, hcells⟩ := h5 (by omega)
      have hz1 := hz zs[i] (List.getElem_mem hi2)
      have hci : wr.cell? ⟨b, o + i, none⟩ = some (.int .u32 zs[i]) := hcells i _ (ints_at _ _ i hi2)
      have ht := vals_take zs i hi2
      have hvl := val_lt zs[i]
      have hve := val_eq zs[i] hz1.1 hz1.2
      have hxl : (encs ((vals zs).take i)).length ≤ 4 * ((vals zs).take i).length := encs_len _ (fun m hm => vals_lt zs m (List.mem_of_mem_take hm))
      have hxl2 : ((vals zs).take i).length ≤ len0 := by rw [List.length_take]; omega
      clear hcells h5
      generalize zs[i] = z at *
      generalize hg0 : encs ((vals zs).take i) = bs0 at *
      generalize hg1 : encs ((vals zs).take (i + 1)) = bs1 at *
      generalize hy : val z = y at *
      have Hg0 := hid hg0; have Hg1 := hid hg1; have Hy := hid hy; have Ht := hid ht; have Hz := hid hz
      clear hg0 hg1 hy ht hz
      go_wp2_with fail
      clear hve
      refine (num_ok (New w1) w1.heap.size bs0 y hvl (by omega) wr hW).mono ?_
      rintro e w2 ⟨rfl, hf2, hW2⟩
      have hfr2 : Fr Nil w1 w2 := hfr.thenNew hf2
      replace hW2 : IsW w2 (New w1) w1.heap.size bs1 := by
        rw [Ht.out]
        exact hW2.mono fun k hk => hk.elim id fun h => Nat.le_trans hfr.size h
      have hb1l : bs1.length = bs0.length + (1 + more (y / 128)) := by rw [Ht.out, List.length_append, enc_more]
      have hb1b : bs1.length ≤ 5000 := by have := (enc_len y hvl).1; rw [Ht.out, List.length_append]; omega
      have Hb1l := hid hb1l; clear hb1l
      have hlr2 := hl1.fr hfr2 (fun h => h)
      have hcl2 : w2.cell? ⟨w.heap.size, 0, none⟩ = some (.slice (some ⟨b, o, none⟩) len0 cap0) := hlr2.cell 0
      go_wp2_with fail
      go_loop [4, 7] (fun v4 v7 => ∃ s k : Nat, v4 = .int .i64 s ∧ v7 = .int .i64 k ∧ Hid (s + more k = bs1.length) ∧ s ≤ bs1.length ∧ k ≤ y) (fun _ v7 => (intOf v7).toNat)
      case atStart => exact ⟨bs0.length + 1, y / 128, by go_num, by go_num, hid (by rw [Hb1l.out]; omega), by have := Hb1l.out; omega, by omega⟩
      case round =>
        obtain ⟨s, k, rfl, rfl, hsk, hs, hky⟩ := hrel
        by_cases hk0 : 0 < k
        · have hst := more_step hk0
          have Hst := hid hst; clear hst
          go_wp2_with fail
          go_round
          case rel => exact ⟨s + 1, k / 128, by go_num, by go_num, hid (by have := hsk.out; have := Hst.out; omega), by have := hsk.out; have := Hst.out; omega, by omega⟩
          case measure => simp [intOf]; omega
        · have hk00 : k = 0 := by omega
          have hsl : s = bs1.length := by have := hsk.out; rw [hk00, more_zero] at this; omega
          subst hsl
          have Hk00 := hid hk00; clear hk00
          go_wp2_with fail
          refine (out_ok (New w1) w1.heap.size bs1 (by omega) w2 hW2).mono ?_
          rintro e w3 ⟨A3, c3, rfl, r3, hf3⟩
          go_wp2_with fail
          go_roundw
          case rel =>
            exact ⟨i + 1, by go_num, by omega, by rw [Hg1.out], hfr2.thenNil hf3, by rw [Hg1.out]; exact hW2.fr hf3 (fun _ _ h => h)⟩
          case measure => simp [intOf]; omega
    · have hin : i = len0 := by omega
      have hall : (vals zs).take i = vals zs := List.take_of_length_le (by simp [vals]; omega)
      rw [hall] at hW
      have hxl : (encs (vals zs)).length ≤ 4 * (vals zs).length := encs_len _ (vals_lt zs)
      have hvn : (vals zs).length = len0 := by simp [vals, hzl]
      have Hin := hid hin; have Hall := hid hall; clear hin hall
      go_wp2_with fail
      obtain ⟨W3, hW3⟩ : ∃ W3, W3 = wr.alloc (.cells #[.bool true] 4) := ⟨_, rfl⟩
      have ho3 : Blk W3 wr.heap.size #[.bool true] 4 := by rw [hW3]; exact Blk.new _ _ _
      have hf3 : Fr Nil wr W3 := by rw [hW3]; exact (Fr.refl _ _).alloc _
      have hs3 : W3.heap.size = wr.heap.size + 1 := by rw [hW3]; simp
      rw [← hW3]
      clear hW3
      have hW3w := hW.bd.fr hf3 (fun _ _ h => h)
      refine (out_ok _ w1.heap.size (encs (vals zs)) (by omega) W3 hW3w).mono ?_
      rintro e w4 ⟨A4, c4, rfl, r4, hf4⟩
      have ho4 := ho3.fr hf4 (fun h => h)
      have hl4 := (hlr.fr hf3 (fun h => h)).fr hf4 (fun h => h)
      have hv4 := ((hv1.fr hfr (fun _ _ _ h => h)).fr hf3 (fun _ _ _ h => h)).fr hf4 (fun _ _ _ h => h)
      have hsz4 := hf4.size
      have hszr := hfr.size
      go_wp2_with fail
      refine (read_ok 33 _ _ (encs (vals zs)).length (encs (vals zs)) (New W3) (fun k => k = wr.heap.size) (by omega) w4 r4.view (by rintro k rfl; omega) call_many1
        (fun rest w' => rest = [] ∧ Blk w' wr.heap.size #[.bool true] 4) (fun _ _ => False) ?_).mono ?_
      · intro wa rb h1 h2 hR hfa
        refine (many1_ok (fun k => w4.heap.size < k) (fun b => b < w.heap.size) rb w.heap.size wr.heap.size len0 cap0 a0 zs hzl hz hlen' wa hR (hl4.fr hfa (fun h => h)) (hv4.fr hfa (fun _ _ _ h => h)) (ho4.fr hfa (fun h => h)) (fun k hk => ⟨by omega, by omega⟩) (by omega) (by omega) (by omega)).mono ?_
        rintro e wb ⟨rfl, g1, g2, g3⟩
        exact ⟨g1, .inl ⟨[], rfl, g2, rfl, g3⟩⟩
      rintro e w5 ⟨w6, hf6, hf5, ⟨rest, ⟨rfl, g3⟩, rfl⟩ | ⟨_, h, _⟩⟩
      · have ho5 := g3.fr hf5 (fun h => by omega)
        have hco5 : w5.cell? ⟨wr.heap.size, 0, none⟩ = some (.bool true) := ho5.cell 0
        go_wp2
        go_ret
        refine ⟨rfl, (((((hf1.thenNil hfr).thenNil hf3).thenNil hf4).trans hf6 (fun k hk => .inr (by omega))).trans hf5 (fun k hk => .inr (by omega)))⟩
      · exact h.elim
end Go.Proofs.Ytknkilobdeeiaaa

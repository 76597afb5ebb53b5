/- The document's example (awake of the laws on cells): it answers true and keeps all that was there. -/
import Derived.Test.YtknkilobdeeiaaaCellQ
set_option linter.unusedSimpArgs false
set_option linter.unusedVariables false
namespace Go.Proofs.Ytknkilobdeeiaaa
open Go.RowKit

theorem enc300 : enc 300 = [172, 2] := by rw [enc_hi (by decide), enc_lo (by decide)]
theorem num300 : num [172, 2, 2, 97, 98] = .ok 300 [2, 97, 98] := by decide +kernel
theorem byt9 : byt 9 [2, 97, 98] = .ok [97, 98] [] := by decide +kernel

/-- The closure of the example. -/
theorem awake1_ok (S : Nat → Prop) (rb xc bc : Nat) (v0 v1 : Value) (w : World) (hR : IsR w S rb [172, 2, 2, 97, 98]) (hx : Blk w xc #[v0] 3) (hb : Blk w bc #[v1] 24) (hSx : ¬ S xc) (hSb : ¬ S bc) (hne : xc ≠ bc) :
    Calls Try.prog 34 #[.pointer (some ⟨rb, 0, none⟩), .pointer (some ⟨xc, 0, none⟩), .pointer (some ⟨bc, 0, none⟩)] w fun e w' => e = .returned (.tuple #[]) ∧ Fr (fun k => (k = xc ∨ k = bc) ∨ k = rb) w w' ∧ IsR w' S rb [] ∧
      Blk w' xc #[.int .i64 300] 3 ∧ ∃ A c, Blk w' bc #[.slice A 2 c] 24 ∧ Row w' (New w) 5 1 (.slice A 2 c) 2 (bys [97, 98]) := by
  go_enter Try.func34, Try.ntmps34
  go_wp2_with fail
  refine (rnum_any S rb _ (by decide) (by decide) w hR).mono ?_
  intro e w1 hp
  rw [num300] at hp
  obtain ⟨rfl, hf1, hR1⟩ := hp
  go_wp2_with fail
  refine (rbytes_any S rb _ 9 (by decide) (by decide) w1 hR1).mono ?_
  intro e w2 hp
  rw [byt9] at hp
  obtain ⟨hf2, hR2, A, c, rfl, hrow⟩ := hp
  have hx2 := (hx.fr hf1 (fun h => hSx (h ▸ hR.1))).fr hf2 (fun h => hSx (h ▸ hR.1))
  have hb2 := (hb.fr hf1 (fun h => hSb (h ▸ hR.1))).fr hf2 (fun h => hSb (h ▸ hR.1))
  have hcx := hx2.cell 0
  have hfx := hx2.frozen 0
  have hb3 := hb2.set_other (a := ⟨xc, 0, none⟩) (fun h => hne h.symm) (.int .i64 300)
  have hcb := hb3.cell 0
  have hfb := hb3.frozen 0
  simp only [List.length_cons, List.length_nil, Nat.zero_add, Nat.reduceAdd] at hrow ⊢
  go_wp2
  go_end0
  have hfr : Fr (fun k => (k = xc ∨ k = bc) ∨ k = rb) w w2 := (hf1.then hf2).mono fun _ h => .inr h
  refine ⟨rfl, (hfr.setCell (a := ⟨xc, 0, none⟩) (.inl (.inl (.inl rfl))) _).setCell (a := ⟨bc, 0, none⟩) (.inl (.inl (.inr rfl))) _, ?_, ?_, A, c, hb3.set 0 _, ?_⟩
  · refine IsR.fr (S1 := fun k => k = xc ∨ k = bc) hR2 (((Fr.refl (fun k => k = xc ∨ k = bc) w2).setCell (a := ⟨xc, 0, none⟩) (.inl (.inl rfl)) _).setCell (a := ⟨bc, 0, none⟩) (.inl (.inr rfl)) _) ?_
    rintro k hk _ (rfl | rfl)
    · exact hSx hk
    · exact hSb hk
  · exact (hx2.set 0 _).set_other (a := ⟨bc, 0, none⟩) hne _
  · have h1 := hrow.apart_blk hx2 (by decide)
    have h2 := hrow.apart_blk hb2 (by decide)
    exact ((hrow.mono fun k hk => Nat.le_trans hf1.size hk).setCell (a := ⟨xc, 0, none⟩) h1 _).setCell (a := ⟨bc, 0, none⟩) h2 _

theorem call34 (args : Array Value) (w : World) : (callFunc 34 args).run Try.prog w = .ok (.enter 34 args) w := by kernel_rfl

set_option maxRecDepth 100000 in
/-- The example answers true. -/
theorem awake_ok (w : World) : Calls Try.prog 9 #[] w fun e w' => e = .returned (.bool true) ∧ Fr Nil w w' := by
  go_enter Try.func9, Try.ntmps9
  go_wp2_with fail
  have hW : IsW (w.alloc (.cells #[.slice none 0 0] 26)) (New w) w.heap.size [] := ⟨Nat.le_refl _, _, Blk.new _ _ _, Row.nil _ _ _ _⟩
  have hf0 : Fr Nil w (w.alloc (.cells #[.slice none 0 0] 26)) := (Fr.refl _ _).alloc _
  refine (num_ok (New w) w.heap.size [] 300 (by decide) (by decide) _ hW).mono ?_
  rintro e w1 ⟨rfl, hf1, hW1⟩
  rw [enc300] at hW1
  replace hf1 : Fr Nil w w1 := hf0.thenNew hf1
  replace hW1 : IsW w1 (New w) w.heap.size [172, 2] := hW1.mono fun k hk => hk.elim id fun h => Nat.le_trans hf0.size h
  go_wp2_with fail
  have hv2 := View.lit (s := 1) w1 #[.int .u8 97, .int .u8 98] 5 (2, 3) 2 rfl (by decide)
  have hW2 : IsW (w1.alloc (.cells #[.int .u8 97, .int .u8 98] 5 (2, 3))) (fun k => w.heap.size ≤ k ∧ k < w1.heap.size) w.heap.size [172, 2] :=
    hW1.bd.fr ((Fr.refl Nil w1).alloc _) (fun _ _ h => h)
  refine (bytes_ok _ (New w1) w.heap.size [172, 2] _ 2 [97, 98] (by decide) (by decide) _ hW2 hv2 (fun k hk _ hk2 => by unfold New at hk2; omega)).mono ?_
  rintro e w2 ⟨rfl, hf2, hW2⟩
  rw [enc_lo (by decide)] at hW2
  replace hf2 : Fr Nil w w2 := (hf1.alloc _).thenNew (hf2.mono fun k hk => hk.1)
  replace hW2 : IsW w2 (New w) w.heap.size [172, 2, 2, 97, 98] := hW2.mono fun k hk => hk.elim (fun h => h.1) fun h => Nat.le_trans hf1.size (by simp at h; omega)
  go_wp2_with fail
  obtain ⟨W3, hW3⟩ : ∃ W3, W3 = (w2.alloc (.cells #[.int .i64 0] 3)).alloc (.cells #[.slice none 0 0] 24) := ⟨_, rfl⟩
  have hf3 : Fr Nil w2 W3 := by rw [hW3]; exact ((Fr.refl _ _).alloc _).alloc _
  have hx3 : Blk W3 w2.heap.size #[.int .i64 0] 3 := by rw [hW3]; exact (Blk.new _ _ _).alloc _
  have hb3 : Blk W3 (w2.heap.size + 1) #[.slice none 0 0] 24 := by
    rw [hW3]
    have := Blk.new (w2.alloc (.cells #[.int .i64 0] 3)) #[.slice none 0 0] 24
    rwa [World.size_alloc] at this
  have hs3 : W3.heap.size = w2.heap.size + 2 := by rw [hW3]; simp
  have hW3w := hW2.bd.fr hf3 (fun _ _ h => h)
  rw [← hW3]
  clear hW3
  have hsz2 : w.heap.size < w2.heap.size := hW2.bd.1.2
  refine (out_ok _ w.heap.size [172, 2, 2, 97, 98] (by decide) W3 hW3w).mono ?_
  rintro e w4 ⟨A4, c4, rfl, r4, hf4⟩
  have hx4 := hx3.fr hf4 (fun h => h)
  have hb4 := hb3.fr hf4 (fun h => h)
  have hsz4 := hf4.size
  simp only [List.length_cons, List.length_nil, Nat.zero_add, Nat.reduceAdd] at r4 ⊢
  go_wp2_with fail
  refine (read_ok 34 _ _ 5 [172, 2, 2, 97, 98] (New W3) (fun k => k = w2.heap.size ∨ k = w2.heap.size + 1) (by decide) w4 r4.view (by rintro k (rfl | rfl) <;> omega) call34
    (fun rest w' => rest = [] ∧ Blk w' w2.heap.size #[.int .i64 300] 3 ∧ ∃ A c, Blk w' (w2.heap.size + 1) #[.slice A 2 c] 24 ∧ Row w' (fun k => w4.heap.size < k) 5 1 (.slice A 2 c) 2 (bys [97, 98])) (fun _ _ => False) ?_).mono ?_
  · intro wa rb h1 h2 hR hfa
    refine (awake1_ok (fun k => w4.heap.size < k) rb w2.heap.size (w2.heap.size + 1) _ _ wa hR (hx4.fr hfa (fun h => h)) (hb4.fr hfa (fun h => h)) (by omega) (by omega) (by omega)).mono ?_
    rintro e wb ⟨rfl, g1, g2, g3, A, c, g4, g5⟩
    exact ⟨g1, .inl ⟨[], rfl, g2, rfl, g3, A, c, g4, g5.mono fun k hk => by unfold New at hk; omega⟩⟩
  rintro e w5 ⟨w6, hf6, hf5, ⟨rest, ⟨rfl, g3, A, c, g4, g5⟩, rfl⟩ | ⟨_, h, _⟩⟩
  · have hx5 := g3.fr hf5 (fun h => by omega)
    have hb5 := g4.fr hf5 (fun h => by omega)
    have hr5 := g5.frS hf5 (fun k hk h => by omega)
    have hW5 := ((hW3w.fr hf4 (fun _ _ h => h)).fr hf6 (fun k hk h => by have := hk.2; omega)).fr hf5 (fun k hk h => by have := hk.2; omega)
    have hfin : Fr Nil w w5 := ((((hf2.thenNil hf3).thenNil hf4).trans hf6 (fun k hk => .inr (by omega))).trans hf5 (fun k hk => .inr (by omega)))
    have hcx : w5.cell? ⟨w2.heap.size, 0, none⟩ = some (.int .i64 300) := hx5.cell 0
    have hcb : w5.cell? ⟨w2.heap.size + 1, 0, none⟩ = some (.slice A 2 c) := hb5.cell 0
    have hs1 := View.str (P := Try.prog) (src := 24) (dst := 9) (xs := [97, 98]) hr5.view Try.underlying24 Try.underlying5 Try.underlying9
    have hq1 : (str [97, 98]).toList = [97, 98] := by rw [str_toList]; decide
    have hq2 : (str [172, 2, 2, 97, 98]).toList = [172, 2, 2, 97, 98] := by rw [str_toList]; decide
    clear hx3 hb3 hx4 hb4 hx5 hb5
    go_wp2_with fail
    refine (out_ok _ w.heap.size [172, 2, 2, 97, 98] (by decide) w5 hW5).mono ?_
    rintro e w7 ⟨A7, c7, rfl, r7, hf7⟩
    simp only [List.length_cons, List.length_nil, Nat.zero_add, Nat.reduceAdd] at r7 ⊢
    have hs2 := View.str (P := Try.prog) (src := 24) (dst := 9) (xs := [172, 2, 2, 97, 98]) r7.view Try.underlying24 Try.underlying5 Try.underlying9
    go_wp2
    go_ret
    exact ⟨rfl, hfin.thenNil hf7⟩
  · exact h.elim
end Go.Proofs.Ytknkilobdeeiaaa

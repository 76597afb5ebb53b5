/- NodeKnown: its walk (chapter 13). -/
import Derived.Test.YtidpabcfcdiecaaNdDecs
set_option linter.unusedSimpArgs false
set_option linter.unusedVariables false
namespace Go.Proofs.Ytidpabcfcdiecaa
open Go.RowKit
theorem enc300 : enc 300 = [172, 2] := by rw [enc_hi (by decide), enc_lo (by decide)]
theorem enc130 : enc 130 = [130, 1] := by rw [enc_hi (by decide), enc_lo (by decide)]
theorem known_a : encs (pre (⟨1, [0, 300], [], [], [⟨2, 1, 1⟩, ⟨130, 2, 5⟩]⟩ : Nd) 2) = [1, 2, 0, 2, 1, 1, 172, 2, 130, 1, 2, 5] := by
  have h : pre (⟨1, [0, 300], [], [], [⟨2, 1, 1⟩, ⟨130, 2, 5⟩]⟩ : Nd) 2 = [1, 2, 0, 2, 1, 1, 300, 130, 2, 5] := by rfl
  rw [h]
  simp only [encs_cons, encs_nil, enc300, enc130, enc_lo (show 0 < 128 by decide), enc_lo (show 1 < 128 by decide), enc_lo (show 2 < 128 by decide), enc_lo (show 5 < 128 by decide), List.cons_append, List.nil_append, List.append_nil]
theorem known_z : encs (pre (⟨0, [], [], [], []⟩ : Nd) 0) = [0, 0] := by
  have h : pre (⟨0, [], [], [], []⟩ : Nd) 0 = [0, 0] := by rfl
  rw [h]
  simp only [encs_cons, encs_nil, enc_lo (show 0 < 128 by decide), List.cons_append, List.nil_append, List.append_nil]
theorem kd1 : decd [0, 9] = .inr 4 := by kernel_rfl
theorem kd2 : decd [6, 0] = .inr 4 := by kernel_rfl
theorem kd3 : decd [1, 0] = .inr 4 := by kernel_rfl
theorem kd4 : decd [0, 1, 5] = .inr 2 := by kernel_rfl
theorem kd5 : decd [0, 1, 5, 2, 0, 0, 0] = .inr 4 := by kernel_rfl
theorem kd6 : decd [0, 1, 5, 2, 1, 8, 0] = .inr 4 := by kernel_rfl
/-- Bytes made by hand are decoded. -/
theorem lit_dec (xs : List Nat) (n : Nat) (hn : xs.length = n) (hs : n ≤ 100) (hB : Byt xs) (er : Int) (hd : decd xs = .inr er) (cs : Array Value) (hcs : cs = (bys xs).toArray) (w : World) (g : Nat) (hg : g = w.heap.size) :
    Calls Try.prog 16 #[.slice (some ⟨g, 0, none⟩) n n] (w.alloc (.cells cs 5)) fun e w' => e = .returned (.tuple #[.agg #[.int .i64 0, .slice none 0 0, .slice none 0 0, .slice none 0 0, .slice none 0 0], .int .i64 er]) ∧ Fr Nil w w' := by
  subst hcs
  subst hg
  have hv : View (w.alloc (.cells (bys xs).toArray 5)) (New w) 1 (.slice (some ⟨w.heap.size, 0, none⟩) n n) n (bys xs) := View.lit w (bys xs).toArray 5 (0, 0) n (by rw [List.size_toArray, bys_length, hn, Nat.mul_one]) (by omega)
  refine (dec_ok _ _ n xs (by omega) hB _ hv).mono ?_
  intro e w' hp
  rw [hd] at hp
  exact ⟨hp.1, ((Fr.refl Nil w).alloc _).then hp.2⟩
set_option maxRecDepth 100000 in
set_option maxHeartbeats 1600000 in
theorem known_ok (W : World) : Calls Try.prog 8 #[] W fun e w' => e = .returned (.bool true) ∧ Fr Nil W w' := by
  have hX : MayNd (⟨1, [0, 300], [], [], [⟨2, 1, 1⟩, ⟨130, 2, 5⟩]⟩ : Nd) := by decide
  have hZ : MayNd (⟨0, [], [], [], []⟩ : Nd) := by decide
  go_enter Try.func8, Try.ntmps8
  go_wp2_with fail
  refine (ndawake_ok _).mono ?_
  rintro e w ⟨rfl, hfr⟩
  go_wp2_with fail
  obtain ⟨q0, hq0⟩ : ∃ q : Ptr, q = ⟨some ⟨w.heap.size, 0, none⟩, 2, none, 0, none, 0, some ⟨w.heap.size + 1, 0, none⟩, 2⟩ := ⟨_, rfl⟩
  obtain ⟨W1, hW1⟩ : ∃ W1, W1 = ((w.alloc (.cells #[.int .i64 0, .int .i64 300] 3)).alloc (.cells #[.int .i64 2, .int .i64 1, .int .i64 1, .int .i64 130, .int .i64 2, .int .i64 5] 58)).alloc (.cells (ncells (⟨1, [0, 300], [], [], [⟨2, 1, 1⟩, ⟨130, 2, 5⟩]⟩ : Nd) q0) 35) := ⟨_, rfl⟩
  have hb : Blk W1 (w.heap.size + 1 + 1) (ncells (⟨1, [0, 300], [], [], [⟨2, 1, 1⟩, ⟨130, 2, 5⟩]⟩ : Nd) q0) 35 := by
    rw [hW1]
    have := Blk.new ((w.alloc (.cells #[.int .i64 0, .int .i64 300] 3)).alloc (.cells #[.int .i64 2, .int .i64 1, .int .i64 1, .int .i64 130, .int .i64 2, .int .i64 5] 58)) (ncells (⟨1, [0, 300], [], [], [⟨2, 1, 1⟩, ⟨130, 2, 5⟩]⟩ : Nd) q0) 35
    rwa [World.size_alloc, World.size_alloc] at this
  have hV : Vs W1 (New w) q0 (⟨1, [0, 300], [], [], [⟨2, 1, 1⟩, ⟨130, 2, 5⟩]⟩ : Nd) := by
    rw [hW1, hq0]
    refine ⟨?_, View.nil _ _ _, View.nil _ _ _, ?_⟩
    · exact ((View.lit (s := 1) w #[.int .i64 0, .int .i64 300] 3 (0, 0) 2 rfl (by decide)).alloc _).alloc _
    · have := ((View.lit (s := 3) (w.alloc (.cells #[.int .i64 0, .int .i64 300] 3)) #[.int .i64 2, .int .i64 1, .int .i64 1, .int .i64 130, .int .i64 2, .int .i64 5] 58 (0, 0) 2 rfl (by decide)).alloc (.cells (ncells (⟨1, [0, 300], [], [], [⟨2, 1, 1⟩, ⟨130, 2, 5⟩]⟩ : Nd) q0) 35)).mono (S' := New w) (fun k hk => by unfold New at *; rw [World.size_alloc] at hk; omega)
      rw [World.size_alloc, hq0] at this
      exact this
  have hf1 : Fr Nil w W1 := by rw [hW1]; exact (((Fr.refl _ _).alloc _).alloc _).alloc _
  rw [hq0] at hW1
  unfold ncells at hW1
  dsimp only [List.length_cons, List.length_nil] at hW1
  rw [← hW1]
  have e1 : Value.slice (some ⟨w.heap.size, 0, none⟩) 2 2 = .slice q0.A1 2 q0.c1 := by rw [hq0]
  have e2 : Value.slice (some ⟨w.heap.size + 1, 0, none⟩) 2 2 = .slice q0.A4 2 q0.c4 := by rw [hq0]
  have e3 : Value.slice q0.A2 0 q0.c2 = .slice none 0 0 := by rw [hq0]
  have e4 : Value.slice q0.A3 0 q0.c3 = .slice none 0 0 := by rw [hq0]
  rw [e1, e2]
  obtain ⟨nb, hnb⟩ : ∃ nb, nb = w.heap.size + 1 + 1 := ⟨_, rfl⟩
  rw [← hnb] at hb ⊢
  replace hfr := hfr.then hf1
  clear hW1 e1 e2 hnb hf1
  have E3 := hid e3
  have E4 := hid e4
  clear e3 e4 hq0
  refine Calls.mono (?_ : Calls _ _ _ _ fun e w' => ∃ A c, e = .returned (.tuple #[.slice A (encs (pre (⟨1, [0, 300], [], [], [⟨2, 1, 1⟩, ⟨130, 2, 5⟩]⟩ : Nd) 2)).length c, .int .i64 0]) ∧ Row w' (New W1) 5 1 (.slice A (encs (pre (⟨1, [0, 300], [], [], [⟨2, 1, 1⟩, ⟨130, 2, 5⟩]⟩ : Nd) 2)).length c) (encs (pre (⟨1, [0, 300], [], [], [⟨2, 1, 1⟩, ⟨130, 2, 5⟩]⟩ : Nd) 2)).length (bys (encs (pre (⟨1, [0, 300], [], [], [⟨2, 1, 1⟩, ⟨130, 2, 5⟩]⟩ : Nd) 2))) ∧ Fr Nil W1 w') ?_
  · have h := nodeenc_ok _ q0 (⟨1, [0, 300], [], [], [⟨2, 1, 1⟩, ⟨130, 2, 5⟩]⟩ : Nd) hX W1 hV
    dsimp only [List.length_cons, List.length_nil, Nat.zero_add] at h
    rw [E3.out, E4.out] at h
    exact h
  rintro e w2 ⟨A2, c2, rfl, ra, hf2⟩
  rw [known_a] at ra ⊢
  dsimp only [List.length_cons, List.length_nil, Nat.zero_add] at ra ⊢
  replace hb := hb.fr hf2 fun h => h
  replace hV := hV.nil hf2
  replace hfr := hfr.then hf2
  clear hf2 hX
  go_wp2_with fail
  refine (nodeenc_ok (New w) ⟨none, 0, none, 0, none, 0, none, 0⟩ (⟨0, [], [], [], []⟩ : Nd) hZ w2 ⟨View.nil _ _ _, View.nil _ _ _, View.nil _ _ _, View.nil _ _ _⟩).mono ?_
  rintro e w3 ⟨A3, c3, rfl, rz, hf3⟩
  dsimp only [List.length_nil] at rz ⊢
  rw [known_z] at rz ⊢
  dsimp only [List.length_cons, List.length_nil, Nat.zero_add] at rz ⊢
  replace hb := hb.fr hf3 fun h => h
  replace hV := hV.nil hf3
  replace ra := ra.fr hf3 fun _ _ h => h
  replace hfr := hfr.then hf3
  clear hf3 hZ
  go_wp2_with fail
  refine (lit_dec [0, 9] 2 rfl (by decide) (by simp [Byt]) 4 kd1 _ (by simp [bys]) _ _ (by simp)).mono ?_
  rintro e w4 ⟨rfl, hf9⟩
  replace hb := hb.fr ((Fr.refl Nil _).trans hf9 (fun _ h => .inl h)) (fun h => h)
  replace ra := ra.fr ((Fr.refl Nil _).trans hf9 (fun _ h => .inl h)) (fun _ _ h => h)
  replace rz := rz.fr ((Fr.refl Nil _).trans hf9 (fun _ h => .inl h)) (fun _ _ h => h)
  replace hV := hV.nil ((Fr.refl Nil _).trans hf9 (fun _ h => .inl h))
  replace hfr := hfr.then ((Fr.refl Nil _).trans hf9 (fun _ h => .inl h))
  clear hf9
  go_wp2_with fail
  refine (lit_dec [6, 0] 2 rfl (by decide) (by simp [Byt]) 4 kd2 _ (by simp [bys]) _ _ (by simp)).mono ?_
  rintro e w5 ⟨rfl, hf9⟩
  replace hb := hb.fr (((Fr.refl Nil _).alloc (.cells #[.int .i64 0, .slice none 0 0, .slice none 0 0, .slice none 0 0, .slice none 0 0] 35)).trans hf9 (fun _ h => .inl h)) (fun h => h)
  replace ra := ra.fr (((Fr.refl Nil _).alloc (.cells #[.int .i64 0, .slice none 0 0, .slice none 0 0, .slice none 0 0, .slice none 0 0] 35)).trans hf9 (fun _ h => .inl h)) (fun _ _ h => h)
  replace rz := rz.fr (((Fr.refl Nil _).alloc (.cells #[.int .i64 0, .slice none 0 0, .slice none 0 0, .slice none 0 0, .slice none 0 0] 35)).trans hf9 (fun _ h => .inl h)) (fun _ _ h => h)
  replace hV := hV.nil (((Fr.refl Nil _).alloc (.cells #[.int .i64 0, .slice none 0 0, .slice none 0 0, .slice none 0 0, .slice none 0 0] 35)).trans hf9 (fun _ h => .inl h))
  replace hfr := hfr.then (((Fr.refl Nil _).alloc (.cells #[.int .i64 0, .slice none 0 0, .slice none 0 0, .slice none 0 0, .slice none 0 0] 35)).trans hf9 (fun _ h => .inl h))
  clear hf9
  go_wp2_with fail
  refine (lit_dec [1, 0] 2 rfl (by decide) (by simp [Byt]) 4 kd3 _ (by simp [bys]) _ _ (by simp)).mono ?_
  rintro e w6 ⟨rfl, hf9⟩
  replace hb := hb.fr (((Fr.refl Nil _).alloc (.cells #[.int .i64 0, .slice none 0 0, .slice none 0 0, .slice none 0 0, .slice none 0 0] 35)).trans hf9 (fun _ h => .inl h)) (fun h => h)
  replace ra := ra.fr (((Fr.refl Nil _).alloc (.cells #[.int .i64 0, .slice none 0 0, .slice none 0 0, .slice none 0 0, .slice none 0 0] 35)).trans hf9 (fun _ h => .inl h)) (fun _ _ h => h)
  replace rz := rz.fr (((Fr.refl Nil _).alloc (.cells #[.int .i64 0, .slice none 0 0, .slice none 0 0, .slice none 0 0, .slice none 0 0] 35)).trans hf9 (fun _ h => .inl h)) (fun _ _ h => h)
  replace hV := hV.nil (((Fr.refl Nil _).alloc (.cells #[.int .i64 0, .slice none 0 0, .slice none 0 0, .slice none 0 0, .slice none 0 0] 35)).trans hf9 (fun _ h => .inl h))
  replace hfr := hfr.then (((Fr.refl Nil _).alloc (.cells #[.int .i64 0, .slice none 0 0, .slice none 0 0, .slice none 0 0, .slice none 0 0] 35)).trans hf9 (fun _ h => .inl h))
  clear hf9
  go_wp2_with fail
  refine (lit_dec [0, 1, 5] 3 rfl (by decide) (by simp [Byt]) 2 kd4 _ (by simp [bys]) _ _ (by simp)).mono ?_
  rintro e w7 ⟨rfl, hf9⟩
  replace hb := hb.fr (((Fr.refl Nil _).alloc (.cells #[.int .i64 0, .slice none 0 0, .slice none 0 0, .slice none 0 0, .slice none 0 0] 35)).trans hf9 (fun _ h => .inl h)) (fun h => h)
  replace ra := ra.fr (((Fr.refl Nil _).alloc (.cells #[.int .i64 0, .slice none 0 0, .slice none 0 0, .slice none 0 0, .slice none 0 0] 35)).trans hf9 (fun _ h => .inl h)) (fun _ _ h => h)
  replace rz := rz.fr (((Fr.refl Nil _).alloc (.cells #[.int .i64 0, .slice none 0 0, .slice none 0 0, .slice none 0 0, .slice none 0 0] 35)).trans hf9 (fun _ h => .inl h)) (fun _ _ h => h)
  replace hV := hV.nil (((Fr.refl Nil _).alloc (.cells #[.int .i64 0, .slice none 0 0, .slice none 0 0, .slice none 0 0, .slice none 0 0] 35)).trans hf9 (fun _ h => .inl h))
  replace hfr := hfr.then (((Fr.refl Nil _).alloc (.cells #[.int .i64 0, .slice none 0 0, .slice none 0 0, .slice none 0 0, .slice none 0 0] 35)).trans hf9 (fun _ h => .inl h))
  clear hf9
  go_wp2_with fail
  refine (lit_dec [0, 1, 5, 2, 0, 0, 0] 7 rfl (by decide) (by simp [Byt]) 4 kd5 _ (by simp [bys]) _ _ (by simp)).mono ?_
  rintro e w8 ⟨rfl, hf9⟩
  replace hb := hb.fr (((Fr.refl Nil _).alloc (.cells #[.int .i64 0, .slice none 0 0, .slice none 0 0, .slice none 0 0, .slice none 0 0] 35)).trans hf9 (fun _ h => .inl h)) (fun h => h)
  replace ra := ra.fr (((Fr.refl Nil _).alloc (.cells #[.int .i64 0, .slice none 0 0, .slice none 0 0, .slice none 0 0, .slice none 0 0] 35)).trans hf9 (fun _ h => .inl h)) (fun _ _ h => h)
  replace rz := rz.fr (((Fr.refl Nil _).alloc (.cells #[.int .i64 0, .slice none 0 0, .slice none 0 0, .slice none 0 0, .slice none 0 0] 35)).trans hf9 (fun _ h => .inl h)) (fun _ _ h => h)
  replace hV := hV.nil (((Fr.refl Nil _).alloc (.cells #[.int .i64 0, .slice none 0 0, .slice none 0 0, .slice none 0 0, .slice none 0 0] 35)).trans hf9 (fun _ h => .inl h))
  replace hfr := hfr.then (((Fr.refl Nil _).alloc (.cells #[.int .i64 0, .slice none 0 0, .slice none 0 0, .slice none 0 0, .slice none 0 0] 35)).trans hf9 (fun _ h => .inl h))
  clear hf9
  go_wp2_with fail
  refine (lit_dec [0, 1, 5, 2, 1, 8, 0] 7 rfl (by decide) (by simp [Byt]) 4 kd6 _ (by simp [bys]) _ _ (by simp)).mono ?_
  rintro e w9 ⟨rfl, hf9⟩
  replace hb := hb.fr (((Fr.refl Nil _).alloc (.cells #[.int .i64 0, .slice none 0 0, .slice none 0 0, .slice none 0 0, .slice none 0 0] 35)).trans hf9 (fun _ h => .inl h)) (fun h => h)
  replace ra := ra.fr (((Fr.refl Nil _).alloc (.cells #[.int .i64 0, .slice none 0 0, .slice none 0 0, .slice none 0 0, .slice none 0 0] 35)).trans hf9 (fun _ h => .inl h)) (fun _ _ h => h)
  replace rz := rz.fr (((Fr.refl Nil _).alloc (.cells #[.int .i64 0, .slice none 0 0, .slice none 0 0, .slice none 0 0, .slice none 0 0] 35)).trans hf9 (fun _ h => .inl h)) (fun _ _ h => h)
  replace hV := hV.nil (((Fr.refl Nil _).alloc (.cells #[.int .i64 0, .slice none 0 0, .slice none 0 0, .slice none 0 0, .slice none 0 0] 35)).trans hf9 (fun _ h => .inl h))
  replace hfr := hfr.then (((Fr.refl Nil _).alloc (.cells #[.int .i64 0, .slice none 0 0, .slice none 0 0, .slice none 0 0, .slice none 0 0] 35)).trans hf9 (fun _ h => .inl h))
  clear hf9
  have hal : Fr Nil w9 (w9.alloc (.cells #[.int .i64 0, .slice none 0 0, .slice none 0 0, .slice none 0 0, .slice none 0 0] 35)) := (Fr.refl Nil _).alloc _
  obtain ⟨W9, hW9⟩ : ∃ W, W = w9.alloc (.cells #[.int .i64 0, .slice none 0 0, .slice none 0 0, .slice none 0 0, .slice none 0 0] 35) := ⟨_, rfl⟩
  rw [← hW9] at hal
  replace hb := hb.fr hal fun h => h
  replace hV := hV.nil hal
  replace ra := ra.fr hal fun _ _ h => h
  replace rz := rz.fr hal fun _ _ h => h
  replace hfr := hfr.then hal
  clear hal
  obtain ⟨c0, c1, c2', c3', c4⟩ : W9.cell? ⟨nb, 0, none⟩ = some (.int .i64 1) ∧ W9.cell? ⟨nb, 1, none⟩ = some (.slice q0.A1 2 q0.c1) ∧ W9.cell? ⟨nb, 2, none⟩ = some (.slice q0.A2 0 q0.c2) ∧ W9.cell? ⟨nb, 3, none⟩ = some (.slice q0.A3 0 q0.c3) ∧ W9.cell? ⟨nb, 4, none⟩ = some (.slice q0.A4 2 q0.c4) := ⟨hb.cell 0, hb.cell 1, hb.cell 2, hb.cell 3, hb.cell 4⟩
  rw [hW9] at c0 c1 c2' c3' c4
  go_wp2_with fail
  rw [← hW9]
  refine (find_ok _ q0 (⟨1, [0, 300], [], [], [⟨2, 1, 1⟩, ⟨130, 2, 5⟩]⟩ : Nd) 299 W9 hV).mono ?_
  rintro e w10 ⟨rfl, hf10⟩
  rw [show fndR ((⟨1, [0, 300], [], [], [⟨2, 1, 1⟩, ⟨130, 2, 5⟩]⟩ : Nd)).ks 299 ((⟨1, [0, 300], [], [], [⟨2, 1, 1⟩, ⟨130, 2, 5⟩]⟩ : Nd)).ks.length = .tuple #[.int .i64 0, .bool false] from rfl]
  clear c0 c1 c2' c3' c4 hW9
  replace hb := hb.fr hf10 fun h => h
  replace hV := hV.nil hf10
  replace ra := ra.fr hf10 fun _ _ h => h
  replace rz := rz.fr hf10 fun _ _ h => h
  replace hfr := hfr.then hf10
  clear hf10
  obtain ⟨c0, c1, c2', c3', c4⟩ : w10.cell? ⟨nb, 0, none⟩ = some (.int .i64 1) ∧ w10.cell? ⟨nb, 1, none⟩ = some (.slice q0.A1 2 q0.c1) ∧ w10.cell? ⟨nb, 2, none⟩ = some (.slice q0.A2 0 q0.c2) ∧ w10.cell? ⟨nb, 3, none⟩ = some (.slice q0.A3 0 q0.c3) ∧ w10.cell? ⟨nb, 4, none⟩ = some (.slice q0.A4 2 q0.c4) := ⟨hb.cell 0, hb.cell 1, hb.cell 2, hb.cell 3, hb.cell 4⟩
  go_wp2_with fail
  refine (find_ok _ q0 (⟨1, [0, 300], [], [], [⟨2, 1, 1⟩, ⟨130, 2, 5⟩]⟩ : Nd) (-1) w10 hV).mono ?_
  rintro e w11 ⟨rfl, hf11⟩
  rw [show fndR ((⟨1, [0, 300], [], [], [⟨2, 1, 1⟩, ⟨130, 2, 5⟩]⟩ : Nd)).ks (-1) ((⟨1, [0, 300], [], [], [⟨2, 1, 1⟩, ⟨130, 2, 5⟩]⟩ : Nd)).ks.length = .tuple #[.int .i64 0, .bool false] from rfl]
  clear c0 c1 c2' c3' c4 hV hb
  replace ra := ra.fr hf11 fun _ _ h => h
  replace rz := rz.fr hf11 fun _ _ h => h
  replace hfr := hfr.then hf11
  clear hf11
  have k1 := View.str (P := Try.prog) (src := 29) (dst := 9) ra.view Try.underlying29 Try.underlying5 Try.underlying9
  have k2 := View.str (P := Try.prog) (src := 29) (dst := 9) rz.view Try.underlying29 Try.underlying5 Try.underlying9
  have s1 : (str [1, 2, 0, 2, 1, 1, 172, 2, 130, 1, 2, 5]).toList = [1, 2, 0, 2, 1, 1, 172, 2, 130, 1, 2, 5] := by rw [str_toList]; rfl
  have s2 : (str [0, 0]).toList = [0, 0] := by rw [str_toList]; rfl
  clear ra rz
  go_wp2
  go_ret
  exact ⟨rfl, hfr⟩
end Go.Proofs.Ytidpabcfcdiecaa

/- The law's Few and awake (chapter 13). -/
import Derived.Test.YtidpabcfcdiecaaNdPL
import Derived.Test.YtidpabcfcdiecaaNdRD
import Derived.Test.YtidpabcfcdiecaaNdRS
import Derived.Test.YtidpabcfcdiecaaNdF
import Derived.Test.YtidpabcfcdiecaaNdE2
set_option linter.unusedSimpArgs false
set_option linter.unusedVariables false
namespace Go.Proofs.Ytidpabcfcdiecaa
open Go.RowKit
def FewNd (x : Nd) : Prop := x.ks.length ≤ 40 ∧ x.ps.length ≤ 40 ∧ x.gs.length ≤ 40 ∧ x.ds.length ≤ 40
instance (x : Nd) : Decidable (FewNd x) := by unfold FewNd; infer_instance
theorem few_ok (q : Ptr) (x : Nd) (r : Bool) (hr : decide (FewNd x) = r) (w : World) :
    Calls Try.prog 10 #[.agg #[.int .i64 x.h, .slice q.A1 x.ks.length q.c1, .slice q.A2 x.ps.length q.c2, .slice q.A3 x.gs.length q.c3, .slice q.A4 x.ds.length q.c4]] w fun e w' => e = .returned (.bool r) ∧ Fr Nil w w' := by
  obtain ⟨h, ks, ps, gs, ds⟩ := x
  obtain ⟨A1, c1, A2, c2, A3, c3, A4, c4⟩ := q
  replace hr : decide (ks.length ≤ 40 ∧ ps.length ≤ 40 ∧ gs.length ≤ 40 ∧ ds.length ≤ 40) = r := hr
  dsimp only
  generalize ks.length = n at *
  generalize ps.length = n2 at *
  generalize gs.length = n3 at *
  generalize ds.length = n4 at *
  have hf : Fr Nil w (w.alloc (.cells #[.int .i64 h, .slice A1 n c1, .slice A2 n2 c2, .slice A3 n3 c3, .slice A4 n4 c4] 26)) := (Fr.refl _ _).alloc _
  subst hr
  by_cases h1 : n ≤ 40
  · by_cases h2 : n2 ≤ 40
    · by_cases h3 : n3 ≤ 40
      · by_cases h4 : n4 ≤ 40
        · rw [decide_eq_true (show n ≤ 40 ∧ n2 ≤ 40 ∧ n3 ≤ 40 ∧ n4 ≤ 40 from ⟨h1, h2, h3, h4⟩)]
          have hb4 : decide ((n4 : Int) ≤ 40) = true := decide_eq_true (by omega)
          go_enter Try.func10, Try.ntmps10
          go_wp2
          go_ret
          exact ⟨rfl, hf⟩
        · rw [decide_eq_false (show ¬ (n ≤ 40 ∧ n2 ≤ 40 ∧ n3 ≤ 40 ∧ n4 ≤ 40) from fun h => h4 h.2.2.2)]
          have hb4 : decide ((n4 : Int) ≤ 40) = false := decide_eq_false (by omega)
          go_enter Try.func10, Try.ntmps10
          go_wp2
          go_ret
          exact ⟨rfl, hf⟩
      · rw [decide_eq_false (show ¬ (n ≤ 40 ∧ n2 ≤ 40 ∧ n3 ≤ 40 ∧ n4 ≤ 40) from fun h => h3 h.2.2.1)]
        go_enter Try.func10, Try.ntmps10
        go_wp2
        go_ret
        exact ⟨rfl, hf⟩
    · rw [decide_eq_false (show ¬ (n ≤ 40 ∧ n2 ≤ 40 ∧ n3 ≤ 40 ∧ n4 ≤ 40) from fun h => h2 h.2.1)]
      go_enter Try.func10, Try.ntmps10
      go_wp2
      go_ret
      exact ⟨rfl, hf⟩
  · rw [decide_eq_false (show ¬ (n ≤ 40 ∧ n2 ≤ 40 ∧ n3 ≤ 40 ∧ n4 ≤ 40) from fun h => h1 h.1)]
    go_enter Try.func10, Try.ntmps10
    go_wp2
    go_ret
    exact ⟨rfl, hf⟩

theorem pre_bytes (x : Nd) (n : Nat) : Byt (encs (pre x n)) := encs_byt _
theorem pre_lenle {x : Nd} (h : MayNd x) : (encs (pre x x.ks.length)).length ≤ 200 := by
  have h1 := pre_encs_len h (Nat.le_refl _)
  have h2 := h.2.1.1
  omega
theorem nd_cells {w : World} {b : Nat} {q : Ptr} {x : Nd} {T : TypeId} (h : Blk w b (ncells x q) T) : w.cell? ⟨b, 0, none⟩ = some (.int .i64 x.h) ∧ w.cell? ⟨b, 1, none⟩ = some (.slice q.A1 x.ks.length q.c1) ∧ w.cell? ⟨b, 2, none⟩ = some (.slice q.A2 x.ps.length q.c2) ∧ w.cell? ⟨b, 3, none⟩ = some (.slice q.A3 x.gs.length q.c3) ∧ w.cell? ⟨b, 4, none⟩ = some (.slice q.A4 x.ds.length q.c4) :=
  ⟨h.cell 0, h.cell 1, h.cell 2, h.cell 3, h.cell 4⟩
set_option maxRecDepth 100000 in
set_option maxHeartbeats 1600000 in
theorem ndawake_ok (w : World) : Calls Try.prog 9 #[] w fun e w' => e = .returned (.bool true) ∧ Fr Nil w w' := by
  have hX : MayNd (⟨0, [5], [⟨2, 1, 0⟩], [1], []⟩ : Nd) := by decide
  go_enter Try.func9, Try.ntmps9
  go_wp2_with fail
  obtain ⟨q0, hq0⟩ : ∃ q : Ptr, q = ⟨some ⟨w.heap.size, 0, none⟩, 1, some ⟨w.heap.size + 1, 0, none⟩, 1, some ⟨w.heap.size + 1 + 1, 0, none⟩, 1, none, 0⟩ := ⟨_, rfl⟩
  obtain ⟨W1, hW1⟩ : ∃ W1, W1 = (((w.alloc (.cells #[.int .i64 5] 3)).alloc (.cells #[.int .i64 2, .int .i64 1, .int .i64 0] 54)).alloc (.cells #[.int .i64 1] 3)).alloc (.cells (ncells (⟨0, [5], [⟨2, 1, 0⟩], [1], []⟩ : Nd) q0) 26) := ⟨_, rfl⟩
  have hn1 : Blk W1 (w.heap.size + 1 + 1 + 1) (ncells (⟨0, [5], [⟨2, 1, 0⟩], [1], []⟩ : Nd) q0) 26 := by
    rw [hW1]
    have := Blk.new (((w.alloc (.cells #[.int .i64 5] 3)).alloc (.cells #[.int .i64 2, .int .i64 1, .int .i64 0] 54)).alloc (.cells #[.int .i64 1] 3)) (ncells (⟨0, [5], [⟨2, 1, 0⟩], [1], []⟩ : Nd) q0) 26
    rwa [World.size_alloc, World.size_alloc, World.size_alloc] at this
  have hV1 : Vs W1 (New w) q0 (⟨0, [5], [⟨2, 1, 0⟩], [1], []⟩ : Nd) := by
    rw [hW1, hq0]
    refine ⟨?_, ?_, ?_, View.nil _ _ _⟩
    · exact (((View.lit (s := 1) w #[.int .i64 5] 3 (0, 0) 1 rfl (by decide)).alloc _).alloc _).alloc _
    · have := (((View.lit (s := 3) (w.alloc (.cells #[.int .i64 5] 3)) #[.int .i64 2, .int .i64 1, .int .i64 0] 54 (0, 0) 1 rfl (by decide)).alloc (.cells #[.int .i64 1] 3)).alloc (.cells (ncells (⟨0, [5], [⟨2, 1, 0⟩], [1], []⟩ : Nd) q0) 26)).mono (S' := New w) (fun k hk => by unfold New at *; rw [World.size_alloc] at hk; omega)
      rw [World.size_alloc, hq0] at this
      exact this
    · have := ((View.lit (s := 1) ((w.alloc (.cells #[.int .i64 5] 3)).alloc (.cells #[.int .i64 2, .int .i64 1, .int .i64 0] 54)) #[.int .i64 1] 3 (0, 0) 1 rfl (by decide)).alloc (.cells (ncells (⟨0, [5], [⟨2, 1, 0⟩], [1], []⟩ : Nd) q0) 26)).mono (S' := New w) (fun k hk => by unfold New at *; rw [World.size_alloc, World.size_alloc] at hk; omega)
      rw [World.size_alloc, World.size_alloc, hq0] at this
      exact this
  have hf1 : Fr Nil w W1 := by rw [hW1]; exact ((((Fr.refl _ _).alloc _).alloc _).alloc _).alloc _
  rw [hq0] at hW1
  unfold ncells at hW1
  dsimp only [List.length_cons, List.length_nil] at hW1
  rw [← hW1]
  have e1 : Value.slice (some ⟨w.heap.size, 0, none⟩) 1 1 = .slice q0.A1 1 q0.c1 := by rw [hq0]
  have e2 : Value.slice (some ⟨w.heap.size + 1, 0, none⟩) 1 1 = .slice q0.A2 1 q0.c2 := by rw [hq0]
  have e3 : Value.slice (some ⟨w.heap.size + 1 + 1, 0, none⟩) 1 1 = .slice q0.A3 1 q0.c3 := by rw [hq0]
  have e4 : Value.slice none 0 0 = .slice q0.A4 0 q0.c4 := by rw [hq0]
  rw [e1, e2, e3]
  obtain ⟨nb, hnb⟩ : ∃ nb, nb = w.heap.size + 1 + 1 + 1 := ⟨_, rfl⟩
  rw [← hnb] at hn1 ⊢
  clear hW1 e1 e2 e3 hnb
  have E4 := hid e4
  clear e4 hq0
  refine Calls.mono (?_ : Calls _ _ _ _ fun e w' => ∃ q', e = .returned (.agg #[.int .i64 0, .slice q'.A1 1 q'.c1, .slice q'.A2 1 q'.c2, .slice q'.A3 1 q'.c3, .slice q'.A4 0 q'.c4]) ∧ Vs w' (New W1) q' (⟨0, [5], [⟨2, 1, 0⟩], [1], []⟩ : Nd) ∧ Fr Nil W1 w') ?_
  · rw [E4.out]; exact lawnode_ok (New w) q0 (⟨0, [5], [⟨2, 1, 0⟩], [1], []⟩ : Nd) (by decide) W1 hV1
  rintro e w1 ⟨q1, rfl, hV2, hf2⟩
  go_wp2_with fail
  refine (nodeenc_ok _ q1 (⟨0, [5], [⟨2, 1, 0⟩], [1], []⟩ : Nd) hX w1 hV2).mono ?_
  rintro e w2 ⟨A5, c5, rfl, r5, hf3⟩
  have hb5 := pre_bytes (⟨0, [5], [⟨2, 1, 0⟩], [1], []⟩ : Nd) 1
  have hl5 := pre_lenle hX
  have hd5 := hid (decd_pre hX)
  dsimp only [List.length_cons, List.length_nil, Nat.zero_add] at r5 hl5 hd5 ⊢
  obtain ⟨bs, hbs⟩ : ∃ bs, bs = encs (pre (⟨0, [5], [⟨2, 1, 0⟩], [1], []⟩ : Nd) 1) := ⟨_, rfl⟩
  rw [← hbs] at r5 hb5 hl5 hd5 ⊢
  clear hbs
  have hn3 := (hn1.fr hf2 fun h => h).fr hf3 fun h => h
  have hV3 := (hV1.nil hf2).nil hf3
  have hfw3 := (hf1.then hf2).then hf3
  clear hn1 hV2 hf2 hf3 hf1
  go_wp2_with fail
  refine (dec_ok _ _ bs.length bs (by omega) hb5 w2 r5.view).mono ?_
  intro e w4 hp
  rw [hd5.out] at hp
  obtain ⟨q2, rfl, hV4, hf4⟩ := hp
  have hn4 := hn3.fr hf4 fun h => h
  have hV34 := hV3.nil hf4
  have hfw4 := hfw3.then hf4
  clear hn3 hV3 hfw3 hf4 r5 hd5 hl5 hb5 hV1
  unfold ncells
  dsimp only [List.length_cons, List.length_nil]
  go_wp2_with fail
  obtain ⟨W5, hW5⟩ : ∃ W5, W5 = w4.alloc (.cells #[.int .i64 0, .slice q2.A1 1 q2.c1, .slice q2.A2 1 q2.c2, .slice q2.A3 1 q2.c3, .slice q2.A4 0 q2.c4] 35) := ⟨_, rfl⟩
  have hx5 : Blk W5 w4.heap.size (ncells (⟨0, [5], [⟨2, 1, 0⟩], [1], []⟩ : Nd) q2) 35 := by rw [hW5]; exact Blk.new _ _ _
  have hf5 : Fr Nil w4 W5 := by rw [hW5]; exact (Fr.refl _ _).alloc _
  rw [← hW5]
  clear hW5
  obtain ⟨xb, hxb⟩ : ∃ xb, xb = w4.heap.size := ⟨_, rfl⟩
  rw [← hxb] at hx5 ⊢
  clear hxb
  have hV5 := hV4.nil hf5
  have hV35 := hV34.nil hf5
  have hn5 := hn4.fr hf5 fun h => h
  have hfw5 := hfw4.then hf5
  clear hn4 hV4 hV34 hf5 hfw4
  refine (find_ok _ q2 (⟨0, [5], [⟨2, 1, 0⟩], [1], []⟩ : Nd) 5 W5 hV5).mono ?_
  rintro e w6 ⟨rfl, hf6⟩
  have hfd : fndR ((⟨0, [5], [⟨2, 1, 0⟩], [1], []⟩ : Nd)).ks 5 ((⟨0, [5], [⟨2, 1, 0⟩], [1], []⟩ : Nd)).ks.length = .tuple #[.int .i64 0, .bool true] := rfl
  rw [hfd]
  clear hfd
  have hV6 := hV5.nil hf6
  have hV36 := hV35.nil hf6
  have hn6 := hn5.fr hf6 fun h => h
  have hx6 := hx5.fr hf6 fun h => h
  have hfw6 := hfw5.then hf6
  clear hV5 hV35 hn5 hx5 hfw5 hf6
  go_wp2_with fail
  have hS : (fun w' : World => (w'.cell? ⟨xb, 0, none⟩ = some (.int .i64 0) ∧ w'.cell? ⟨xb, 1, none⟩ = some (.slice q2.A1 1 q2.c1) ∧ w'.cell? ⟨xb, 2, none⟩ = some (.slice q2.A2 1 q2.c2) ∧ w'.cell? ⟨xb, 3, none⟩ = some (.slice q2.A3 1 q2.c3) ∧ w'.cell? ⟨xb, 4, none⟩ = some (.slice q2.A4 0 q2.c4)) ∧ (w'.cell? ⟨nb, 0, none⟩ = some (.int .i64 0) ∧ w'.cell? ⟨nb, 1, none⟩ = some (.slice q0.A1 1 q0.c1) ∧ w'.cell? ⟨nb, 2, none⟩ = some (.slice q0.A2 1 q0.c2) ∧ w'.cell? ⟨nb, 3, none⟩ = some (.slice q0.A3 1 q0.c3) ∧ w'.cell? ⟨nb, 4, none⟩ = some (.slice q0.A4 0 q0.c4))) w6.drew := ⟨nd_cells hx6.drew, nd_cells hn6.drew⟩
  have D1 := hid (decide_eq_true hX)
  clear hX
  refine wpU_region (k := 23) (S := (fun w' : World => (w'.cell? ⟨xb, 0, none⟩ = some (.int .i64 0) ∧ w'.cell? ⟨xb, 1, none⟩ = some (.slice q2.A1 1 q2.c1) ∧ w'.cell? ⟨xb, 2, none⟩ = some (.slice q2.A2 1 q2.c2) ∧ w'.cell? ⟨xb, 3, none⟩ = some (.slice q2.A3 1 q2.c3) ∧ w'.cell? ⟨xb, 4, none⟩ = some (.slice q2.A4 0 q2.c4)) ∧ (w'.cell? ⟨nb, 0, none⟩ = some (.int .i64 0) ∧ w'.cell? ⟨nb, 1, none⟩ = some (.slice q0.A1 1 q0.c1) ∧ w'.cell? ⟨nb, 2, none⟩ = some (.slice q0.A2 1 q0.c2) ∧ w'.cell? ⟨nb, 3, none⟩ = some (.slice q0.A3 1 q0.c3) ∧ w'.cell? ⟨nb, 4, none⟩ = some (.slice q0.A4 0 q0.c4)))) (by kernel_rfl) ?_
  have hd6 : Fr Nil w6 w6.drew := (Fr.refl _ _).drew
  refine wpU_take (i := 0) (v := ?_) rfl (by kernel_rfl) (by kernel_rfl) (fun _ _ _ h => h) _ _ _ _ (by kernel_rfl) (by kernel_rfl) (by kernel_rfl) (Or.inl ⟨by kernel_rfl, ?_⟩) hS ?_
  rotate_left
  · (intro w9 hS9; obtain ⟨s0, s1⟩ := hS9; go_simp); (try with_reducible rfl)
  try simp only [Act.put, List.getElem_toArray, List.getElem_cons_succ, List.getElem_cons_zero, List.setIfInBounds_toArray, List.set_cons_zero, List.set_cons_succ]
  refine wpU_take (i := 1) (v := ?_) rfl (by kernel_rfl) (by kernel_rfl) (fun _ _ _ h => h) _ _ _ _ (by kernel_rfl) (by kernel_rfl) (by kernel_rfl) (Or.inl ⟨by kernel_rfl, ?_⟩) hS ?_
  rotate_left
  · (intro w9 hS9; obtain ⟨s0, s1⟩ := hS9; go_simp); (try with_reducible rfl)
  try simp only [Act.put, List.getElem_toArray, List.getElem_cons_succ, List.getElem_cons_zero, List.setIfInBounds_toArray, List.set_cons_zero, List.set_cons_succ]
  refine wpU_take (i := 2) (v := ?_) rfl (by kernel_rfl) (by kernel_rfl) (fun _ _ _ h => h) _ _ _ _ (by kernel_rfl) (by kernel_rfl) (by kernel_rfl) (Or.inl ⟨by kernel_rfl, ?_⟩) hS ?_
  rotate_left
  · (intro w9 hS9; obtain ⟨s0, s1⟩ := hS9; go_simp); (try with_reducible rfl)
  try simp only [Act.put, List.getElem_toArray, List.getElem_cons_succ, List.getElem_cons_zero, List.setIfInBounds_toArray, List.set_cons_zero, List.set_cons_succ]
  refine wpU_take (i := 3) (v := ?_) rfl (by kernel_rfl) (by kernel_rfl) (fun _ _ _ h => h) _ _ _ _ (by kernel_rfl) (by kernel_rfl) (by kernel_rfl) (Or.inl ⟨by kernel_rfl, ?_⟩) hS ?_
  rotate_left
  · (intro w9 hS9; obtain ⟨s0, s1⟩ := hS9; go_simp); (try with_reducible rfl)
  try simp only [Act.put, List.getElem_toArray, List.getElem_cons_succ, List.getElem_cons_zero, List.setIfInBounds_toArray, List.set_cons_zero, List.set_cons_succ]
  refine wpU_take (i := 4) (v := ?_) rfl (by kernel_rfl) (by kernel_rfl) (fun _ _ _ h => h) _ _ _ _ (by kernel_rfl) (by kernel_rfl) (by kernel_rfl) (Or.inl ⟨by kernel_rfl, ?_⟩) hS ?_
  rotate_left
  · (intro w9 hS9; obtain ⟨s0, s1⟩ := hS9; go_simp); (try with_reducible rfl)
  try simp only [Act.put, List.getElem_toArray, List.getElem_cons_succ, List.getElem_cons_zero, List.setIfInBounds_toArray, List.set_cons_zero, List.set_cons_succ]
  refine wpU_take (i := 5) (v := ?_) rfl (by kernel_rfl) (by kernel_rfl) (fun _ _ _ h => h) _ _ _ _ (by kernel_rfl) (by kernel_rfl) (by kernel_rfl) (Or.inl ⟨by kernel_rfl, ?_⟩) hS ?_
  rotate_left
  · (intro w9 hS9; obtain ⟨s0, s1⟩ := hS9; go_simp); (try with_reducible rfl)
  try simp only [Act.put, List.getElem_toArray, List.getElem_cons_succ, List.getElem_cons_zero, List.setIfInBounds_toArray, List.set_cons_zero, List.set_cons_succ]
  refine wpU_take (i := 6) (v := ?_) rfl (by kernel_rfl) (by kernel_rfl) (fun _ _ _ h => h) _ _ _ _ (by kernel_rfl) (by kernel_rfl) (by kernel_rfl) (Or.inl ⟨by kernel_rfl, ?_⟩) hS ?_
  rotate_left
  · (intro w9 hS9; obtain ⟨s0, s1⟩ := hS9; go_simp); (try with_reducible rfl)
  try simp only [Act.put, List.getElem_toArray, List.getElem_cons_succ, List.getElem_cons_zero, List.setIfInBounds_toArray, List.set_cons_zero, List.set_cons_succ]
  refine wpU_take (i := 7) (v := ?_) rfl (by kernel_rfl) (by kernel_rfl) (fun _ _ _ h => h) _ _ _ _ (by kernel_rfl) (by kernel_rfl) (by kernel_rfl) (Or.inl ⟨by kernel_rfl, ?_⟩) hS ?_
  rotate_left
  · (intro w9 hS9; obtain ⟨s0, s1⟩ := hS9; go_simp); (try with_reducible rfl)
  try simp only [Act.put, List.getElem_toArray, List.getElem_cons_succ, List.getElem_cons_zero, List.setIfInBounds_toArray, List.set_cons_zero, List.set_cons_succ]
  refine wpU_take (i := 9) (v := ?_) rfl (by kernel_rfl) (by kernel_rfl) (fun _ _ _ h => h) _ _ _ _ (by kernel_rfl) (by kernel_rfl) (by kernel_rfl) (Or.inl ⟨by kernel_rfl, ?_⟩) hS ?_
  rotate_left
  · (intro w9 hS9; obtain ⟨s0, s1⟩ := hS9; go_simp); (try with_reducible rfl)
  try simp only [Act.put, List.getElem_toArray, List.getElem_cons_succ, List.getElem_cons_zero, List.setIfInBounds_toArray, List.set_cons_zero, List.set_cons_succ]
  refine wpU_next (i := 8) rfl (by kernel_rfl) (fun K hK => ?_)
  go_simp
  refine (lawback_ok _ q2 (⟨0, [5], [⟨2, 1, 0⟩], [1], []⟩ : Nd) (by decide) w6.drew (hV6.nil hd6)).mono ?_
  rintro e w7 ⟨q7, rfl, hV7, hf7⟩
  replace hx6 := hx6.drew.fr hf7 fun h => h
  replace hn6 := hn6.drew.fr hf7 fun h => h
  replace hV6 := (hV6.nil hd6).nil hf7
  replace hV36 := (hV36.nil hd6).nil hf7
  replace hfw6 := hfw6.drew.then hf7
  have hS7 : (fun w' : World => (w'.cell? ⟨xb, 0, none⟩ = some (.int .i64 0) ∧ w'.cell? ⟨xb, 1, none⟩ = some (.slice q2.A1 1 q2.c1) ∧ w'.cell? ⟨xb, 2, none⟩ = some (.slice q2.A2 1 q2.c2) ∧ w'.cell? ⟨xb, 3, none⟩ = some (.slice q2.A3 1 q2.c3) ∧ w'.cell? ⟨xb, 4, none⟩ = some (.slice q2.A4 0 q2.c4)) ∧ (w'.cell? ⟨nb, 0, none⟩ = some (.int .i64 0) ∧ w'.cell? ⟨nb, 1, none⟩ = some (.slice q0.A1 1 q0.c1) ∧ w'.cell? ⟨nb, 2, none⟩ = some (.slice q0.A2 1 q0.c2) ∧ w'.cell? ⟨nb, 3, none⟩ = some (.slice q0.A3 1 q0.c3) ∧ w'.cell? ⟨nb, 4, none⟩ = some (.slice q0.A4 0 q0.c4))) w7 := ⟨nd_cells hx6, nd_cells hn6⟩
  refine hK.out _ _ (fun _ => hS7) ?_
  clear hK K
  try simp only [Act.put, List.getElem_toArray, List.getElem_cons_succ, List.getElem_cons_zero, List.setIfInBounds_toArray, List.set_cons_zero, List.set_cons_succ]
  refine wpU_next (i := 10) rfl (by kernel_rfl) (fun K hK => ?_)
  go_simp
  refine (refsame_ok _ _ q7 q0 (⟨0, [5], [⟨2, 1, 0⟩], [1], []⟩ : Nd) rfl w7 hV7 hV36).mono ?_
  rintro e w8 ⟨rfl, hf8⟩
  replace hx6 := hx6.fr hf8 fun h => h
  replace hn6 := hn6.fr hf8 fun h => h
  replace hV6 := hV6.nil hf8
  replace hfw6 := hfw6.then hf8
  have hS8 : (fun w' : World => (w'.cell? ⟨xb, 0, none⟩ = some (.int .i64 0) ∧ w'.cell? ⟨xb, 1, none⟩ = some (.slice q2.A1 1 q2.c1) ∧ w'.cell? ⟨xb, 2, none⟩ = some (.slice q2.A2 1 q2.c2) ∧ w'.cell? ⟨xb, 3, none⟩ = some (.slice q2.A3 1 q2.c3) ∧ w'.cell? ⟨xb, 4, none⟩ = some (.slice q2.A4 0 q2.c4)) ∧ (w'.cell? ⟨nb, 0, none⟩ = some (.int .i64 0) ∧ w'.cell? ⟨nb, 1, none⟩ = some (.slice q0.A1 1 q0.c1) ∧ w'.cell? ⟨nb, 2, none⟩ = some (.slice q0.A2 1 q0.c2) ∧ w'.cell? ⟨nb, 3, none⟩ = some (.slice q0.A3 1 q0.c3) ∧ w'.cell? ⟨nb, 4, none⟩ = some (.slice q0.A4 0 q0.c4))) w8 := ⟨nd_cells hx6, nd_cells hn6⟩
  refine hK.out _ _ (fun _ => hS8) ?_
  clear hK K
  try simp only [Act.put, List.getElem_toArray, List.getElem_cons_succ, List.getElem_cons_zero, List.setIfInBounds_toArray, List.set_cons_zero, List.set_cons_succ]
  refine wpU_take (i := 11) (v := ?_) rfl (by kernel_rfl) (by kernel_rfl) (fun _ _ _ h => h) _ _ _ _ (by kernel_rfl) (by kernel_rfl) (by kernel_rfl) (Or.inl ⟨by kernel_rfl, ?_⟩) hS8 ?_
  rotate_left
  · (intro w9 hS9; obtain ⟨s0, s1⟩ := hS9; go_simp); (try with_reducible rfl)
  try simp only [Act.put, List.getElem_toArray, List.getElem_cons_succ, List.getElem_cons_zero, List.setIfInBounds_toArray, List.set_cons_zero, List.set_cons_succ]
  refine wpU_take (i := 12) (v := ?_) rfl (by kernel_rfl) (by kernel_rfl) (fun _ _ _ h => h) _ _ _ _ (by kernel_rfl) (by kernel_rfl) (by kernel_rfl) (Or.inl ⟨by kernel_rfl, ?_⟩) hS8 ?_
  rotate_left
  · (intro w9 hS9; obtain ⟨s0, s1⟩ := hS9; go_simp); (try with_reducible rfl)
  try simp only [Act.put, List.getElem_toArray, List.getElem_cons_succ, List.getElem_cons_zero, List.setIfInBounds_toArray, List.set_cons_zero, List.set_cons_succ]
  refine wpU_take (i := 13) (v := ?_) rfl (by kernel_rfl) (by kernel_rfl) (fun _ _ _ h => h) _ _ _ _ (by kernel_rfl) (by kernel_rfl) (by kernel_rfl) (Or.inl ⟨by kernel_rfl, ?_⟩) hS8 ?_
  rotate_left
  · (intro w9 hS9; obtain ⟨s0, s1⟩ := hS9; go_simp); (try with_reducible rfl)
  try simp only [Act.put, List.getElem_toArray, List.getElem_cons_succ, List.getElem_cons_zero, List.setIfInBounds_toArray, List.set_cons_zero, List.set_cons_succ]
  refine wpU_take (i := 14) (v := ?_) rfl (by kernel_rfl) (by kernel_rfl) (fun _ _ _ h => h) _ _ _ _ (by kernel_rfl) (by kernel_rfl) (by kernel_rfl) (Or.inl ⟨by kernel_rfl, ?_⟩) hS8 ?_
  rotate_left
  · (intro w9 hS9; obtain ⟨s0, s1⟩ := hS9; go_simp); (try with_reducible rfl)
  try simp only [Act.put, List.getElem_toArray, List.getElem_cons_succ, List.getElem_cons_zero, List.setIfInBounds_toArray, List.set_cons_zero, List.set_cons_succ]
  refine wpU_take (i := 15) (v := ?_) rfl (by kernel_rfl) (by kernel_rfl) (fun _ _ _ h => h) _ _ _ _ (by kernel_rfl) (by kernel_rfl) (by kernel_rfl) (Or.inl ⟨by kernel_rfl, ?_⟩) hS8 ?_
  rotate_left
  · (intro w9 hS9; obtain ⟨s0, s1⟩ := hS9; go_simp); (try with_reducible rfl)
  try simp only [Act.put, List.getElem_toArray, List.getElem_cons_succ, List.getElem_cons_zero, List.setIfInBounds_toArray, List.set_cons_zero, List.set_cons_succ]
  refine wpU_take (i := 16) (v := ?_) rfl (by kernel_rfl) (by kernel_rfl) (fun _ _ _ h => h) _ _ _ _ (by kernel_rfl) (by kernel_rfl) (by kernel_rfl) (Or.inl ⟨by kernel_rfl, ?_⟩) hS8 ?_
  rotate_left
  · (intro w9 hS9; obtain ⟨s0, s1⟩ := hS9; go_simp); (try with_reducible rfl)
  try simp only [Act.put, List.getElem_toArray, List.getElem_cons_succ, List.getElem_cons_zero, List.setIfInBounds_toArray, List.set_cons_zero, List.set_cons_succ]
  refine wpU_take (i := 17) (v := ?_) rfl (by kernel_rfl) (by kernel_rfl) (fun _ _ _ h => h) _ _ _ _ (by kernel_rfl) (by kernel_rfl) (by kernel_rfl) (Or.inl ⟨by kernel_rfl, ?_⟩) hS8 ?_
  rotate_left
  · (intro w9 hS9; obtain ⟨s0, s1⟩ := hS9; go_simp); (try with_reducible rfl)
  try simp only [Act.put, List.getElem_toArray, List.getElem_cons_succ, List.getElem_cons_zero, List.setIfInBounds_toArray, List.set_cons_zero, List.set_cons_succ]
  refine wpU_take (i := 18) (v := ?_) rfl (by kernel_rfl) (by kernel_rfl) (fun _ _ _ h => h) _ _ _ _ (by kernel_rfl) (by kernel_rfl) (by kernel_rfl) (Or.inl ⟨by kernel_rfl, ?_⟩) hS8 ?_
  rotate_left
  · (intro w9 hS9; obtain ⟨s0, s1⟩ := hS9; go_simp); (try with_reducible rfl)
  try simp only [Act.put, List.getElem_toArray, List.getElem_cons_succ, List.getElem_cons_zero, List.setIfInBounds_toArray, List.set_cons_zero, List.set_cons_succ]
  refine wpU_take (i := 19) (v := ?_) rfl (by kernel_rfl) (by kernel_rfl) (fun _ _ _ h => h) _ _ _ _ (by kernel_rfl) (by kernel_rfl) (by kernel_rfl) (Or.inl ⟨by kernel_rfl, ?_⟩) hS8 ?_
  rotate_left
  · (intro w9 hS9; obtain ⟨s0, s1⟩ := hS9; go_simp); (try with_reducible rfl)
  try simp only [Act.put, List.getElem_toArray, List.getElem_cons_succ, List.getElem_cons_zero, List.setIfInBounds_toArray, List.set_cons_zero, List.set_cons_succ]
  refine wpU_take (i := 20) (v := ?_) rfl (by kernel_rfl) (by kernel_rfl) (fun _ _ _ h => h) _ _ _ _ (by kernel_rfl) (by kernel_rfl) (by kernel_rfl) (Or.inl ⟨by kernel_rfl, ?_⟩) hS8 ?_
  rotate_left
  · (intro w9 hS9; obtain ⟨s0, s1⟩ := hS9; go_simp); (try with_reducible rfl)
  try simp only [Act.put, List.getElem_toArray, List.getElem_cons_succ, List.getElem_cons_zero, List.setIfInBounds_toArray, List.set_cons_zero, List.set_cons_succ]
  refine wpU_next (i := 21) rfl (by kernel_rfl) (fun K hK => ?_)
  go_simp
  refine (nodeMay_ok _ q2 (⟨0, [5], [⟨2, 1, 0⟩], [1], []⟩ : Nd) _ D1.out w8 hV6).mono ?_
  rintro e w9 ⟨rfl, hf9⟩
  replace hx6 := hx6.fr hf9 fun h => h
  replace hn6 := hn6.fr hf9 fun h => h
  replace hfw6 := hfw6.then hf9
  have hS9 : (fun w' : World => (w'.cell? ⟨xb, 0, none⟩ = some (.int .i64 0) ∧ w'.cell? ⟨xb, 1, none⟩ = some (.slice q2.A1 1 q2.c1) ∧ w'.cell? ⟨xb, 2, none⟩ = some (.slice q2.A2 1 q2.c2) ∧ w'.cell? ⟨xb, 3, none⟩ = some (.slice q2.A3 1 q2.c3) ∧ w'.cell? ⟨xb, 4, none⟩ = some (.slice q2.A4 0 q2.c4)) ∧ (w'.cell? ⟨nb, 0, none⟩ = some (.int .i64 0) ∧ w'.cell? ⟨nb, 1, none⟩ = some (.slice q0.A1 1 q0.c1) ∧ w'.cell? ⟨nb, 2, none⟩ = some (.slice q0.A2 1 q0.c2) ∧ w'.cell? ⟨nb, 3, none⟩ = some (.slice q0.A3 1 q0.c3) ∧ w'.cell? ⟨nb, 4, none⟩ = some (.slice q0.A4 0 q0.c4))) w9 := ⟨nd_cells hx6, nd_cells hn6⟩
  refine hK.out _ _ (fun _ => hS9) ?_
  clear hK K
  try simp only [Act.put, List.getElem_toArray, List.getElem_cons_succ, List.getElem_cons_zero, List.setIfInBounds_toArray, List.set_cons_zero, List.set_cons_succ]
  refine wpU_take (i := 22) (v := ?_) rfl (by kernel_rfl) (by kernel_rfl) (fun _ _ _ h => h) _ _ _ _ (by kernel_rfl) (by kernel_rfl) (by kernel_rfl) (Or.inl ⟨by kernel_rfl, ?_⟩) hS9 ?_
  rotate_left
  · (intro w9 hS9; obtain ⟨s0, s1⟩ := hS9; go_simp); (try with_reducible rfl)
  try simp only [Act.put, List.getElem_toArray, List.getElem_cons_succ, List.getElem_cons_zero, List.setIfInBounds_toArray, List.set_cons_zero, List.set_cons_succ]
  refine wpU_next (i := 23) rfl (by kernel_rfl) (fun K hK => ?_)
  go_simp
  refine hK.out _ _ (fun h => absurd rfl h.1) ?_
  refine wpU_done (by kernel_rfl) ?_ _
  clear hK K
  go_wp2
  go_ret
  exact ⟨rfl, hfw6⟩
end Go.Proofs.Ytidpabcfcdiecaa

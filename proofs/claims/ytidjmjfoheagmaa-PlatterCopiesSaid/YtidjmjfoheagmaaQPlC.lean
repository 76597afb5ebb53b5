/- Platter's Copy. -/
import Derived.Test.YtidjmjfoheagmaaQPdA
set_option linter.unusedSimpArgs false
set_option linter.unusedVariables false
namespace Go.Proofs.Ytidjmjfoheagmaa
open Go.RowKit
theorem cloneb_ok (S : Nat → Prop) (v : Value) (n : Nat) (xs : List Value) (hx1 : ∀ u ∈ xs, u.oneCell' = true) (hn : n ≤ 1000000) (w : World) (hv : View w S 1 v n xs) :
    Calls Try.prog 42 #[v] w fun e w' => ∃ A c, e = .returned (.slice A n c) ∧ Row w' (New w) 22 1 (.slice A n c) n xs ∧ Fr Nil w w' := by
  have hv0 := hv
  obtain ⟨hl, A, c, rfl, e1, e2, e3, e4, e5⟩ := hv
  cases A with
  | none =>
    obtain rfl := e3 rfl
    obtain rfl : n = 0 := by omega
    have hx : xs = [] := List.eq_nil_of_length_eq_zero (by simpa using hl)
    subst hx
    go_enter Try.func42, Try.ntmps42
    go_wp2
    go_ret
    exact ⟨none, 0, rfl, Row.nil _ _ _ _, Fr.refl _ _⟩
  | some ad =>
    clear e3 e4 e5
    go_enter Try.func42, Try.ntmps42
    go_wp2_with (at_builtin; refine wp_app_view rfl _ _ 60 rfl (.slice none 0 0) 24 Try.underlying60 info_bytes rfl (by decide) (Row.made w #[] 22 1 0 0 rfl (Nat.le_refl _) (by decide)) rfl (hv0.alloc _) rfl hx1 (by omega) (by decide) ?_)
    intro A cap w' r1 r2 _
    have r4 : Row w' (New w) 22 1 (.slice A (0 + n) cap) (0 + n) xs := by
      refine Row.mono (by simpa using r1) fun k hk => ?_
      rcases hk with hk | hk
      · simp [Value.ownBlock] at hk
        unfold New; omega
      · unfold New; omega
    have r5 : Fr Nil w w' := ((Fr.refl Nil w).alloc _).trans r2 (fun k hk => by simp [Value.ownBlock] at hk; exact .inr (by omega))
    clear r1 r2
    rw [Nat.zero_add] at r4 ⊢
    go_wp2
    go_ret
    exact ⟨A, cap, rfl, r4, r5⟩
theorem clonew_ok (S : Nat → Prop) (v : Value) (n : Nat) (xs : List Value) (hx1 : ∀ u ∈ xs, u.oneCell' = true) (hn : n ≤ 1000000) (w : World) (hv : View w S 2 v n xs) :
    Calls Try.prog 43 #[v] w fun e w' => ∃ A c, e = .returned (.slice A n c) ∧ Row w' (New w) 74 2 (.slice A n c) n xs ∧ Fr Nil w w' := by
  have hv0 := hv
  obtain ⟨hl, A, c, rfl, e1, e2, e3, e4, e5⟩ := hv
  cases A with
  | none =>
    obtain rfl := e3 rfl
    obtain rfl : n = 0 := by omega
    have hx : xs = [] := List.eq_nil_of_length_eq_zero (by simpa using hl)
    subst hx
    go_enter Try.func43, Try.ntmps43
    go_wp2
    go_ret
    exact ⟨none, 0, rfl, Row.nil _ _ _ _, Fr.refl _ _⟩
  | some ad =>
    clear e3 e4 e5
    go_enter Try.func43, Try.ntmps43
    go_wp2_with (at_builtin; refine wp_app_view rfl _ _ 67 rfl (.agg #[.int .i64 0, .slice none 0 0]) 32 Try.underlying67 info_write rfl (by decide) (Row.made w #[] 74 2 0 0 rfl (Nat.le_refl _) (by decide)) rfl (hv0.alloc _) rfl hx1 (by omega) (by decide) ?_)
    intro A cap w' r1 r2 _
    have r4 : Row w' (New w) 74 2 (.slice A (0 + n) cap) (0 + n) xs := by
      refine Row.mono (by simpa using r1) fun k hk => ?_
      rcases hk with hk | hk
      · simp [Value.ownBlock] at hk
        unfold New; omega
      · unfold New; omega
    have r5 : Fr Nil w w' := ((Fr.refl Nil w).alloc _).trans r2 (fun k hk => by simp [Value.ownBlock] at hk; exact .inr (by omega))
    clear r1 r2
    rw [Nat.zero_add] at r4 ⊢
    go_wp2
    go_ret
    exact ⟨A, cap, rfl, r4, r5⟩
theorem blks_cell {w : World} {T : Nat → Prop} {vb : Value} {e : TypeId} {bs : List Value} {bl : List (List Nat)} (h : Row w T e 1 vb bl.length bs) (h2 : ∀ (i : Nat) x, bl[i]? = some x → ∃ v, bs[i]? = some v ∧ Dat w T v x) : ∀ u ∈ bs, u.oneCell' = true := by
  intro u hu
  obtain ⟨i, hi, rfl⟩ := List.getElem_of_mem hu
  have hl := h.length
  rw [Nat.mul_one] at hl
  obtain ⟨v, hv, hd⟩ := h2 i _ (List.getElem?_eq_getElem (by omega))
  obtain ⟨A, c, rfl⟩ := hd.slice
  rw [List.getElem?_eq_getElem hi] at hv
  injection hv with hv
  rw [hv]; rfl
theorem cac_cell {w : World} {T : Nat → Prop} {vc : Value} {e : TypeId} {cv : List (Nat × Value)} {ca : List (Nat × List Nat)} (h : Row w T e 2 vc ca.length (flatW cv)) (h2 : ∀ (i n : Nat) x, ca[i]? = some (n, x) → ∃ v, cv[i]? = some (n, v) ∧ Dat w T v x) : ∀ u ∈ flatW cv, u.oneCell' = true := by
  intro u hu
  unfold flatW at hu
  obtain ⟨q, hq, hu⟩ := List.mem_flatMap.1 hu
  obtain ⟨i, hi, rfl⟩ := List.getElem_of_mem hq
  have hl := h.length
  rw [flatW_length] at hl
  obtain ⟨v, hv, hd⟩ := h2 i (ca[i]'(by omega)).1 (ca[i]'(by omega)).2 (List.getElem?_eq_getElem (by omega))
  obtain ⟨A, c, rfl⟩ := hd.slice
  rw [List.getElem?_eq_getElem hi] at hv
  injection hv with hv
  rw [hv] at hu
  simp at hu
  rcases hu with rfl | rfl <;> rfl
set_option maxRecDepth 20000 in
set_option maxHeartbeats 2000000 in
theorem copy_ok (T : Nat → Prop) (pb : Nat) (p : Pl) (w : World) (h : IsP w T pb p) (hok : p.ok) (hfa : p.fa.length ≤ 1000) (hbl : p.bl.length ≤ 8192) :
    Calls Try.prog 24 #[.pointer (some ⟨pb, 0, none⟩)] w fun e w' => ∃ qb, e = .returned (.pointer (some ⟨qb, 0, none⟩)) ∧ IsP w' (New w) qb p ∧ Fr Nil w w' ∧ w.heap.size ≤ qb := by
  have HP := hid h
  have hca := hok.2.2.2.1
  obtain ⟨g0, vb, vc, vf, g1, ⟨bs, g2, g2'⟩, ⟨cv, g3, g3'⟩, g4⟩ := h
  obtain ⟨Ab, cb, rfl⟩ := g2.slice
  obtain ⟨Ac, cc, rfl⟩ := g3.slice
  obtain ⟨_, Af, cf, rfl, -⟩ := id g4
  have G1 := hid g1
  have G2 := hid g2
  have G2' := hid g2'
  have G3 := hid g3
  have G3' := hid g3'
  have G4 := hid g4
  have X2 := hid (blks_cell g2 g2')
  have X3 := hid (cac_cell g3 g3')
  have c0 : w.cell? ⟨pb, 0, none⟩ = some (.slice Ab p.bl.length cb) := g1.cell 0
  have c1 : w.cell? ⟨pb, 1, none⟩ = some (.slice Ac p.ca.length cc) := g1.cell 1
  have c2 : w.cell? ⟨pb, 2, none⟩ = some (.slice Af p.fa.length cf) := g1.cell 2
  have c3 : w.cell? ⟨pb, 3, none⟩ = some (.int .i64 (p.co 0 : Int)) := g1.cell 3
  have c4 : w.cell? ⟨pb, 4, none⟩ = some (.int .i64 (p.co 1 : Int)) := g1.cell 4
  have c5 : w.cell? ⟨pb, 5, none⟩ = some (.int .i64 (p.co 2 : Int)) := g1.cell 5
  have c6 : w.cell? ⟨pb, 6, none⟩ = some (.int .i64 (p.co 3 : Int)) := g1.cell 6
  have c7 : w.cell? ⟨pb, 7, none⟩ = some (.int .i64 (p.si 0 : Int)) := g1.cell 7
  have c8 : w.cell? ⟨pb, 8, none⟩ = some (.int .i64 (p.si 1 : Int)) := g1.cell 8
  have c9 : w.cell? ⟨pb, 9, none⟩ = some (.int .i64 (p.si 2 : Int)) := g1.cell 9
  have c10 : w.cell? ⟨pb, 10, none⟩ = some (.int .i64 (p.si 3 : Int)) := g1.cell 10
  have G0 := hid g0
  clear g0 g1 g2 g2' g3 g3' g4 hok
  obtain ⟨B, hB⟩ : ∃ B, B = p.bl.length := ⟨_, rfl⟩
  obtain ⟨C, hC⟩ : ∃ C, C = p.ca.length := ⟨_, rfl⟩
  obtain ⟨N, hN⟩ : ∃ N, N = p.fa.length := ⟨_, rfl⟩
  rw [← hB] at c0 hbl
  rw [← hC] at c1 hca
  rw [← hN] at c2 hfa
  have HB := hid hB
  have HC := hid hC
  have HN := hid hN
  clear hB hC hN
  go_enter Try.func24, Try.ntmps24
  go_upto_region 4 with (fail)
  obtain ⟨w1, hw1⟩ : ∃ w1, w1 = w.alloc (.cells (pcs (.slice Ab B cb) (.slice Ac C cc) (.slice Af N cf) p.co p.si) 69) := ⟨_, rfl⟩
  have b1 : Blk w1 w.heap.size (pcs (.slice Ab B cb) (.slice Ac C cc) (.slice Af N cf) p.co p.si) 69 := by rw [hw1]; exact Blk.new _ _ _
  have f1 : Fr Nil w w1 := by rw [hw1]; exact (Fr.refl _ _).alloc _
  unfold pcs at hw1
  rw [← hw1]
  clear hw1
  obtain ⟨qb, hqb⟩ : ∃ qb, qb = w.heap.size := ⟨_, rfl⟩
  rw [← hqb] at b1 ⊢
  have Hq := hid (show w.heap.size ≤ qb by omega)
  have hpq : pb ≠ qb := by have := HP.out.lt; omega
  have hS : (fun w' : World => w'.cell? ⟨pb, 0, none⟩ = some (.slice Ab B cb) ∧ w'.cell? ⟨pb, 1, none⟩ = some (.slice Ac C cc) ∧ w'.cell? ⟨pb, 2, none⟩ = some (.slice Af N cf)) w1.drew := ⟨f1.cell c0 fun h => h, f1.cell c1 fun h => h, f1.cell c2 fun h => h⟩
  have F1 := hid (show Fr Nil w w1.drew from f1.drew)
  have B1 := hid (show Blk w1.drew qb _ _ from b1)
  clear c0 c1 c2 c3 c4 c5 c6 c7 c8 c9 c10 b1 f1 hqb
  refine wpU_region (k := 20) (S := fun w' : World => w'.cell? ⟨pb, 0, none⟩ = some (.slice Ab B cb) ∧ w'.cell? ⟨pb, 1, none⟩ = some (.slice Ac C cc) ∧ w'.cell? ⟨pb, 2, none⟩ = some (.slice Af N cf)) (by kernel_rfl) ?_
  refine wpU_take (i := 0) (v := ?_) rfl (by kernel_rfl) (by kernel_rfl) (fun _ _ _ h => h) _ _ _ _ (by kernel_rfl) (by kernel_rfl) (by kernel_rfl) (Or.inl ⟨by kernel_rfl, ?_⟩) hS ?_
  rotate_left
  · (intro w9 hS9; obtain ⟨s0, s1, s2⟩ := hS9; go_simp); (try with_reducible rfl)
  try simp only [Act.put, List.getElem_toArray, List.getElem_cons_succ, List.getElem_cons_zero, List.setIfInBounds_toArray, List.set_cons_zero, List.set_cons_succ]
  refine wpU_take (i := 1) (v := ?_) rfl (by kernel_rfl) (by kernel_rfl) (fun _ _ _ h => h) _ _ _ _ (by kernel_rfl) (by kernel_rfl) (by kernel_rfl) (Or.inl ⟨by kernel_rfl, ?_⟩) hS ?_
  rotate_left
  · (intro w9 hS9; obtain ⟨s0, s1, s2⟩ := hS9; go_simp); (try with_reducible rfl)
  try simp only [Act.put, List.getElem_toArray, List.getElem_cons_succ, List.getElem_cons_zero, List.setIfInBounds_toArray, List.set_cons_zero, List.set_cons_succ]
  refine wpU_take (i := 2) (v := ?_) rfl (by kernel_rfl) (by kernel_rfl) (fun _ _ _ h => h) _ _ _ _ (by kernel_rfl) (by kernel_rfl) (by kernel_rfl) (Or.inl ⟨by kernel_rfl, ?_⟩) hS ?_
  rotate_left
  · (intro w9 hS9; obtain ⟨s0, s1, s2⟩ := hS9; go_simp); (try with_reducible rfl)
  try simp only [Act.put, List.getElem_toArray, List.getElem_cons_succ, List.getElem_cons_zero, List.setIfInBounds_toArray, List.set_cons_zero, List.set_cons_succ]
  refine wpU_take (i := 3) (v := ?_) rfl (by kernel_rfl) (by kernel_rfl) (fun _ _ _ h => h) _ _ _ _ (by kernel_rfl) (by kernel_rfl) (by kernel_rfl) (Or.inl ⟨by kernel_rfl, ?_⟩) hS ?_
  rotate_left
  · (intro w9 hS9; obtain ⟨s0, s1, s2⟩ := hS9; go_simp); (try with_reducible rfl)
  try simp only [Act.put, List.getElem_toArray, List.getElem_cons_succ, List.getElem_cons_zero, List.setIfInBounds_toArray, List.set_cons_zero, List.set_cons_succ]
  refine wpU_take (i := 5) (v := ?_) rfl (by kernel_rfl) (by kernel_rfl) (fun _ _ _ h => h) _ _ _ _ (by kernel_rfl) (by kernel_rfl) (by kernel_rfl) (Or.inl ⟨by kernel_rfl, ?_⟩) hS ?_
  rotate_left
  · (intro w9 hS9; obtain ⟨s0, s1, s2⟩ := hS9; go_simp); (try with_reducible rfl)
  try simp only [Act.put, List.getElem_toArray, List.getElem_cons_succ, List.getElem_cons_zero, List.setIfInBounds_toArray, List.set_cons_zero, List.set_cons_succ]
  refine wpU_take (i := 6) (v := ?_) rfl (by kernel_rfl) (by kernel_rfl) (fun _ _ _ h => h) _ _ _ _ (by kernel_rfl) (by kernel_rfl) (by kernel_rfl) (Or.inl ⟨by kernel_rfl, ?_⟩) hS ?_
  rotate_left
  · (intro w9 hS9; obtain ⟨s0, s1, s2⟩ := hS9; go_simp); (try with_reducible rfl)
  try simp only [Act.put, List.getElem_toArray, List.getElem_cons_succ, List.getElem_cons_zero, List.setIfInBounds_toArray, List.set_cons_zero, List.set_cons_succ]
  refine wpU_take (i := 7) (v := ?_) rfl (by kernel_rfl) (by kernel_rfl) (fun _ _ _ h => h) _ _ _ _ (by kernel_rfl) (by kernel_rfl) (by kernel_rfl) (Or.inl ⟨by kernel_rfl, ?_⟩) hS ?_
  rotate_left
  · (intro w9 hS9; obtain ⟨s0, s1, s2⟩ := hS9; go_simp); (try with_reducible rfl)
  try simp only [Act.put, List.getElem_toArray, List.getElem_cons_succ, List.getElem_cons_zero, List.setIfInBounds_toArray, List.set_cons_zero, List.set_cons_succ]
  refine wpU_take (i := 8) (v := ?_) rfl (by kernel_rfl) (by kernel_rfl) (fun _ _ _ h => h) _ _ _ _ (by kernel_rfl) (by kernel_rfl) (by kernel_rfl) (Or.inl ⟨by kernel_rfl, ?_⟩) hS ?_
  rotate_left
  · (intro w9 hS9; obtain ⟨s0, s1, s2⟩ := hS9; go_simp); (try with_reducible rfl)
  try simp only [Act.put, List.getElem_toArray, List.getElem_cons_succ, List.getElem_cons_zero, List.setIfInBounds_toArray, List.set_cons_zero, List.set_cons_succ]
  refine wpU_take (i := 10) (v := ?_) rfl (by kernel_rfl) (by kernel_rfl) (fun _ _ _ h => h) _ _ _ _ (by kernel_rfl) (by kernel_rfl) (by kernel_rfl) (Or.inl ⟨by kernel_rfl, ?_⟩) hS ?_
  rotate_left
  · (intro w9 hS9; obtain ⟨s0, s1, s2⟩ := hS9; go_simp); (try with_reducible rfl)
  try simp only [Act.put, List.getElem_toArray, List.getElem_cons_succ, List.getElem_cons_zero, List.setIfInBounds_toArray, List.set_cons_zero, List.set_cons_succ]
  refine wpU_take (i := 11) (v := ?_) rfl (by kernel_rfl) (by kernel_rfl) (fun _ _ _ h => h) _ _ _ _ (by kernel_rfl) (by kernel_rfl) (by kernel_rfl) (Or.inl ⟨by kernel_rfl, ?_⟩) hS ?_
  rotate_left
  · (intro w9 hS9; obtain ⟨s0, s1, s2⟩ := hS9; go_simp); (try with_reducible rfl)
  try simp only [Act.put, List.getElem_toArray, List.getElem_cons_succ, List.getElem_cons_zero, List.setIfInBounds_toArray, List.set_cons_zero, List.set_cons_succ]
  refine wpU_take (i := 12) (v := ?_) rfl (by kernel_rfl) (by kernel_rfl) (fun _ _ _ h => h) _ _ _ _ (by kernel_rfl) (by kernel_rfl) (by kernel_rfl) (Or.inl ⟨by kernel_rfl, ?_⟩) hS ?_
  rotate_left
  · (intro w9 hS9; obtain ⟨s0, s1, s2⟩ := hS9; go_simp); (try with_reducible rfl)
  try simp only [Act.put, List.getElem_toArray, List.getElem_cons_succ, List.getElem_cons_zero, List.setIfInBounds_toArray, List.set_cons_zero, List.set_cons_succ]
  refine wpU_take (i := 13) (v := ?_) rfl (by kernel_rfl) (by kernel_rfl) (fun _ _ _ h => h) _ _ _ _ (by kernel_rfl) (by kernel_rfl) (by kernel_rfl) (Or.inl ⟨by kernel_rfl, ?_⟩) hS ?_
  rotate_left
  · (intro w9 hS9; obtain ⟨s0, s1, s2⟩ := hS9; go_simp); (try with_reducible rfl)
  try simp only [Act.put, List.getElem_toArray, List.getElem_cons_succ, List.getElem_cons_zero, List.setIfInBounds_toArray, List.set_cons_zero, List.set_cons_succ]
  refine wpU_next (i := 4) rfl (by kernel_rfl) (fun K hK => ?_)
  go_simp
  refine (cloneb_ok _ _ B bs X2.out (by omega) w1.drew (by rw [HB.out]; exact (G2.out.view.fr F1.out fun _ _ _ h => h))).mono ?_
  rintro e w2 ⟨A2, k2, rfl, r2, f2⟩
  have hS2 : (fun w' : World => w'.cell? ⟨pb, 0, none⟩ = some (.slice Ab B cb) ∧ w'.cell? ⟨pb, 1, none⟩ = some (.slice Ac C cc) ∧ w'.cell? ⟨pb, 2, none⟩ = some (.slice Af N cf)) w2 := ⟨f2.cell hS.1 fun h => h, f2.cell hS.2.1 fun h => h, f2.cell hS.2.2 fun h => h⟩
  refine hK.out _ _ (fun _ => hS2) ?_
  clear hK K
  try simp only [Act.put, List.getElem_toArray, List.getElem_cons_succ, List.getElem_cons_zero, List.setIfInBounds_toArray, List.set_cons_zero, List.set_cons_succ]
  refine wpU_next (i := 9) rfl (by kernel_rfl) (fun K hK => ?_)
  go_simp
  refine (clonew_ok _ _ C (flatW cv) X3.out (by omega) w2 (by rw [HC.out]; exact (G3.out.view.fr (F1.out.then f2) fun _ _ _ h => h))).mono ?_
  rintro e w3 ⟨A3, k3, rfl, r3, f3⟩
  have hS3 : (fun w' : World => w'.cell? ⟨pb, 0, none⟩ = some (.slice Ab B cb) ∧ w'.cell? ⟨pb, 1, none⟩ = some (.slice Ac C cc) ∧ w'.cell? ⟨pb, 2, none⟩ = some (.slice Af N cf)) w3 := ⟨f3.cell hS2.1 fun h => h, f3.cell hS2.2.1 fun h => h, f3.cell hS2.2.2 fun h => h⟩
  refine hK.out _ _ (fun _ => hS3) ?_
  clear hK K
  try simp only [Act.put, List.getElem_toArray, List.getElem_cons_succ, List.getElem_cons_zero, List.setIfInBounds_toArray, List.set_cons_zero, List.set_cons_succ]
  refine wpU_next (i := 14) rfl (by kernel_rfl) (fun K hK => ?_)
  go_simp
  refine (clonef_ok _ _ N p.fa (by omega) w3 (by rw [HN.out]; exact (View.fr G4.out ((F1.out.then f2).then f3) fun _ _ _ h => h))).mono ?_
  rintro e w4 ⟨A4, k4, rfl, r4, f4⟩
  have hS4 : (fun w' : World => w'.cell? ⟨pb, 0, none⟩ = some (.slice Ab B cb) ∧ w'.cell? ⟨pb, 1, none⟩ = some (.slice Ac C cc) ∧ w'.cell? ⟨pb, 2, none⟩ = some (.slice Af N cf)) w4 := ⟨f4.cell hS3.1 fun h => h, f4.cell hS3.2.1 fun h => h, f4.cell hS3.2.2 fun h => h⟩
  refine hK.out _ _ (fun _ => hS4) ?_
  clear hK K
  try simp only [Act.put, List.getElem_toArray, List.getElem_cons_succ, List.getElem_cons_zero, List.setIfInBounds_toArray, List.set_cons_zero, List.set_cons_succ]
  have F4 := hid (((F1.out.then f2).then f3).then f4)
  have b4 := ((B1.out.fr f2 fun h => h).fr f3 fun h => h).fr f4 fun h => h
  have y0 : w4.cell? ⟨qb, 0, none⟩ = some (.slice Ab B cb) := b4.cell 0
  have y1 : w4.cell? ⟨qb, 1, none⟩ = some (.slice Ac C cc) := b4.cell 1
  have y2 : w4.cell? ⟨qb, 2, none⟩ = some (.slice Af N cf) := b4.cell 2
  have z0 := b4.frozen 0
  have z1 := b4.frozen 1
  have z2 := b4.frozen 2
  have B4 := hid b4
  have s1 := F1.out.size
  have s2 := f2.size
  have s3 := f3.size
  have R2 := hid (show Row w4 (New w) 22 1 (.slice A2 B k2) B bs from ((r2.fr f3 fun _ _ h => h).fr f4 fun _ _ h => h).mono fun k hk => (by have h9 : w1.drew.heap.size ≤ k := hk; show w.heap.size ≤ k; omega))
  have R3 := hid (show Row w4 (New w) 74 2 (.slice A3 C k3) C (flatW cv) from (r3.fr f4 fun _ _ h => h).mono fun k hk => (by have h9 : w2.heap.size ≤ k := hk; show w.heap.size ≤ k; omega))
  have R4 := hid (show VT w4 (New w) 46 2 (.slice A4 N k4) N (flatF p.fa) from (r4.mono fun k hk => (by have h9 : w3.heap.size ≤ k := hk; show w.heap.size ≤ k; omega) : Row w4 (New w) _ _ _ _ _).vt)
  have Hfin := hid (show IsP (((w4.setCell ⟨qb, 0, none⟩ (.slice A2 B k2)).setCell ⟨qb, 1, none⟩ (.slice A3 C k3)).setCell ⟨qb, 2, none⟩ (.slice A4 N k4)) (New w) qb p ∧ Fr Nil w (((w4.setCell ⟨qb, 0, none⟩ (.slice A2 B k2)).setCell ⟨qb, 1, none⟩ (.slice A3 C k3)).setCell ⟨qb, 2, none⟩ (.slice A4 N k4)) from by
    have hfp : Fr (fun k => k = qb) w4 (((w4.setCell ⟨qb, 0, none⟩ (.slice A2 B k2)).setCell ⟨qb, 1, none⟩ (.slice A3 C k3)).setCell ⟨qb, 2, none⟩ (.slice A4 N k4)) := (((Fr.refl (fun k => k = qb) w4).setCell (a := ⟨qb, 0, none⟩) (.inl rfl) _).setCell (a := ⟨qb, 1, none⟩) (.inl rfl) _).setCell (a := ⟨qb, 2, none⟩) (.inl rfl) _
    refine ⟨IsP.own (p := p) (show New w qb from Hq.out) B4.out hfp (((B4.out.set 0 _).set 1 _).set 2 _) ?_ ?_ ?_, F4.out.trans hfp fun k hk => .inr (by have h8 : k = qb := hk; rw [h8]; exact Hq.out)⟩
    · refine ⟨bs, by rw [← HB.out]; exact R2.out, fun i x hx => ?_⟩
      obtain ⟨v, hv, hd⟩ := G2'.out i x hx
      exact ⟨v, hv, (Dat.fr (S1 := Nil) (X := 4) hd F4.out (fun _ _ _ h => h.elim) (by decide))⟩
    · refine ⟨cv, by rw [← HC.out]; exact R3.out, fun i n x hx => ?_⟩
      obtain ⟨v, hv, hd⟩ := G3'.out i n x hx
      exact ⟨v, hv, (Dat.fr (S1 := Nil) (X := 4) hd F4.out (fun _ _ _ h => h.elim) (by decide))⟩
    · show VT w4 (New w) 46 2 (.slice A4 N k4) p.fa.length (flatF p.fa)
      rw [← HN.out]; exact R4.out)
  clear r2 r3 r4 f2 f3 f4 b4
  refine wpU_take (i := 15) (v := ?_) rfl (by kernel_rfl) (by kernel_rfl) (fun _ _ _ h => h) _ _ _ _ (by kernel_rfl) (by kernel_rfl) (by kernel_rfl) (Or.inl ⟨by kernel_rfl, ?_⟩) hS4 ?_
  rotate_left
  · (intro w9 hS9; obtain ⟨s0, s1, s2⟩ := hS9; go_simp); (try with_reducible rfl)
  try simp only [Act.put, List.getElem_toArray, List.getElem_cons_succ, List.getElem_cons_zero, List.setIfInBounds_toArray, List.set_cons_zero, List.set_cons_succ]
  refine wpU_next (i := 16) rfl (by kernel_rfl) (fun K hK => ?_)
  go_simp
  have hS5 : (fun w' : World => w'.cell? ⟨pb, 0, none⟩ = some (.slice Ab B cb) ∧ w'.cell? ⟨pb, 1, none⟩ = some (.slice Ac C cc) ∧ w'.cell? ⟨pb, 2, none⟩ = some (.slice Af N cf)) (w4.setCell ⟨qb, 0, none⟩ (.slice A2 B k2)) := by
    have hf : Fr (fun k => k = qb) w4 (w4.setCell ⟨qb, 0, none⟩ (.slice A2 B k2)) := (Fr.refl (fun k => k = qb) w4).setCell (a := ⟨qb, 0, none⟩) (.inl rfl) _
    exact ⟨hf.cell hS4.1 hpq, hf.cell hS4.2.1 hpq, hf.cell hS4.2.2 hpq⟩
  refine hK.out _ _ (fun _ => hS5) ?_
  clear hK K
  try simp only [Act.put, List.getElem_toArray, List.getElem_cons_succ, List.getElem_cons_zero, List.setIfInBounds_toArray, List.set_cons_zero, List.set_cons_succ]
  refine wpU_take (i := 17) (v := ?_) rfl (by kernel_rfl) (by kernel_rfl) (fun _ _ _ h => h) _ _ _ _ (by kernel_rfl) (by kernel_rfl) (by kernel_rfl) (Or.inl ⟨by kernel_rfl, ?_⟩) hS5 ?_
  rotate_left
  · (intro w9 hS9; obtain ⟨s0, s1, s2⟩ := hS9; go_simp); (try with_reducible rfl)
  try simp only [Act.put, List.getElem_toArray, List.getElem_cons_succ, List.getElem_cons_zero, List.setIfInBounds_toArray, List.set_cons_zero, List.set_cons_succ]
  refine wpU_next (i := 18) rfl (by kernel_rfl) (fun K hK => ?_)
  go_simp
  have hS6 : (fun w' : World => w'.cell? ⟨pb, 0, none⟩ = some (.slice Ab B cb) ∧ w'.cell? ⟨pb, 1, none⟩ = some (.slice Ac C cc) ∧ w'.cell? ⟨pb, 2, none⟩ = some (.slice Af N cf)) ((w4.setCell ⟨qb, 0, none⟩ (.slice A2 B k2)).setCell ⟨qb, 1, none⟩ (.slice A3 C k3)) := by
    have hf : Fr (fun k => k = qb) (w4.setCell ⟨qb, 0, none⟩ (.slice A2 B k2)) ((w4.setCell ⟨qb, 0, none⟩ (.slice A2 B k2)).setCell ⟨qb, 1, none⟩ (.slice A3 C k3)) := (Fr.refl (fun k => k = qb) _).setCell (a := ⟨qb, 1, none⟩) (.inl rfl) _
    exact ⟨hf.cell hS5.1 hpq, hf.cell hS5.2.1 hpq, hf.cell hS5.2.2 hpq⟩
  refine hK.out _ _ (fun _ => hS6) ?_
  clear hK K
  try simp only [Act.put, List.getElem_toArray, List.getElem_cons_succ, List.getElem_cons_zero, List.setIfInBounds_toArray, List.set_cons_zero, List.set_cons_succ]
  refine wpU_take (i := 19) (v := ?_) rfl (by kernel_rfl) (by kernel_rfl) (fun _ _ _ h => h) _ _ _ _ (by kernel_rfl) (by kernel_rfl) (by kernel_rfl) (Or.inl ⟨by kernel_rfl, ?_⟩) hS6 ?_
  rotate_left
  · (intro w9 hS9; obtain ⟨s0, s1, s2⟩ := hS9; go_simp); (try with_reducible rfl)
  try simp only [Act.put, List.getElem_toArray, List.getElem_cons_succ, List.getElem_cons_zero, List.setIfInBounds_toArray, List.set_cons_zero, List.set_cons_succ]
  refine wpU_next (i := 20) rfl (by kernel_rfl) (fun K hK => ?_)
  go_simp
  refine hK.out _ _ (fun h => absurd rfl h.1) ?_
  refine wpU_done (by kernel_rfl) ?_ _
  clear hK K
  clear hS hS2 hS3 hS4 hS5 hS6
  go_wp2
  go_ret
  exact ⟨qb, rfl, Hfin.out.1, Hfin.out.2, Hq.out⟩
end Go.Proofs.Ytidjmjfoheagmaa

/- The reference's Shares: change, More, Less. Conditions: the bounds of its lists. -/
import Derived.Test.YtjieckaeplkafaaRzB
import Derived.Test.YtjieckaeplkafaaUntil
set_option linter.unusedSimpArgs false
set_option linter.unusedVariables false
namespace Go.Proofs.Ytjieckaeplkafaa
open Go.RowKit
theorem quad_set : ∀ (l : List Us) (j : Nat) (r : Us), j < l.length → (us l j).a = r.a → (us l j).n = r.n → quad (l.set j r) = ((quad l).set (j * 4 + 2) (.int .i64 (r.k : Nat))).set (j * 4 + 3) (.bool (decide (r.k = 0)))
  | [], j, r, h, _, _ => absurd h (by simp)
  | u :: l, 0, r, _, h1, h2 => by
    have h1' : u.a = r.a := h1
    have h2' : u.n = r.n := h2
    show qc r ++ quad l = _
    unfold quad qc
    rw [List.flatMap_cons]
    simp [h1', h2']
  | u :: l, j + 1, r, h, h1, h2 => by
    have ih := quad_set l j r (by simpa using h) h1 h2
    show qc u ++ quad (l.set j r) = _
    rw [ih, show (j + 1) * 4 + 2 = j * 4 + 2 + 4 by omega, show (j + 1) * 4 + 3 = j * 4 + 3 + 4 by omega]
    rfl
set_option maxRecDepth 20000 in
set_option maxHeartbeats 1000000 in
theorem rz_change (T : Nat → Prop) (sb mb : Nat) (N W : List Us) (w : World) (h : Rz w T sb mb N W) (hN : N.length ≤ 100000) (i z : Int) (hl : atN N i < N.length) (k' : Nat) (hk : 1 ≤ (us N (atN N i)).k) (hz : ((us N (atN N i)).k : Int) + z = (k' : Nat)) (hk9 : k' ≤ 1000000) :
    Calls Try.prog 41 #[.pointer (some ⟨sb, 0, none⟩), .int .i64 i, .int .i64 z] w fun e w' => e = .returned (.bool true) ∧
      (∃ T', Rz w' T' sb mb (N.set (atN N i) ⟨(us N (atN N i)).a, (us N (atN N i)).n, k'⟩) W ∧ ∀ k, T' k → T k ∨ w.heap.size ≤ k) ∧ Fr (fun k => k = sb) w w' := by
  have Hat := hid (rz_at T sb mb N W w h hN i)
  obtain ⟨⟨v1, v2, h1, h2, h3⟩, h4, h5⟩ := h
  obtain ⟨A, c, rfl⟩ := h2.slice
  have c1 : w.cell? ⟨sb, 1, none⟩ = some (.slice A N.length c) := h1.cell 1
  obtain ⟨b, o, hA, -, hbl, q0, q1, q2, q3⟩ := uz_at h2.view hl
  have hat : atI N i = (atN N i : Int) := if_pos hl
  rw [hat] at Hat
  have HB := hid h1
  have HV := hid h2.view
  have H3 := hid h3
  have HT := hid h4
  have Hlt := hid h5
  have hqs := hid (fun r => quad_set N (atN N i) r hl)
  obtain ⟨j, hj⟩ : ∃ j, j = atN N i := ⟨_, rfl⟩
  rw [← hj] at Hat hl hk hz q0 q1 q2 q3 hqs ⊢
  obtain ⟨⟨xa, xn, xk⟩, hx⟩ : ∃ x, x = us N j := ⟨_, rfl⟩
  rw [← hx] at hk hz q0 q1 q2 q3 hqs ⊢
  dsimp only at hk hz q0 q1 q2 q3 hqs ⊢
  obtain ⟨M, hM⟩ : ∃ M, M = N.length := ⟨_, rfl⟩
  rw [← hM] at hl c1 hN HV HB
  subst hA
  have HM := hid hM
  have Hx := hid hx
  have hkd : decide (xk = 0) = false := by simp; omega
  have hkd2 : (xk == 0) = false := by simp; omega
  have Hk := hid hk
  have q3' : w.cell? ⟨b, o + j * 4 + 3, none⟩ = some (.bool false) := by rw [q3, hkd]
  clear h1 h2 h3 h4 h5 hat hj hx hM hk q3 q0 q1 hkd hkd2
  go_enter Try.func41, Try.ntmps41
  go_wp2_with fail
  refine Hat.out.mono ?_
  rintro e w1 ⟨rfl, rfl⟩
  have Hz := hid hz
  have Hk9 := hid hk9
  clear hz hk9
  go_wp2_with (at_builtin; refine wp_app_view rfl _ _ 68 rfl (.agg #[.int .i64 0, .int .i64 0, .int .i64 0, .bool false]) 32 Try.underlying68 info_use rfl (by decide) (Row.nil w Nil 72 4) rfl HV.out rfl (quad_cell N) (by omega) (by decide) ?_)
  rintro A6 c6 w6 r1 r2 -
  rw [Nat.zero_add] at r1
  rw [Nat.zero_add]
  have hf6 : Fr Nil w w6 := r2.mono fun k hk => by simp [Value.ownBlock] at hk
  have hr6 : Row w6 (New w) 72 4 (.slice A6 M c6) M (quad N) := r1.mono fun k hk => hk.elim (fun h => by simp [Value.ownBlock] at h) id
  obtain ⟨g, c6', hA6, hg, hgl⟩ := hr6.form (by omega)
  injection hA6 with hA6 _ hc6
  subst hA6; subst hc6
  have HB6 := hid (HB.out.fr hf6 fun h => h)
  have HR6 := hid hr6
  have F6 := hid hf6
  have Hg := hid hg
  have e1 := HB6.out.cell 1
  have z1 := HB6.out.frozen 1
  have l1 := HB6.out.lt
  clear r1 r2 hf6 hr6 hg hgl q2 q3' c1 hbl
  go_upto_region 5 with (fail)
  obtain ⟨W7, hW7⟩ : ∃ W7, W7 = w6.setCell ⟨sb, 1, none⟩ (.slice (some ⟨g, 0, none⟩) M c6) := ⟨_, rfl⟩
  have hgs : g ≠ sb := fun e => by have := Hlt.out sb HT.out; have h9 : w.heap.size ≤ g := Hg.out; omega
  have hgs2 : (Value.slice (some ⟨g, 0, none⟩) M c6).ownBlock ≠ some sb := by simp [Value.ownBlock]; exact hgs
  have f7 : Fr (fun k => k = sb) w6 W7 := by rw [hW7]; exact (Fr.refl (fun k => k = sb) w6).setCell (a := ⟨sb, 1, none⟩) (.inl rfl) _
  have hb7 : Blk W7 sb #[.pointer (some ⟨mb, 0, none⟩), .slice (some ⟨g, 0, none⟩) M c6, v2] 70 := by rw [hW7]; exact HB6.out.set 1 _
  have hr7 : Row W7 (New w) 72 4 (.slice (some ⟨g, 0, none⟩) M c6) M (quad N) := by rw [hW7]; exact HR6.out.setCell hgs2 _
  rw [← hW7]
  have HB7 := hid hb7
  have HR7 := hid hr7
  have F7 := hid (F6.out.nil.then f7)
  have Hgs := hid hgs
  have hjN : j < N.length := by rw [← HM.out]; exact hl
  obtain ⟨-, -, y2, y3⟩ := quad_get hjN
  rw [← Hx.out] at y2 y3
  have k2 : W7.cell? ⟨g, j * 4 + 2, none⟩ = some (.int .i64 (xk : Nat)) := hr7.cell y2
  have Y3 := hid y3
  have hjM : (j : Int) < (M : Int) := by omega
  have hj0 : (0 : Int) ≤ (j : Int) := by omega
  have hzz := Hz.out
  have hwk : IntKind.i64.wrap (k' : Int) = (k' : Int) := by have := Hk9.out; rw [IntKind.wrap_i64]; omega
  have hz7 : W7.drew.frozen? ⟨g, j * 4 + 2, none⟩ = false := hr7.drew.frozen _
  have hl7 : g < W7.drew.heap.size := hr7.drew.lt g rfl
  have HjN := hid hjN
  clear hW7 hgs hgs2 f7 hb7 hr7 e1 z1 l1 y2 y3 hjN HR6 HB6
  have hS5 : (fun w' : World => w'.cell? ⟨sb, 1, none⟩ = some (.slice (some ⟨g, 0, none⟩) M c6) ∧ w'.cell? ⟨g, j * 4 + 2, none⟩ = some (.int .i64 (xk : Nat))) W7.drew := ⟨HB7.out.drew.cell 1, k2⟩
  clear k2
  refine wpU_region (k := 17) (S := (fun w' : World => w'.cell? ⟨sb, 1, none⟩ = some (.slice (some ⟨g, 0, none⟩) M c6) ∧ w'.cell? ⟨g, j * 4 + 2, none⟩ = some (.int .i64 (xk : Nat)))) (by kernel_rfl) ?_
  refine wpU_take (i := 0) (v := ?_) rfl (by kernel_rfl) (by kernel_rfl) (fun _ _ _ h => h) _ _ _ _ (by kernel_rfl) (by kernel_rfl) (by kernel_rfl) (Or.inl ⟨by kernel_rfl, ?_⟩) hS5 ?_
  rotate_left
  · (intro w9 hS9; obtain ⟨s0, s1⟩ := hS9; go_simp); (try with_reducible rfl)
  try simp only [Act.put, List.getElem_toArray, List.getElem_cons_succ, List.getElem_cons_zero, List.setIfInBounds_toArray, List.set_cons_zero, List.set_cons_succ]
  refine wpU_take (i := 1) (v := ?_) rfl (by kernel_rfl) (by kernel_rfl) (fun _ _ _ h => h) _ _ _ _ (by kernel_rfl) (by kernel_rfl) (by kernel_rfl) (Or.inl ⟨by kernel_rfl, ?_⟩) hS5 ?_
  rotate_left
  · (intro w9 hS9; obtain ⟨s0, s1⟩ := hS9; go_simp); (try with_reducible rfl)
  try simp only [Act.put, List.getElem_toArray, List.getElem_cons_succ, List.getElem_cons_zero, List.setIfInBounds_toArray, List.set_cons_zero, List.set_cons_succ]
  refine wpU_take (i := 2) (v := ?_) rfl (by kernel_rfl) (by kernel_rfl) (fun _ _ _ h => h) _ _ _ _ (by kernel_rfl) (by kernel_rfl) (by kernel_rfl) (Or.inl ⟨by kernel_rfl, ?_⟩) hS5 ?_
  rotate_left
  · (intro w9 hS9; obtain ⟨s0, s1⟩ := hS9; go_simp); (try with_reducible rfl)
  try simp only [Act.put, List.getElem_toArray, List.getElem_cons_succ, List.getElem_cons_zero, List.setIfInBounds_toArray, List.set_cons_zero, List.set_cons_succ]
  refine wpU_take (i := 3) (v := ?_) rfl (by kernel_rfl) (by kernel_rfl) (fun _ _ _ h => h) _ _ _ _ (by kernel_rfl) (by kernel_rfl) (by kernel_rfl) (Or.inl ⟨by kernel_rfl, ?_⟩) hS5 ?_
  rotate_left
  · (intro w9 hS9; obtain ⟨s0, s1⟩ := hS9; go_simp); (try with_reducible rfl)
  try simp only [Act.put, List.getElem_toArray, List.getElem_cons_succ, List.getElem_cons_zero, List.setIfInBounds_toArray, List.set_cons_zero, List.set_cons_succ]
  refine wpU_take (i := 4) (v := ?_) rfl (by kernel_rfl) (by kernel_rfl) (fun _ _ _ h => h) _ _ _ _ (by kernel_rfl) (by kernel_rfl) (by kernel_rfl) (Or.inl ⟨by kernel_rfl, ?_⟩) hS5 ?_
  rotate_left
  · (intro w9 hS9; obtain ⟨s0, s1⟩ := hS9; go_simp); (try with_reducible rfl)
  try simp only [Act.put, List.getElem_toArray, List.getElem_cons_succ, List.getElem_cons_zero, List.setIfInBounds_toArray, List.set_cons_zero, List.set_cons_succ]
  refine wpU_take (i := 5) (v := ?_) rfl (by kernel_rfl) (by kernel_rfl) (fun _ _ _ h => h) _ _ _ _ (by kernel_rfl) (by kernel_rfl) (by kernel_rfl) (Or.inl ⟨by kernel_rfl, ?_⟩) hS5 ?_
  rotate_left
  · (intro w9 hS9; obtain ⟨s0, s1⟩ := hS9; go_simp); (try with_reducible rfl)
  try simp only [Act.put, List.getElem_toArray, List.getElem_cons_succ, List.getElem_cons_zero, List.setIfInBounds_toArray, List.set_cons_zero, List.set_cons_succ]
  refine wpU_take (i := 6) (v := ?_) rfl (by kernel_rfl) (by kernel_rfl) (fun _ _ _ h => h) _ _ _ _ (by kernel_rfl) (by kernel_rfl) (by kernel_rfl) (Or.inl ⟨by kernel_rfl, ?_⟩) hS5 ?_
  rotate_left
  · (intro w9 hS9; obtain ⟨s0, s1⟩ := hS9; go_simp); (try with_reducible rfl)
  try simp only [Act.put, List.getElem_toArray, List.getElem_cons_succ, List.getElem_cons_zero, List.setIfInBounds_toArray, List.set_cons_zero, List.set_cons_succ]
  refine wpU_take (i := 7) (v := ?_) rfl (by kernel_rfl) (by kernel_rfl) (fun _ _ _ h => h) _ _ _ _ (by kernel_rfl) (by kernel_rfl) (by kernel_rfl) (Or.inl ⟨by kernel_rfl, ?_⟩) hS5 ?_
  rotate_left
  · (intro w9 hS9; obtain ⟨s0, s1⟩ := hS9; go_simp); (try with_reducible rfl)
  try simp only [Act.put, List.getElem_toArray, List.getElem_cons_succ, List.getElem_cons_zero, List.setIfInBounds_toArray, List.set_cons_zero, List.set_cons_succ]
  refine wpU_take (i := 8) (v := ?_) rfl (by kernel_rfl) (by kernel_rfl) (fun _ _ _ h => h) _ _ _ _ (by kernel_rfl) (by kernel_rfl) (by kernel_rfl) (Or.inl ⟨by kernel_rfl, ?_⟩) hS5 ?_
  rotate_left
  · (intro w9 hS9; obtain ⟨s0, s1⟩ := hS9; go_simp); (try with_reducible rfl)
  try simp only [Act.put, List.getElem_toArray, List.getElem_cons_succ, List.getElem_cons_zero, List.setIfInBounds_toArray, List.set_cons_zero, List.set_cons_succ]
  refine wpU_take (i := 9) (v := ?_) rfl (by kernel_rfl) (by kernel_rfl) (fun _ _ _ h => h) _ _ _ _ (by kernel_rfl) (by kernel_rfl) (by kernel_rfl) (Or.inl ⟨by kernel_rfl, ?_⟩) hS5 ?_
  rotate_left
  · (intro w9 hS9; obtain ⟨s0, s1⟩ := hS9; go_simp); (try with_reducible rfl)
  try simp only [Act.put, List.getElem_toArray, List.getElem_cons_succ, List.getElem_cons_zero, List.setIfInBounds_toArray, List.set_cons_zero, List.set_cons_succ]
  refine wpU_take (i := 10) (v := ?_) rfl (by kernel_rfl) (by kernel_rfl) (fun _ _ _ h => h) _ _ _ _ (by kernel_rfl) (by kernel_rfl) (by kernel_rfl) (Or.inl ⟨by kernel_rfl, ?_⟩) hS5 ?_
  rotate_left
  · (intro w9 hS9; obtain ⟨s0, s1⟩ := hS9; go_simp); (try with_reducible rfl)
  try simp only [Act.put, List.getElem_toArray, List.getElem_cons_succ, List.getElem_cons_zero, List.setIfInBounds_toArray, List.set_cons_zero, List.set_cons_succ]
  refine wpU_take (i := 11) (v := ?_) rfl (by kernel_rfl) (by kernel_rfl) (fun _ _ _ h => h) _ _ _ _ (by kernel_rfl) (by kernel_rfl) (by kernel_rfl) (Or.inl ⟨by kernel_rfl, ?_⟩) hS5 ?_
  rotate_left
  · (intro w9 hS9; obtain ⟨s0, s1⟩ := hS9; go_simp); (try with_reducible rfl)
  try simp only [Act.put, List.getElem_toArray, List.getElem_cons_succ, List.getElem_cons_zero, List.setIfInBounds_toArray, List.set_cons_zero, List.set_cons_succ]
  refine wpU_take (i := 12) (v := ?_) rfl (by kernel_rfl) (by kernel_rfl) (fun _ _ _ h => h) _ _ _ _ (by kernel_rfl) (by kernel_rfl) (by kernel_rfl) (Or.inl ⟨by kernel_rfl, ?_⟩) hS5 ?_
  rotate_left
  · (intro w9 hS9; obtain ⟨s0, s1⟩ := hS9; go_simp); (try with_reducible rfl)
  try simp only [Act.put, List.getElem_toArray, List.getElem_cons_succ, List.getElem_cons_zero, List.setIfInBounds_toArray, List.set_cons_zero, List.set_cons_succ]
  refine wpU_take (i := 13) (v := ?_) rfl (by kernel_rfl) (by kernel_rfl) (fun _ _ _ h => h) _ _ _ _ (by kernel_rfl) (by kernel_rfl) (by kernel_rfl) (Or.inl ⟨by kernel_rfl, ?_⟩) hS5 ?_
  rotate_left
  · (intro w9 hS9; obtain ⟨s0, s1⟩ := hS9; go_simp); (try with_reducible rfl)
  try simp only [Act.put, List.getElem_toArray, List.getElem_cons_succ, List.getElem_cons_zero, List.setIfInBounds_toArray, List.set_cons_zero, List.set_cons_succ]
  refine wpU_take (i := 14) (v := ?_) rfl (by kernel_rfl) (by kernel_rfl) (fun _ _ _ h => h) _ _ _ _ (by kernel_rfl) (by kernel_rfl) (by kernel_rfl) (Or.inl ⟨by kernel_rfl, ?_⟩) hS5 ?_
  rotate_left
  · (intro w9 hS9; obtain ⟨s0, s1⟩ := hS9; go_simp); (try with_reducible rfl)
  try simp only [Act.put, List.getElem_toArray, List.getElem_cons_succ, List.getElem_cons_zero, List.setIfInBounds_toArray, List.set_cons_zero, List.set_cons_succ]
  refine wpU_take (i := 15) (v := ?_) rfl (by kernel_rfl) (by kernel_rfl) (fun _ _ _ h => h) _ _ _ _ (by kernel_rfl) (by kernel_rfl) (by kernel_rfl) (Or.inl ⟨by kernel_rfl, ?_⟩) hS5 ?_
  rotate_left
  · (intro w9 hS9; obtain ⟨s0, s1⟩ := hS9; go_simp); (try with_reducible rfl)
  try simp only [Act.put, List.getElem_toArray, List.getElem_cons_succ, List.getElem_cons_zero, List.setIfInBounds_toArray, List.set_cons_zero, List.set_cons_succ]
  refine wpU_take (i := 16) (v := ?_) rfl (by kernel_rfl) (by kernel_rfl) (fun _ _ _ h => h) _ _ _ _ (by kernel_rfl) (by kernel_rfl) (by kernel_rfl) (Or.inl ⟨by kernel_rfl, ?_⟩) hS5 ?_
  rotate_left
  · (intro w9 hS9; obtain ⟨s0, s1⟩ := hS9; go_simp); (try with_reducible rfl)
  try simp only [Act.put, List.getElem_toArray, List.getElem_cons_succ, List.getElem_cons_zero, List.setIfInBounds_toArray, List.set_cons_zero, List.set_cons_succ]
  have kc : W7.drew.cell? ⟨g, j * 4 + 2, none⟩ = some (.int .i64 (xk : Nat)) := hS5.2
  refine wpU_next (i := 17) rfl (by kernel_rfl) (fun K hK => ?_)
  go_simp
  refine hK.out _ _ (fun h => absurd rfl h.1) ?_
  refine wpU_done (by kernel_rfl) ?_ _
  clear hK K
  obtain ⟨W8, hW8⟩ : ∃ W8, W8 = (W7.setCell ⟨g, j * 4 + 2, none⟩ (.int .i64 (k' : Nat))).drew := ⟨_, rfl⟩
  have f8 : Fr (fun k => k = g) W7 W8 := by rw [hW8]; exact ((Fr.refl (fun k => k = g) W7).setCell (a := ⟨g, j * 4 + 2, none⟩) (.inl rfl) _).drew
  have hb8 := hid (HB7.out.fr f8 (fun e => Hgs.out e.symm))
  have hr8 : Row W8 (New w) 72 4 (.slice (some ⟨g, 0, none⟩) M c6) M ((quad N).set (j * 4 + 2) (.int .i64 (k' : Nat))) := by rw [hW8]; exact (HR7.out.store (j * 4 + 2) _).drew
  rw [← hW8]
  have HR8 := hid hr8
  have F8 := hid f8
  have y2 : ((quad N).set (j * 4 + 2) (.int .i64 (k' : Nat)))[j * 4 + 2]? = some (.int .i64 (k' : Nat)) := by
    rw [List.getElem?_set_self (by rw [quad_length]; have := HjN.out; omega)]
  have y3 : ((quad N).set (j * 4 + 2) (.int .i64 (k' : Nat)))[j * 4 + 3]? = some (.bool (decide (xk = 0))) := by
    rw [List.getElem?_set_ne (by omega)]; exact Y3.out
  have k2 : W8.cell? ⟨g, j * 4 + 2, none⟩ = some (.int .i64 (k' : Nat)) := hr8.cell y2
  have k3 : W8.drew.cell? ⟨g, j * 4 + 3, none⟩ = some (.bool (decide (xk = 0))) := hr8.cell y3
  have hz8 : W8.drew.frozen? ⟨g, j * 4 + 3, none⟩ = false := hr8.drew.frozen _
  have hl8 : g < W8.drew.heap.size := hr8.drew.lt g rfl
  clear hW8 f8 hr8 y2 y3 kc hz7 hl7 hzz hwk hS5
  go_upto_region 6 with (fail)
  have hS6 : (fun w' : World => w'.cell? ⟨sb, 1, none⟩ = some (.slice (some ⟨g, 0, none⟩) M c6) ∧ w'.cell? ⟨g, j * 4 + 2, none⟩ = some (.int .i64 (k' : Nat))) W8.drew := ⟨hb8.out.drew.cell 1, k2⟩
  clear k2
  refine wpU_region (k := 16) (S := (fun w' : World => w'.cell? ⟨sb, 1, none⟩ = some (.slice (some ⟨g, 0, none⟩) M c6) ∧ w'.cell? ⟨g, j * 4 + 2, none⟩ = some (.int .i64 (k' : Nat)))) (by kernel_rfl) ?_
  refine wpU_take (i := 0) (v := ?_) rfl (by kernel_rfl) (by kernel_rfl) (fun _ _ _ h => h) _ _ _ _ (by kernel_rfl) (by kernel_rfl) (by kernel_rfl) (Or.inl ⟨by kernel_rfl, ?_⟩) hS6 ?_
  rotate_left
  · (intro w9 hS9; obtain ⟨s0, s1⟩ := hS9; go_simp); (try with_reducible rfl)
  try simp only [Act.put, List.getElem_toArray, List.getElem_cons_succ, List.getElem_cons_zero, List.setIfInBounds_toArray, List.set_cons_zero, List.set_cons_succ]
  refine wpU_take (i := 1) (v := ?_) rfl (by kernel_rfl) (by kernel_rfl) (fun _ _ _ h => h) _ _ _ _ (by kernel_rfl) (by kernel_rfl) (by kernel_rfl) (Or.inl ⟨by kernel_rfl, ?_⟩) hS6 ?_
  rotate_left
  · (intro w9 hS9; obtain ⟨s0, s1⟩ := hS9; go_simp); (try with_reducible rfl)
  try simp only [Act.put, List.getElem_toArray, List.getElem_cons_succ, List.getElem_cons_zero, List.setIfInBounds_toArray, List.set_cons_zero, List.set_cons_succ]
  refine wpU_take (i := 2) (v := ?_) rfl (by kernel_rfl) (by kernel_rfl) (fun _ _ _ h => h) _ _ _ _ (by kernel_rfl) (by kernel_rfl) (by kernel_rfl) (Or.inl ⟨by kernel_rfl, ?_⟩) hS6 ?_
  rotate_left
  · (intro w9 hS9; obtain ⟨s0, s1⟩ := hS9; go_simp); (try with_reducible rfl)
  try simp only [Act.put, List.getElem_toArray, List.getElem_cons_succ, List.getElem_cons_zero, List.setIfInBounds_toArray, List.set_cons_zero, List.set_cons_succ]
  refine wpU_take (i := 3) (v := ?_) rfl (by kernel_rfl) (by kernel_rfl) (fun _ _ _ h => h) _ _ _ _ (by kernel_rfl) (by kernel_rfl) (by kernel_rfl) (Or.inl ⟨by kernel_rfl, ?_⟩) hS6 ?_
  rotate_left
  · (intro w9 hS9; obtain ⟨s0, s1⟩ := hS9; go_simp); (try with_reducible rfl)
  try simp only [Act.put, List.getElem_toArray, List.getElem_cons_succ, List.getElem_cons_zero, List.setIfInBounds_toArray, List.set_cons_zero, List.set_cons_succ]
  refine wpU_take (i := 4) (v := ?_) rfl (by kernel_rfl) (by kernel_rfl) (fun _ _ _ h => h) _ _ _ _ (by kernel_rfl) (by kernel_rfl) (by kernel_rfl) (Or.inl ⟨by kernel_rfl, ?_⟩) hS6 ?_
  rotate_left
  · (intro w9 hS9; obtain ⟨s0, s1⟩ := hS9; go_simp); (try with_reducible rfl)
  try simp only [Act.put, List.getElem_toArray, List.getElem_cons_succ, List.getElem_cons_zero, List.setIfInBounds_toArray, List.set_cons_zero, List.set_cons_succ]
  refine wpU_take (i := 5) (v := ?_) rfl (by kernel_rfl) (by kernel_rfl) (fun _ _ _ h => h) _ _ _ _ (by kernel_rfl) (by kernel_rfl) (by kernel_rfl) (Or.inl ⟨by kernel_rfl, ?_⟩) hS6 ?_
  rotate_left
  · (intro w9 hS9; obtain ⟨s0, s1⟩ := hS9; go_simp); (try with_reducible rfl)
  try simp only [Act.put, List.getElem_toArray, List.getElem_cons_succ, List.getElem_cons_zero, List.setIfInBounds_toArray, List.set_cons_zero, List.set_cons_succ]
  refine wpU_take (i := 6) (v := ?_) rfl (by kernel_rfl) (by kernel_rfl) (fun _ _ _ h => h) _ _ _ _ (by kernel_rfl) (by kernel_rfl) (by kernel_rfl) (Or.inl ⟨by kernel_rfl, ?_⟩) hS6 ?_
  rotate_left
  · (intro w9 hS9; obtain ⟨s0, s1⟩ := hS9; go_simp); (try with_reducible rfl)
  try simp only [Act.put, List.getElem_toArray, List.getElem_cons_succ, List.getElem_cons_zero, List.setIfInBounds_toArray, List.set_cons_zero, List.set_cons_succ]
  refine wpU_take (i := 7) (v := ?_) rfl (by kernel_rfl) (by kernel_rfl) (fun _ _ _ h => h) _ _ _ _ (by kernel_rfl) (by kernel_rfl) (by kernel_rfl) (Or.inl ⟨by kernel_rfl, ?_⟩) hS6 ?_
  rotate_left
  · (intro w9 hS9; obtain ⟨s0, s1⟩ := hS9; go_simp); (try with_reducible rfl)
  try simp only [Act.put, List.getElem_toArray, List.getElem_cons_succ, List.getElem_cons_zero, List.setIfInBounds_toArray, List.set_cons_zero, List.set_cons_succ]
  refine wpU_take (i := 8) (v := ?_) rfl (by kernel_rfl) (by kernel_rfl) (fun _ _ _ h => h) _ _ _ _ (by kernel_rfl) (by kernel_rfl) (by kernel_rfl) (Or.inl ⟨by kernel_rfl, ?_⟩) hS6 ?_
  rotate_left
  · (intro w9 hS9; obtain ⟨s0, s1⟩ := hS9; go_simp); (try with_reducible rfl)
  try simp only [Act.put, List.getElem_toArray, List.getElem_cons_succ, List.getElem_cons_zero, List.setIfInBounds_toArray, List.set_cons_zero, List.set_cons_succ]
  refine wpU_take (i := 9) (v := ?_) rfl (by kernel_rfl) (by kernel_rfl) (fun _ _ _ h => h) _ _ _ _ (by kernel_rfl) (by kernel_rfl) (by kernel_rfl) (Or.inl ⟨by kernel_rfl, ?_⟩) hS6 ?_
  rotate_left
  · (intro w9 hS9; obtain ⟨s0, s1⟩ := hS9; go_simp); (try with_reducible rfl)
  try simp only [Act.put, List.getElem_toArray, List.getElem_cons_succ, List.getElem_cons_zero, List.setIfInBounds_toArray, List.set_cons_zero, List.set_cons_succ]
  refine wpU_take (i := 10) (v := ?_) rfl (by kernel_rfl) (by kernel_rfl) (fun _ _ _ h => h) _ _ _ _ (by kernel_rfl) (by kernel_rfl) (by kernel_rfl) (Or.inl ⟨by kernel_rfl, ?_⟩) hS6 ?_
  rotate_left
  · (intro w9 hS9; obtain ⟨s0, s1⟩ := hS9; go_simp); (try with_reducible rfl)
  try simp only [Act.put, List.getElem_toArray, List.getElem_cons_succ, List.getElem_cons_zero, List.setIfInBounds_toArray, List.set_cons_zero, List.set_cons_succ]
  refine wpU_take (i := 11) (v := ?_) rfl (by kernel_rfl) (by kernel_rfl) (fun _ _ _ h => h) _ _ _ _ (by kernel_rfl) (by kernel_rfl) (by kernel_rfl) (Or.inl ⟨by kernel_rfl, ?_⟩) hS6 ?_
  rotate_left
  · (intro w9 hS9; obtain ⟨s0, s1⟩ := hS9; go_simp); (try with_reducible rfl)
  try simp only [Act.put, List.getElem_toArray, List.getElem_cons_succ, List.getElem_cons_zero, List.setIfInBounds_toArray, List.set_cons_zero, List.set_cons_succ]
  refine wpU_take (i := 12) (v := ?_) rfl (by kernel_rfl) (by kernel_rfl) (fun _ _ _ h => h) _ _ _ _ (by kernel_rfl) (by kernel_rfl) (by kernel_rfl) (Or.inl ⟨by kernel_rfl, ?_⟩) hS6 ?_
  rotate_left
  · (intro w9 hS9; obtain ⟨s0, s1⟩ := hS9; go_simp); (try with_reducible rfl)
  try simp only [Act.put, List.getElem_toArray, List.getElem_cons_succ, List.getElem_cons_zero, List.setIfInBounds_toArray, List.set_cons_zero, List.set_cons_succ]
  refine wpU_take (i := 13) (v := ?_) rfl (by kernel_rfl) (by kernel_rfl) (fun _ _ _ h => h) _ _ _ _ (by kernel_rfl) (by kernel_rfl) (by kernel_rfl) (Or.inl ⟨by kernel_rfl, ?_⟩) hS6 ?_
  rotate_left
  · (intro w9 hS9; obtain ⟨s0, s1⟩ := hS9; go_simp); (try with_reducible rfl)
  try simp only [Act.put, List.getElem_toArray, List.getElem_cons_succ, List.getElem_cons_zero, List.setIfInBounds_toArray, List.set_cons_zero, List.set_cons_succ]
  refine wpU_take (i := 14) (v := ?_) rfl (by kernel_rfl) (by kernel_rfl) (fun _ _ _ h => h) _ _ _ _ (by kernel_rfl) (by kernel_rfl) (by kernel_rfl) (Or.inl ⟨by kernel_rfl, ?_⟩) hS6 ?_
  rotate_left
  · (intro w9 hS9; obtain ⟨s0, s1⟩ := hS9; go_simp); (try with_reducible rfl)
  try simp only [Act.put, List.getElem_toArray, List.getElem_cons_succ, List.getElem_cons_zero, List.setIfInBounds_toArray, List.set_cons_zero, List.set_cons_succ]
  refine wpU_take (i := 15) (v := ?_) rfl (by kernel_rfl) (by kernel_rfl) (fun _ _ _ h => h) _ _ _ _ (by kernel_rfl) (by kernel_rfl) (by kernel_rfl) (Or.inl ⟨by kernel_rfl, ?_⟩) hS6 ?_
  rotate_left
  · (intro w9 hS9; obtain ⟨s0, s1⟩ := hS9; go_simp); (try with_reducible rfl)
  try simp only [Act.put, List.getElem_toArray, List.getElem_cons_succ, List.getElem_cons_zero, List.setIfInBounds_toArray, List.set_cons_zero, List.set_cons_succ]
  refine wpU_next (i := 16) rfl (by kernel_rfl) (fun K hK => ?_)
  go_simp
  refine hK.out _ _ (fun h => absurd rfl h.1) ?_
  refine wpU_done (by kernel_rfl) ?_ _
  clear hK K
  rw [show (((k' : Nat) : Int) == 0) = decide (k' = 0) from by by_cases h : k' = 0 <;> simp [h]]
  obtain ⟨W9, hW9⟩ : ∃ W9, W9 = (W8.setCell ⟨g, j * 4 + 3, none⟩ (.bool (decide (k' = 0)))).drew := ⟨_, rfl⟩
  have f9 : Fr (fun k => k = g) W8 W9 := by rw [hW9]; exact ((Fr.refl (fun k => k = g) W8).setCell (a := ⟨g, j * 4 + 3, none⟩) (.inl rfl) _).drew
  have hb9 := hid (hb8.out.fr f9 (fun e => Hgs.out e.symm))
  have hr9 : Row W9 (New w) 72 4 (.slice (some ⟨g, 0, none⟩) M c6) M (quad (N.set j ⟨xa, xn, k'⟩)) := by rw [hqs.out ⟨xa, xn, k'⟩ rfl rfl, hW9]; exact (HR8.out.store (j * 4 + 3) _).drew
  rw [← hW9]
  have HR9 := hid hr9
  have F9 := hid f9
  clear hW9 f9 hr9 k3 hz8 hl8 hS6
  go_wp2
  go_ret
  have f89 : Fr (fun k => k = sb) w W9 := (F7.out.trans F8.out fun k hk => .inr (by rw [hk]; exact Hg.out)).trans F9.out fun k hk => .inr (by rw [hk]; exact Hg.out)
  refine ⟨rfl, Rz.of f89.size HT.out (Hlt.out sb HT.out) hb9.out ?_ ?_, f89⟩
  · rw [List.length_set, ← HM.out]
    exact HR9.out.mono fun k hk => .inr hk
  · have hx : ∀ k, v2.ownBlock = some k → ¬ k = sb := fun k hk e => (H3.out.apart_blk HB.out (by decide)) (by rw [hk, e])
    exact (H3.out.fr f89 hx).mono fun k hk => .inl hk
set_option maxRecDepth 20000 in
theorem rz_change_no (T : Nat → Prop) (sb mb : Nat) (N W : List Us) (w : World) (h : Rz w T sb mb N W) (hN : N.length ≤ 100000) (i z : Int) (hl : ¬ (atN N i < N.length ∧ 1 ≤ (us N (atN N i)).k)) :
    Calls Try.prog 41 #[.pointer (some ⟨sb, 0, none⟩), .int .i64 i, .int .i64 z] w fun e w' => e = .returned (.bool false) ∧ w = w' := by
  have Hat := hid (rz_at T sb mb N W w h hN i)
  by_cases hl0 : atN N i < N.length
  · obtain ⟨⟨v1, v2, h1, h2, h3⟩, h4, h5⟩ := h
    obtain ⟨A, c, rfl⟩ := h2.slice
    have c1 : w.cell? ⟨sb, 1, none⟩ = some (.slice A N.length c) := h1.cell 1
    obtain ⟨b, o, rfl, -, hbl, -, -, -, q3⟩ := uz_at h2.view hl0
    have hat : atI N i = (atN N i : Int) := if_pos hl0
    rw [hat] at Hat
    have hk0 : (us N (atN N i)).k = 0 := by
      refine Classical.byContradiction fun h => hl ⟨hl0, by omega⟩
    rw [hk0] at q3
    generalize atN N i = j at *
    generalize N.length = M at *
    clear h1 h2 h3 h4 h5 hat hk0 hl
    go_enter Try.func41, Try.ntmps41
    go_wp2_with fail
    refine Hat.out.mono ?_
    rintro e w1 ⟨rfl, rfl⟩
    go_wp2
    go_ret
    exact ⟨rfl, rfl⟩
  · have hat : atI N i = -1 := if_neg hl0
    rw [hat] at Hat
    clear h hat hl0 hl
    go_enter Try.func41, Try.ntmps41
    go_wp2_with fail
    refine Hat.out.mono ?_
    rintro e w1 ⟨rfl, rfl⟩
    go_wp2
    go_ret
    exact ⟨rfl, rfl⟩
def chgB (N : List Us) (i : Int) : Bool := decide (atN N i < N.length ∧ 1 ≤ (us N (atN N i)).k)
def chgN (N : List Us) (i z : Int) : List Us := if chgB N i = true then N.set (atN N i) ⟨(us N (atN N i)).a, (us N (atN N i)).n, ((us N (atN N i)).k + z).toNat⟩ else N
theorem rz_chg (T : Nat → Prop) (sb mb : Nat) (N W : List Us) (w : World) (h : Rz w T sb mb N W) (hN : N.length ≤ 100000) (hk : ∀ u ∈ N, u.k ≤ 100000) (i z : Int) (hz : z = 1 ∨ z = -1) :
    Calls Try.prog 41 #[.pointer (some ⟨sb, 0, none⟩), .int .i64 i, .int .i64 z] w fun e w' => e = .returned (.bool (chgB N i)) ∧
      (∃ T', Rz w' T' sb mb (chgN N i z) W ∧ ∀ k, T' k → T k ∨ w.heap.size ≤ k) ∧ Fr (fun k => k = sb) w w' := by
  by_cases hc : atN N i < N.length ∧ 1 ≤ (us N (atN N i)).k
  · have hb : chgB N i = true := decide_eq_true hc
    have h1 := hk (us N (atN N i)) (by rw [us_eq hc.1]; exact List.getElem_mem hc.1)
    unfold chgN
    rw [hb, if_pos rfl]
    exact rz_change T sb mb N W w h hN i z hc.1 _ hc.2 (by rcases hz with rfl | rfl <;> omega) (by rcases hz with rfl | rfl <;> omega)
  · have hb : chgB N i = false := decide_eq_false hc
    unfold chgN
    rw [hb, if_neg (by decide)]
    refine (rz_change_no T sb mb N W w h hN i z hc).mono ?_
    rintro e w' ⟨rfl, rfl⟩
    exact ⟨rfl, ⟨T, h, fun k hk => .inl hk⟩, Fr.refl _ _⟩
theorem rz_more (T : Nat → Prop) (sb mb : Nat) (N W : List Us) (w : World) (h : Rz w T sb mb N W) (hN : N.length ≤ 100000) (hk : ∀ u ∈ N, u.k ≤ 100000) (i : Int) :
    Calls Try.prog 26 #[.pointer (some ⟨sb, 0, none⟩), .int .i64 i] w fun e w' => e = .returned (.bool (chgB N i)) ∧
      (∃ T', Rz w' T' sb mb (chgN N i 1) W ∧ ∀ k, T' k → T k ∨ w.heap.size ≤ k) ∧ Fr (fun k => k = sb) w w' := by
  have H := hid (rz_chg T sb mb N W w h hN hk i 1 (.inl rfl))
  clear h hN hk
  go_enter Try.func26, Try.ntmps26
  go_wp2_with fail
  refine H.out.mono ?_
  rintro e w1 ⟨rfl, h1, h2⟩
  go_wp2
  go_ret
  exact ⟨rfl, h1, h2⟩
theorem rz_less (T : Nat → Prop) (sb mb : Nat) (N W : List Us) (w : World) (h : Rz w T sb mb N W) (hN : N.length ≤ 100000) (hk : ∀ u ∈ N, u.k ≤ 100000) (i : Int) :
    Calls Try.prog 27 #[.pointer (some ⟨sb, 0, none⟩), .int .i64 i] w fun e w' => e = .returned (.bool (chgB N i)) ∧
      (∃ T', Rz w' T' sb mb (chgN N i (-1)) W ∧ ∀ k, T' k → T k ∨ w.heap.size ≤ k) ∧ Fr (fun k => k = sb) w w' := by
  have H := hid (rz_chg T sb mb N W w h hN hk i (-1) (.inr rfl))
  clear h hN hk
  go_enter Try.func27, Try.ntmps27
  go_wp2_with fail
  refine H.out.mono ?_
  rintro e w1 ⟨rfl, h1, h2⟩
  go_wp2
  go_ret
  exact ⟨rfl, h1, h2⟩
end Go.Proofs.Ytjieckaeplkafaa

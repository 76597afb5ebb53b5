/- The texts VShB, VShL, VShC of this proof, one behind the other. Conditions: those of each. -/
import Derived.Test.YtgoghmblfdlnbaaGW13
section
/- Shares: Add. Conditions: the bounds of its lists. -/
set_option linter.unusedSimpArgs false
set_option linter.unusedVariables false
namespace Go.Proofs.Ytgoghmblfdlnbaa
open Go.RowKit
def fineI (U L : List Us) (a n : Int) : Bool := decide (1 ≤ n) && decide (0 ≤ a) && (usesI L a == 0) && (usesI U a == 0)
theorem Shp.drewN {w : World} {T : Nat → Prop} {sb pb ub lb hb : Nat} {v : Value} {U L H : List Us} {A : List Rn} (h : Shp w T sb pb ub lb hb v U L H A) (n : Nat) : Shp (w.drewN n) T sb pb ub lb hb v U L H A := h.fr ((Fr.refl Nil w).drewN n) (fun _ _ h => h)
theorem info_run2 : (Try.prog.info? 33).map (fun i => (i.zero, i.size, i.bytes)) = some (some (.agg #[.int .i64 0, .int .i64 0]), 2, 16) := by kernel_rfl
set_option maxRecDepth 20000 in
theorem add_no (T : Nat → Prop) (sb pb : Nat) (U L H : List Us) (A : List Rn) (w : World) (h : IsS w T sb pb U L H A) (a n : Int) (ha : (Lit.int .i64 a).wf = true) (hf : fineI U L a n = false) :
    Calls Try.prog 27 #[.pointer (some ⟨sb, 0, none⟩), .agg #[.int .i64 a, .int .i64 n]] w fun e w' =>
      e = .returned (.bool false) ∧ (∃ T', IsS w' T' sb pb U L H A ∧ ∀ k, T' k → T k ∨ w.heap.size ≤ k) ∧ Fr Nil w w' := by
  unfold fineI at hf
  rw [usesI_ux, usesI_ux] at hf
  obtain ⟨⟨ub, lb, hb, v, hs⟩, hlt⟩ := id h
  have Hs := hid hs
  have Hwa := hid ha
  have Hlt := hid hlt
  go_enter Try.func27, Try.ntmps27
  go_upto_region 1 with (fail)
  obtain ⟨W1, hW1⟩ : ∃ W1, W1 = w.alloc (.cells #[.int .i64 a, .int .i64 n] 33) := ⟨_, rfl⟩
  have f1 : Fr Nil w W1 := by rw [hW1]; exact (Fr.refl _ _).alloc _
  have hX0 : Blk W1 w.heap.size #[.int .i64 a, .int .i64 n] 33 := by rw [hW1]; exact Blk.new _ _ _
  rw [← hW1]
  clear hW1
  have Hs1 := hid (hs.fr f1 fun _ _ h => h)
  obtain ⟨xb, hxb⟩ : ∃ xb, xb = w.heap.size := ⟨_, rfl⟩
  rw [← hxb] at hX0 ⊢
  have hc0 : W1.cell? ⟨sb, 0, none⟩ = some (.pointer (some ⟨pb, 0, none⟩)) := Hs1.out.blk.cell 0
  have hc1 : W1.cell? ⟨sb, 1, none⟩ = some (.map (some ub)) := Hs1.out.blk.cell 1
  have hc2 : W1.cell? ⟨sb, 2, none⟩ = some (.map (some lb)) := Hs1.out.blk.cell 2
  have hx0 : W1.cell? ⟨xb, 0, none⟩ = some (.int .i64 a) := hX0.cell 0
  have hx1 : W1.cell? ⟨xb, 1, none⟩ = some (.int .i64 n) := hX0.cell 1
  have HX := hid hX0
  have Hxb := hid hxb
  have F1 := hid f1
  have hlkL : ∀ nq, (Instr.lookup 81 (.map (some lb)) (.int .i64 a) false).run Try.prog (W1.drewN nq) = .ok (.agg #[.int .i64 ((ux L a).a : Nat), .int .i64 ((ux L a).n : Nat), .int .i64 ((ux L a).k : Nat)]) (W1.drewN nq) := fun nq => look_use (Hs1.out.l.drewN nq) Hwa.out
  have hlkU : ∀ nq, (Instr.lookup 81 (.map (some ub)) (.int .i64 a) false).run Try.prog (W1.drewN nq) = .ok (.agg #[.int .i64 ((ux U a).a : Nat), .int .i64 ((ux U a).n : Nat), .int .i64 ((ux U a).k : Nat)]) (W1.drewN nq) := fun nq => look_use (Hs1.out.u.drewN nq) Hwa.out
  clear hs ha hlt h hX0 hxb f1
  by_cases q1 : n < 1
  · have q1b : decide (n < 1) = true := by simpa using q1
    clear q1 hf
    go_quiet ((refine (made_ok T sb pb ub lb hb v U L H A _ (Hs1.out.drewN _)).mono ?_; rintro e w1 ⟨rfl, rfl⟩; exact ⟨rfl, _, rfl⟩))
    go_wp2
    go_ret
    have h1 := Hs1.out
    exact ⟨rfl, ⟨T, ⟨⟨ub, lb, hb, v, h1.drewN _⟩, fun k hk => Nat.lt_of_lt_of_le (Hlt.out k hk) F1.out.size⟩, fun k hk => .inl hk⟩, F1.out.drewN _⟩
  have q1b : decide (n < 1) = false := by simpa using q1
  have h1 : decide (1 ≤ n) = true := by simp; omega
  rw [h1] at hf
  clear q1 h1
  by_cases q2 : a < 0
  · have q2b : decide (a < 0) = true := by simpa using q2
    clear q2 hf
    go_quiet ((refine (made_ok T sb pb ub lb hb v U L H A _ (Hs1.out.drewN _)).mono ?_; rintro e w1 ⟨rfl, rfl⟩; exact ⟨rfl, _, rfl⟩))
    go_wp2
    go_ret
    have h1 := Hs1.out
    exact ⟨rfl, ⟨T, ⟨⟨ub, lb, hb, v, h1.drewN _⟩, fun k hk => Nat.lt_of_lt_of_le (Hlt.out k hk) F1.out.size⟩, fun k hk => .inl hk⟩, F1.out.drewN _⟩
  have q2b : decide (a < 0) = false := by simpa using q2
  have h2 : decide (0 ≤ a) = true := by simp; omega
  rw [h2] at hf
  clear q2 h2
  by_cases q3 : 0 < (ux L a).k
  · have q3b : decide (0 < (ux L a).k) = true := by simp; omega
    clear q3 hf
    generalize ux L a = u at *
    go_quiet ((refine (made_ok T sb pb ub lb hb v U L H A _ (Hs1.out.drewN _)).mono ?_; rintro e w1 ⟨rfl, rfl⟩; exact ⟨rfl, _, rfl⟩))
    go_wp2
    go_ret
    have h1 := Hs1.out
    exact ⟨rfl, ⟨T, ⟨⟨ub, lb, hb, v, h1.drewN _⟩, fun k hk => Nat.lt_of_lt_of_le (Hlt.out k hk) F1.out.size⟩, fun k hk => .inl hk⟩, F1.out.drewN _⟩
  have q3b : decide (0 < (ux L a).k) = false := by simp; omega
  have h3 : ((ux L a).k == 0) = true := by simp; omega
  rw [h3] at hf
  clear q3 h3
  have q4b : decide (0 < (ux U a).k) = true := by
    simp at hf; simp; omega
  clear hf
  generalize ux L a = u at *
  generalize ux U a = u2 at *
  go_quiet ((refine (made_ok T sb pb ub lb hb v U L H A _ (Hs1.out.drewN _)).mono ?_; rintro e w1 ⟨rfl, rfl⟩; exact ⟨rfl, _, rfl⟩))
  go_wp2
  go_ret
  have h1 := Hs1.out
  exact ⟨rfl, ⟨T, ⟨⟨ub, lb, hb, v, h1.drewN _⟩, fun k hk => Nat.lt_of_lt_of_le (Hlt.out k hk) F1.out.size⟩, fun k hk => .inl hk⟩, F1.out.drewN _⟩
set_option maxRecDepth 20000 in
theorem add_ok (T : Nat → Prop) (sb pb : Nat) (U L H : List Us) (A : List Rn) (w : World) (h : IsS w T sb pb U L H A) (a n : Nat) (ha : (Lit.int .i64 (a : Nat)).wf = true) (hn : 1 ≤ n) (hL0 : usesI L (a : Nat) = 0) (hU0 : usesI U (a : Nat) = 0) (hUl : U.length ≤ 100000) (hAl : A.length ≤ 100000) :
    Calls Try.prog 27 #[.pointer (some ⟨sb, 0, none⟩), .agg #[.int .i64 (a : Nat), .int .i64 (n : Nat)]] w fun e w' =>
      e = .returned (.bool true) ∧ (∃ T', IsS w' T' sb pb (uput U ⟨a, n, 1⟩) L H (A ++ [⟨a, n⟩]) ∧ ∀ k, T' k → T k ∨ w.heap.size ≤ k) ∧ Fr T w w' := by
  rw [usesI_ux] at hL0 hU0
  obtain ⟨a', ha'⟩ : ∃ a' : Int, a' = (a : Nat) := ⟨_, rfl⟩
  obtain ⟨n', hn'⟩ : ∃ n' : Int, n' = (n : Nat) := ⟨_, rfl⟩
  rw [← ha'] at ha hL0 hU0
  rw [← ha', ← hn']
  have Ha := hid ha'
  have HN := hid hn'
  clear ha' hn'
  obtain ⟨⟨ub, lb, hb, v, hs⟩, hlt⟩ := id h
  have Hs := hid hs
  have Hwa := hid ha
  have Hlt := hid hlt
  go_enter Try.func27, Try.ntmps27
  go_upto_region 1 with (fail)
  obtain ⟨W1, hW1⟩ : ∃ W1, W1 = w.alloc (.cells #[.int .i64 a', .int .i64 n'] 33) := ⟨_, rfl⟩
  have f1 : Fr Nil w W1 := by rw [hW1]; exact (Fr.refl _ _).alloc _
  have hX0 : Blk W1 w.heap.size #[.int .i64 a', .int .i64 n'] 33 := by rw [hW1]; exact Blk.new _ _ _
  rw [← hW1]
  clear hW1
  have Hs1 := hid (hs.fr f1 fun _ _ h => h)
  obtain ⟨xb, hxb⟩ : ∃ xb, xb = w.heap.size := ⟨_, rfl⟩
  rw [← hxb] at hX0 ⊢
  have hc0 : W1.cell? ⟨sb, 0, none⟩ = some (.pointer (some ⟨pb, 0, none⟩)) := Hs1.out.blk.cell 0
  have hc1 : W1.cell? ⟨sb, 1, none⟩ = some (.map (some ub)) := Hs1.out.blk.cell 1
  have hc2 : W1.cell? ⟨sb, 2, none⟩ = some (.map (some lb)) := Hs1.out.blk.cell 2
  have hx0 : W1.cell? ⟨xb, 0, none⟩ = some (.int .i64 a') := hX0.cell 0
  have hx1 : W1.cell? ⟨xb, 1, none⟩ = some (.int .i64 n') := hX0.cell 1
  have HX := hid hX0
  have Hxb := hid hxb
  have F1 := hid f1
  have hlkL : ∀ nq, (Instr.lookup 81 (.map (some lb)) (.int .i64 a') false).run Try.prog (W1.drewN nq) = .ok (.agg #[.int .i64 ((ux L a').a : Nat), .int .i64 ((ux L a').n : Nat), .int .i64 ((ux L a').k : Nat)]) (W1.drewN nq) := fun nq => look_use (Hs1.out.l.drewN nq) Hwa.out
  have hlkU : ∀ nq, (Instr.lookup 81 (.map (some ub)) (.int .i64 a') false).run Try.prog (W1.drewN nq) = .ok (.agg #[.int .i64 ((ux U a').a : Nat), .int .i64 ((ux U a').n : Nat), .int .i64 ((ux U a').k : Nat)]) (W1.drewN nq) := fun nq => look_use (Hs1.out.u.drewN nq) Hwa.out
  clear hs ha hlt h hX0 hxb f1
  have q1b : decide (n' < 1) = false := by simp; have := HN.out; omega
  have q2b : decide (a' < 0) = false := by simp; have := Ha.out; omega
  have q3b : decide (0 < (ux L a').k) = false := by simp; omega
  have q4b : decide (0 < (ux U a').k) = false := by simp; omega
  have Hn := hid hn
  have HUl := hid hUl
  have HAl := hid hAl
  clear hL0 hU0 hn hUl hAl
  generalize ux L a' = u at *
  generalize ux U a' = u2 at *
  go_quiet ((refine (made_ok T sb pb ub lb hb v U L H A _ (Hs1.out.drewN _)).mono ?_; rintro e w1 ⟨rfl, rfl⟩; exact ⟨rfl, _, rfl⟩))
  obtain ⟨W2, hW2⟩ : ∃ W2, W2 = W1.drewN nq := ⟨_, rfl⟩
  rw [← hW2]
  have F2 := hid (show Fr Nil W1 W2 from by rw [hW2]; exact (Fr.refl _ _).drewN _)
  clear hlkL hlkU hc0 hc1 hc2 hx0 hx1 hW2 q1b q2b q3b q4b
  obtain rfl := Ha.out
  obtain rfl := HN.out
  clear Ha HN
  have Hs2 := hid (Hs1.out.fr F2.out fun _ _ h => h)
  have hX := hid (HX.out.fr F2.out fun h => h)
  have hB := hid Hs2.out.blk
  have hT0 : T sb := Hs2.out.ts
  have hxT : ∀ k, T k → k ≠ xb := fun k hk => by have := Hlt.out k hk; have := Hxb.out; omega
  have HxT := hid hxT
  clear hxT hT0
  go_wp2_with fail
  have hS : (fun w' : World => w'.cell? ⟨sb, 1, none⟩ = some (.map (some ub)) ∧ w'.cell? ⟨xb, 0, none⟩ = some (.int .i64 (a : Nat)) ∧ w'.cell? ⟨xb, 1, none⟩ = some (.int .i64 (n : Nat))) W2.drew := ⟨hB.out.drew.cell 1, hX.out.drew.cell 0, hX.out.drew.cell 1⟩
  obtain ⟨w9, hrun9, k9, f9⟩ := KV.store (P := Try.prog) (v := .agg #[.int .i64 (a : Nat), .int .i64 (n : Nat), .int .i64 1]) Hs2.out.u.drew Try.underlying3 Try.underlying81 Hwa.out (by rw [show (Value.agg #[.int .i64 (a : Nat), .int .i64 (n : Nat), .int .i64 1]) = uv ⟨a, n, 1⟩ from rfl, mput_ent U ⟨a, n, 1⟩, List.length_map]; have := uput_length U ⟨a, n, 1⟩; have := HUl.out; omega)
  rw [show (Value.agg #[.int .i64 (a : Nat), .int .i64 (n : Nat), .int .i64 1]) = uv ⟨a, n, 1⟩ from rfl, mput_ent U ⟨a, n, 1⟩] at k9
  have K9 := hid k9
  have f9' : Fr (fun k => k = ub) W2 w9 := ((Fr.refl _ _).drew).then f9
  have F9 := hid f9'
  have hxu : xb ≠ ub := fun e => HxT.out ub Hs2.out.tu e.symm
  have hX9 := hid (hX.out.fr f9' hxu)
  have hB9 := hid (hB.out.fr f9' (blk_kv hB.out Hs2.out.u))
  have L9 := hid (Hs2.out.l.fr f9' fun h => Hs2.out.ul h.symm)
  have H9 := hid (Hs2.out.h.fr f9' fun h => Hs2.out.uh h.symm)
  have R9 := hid (Hs2.out.r.fr f9' fun k hk h => row_kv Hs2.out.r Hs2.out.u (by rw [hk, h]))
  clear k9 f9 f9' hxu
  refine wpU_region (k := 8) (S := (fun w' : World => w'.cell? ⟨sb, 1, none⟩ = some (.map (some ub)) ∧ w'.cell? ⟨xb, 0, none⟩ = some (.int .i64 (a : Nat)) ∧ w'.cell? ⟨xb, 1, none⟩ = some (.int .i64 (n : Nat)))) (by kernel_rfl) ?_
  refine wpU_take (i := 0) (v := ?_) rfl (by kernel_rfl) (by kernel_rfl) (fun _ _ _ h => h) _ _ _ _ (by kernel_rfl) (by kernel_rfl) (by kernel_rfl) (Or.inl ⟨by kernel_rfl, ?_⟩) hS ?_
  rotate_left
  · (intro w9 hS9; obtain ⟨s0, s1, s2⟩ := hS9; go_simp); (try with_reducible rfl)
  try simp only [Act.put, List.getElem_toArray, List.getElem_cons_succ, List.getElem_cons_zero, List.setIfInBounds_toArray, List.set_cons_zero, List.set_cons_succ]
  refine wpU_take (i := 1) (v := ?_) rfl (by kernel_rfl) (by kernel_rfl) (fun _ _ _ h => h) _ _ _ _ (by kernel_rfl) (by kernel_rfl) (by kernel_rfl) (Or.inl ⟨by kernel_rfl, ?_⟩) hS ?_
  rotate_left
  · (intro w9 hS9; obtain ⟨s0, s1, s2⟩ := hS9; go_simp); (try with_reducible rfl)
  try simp only [Act.put, List.getElem_toArray, List.getElem_cons_succ, List.getElem_cons_zero, List.setIfInBounds_toArray, List.set_cons_zero, List.set_cons_succ]
  refine wpU_take (i := 2) (v := ?_) rfl (by kernel_rfl) (by kernel_rfl) (fun _ _ _ h => h) _ _ _ _ (by kernel_rfl) (by kernel_rfl) (by kernel_rfl) (Or.inl ⟨by kernel_rfl, ?_⟩) hS ?_
  rotate_left
  · (intro w9 hS9; obtain ⟨s0, s1, s2⟩ := hS9; go_simp); (try with_reducible rfl)
  try simp only [Act.put, List.getElem_toArray, List.getElem_cons_succ, List.getElem_cons_zero, List.setIfInBounds_toArray, List.set_cons_zero, List.set_cons_succ]
  refine wpU_take (i := 3) (v := ?_) rfl (by kernel_rfl) (by kernel_rfl) (fun _ _ _ h => h) _ _ _ _ (by kernel_rfl) (by kernel_rfl) (by kernel_rfl) (Or.inl ⟨by kernel_rfl, ?_⟩) hS ?_
  rotate_left
  · (intro w9 hS9; obtain ⟨s0, s1, s2⟩ := hS9; go_simp); (try with_reducible rfl)
  try simp only [Act.put, List.getElem_toArray, List.getElem_cons_succ, List.getElem_cons_zero, List.setIfInBounds_toArray, List.set_cons_zero, List.set_cons_succ]
  refine wpU_take (i := 4) (v := ?_) rfl (by kernel_rfl) (by kernel_rfl) (fun _ _ _ h => h) _ _ _ _ (by kernel_rfl) (by kernel_rfl) (by kernel_rfl) (Or.inl ⟨by kernel_rfl, ?_⟩) hS ?_
  rotate_left
  · (intro w9 hS9; obtain ⟨s0, s1, s2⟩ := hS9; go_simp); (try with_reducible rfl)
  try simp only [Act.put, List.getElem_toArray, List.getElem_cons_succ, List.getElem_cons_zero, List.setIfInBounds_toArray, List.set_cons_zero, List.set_cons_succ]
  refine wpU_take (i := 5) (v := ?_) rfl (by kernel_rfl) (by kernel_rfl) (fun _ _ _ h => h) _ _ _ _ (by kernel_rfl) (by kernel_rfl) (by kernel_rfl) (Or.inl ⟨by kernel_rfl, ?_⟩) hS ?_
  rotate_left
  · (intro w9 hS9; obtain ⟨s0, s1, s2⟩ := hS9; go_simp); (try with_reducible rfl)
  try simp only [Act.put, List.getElem_toArray, List.getElem_cons_succ, List.getElem_cons_zero, List.setIfInBounds_toArray, List.set_cons_zero, List.set_cons_succ]
  refine wpU_take (i := 6) (v := ?_) rfl (by kernel_rfl) (by kernel_rfl) (fun _ _ _ h => h) _ _ _ _ (by kernel_rfl) (by kernel_rfl) (by kernel_rfl) (Or.inl ⟨by kernel_rfl, ?_⟩) hS ?_
  rotate_left
  · (intro w9 hS9; obtain ⟨s0, s1, s2⟩ := hS9; go_simp); (try with_reducible rfl)
  try simp only [Act.put, List.getElem_toArray, List.getElem_cons_succ, List.getElem_cons_zero, List.setIfInBounds_toArray, List.set_cons_zero, List.set_cons_succ]
  refine wpU_take (i := 7) (v := ?_) rfl (by kernel_rfl) (by kernel_rfl) (fun _ _ _ h => h) _ _ _ _ (by kernel_rfl) (by kernel_rfl) (by kernel_rfl) (Or.inl ⟨by kernel_rfl, ?_⟩) hS ?_
  rotate_left
  · (intro w9 hS9; obtain ⟨s0, s1, s2⟩ := hS9; go_simp); (try with_reducible rfl)
  try simp only [Act.put, List.getElem_toArray, List.getElem_cons_succ, List.getElem_cons_zero, List.setIfInBounds_toArray, List.set_cons_zero, List.set_cons_succ]
  refine wpU_next (i := 8) rfl (by kernel_rfl) (fun K hK => ?_)
  go_simp
  refine hK.out _ _ (fun h => absurd rfl h.1) ?_
  refine wpU_done (by kernel_rfl) ?_ _
  clear hK K
  clear hS hrun9
  have hB4 : w9.cell? ⟨sb, 4, none⟩ = some v := hB9.out.cell 4
  go_wp2_with fail
  clear hB4
  have hSK : (fun w' : World => w'.cell? ⟨sb, 4, none⟩ = some v ∧ w'.cell? ⟨xb, 0, none⟩ = some (.int .i64 (a : Nat)) ∧ w'.cell? ⟨xb, 1, none⟩ = some (.int .i64 (n : Nat))) w9.drew := ⟨hB9.out.drew.cell 4, hX9.out.drew.cell 0, hX9.out.drew.cell 1⟩
  refine wpU_region (k := 10) (S := (fun w' : World => w'.cell? ⟨sb, 4, none⟩ = some v ∧ w'.cell? ⟨xb, 0, none⟩ = some (.int .i64 (a : Nat)) ∧ w'.cell? ⟨xb, 1, none⟩ = some (.int .i64 (n : Nat)))) (by kernel_rfl) ?_
  refine wpU_take (i := 0) (v := ?_) rfl (by kernel_rfl) (by kernel_rfl) (fun _ _ _ h => h) _ _ _ _ (by kernel_rfl) (by kernel_rfl) (by kernel_rfl) (Or.inl ⟨by kernel_rfl, ?_⟩) hSK ?_
  rotate_left
  · (intro w9 hS9; obtain ⟨s0, s1, s2⟩ := hS9; go_simp); (try with_reducible rfl)
  try simp only [Act.put, List.getElem_toArray, List.getElem_cons_succ, List.getElem_cons_zero, List.setIfInBounds_toArray, List.set_cons_zero, List.set_cons_succ]
  refine wpU_take (i := 1) (v := ?_) rfl (by kernel_rfl) (by kernel_rfl) (fun _ _ _ h => h) _ _ _ _ (by kernel_rfl) (by kernel_rfl) (by kernel_rfl) (Or.inl ⟨by kernel_rfl, ?_⟩) hSK ?_
  rotate_left
  · (intro w9 hS9; obtain ⟨s0, s1, s2⟩ := hS9; go_simp); (try with_reducible rfl)
  try simp only [Act.put, List.getElem_toArray, List.getElem_cons_succ, List.getElem_cons_zero, List.setIfInBounds_toArray, List.set_cons_zero, List.set_cons_succ]
  refine wpU_take (i := 2) (v := ?_) rfl (by kernel_rfl) (by kernel_rfl) (fun _ _ _ h => h) _ _ _ _ (by kernel_rfl) (by kernel_rfl) (by kernel_rfl) (Or.inl ⟨by kernel_rfl, ?_⟩) hSK ?_
  rotate_left
  · (intro w9 hS9; obtain ⟨s0, s1, s2⟩ := hS9; go_simp); (try with_reducible rfl)
  try simp only [Act.put, List.getElem_toArray, List.getElem_cons_succ, List.getElem_cons_zero, List.setIfInBounds_toArray, List.set_cons_zero, List.set_cons_succ]
  refine wpU_take (i := 3) (v := ?_) rfl (by kernel_rfl) (by kernel_rfl) (fun _ _ _ h => h) _ _ _ _ (by kernel_rfl) (by kernel_rfl) (by kernel_rfl) (Or.inl ⟨by kernel_rfl, ?_⟩) hSK ?_
  rotate_left
  · (intro w9 hS9; obtain ⟨s0, s1, s2⟩ := hS9; go_simp); (try with_reducible rfl)
  try simp only [Act.put, List.getElem_toArray, List.getElem_cons_succ, List.getElem_cons_zero, List.setIfInBounds_toArray, List.set_cons_zero, List.set_cons_succ]
  refine wpU_take (i := 4) (v := ?_) rfl (by kernel_rfl) (by kernel_rfl) (fun _ _ _ h => h) _ _ _ _ (by kernel_rfl) (by kernel_rfl) (by kernel_rfl) (Or.inl ⟨by kernel_rfl, ?_⟩) hSK ?_
  rotate_left
  · (intro w9 hS9; obtain ⟨s0, s1, s2⟩ := hS9; go_simp); (try with_reducible rfl)
  try simp only [Act.put, List.getElem_toArray, List.getElem_cons_succ, List.getElem_cons_zero, List.setIfInBounds_toArray, List.set_cons_zero, List.set_cons_succ]
  refine wpU_take (i := 5) (v := ?_) rfl (by kernel_rfl) (by kernel_rfl) (fun _ _ _ h => h) _ _ _ _ (by kernel_rfl) (by kernel_rfl) (by kernel_rfl) (Or.inl ⟨by kernel_rfl, ?_⟩) hSK ?_
  rotate_left
  · (intro w9 hS9; obtain ⟨s0, s1, s2⟩ := hS9; go_simp); (try with_reducible rfl)
  try simp only [Act.put, List.getElem_toArray, List.getElem_cons_succ, List.getElem_cons_zero, List.setIfInBounds_toArray, List.set_cons_zero, List.set_cons_succ]
  refine wpU_next (i := 6) rfl (by kernel_rfl) (fun K hK => ?_)
  go_simp
  obtain ⟨W7, hW7⟩ : ∃ W7, W7 = (w9.alloc (.cells #[.int .i64 (a : Nat), .int .i64 (n : Nat)] 33)).drew := ⟨_, rfl⟩
  have hf7 : Fr Nil w9.drew W7 := by rw [hW7]; exact (Fr.refl Nil w9.drew).alloc _
  have hv7 : View W7 (New w9) 2 (.slice (some ⟨w9.heap.size, 0, none⟩) 1 1) 1 (rcells ⟨a, n⟩) := by
    rw [hW7]; exact View.lit (s := 2) w9.drew #[.int .i64 (a : Nat), .int .i64 (n : Nat)] 33 (0, 0) 1 rfl (by decide)
  rw [← hW7]
  clear hW7
  have hX7 := hid (hX9.out.drew.fr hf7 fun h => h)
  have hB7 := hid (hB9.out.drew.fr hf7 fun h => h)
  have R7 := hid (R9.out.drew.fr hf7 fun _ _ h => h)
  have hSK7 : (fun w' : World => w'.cell? ⟨sb, 4, none⟩ = some v ∧ w'.cell? ⟨xb, 0, none⟩ = some (.int .i64 (a : Nat)) ∧ w'.cell? ⟨xb, 1, none⟩ = some (.int .i64 (n : Nat))) W7 := ⟨hB7.out.cell 4, hX7.out.cell 0, hX7.out.cell 1⟩
  have F7 := hid hf7
  clear hf7 hSK
  refine hK.out _ _ (fun _ => hSK7) ?_
  clear hK K
  try simp only [Act.put, List.getElem_toArray, List.getElem_cons_succ, List.getElem_cons_zero, List.setIfInBounds_toArray, List.set_cons_zero, List.set_cons_succ]
  refine wpU_next (i := 7) rfl (by kernel_rfl) (fun K hK => ?_)
  refine step_app_view rfl _ _ 31 (by rfl) (.agg #[.int .i64 0, .int .i64 0]) 16 Try.underlying31 info_run2 rfl (by decide) R7.out (by rfl) hv7 (by rfl) (rcells_cell ⟨a, n⟩) (by have := HAl.out; omega) (by decide) ?_
  intro A6 c6 w6 q1 q2
  have hne : ∀ k, v.ownBlock = some k → k ≠ sb := fun k hk e => by have := R7.out.apart_blk hB7.out (by decide); exact this (by rw [hk, e])
  have hnx : ∀ k, v.ownBlock = some k → k ≠ xb := fun k hk e => HxT.out k (Hs2.out.r.2 k hk) e
  have hB6 := hid (hB7.out.fr q2 fun h => hne sb h rfl)
  have hX6 := hid (hX7.out.fr q2 fun h => hnx xb h rfl)
  have hSK9 : (fun w' : World => w'.cell? ⟨sb, 4, none⟩ = some v ∧ w'.cell? ⟨xb, 0, none⟩ = some (.int .i64 (a : Nat)) ∧ w'.cell? ⟨xb, 1, none⟩ = some (.int .i64 (n : Nat))) w6 := ⟨hB6.out.cell 4, hX6.out.cell 0, hX6.out.cell 1⟩
  clear hSK7
  refine hK.out _ _ (fun _ => hSK9) ?_
  clear hK K
  try simp only [Act.put, List.getElem_toArray, List.getElem_cons_succ, List.getElem_cons_zero, List.setIfInBounds_toArray, List.set_cons_zero, List.set_cons_succ]
  refine wpU_next (i := 8) rfl (by kernel_rfl) (fun K hK => ?_)
  go_simp
  refine hK.out _ _ (fun _ => hSK9) ?_
  clear hK K
  try simp only [Act.put, List.getElem_toArray, List.getElem_cons_succ, List.getElem_cons_zero, List.setIfInBounds_toArray, List.set_cons_zero, List.set_cons_succ]
  refine wpU_next (i := 9) rfl (by kernel_rfl) (fun K hK => ?_)
  go_simp
  refine hK.out _ _ (fun _ => hSK9) ?_
  clear hK K
  try simp only [Act.put, List.getElem_toArray, List.getElem_cons_succ, List.getElem_cons_zero, List.setIfInBounds_toArray, List.set_cons_zero, List.set_cons_succ]
  have kc := hB6.out.cell 4
  have kz := hB6.out.frozen 4
  have hlt6 := hB6.out.lt
  refine wpU_next (i := 10) rfl (by kernel_rfl) (fun K hK => ?_)
  go_simp
  refine hK.out _ _ (fun h => absurd rfl h.1) ?_
  refine wpU_done (by kernel_rfl) ?_ _
  clear hK K
  clear kc kz hlt6 hSK9
  go_wp2
  go_ret
  have r7 := R7.out
  have hf67 : Fr (fun k => v.ownBlock = some k) w9 w6 := (((Fr.refl Nil w9).drew.then F7.out).nil).then q2
  have hfs : Fr (fun k => k = sb) w6 (w6.setCell ⟨sb, 4, none⟩ (.slice A6 (A.length + 1) c6)) := (Fr.refl (fun k => k = sb) w6).setCell (a := ⟨sb, 4, none⟩) (.inl rfl) _
  have s9 := Hs2.out
  have hnu : ∀ {b : Nat} {l : List (Int × Value)}, KV w9 b l → v.ownBlock ≠ some b := fun hk => row_kv R9.out hk
  have hkk : ∀ {b : Nat} {l : List (Int × Value)}, KV w9 b l → KV (w6.setCell ⟨sb, 4, none⟩ (.slice A6 (A.length + 1) c6)) b l := fun hk => (hk.fr hf67 (hnu hk)).fr hfs (fun h => blk_kv hB6.out (hk.fr hf67 (hnu hk)) h.symm)
  have hq1 := q1.setCell (a := ⟨sb, 4, none⟩) (q1.apart_blk hB6.out (by decide)) (.slice A6 (A.length + 1) c6)
  have hsz1 : w.heap.size ≤ W7.heap.size := Nat.le_trans F1.out.size (Nat.le_trans F2.out.size (Nat.le_trans F9.out.size F7.out.size))
  refine ⟨rfl, ?_, ?_⟩
  · refine Shp.of (ub := ub) (lb := lb) (hb := hb) (v := .slice A6 (A.length + 1) c6) ⟨hB6.out.set 4 _, hkk K9.out, hkk L9.out, hkk H9.out, ?_, s9.ul, s9.uh, s9.lh, .inl s9.ts, .inl s9.tu, .inl s9.tl, .inl s9.th⟩
    rw [List.length_append, dbl_append, dbl_one]
    refine hq1.mono fun k hk => ?_
    rcases hk with hk | hk
    · exact .inl (r7.2 k hk)
    · exact .inr (by omega)
  · exact (((F1.out.then F2.out).nil.then (F9.out.mono fun k hk => by rw [hk]; exact s9.tu)).then (hf67.mono fun k hk => r7.2 k hk)).then (hfs.mono fun k hk => by rw [hk]; exact s9.ts)
end Go.Proofs.Ytgoghmblfdlnbaa
end

section
/- Shares: listed, Late, List. Conditions: the bounds of its lists. -/
set_option linter.unusedSimpArgs false
set_option linter.unusedVariables false
namespace Go.Proofs.Ytgoghmblfdlnbaa
open Go.RowKit
theorem int_at {w : World} {S : Nat → Prop} {A : Option Addr} {n c : Nat} {l : List Int} (h : View w S 1 (.slice A n c) n (ints .i64 l)) {i : Nat} (hi : i < n) :
    ∃ b o, A = some ⟨b, o, none⟩ ∧ S b ∧ b < w.heap.size ∧ w.cell? ⟨b, o + i, none⟩ = some (.int .i64 (l.getD i 0)) := by
  obtain ⟨hl, A', c', e, _, _, _, _, h5⟩ := h
  injection e with ea _ ec
  subst ea; subst ec
  obtain ⟨b, o, hA, hS, hb, hc⟩ := h5 (by omega)
  have hl' : i < l.length := by rw [ints_length] at hl; omega
  exact ⟨b, o, hA, hS, hb, hc _ _ (by rw [ints_at _ _ _ hl']; simp [List.getElem?_eq_getElem hl'])⟩
def us (U : List Us) (i : Nat) : Us := U.getD i ⟨0, 0, 0⟩
theorem us_eq {U : List Us} {i : Nat} (h : i < U.length) : us U i = U[i] := by simp [us, List.getElem?_eq_getElem h]
theorem ukeys_get {U : List Us} {i : Nat} (h : i < U.length) : (ukeys U).getD i 0 = ((us U i).a : Nat) := by
  rw [us_eq h]
  simp [ukeys, List.getElem?_eq_getElem h]
theorem ux_srt {U : List Us} (hn : (ukeys U).Nodup) {i : Nat} (h : i < U.length) : ux U ((us (srtU U) i).a : Nat) = us (srtU U) i := by
  have hs : i < (srtU U).length := by rw [srtU_length]; exact h
  have hm : us (srtU U) i ∈ U := by
    rw [us_eq hs]
    exact (srtU_perm U).mem_iff.1 (List.getElem_mem hs)
  unfold ux
  rw [uget_some hn hm]
  rfl
theorem lst_take {U : List Us} {i : Nat} (h : i < U.length) : (lst U).take (i + 1) = (lst U).take i ++ [(us (srtU U) i).r] := by
  have hs : i < (srtU U).length := by rw [srtU_length]; exact h
  have hl : i < (lst U).length := by rw [lst_length]; exact h
  rw [List.take_succ_eq_append_getElem hl, us_eq hs]
  congr 2
  simp [lst]
end Go.Proofs.Ytgoghmblfdlnbaa
end

section
/- Shares: Settle, Back. Conditions: the bounds of its lists. -/
set_option linter.unusedSimpArgs false
set_option linter.unusedVariables false
namespace Go.Proofs.Ytgoghmblfdlnbaa
open Go.RowKit
def givs (bl : Nat) (l rs : List Rn) : List Rn := rs.foldl (fun l r => giveL bl l (r.a : Nat) (r.n : Nat)) l
theorem givs_take (bl : Nat) (l rs : List Rn) {i : Nat} (h : i < rs.length) : givs bl l (rs.take (i + 1)) = giveL bl (givs bl l (rs.take i)) ((rn rs i).a : Nat) ((rn rs i).n : Nat) := by
  unfold givs
  rw [List.take_succ_eq_append_getElem h, List.foldl_append, rn_eq h]
  rfl
theorem frN_bd {l : List Rn} (h : ∀ r ∈ l, r.a ≤ 8192 ∧ r.n ≤ 8192) : ∀ i, i ≤ l.length → frN l i ≤ i * 8192
  | 0, _ => by simp [frN]
  | i + 1, hi => by
    have := frN_bd h i (by omega)
    have h2 := h _ (mem_rn (l := l) (i := i) (by omega))
    rw [frN_succ (by omega)]; omega
set_option maxRecDepth 20000 in
theorem back_ok (T TR : Nat → Prop) (sb pb bl : Nat) (U L H : List Us) (A l : List Rn) (w : World) (h : IsS w T sb pb U L H A) (hr : RsT w TR pb bl l) (hap : ∀ k, TR k → ¬ T k) (hL : A.length ≤ 10000) (hLn : ∀ r ∈ A, r.a ≤ 8192 ∧ r.n ≤ 8192) :
    Calls Try.prog 11 #[.pointer (some ⟨sb, 0, none⟩)] w fun e w' => e = .returned (.tuple #[]) ∧ (∃ T', IsS w' T' sb pb H [] H [] ∧ (∀ k, T' k → T k ∨ w.heap.size ≤ k) ∧ ∃ TR', RsT w' TR' pb bl (givs bl l A) ∧ (∀ k, TR' k → TR k ∨ w.heap.size ≤ k) ∧ ∀ k, TR' k → ¬ T' k) ∧ Fr (fun k => T k ∨ TR k) w w' := by
  obtain ⟨⟨ub, lb, hb, v, hs⟩, hlt⟩ := id h
  have Hs := hid hs
  have Hlt := hid hlt
  have Hr := hid hr
  have Hap := hid hap
  obtain ⟨RL, hRL⟩ : ∃ RL, RL = A := ⟨_, rfl⟩
  rw [← hRL] at hLn hL ⊢
  obtain ⟨M, hM⟩ : ∃ M, M = RL.length := ⟨_, rfl⟩
  obtain ⟨AL, cL, hv⟩ := hs.r.slice
  have hrow := hs.r.view
  rw [← hRL, ← hM] at hv
  rw [← hRL, ← hM, hv] at hrow
  have HV := hid hrow
  have HM := hid hM
  have HLn := hid hLn
  have hM9 : M ≤ 10000 := by omega
  have c4 : w.cell? ⟨sb, 4, none⟩ = some (.slice AL M cL) := by rw [← hv]; exact hs.blk.cell 4
  have Hv := hid hv
  have HRL := hid hRL
  have HTl : Hid (∀ k, TR k → k < w.heap.size) := hid hr.lt
  have HF := hid (Fr.refl Nil w)
  obtain ⟨w2, hw2⟩ : ∃ w2, w2 = w := ⟨_, rfl⟩
  have F2 := hid (show Fr Nil w w2 from by rw [hw2]; exact Fr.refl _ _)
  have HV2 := hid (show View w2 T 2 (.slice AL M cL) M (dbl RL) from by rw [hw2]; exact HV.out)
  have Hw2 := hid hw2
  clear h hs hlt hr hap hRL hL hLn hM hrow hv HF HV hw2
  go_enter Try.func11, Try.ntmps11
  go_wp2_with fail
  refine (made_ok T sb pb ub lb hb v U L H A _ Hs.out).mono ?_
  rintro e w3 ⟨rfl, rfl⟩
  go_wp2_with fail
  obtain rfl := Hw2.out
  go_loopw [12] (fun v12 wr => ∃ i : Nat, v12 = .int .i64 i ∧ i ≤ M ∧ Fr TR w2 wr ∧ ∃ TR', RsT wr TR' pb bl (givs bl l (RL.take i)) ∧ ∀ k, TR' k → TR k ∨ w2.heap.size ≤ k) (fun v12 _ => M - (intOf v12).toNat)
  case atStart => exact ⟨0, rfl, by omega, Fr.refl _ _, TR, by simpa [givs] using Hr.out, fun k hk => .inl hk⟩
  case round =>
    obtain ⟨i, rfl, hi, hfw, TR', hRr, hTR'⟩ := hrel
    have Hs3 := hid (Hs.out.fr hfw fun k hk h => Hap.out k h hk)
    have HBr := hid Hs3.out.blk
    by_cases hlt : i < M
    · obtain ⟨b, o, rfl, -, hbl, q0, q1⟩ := rn_at (HV2.out.fr hfw fun k hk _ h => Hap.out k h hk) hlt
      have hbo := HLn.out _ (mem_rn (l := RL) (i := i) (by rw [← HM.out]; exact hlt))
      have ha8 : (rn RL i).a ≤ 8192 := hbo.1
      have hn8 : (rn RL i).n ≤ 8192 := hbo.2
      clear hbo c4
      go_upto_region 4 with (fail)
      obtain ⟨W1, hW1⟩ : ∃ W1, W1 = wr.alloc (.cells #[.int .i64 ((rn RL i).a : Nat), .int .i64 ((rn RL i).n : Nat)] 33) := ⟨_, rfl⟩
      have f1 : Fr Nil wr W1 := by rw [hW1]; exact (Fr.refl _ _).alloc _
      have hX0 : Blk W1 wr.heap.size #[.int .i64 ((rn RL i).a : Nat), .int .i64 ((rn RL i).n : Nat)] 33 := by rw [hW1]; exact Blk.new _ _ _
      rw [← hW1]
      clear hW1
      obtain ⟨xb, hxb⟩ : ∃ xb, xb = wr.heap.size := ⟨_, rfl⟩
      rw [← hxb] at hX0 ⊢
      have HX := hid hX0
      have F1 := hid f1
      have Hxb := hid hxb
      have HB1 := hid (HBr.out.fr f1 fun h => h)
      have hRl : ∀ k, TR' k → k < wr.heap.size := hRr.lt
      have HR1 := hid (hRr.nil f1)
      have hSK : (fun w' : World => w'.cell? ⟨sb, 0, none⟩ = some (.pointer (some ⟨pb, 0, none⟩)) ∧ w'.cell? ⟨xb, 0, none⟩ = some (.int .i64 ((rn RL i).a : Nat)) ∧ w'.cell? ⟨xb, 1, none⟩ = some (.int .i64 ((rn RL i).n : Nat))) W1.drew := ⟨HB1.out.drew.cell 0, HX.out.drew.cell 0, HX.out.drew.cell 1⟩
      have HRl := hid hRl
      clear hX0 f1 hxb hRl q0 q1
      refine wpU_region (k := 8) (S := (fun w' : World => w'.cell? ⟨sb, 0, none⟩ = some (.pointer (some ⟨pb, 0, none⟩)) ∧ w'.cell? ⟨xb, 0, none⟩ = some (.int .i64 ((rn RL i).a : Nat)) ∧ w'.cell? ⟨xb, 1, none⟩ = some (.int .i64 ((rn RL i).n : Nat)))) (by kernel_rfl) ?_
      refine wpU_take (i := 0) (v := ?_) rfl (by kernel_rfl) (by kernel_rfl) (fun _ _ _ h => h) _ _ _ _ (by kernel_rfl) (by kernel_rfl) (by kernel_rfl) (Or.inl ⟨by kernel_rfl, ?_⟩) hSK ?_
      rotate_left
      · (intro w9 hS9; obtain ⟨s0, s1, s2⟩ := hS9; go_simp); (try with_reducible rfl)
      try simp only [Act.put, List.getElem_toArray, List.getElem_cons_succ, List.getElem_cons_zero, List.setIfInBounds_toArray, List.set_cons_zero, List.set_cons_succ]
      refine wpU_take (i := 1) (v := ?_) rfl (by kernel_rfl) (by kernel_rfl) (fun _ _ _ h => h) _ _ _ _ (by kernel_rfl) (by kernel_rfl) (by kernel_rfl) (Or.inl ⟨by kernel_rfl, ?_⟩) hSK ?_
      rotate_left
      · (intro w9 hS9; obtain ⟨s0, s1, s2⟩ := hS9; go_simp); (try with_reducible rfl)
      try simp only [Act.put, List.getElem_toArray, List.getElem_cons_succ, List.getElem_cons_zero, List.setIfInBounds_toArray, List.set_cons_zero, List.set_cons_succ]
      refine wpU_take (i := 2) (v := ?_) rfl (by kernel_rfl) (by kernel_rfl) (fun _ _ _ h => h) _ _ _ _ (by kernel_rfl) (by kernel_rfl) (by kernel_rfl) (Or.inl ⟨by kernel_rfl, ?_⟩) hSK ?_
      rotate_left
      · (intro w9 hS9; obtain ⟨s0, s1, s2⟩ := hS9; go_simp); (try with_reducible rfl)
      try simp only [Act.put, List.getElem_toArray, List.getElem_cons_succ, List.getElem_cons_zero, List.setIfInBounds_toArray, List.set_cons_zero, List.set_cons_succ]
      refine wpU_take (i := 3) (v := ?_) rfl (by kernel_rfl) (by kernel_rfl) (fun _ _ _ h => h) _ _ _ _ (by kernel_rfl) (by kernel_rfl) (by kernel_rfl) (Or.inl ⟨by kernel_rfl, ?_⟩) hSK ?_
      rotate_left
      · (intro w9 hS9; obtain ⟨s0, s1, s2⟩ := hS9; go_simp); (try with_reducible rfl)
      try simp only [Act.put, List.getElem_toArray, List.getElem_cons_succ, List.getElem_cons_zero, List.setIfInBounds_toArray, List.set_cons_zero, List.set_cons_succ]
      refine wpU_take (i := 4) (v := ?_) rfl (by kernel_rfl) (by kernel_rfl) (fun _ _ _ h => h) _ _ _ _ (by kernel_rfl) (by kernel_rfl) (by kernel_rfl) (Or.inl ⟨by kernel_rfl, ?_⟩) hSK ?_
      rotate_left
      · (intro w9 hS9; obtain ⟨s0, s1, s2⟩ := hS9; go_simp); (try with_reducible rfl)
      try simp only [Act.put, List.getElem_toArray, List.getElem_cons_succ, List.getElem_cons_zero, List.setIfInBounds_toArray, List.set_cons_zero, List.set_cons_succ]
      refine wpU_take (i := 5) (v := ?_) rfl (by kernel_rfl) (by kernel_rfl) (fun _ _ _ h => h) _ _ _ _ (by kernel_rfl) (by kernel_rfl) (by kernel_rfl) (Or.inl ⟨by kernel_rfl, ?_⟩) hSK ?_
      rotate_left
      · (intro w9 hS9; obtain ⟨s0, s1, s2⟩ := hS9; go_simp); (try with_reducible rfl)
      try simp only [Act.put, List.getElem_toArray, List.getElem_cons_succ, List.getElem_cons_zero, List.setIfInBounds_toArray, List.set_cons_zero, List.set_cons_succ]
      refine wpU_take (i := 6) (v := ?_) rfl (by kernel_rfl) (by kernel_rfl) (fun _ _ _ h => h) _ _ _ _ (by kernel_rfl) (by kernel_rfl) (by kernel_rfl) (Or.inl ⟨by kernel_rfl, ?_⟩) hSK ?_
      rotate_left
      · (intro w9 hS9; obtain ⟨s0, s1, s2⟩ := hS9; go_simp); (try with_reducible rfl)
      try simp only [Act.put, List.getElem_toArray, List.getElem_cons_succ, List.getElem_cons_zero, List.setIfInBounds_toArray, List.set_cons_zero, List.set_cons_succ]
      refine wpU_take (i := 7) (v := ?_) rfl (by kernel_rfl) (by kernel_rfl) (fun _ _ _ h => h) _ _ _ _ (by kernel_rfl) (by kernel_rfl) (by kernel_rfl) (Or.inl ⟨by kernel_rfl, ?_⟩) hSK ?_
      rotate_left
      · (intro w9 hS9; obtain ⟨s0, s1, s2⟩ := hS9; go_simp); (try with_reducible rfl)
      try simp only [Act.put, List.getElem_toArray, List.getElem_cons_succ, List.getElem_cons_zero, List.setIfInBounds_toArray, List.set_cons_zero, List.set_cons_succ]
      clear hSK
      refine wpU_next (i := 8) rfl (by kernel_rfl) (fun K hK => ?_)
      go_simp
      refine (give_t (HR1.out.fr ((Fr.refl Nil W1).drew) fun _ _ h => h) ((rn RL i).a : Nat) ((rn RL i).n : Nat)).mono ?_
      rintro e w3 ⟨rfl, ⟨T3, hR3, hT3⟩, hf3⟩
      have HX3 := hid (HX.out.drew.fr hf3 fun h => by have := HRl.out _ h; have := Hxb.out; omega)
      have F3 := hid (show Fr TR w2 w3 from hfw.trans ((F1.out.nil (S := TR')).then ((Fr.refl TR' W1).drew.then hf3)) hTR')
      have HR3 := hid hR3
      have HT3 := hid (show ∀ k, T3 k → TR k ∨ w2.heap.size ≤ k from fun k hk => by
        rcases hT3 k hk with h | h
        · exact hTR' k h
        · exact .inr (Nat.le_trans hfw.size (Nat.le_trans F1.out.size h)))
      refine hK.out _ _ (fun h => absurd rfl h.1) ?_
      refine wpU_done (by kernel_rfl) ?_ _
      clear hK K hR3 hT3 hf3
      go_wp2
      go_roundw
      case rel => exact ⟨i + 1, by go_num, by omega, F3.out, T3, by rw [givs_take bl l RL (by rw [← HM.out]; exact hlt)]; exact HR3.out, HT3.out⟩
      case measure => simp [intOf]; omega
    · have hE : i = M := by omega
      subst hE
      have b3 : wr.cell? ⟨sb, 3, none⟩ = some (.map (some hb)) := HBr.out.cell 3
      go_wp2_with fail
      clear b3
      refine (mclone_ok hb (H.map ent) wr Hs3.out.h).mono ?_
      rintro e w5 ⟨rfl, k5, f5⟩
      obtain ⟨hb', hhb'⟩ : ∃ hb', hb' = wr.heap.size := ⟨_, rfl⟩
      rw [← hhb'] at k5 ⊢
      have K5 := hid k5
      have F1 := hid f5
      have Hhb := hid hhb'
      clear k5 f5 hhb'
      have hBw : (w5.alloc (.map #[] 0)).cell? ⟨sb, 1, none⟩ = some (.map (some ub)) := ((Fr.refl Nil w5).alloc _).cell ((Hs3.out.blk.fr F1.out fun h => h).cell 1) (fun h => h)
      have Hs5 := hid ((Hs3.out.fr F1.out fun _ _ h => h).fr ((Fr.refl Nil w5).alloc (.map #[] 0)) fun _ _ h => h)
      have hB5 := Hs5.out.blk
      have HB5 := hid hB5
      have z1 := hB5.frozen 1
      have z2 := hB5.frozen 2
      have z4 := hB5.frozen 4
      have y1 := hB5.cell 1
      have y2 := hB5.cell 2
      have y4 := hB5.cell 4
      have hlt5 := hB5.lt
      clear hBw hB5
      go_wp2
      go_end0
      obtain ⟨w4, hw4⟩ : ∃ w4, w4 = w5.alloc (.map #[] 0) := ⟨_, rfl⟩
      obtain ⟨nb, hnb'⟩ : ∃ nb, nb = w5.heap.size := ⟨_, rfl⟩
      have Hnb := hid hnb'
      have F4 := hid (show Fr Nil w5 w4 from by rw [hw4]; exact (Fr.refl _ _).alloc _)
      have k4 : KV w4 nb [] := by rw [hw4, hnb']; exact KV.made w5
      have s4 : w4.heap.size = nb + 1 := by rw [hw4, hnb']; simp
      rw [← hw4] at Hs5 HB5 ⊢
      rw [← hnb']
      clear hw4 hnb' z1 z2 z4 y1 y2 y4 hlt5
      have hfs : Fr (fun k => k = sb) w4 (((w4.setCell ⟨sb, 1, none⟩ (.map (some hb'))).setCell ⟨sb, 2, none⟩ (.map (some nb))).setCell ⟨sb, 4, none⟩ (.slice none 0 0)) := (((Fr.refl (fun k => k = sb) w4).setCell (a := ⟨sb, 1, none⟩) (.inl rfl) _).setCell (a := ⟨sb, 2, none⟩) (.inl rfl) _).setCell (a := ⟨sb, 4, none⟩) (.inl rfl) _
      have hb9 := ((HB5.out.set 1 (.map (some hb'))).set 2 (.map (some nb))).set 4 (.slice none 0 0)
      have hnb := Hnb.out
      have hhb := Hhb.out
      have hs3 := Hs3.out
      have hs5 := Hs5.out
      have z1 := F1.out.size
      have z2 := F4.out.size
      have z3 := hfs.size
      have z4 := hfw.size
      have z5 := F2.out.size
      have hblt := HBr.out.lt
      have hap : ∀ k, TR' k → ¬ (T k ∨ k = nb ∨ k = hb') := fun k hk => by
        have h1 := hRr.lt k hk
        have h2 := hTR' k hk
        rintro (h | h | h)
        · rcases h2 with h2 | h2
          · exact Hap.out k h2 h
          · have := Hlt.out k h; omega
        · omega
        · omega
      refine ⟨rfl, ⟨fun k => T k ∨ k = nb ∨ k = hb', ⟨⟨hb', nb, hb, .slice none 0 0, ?_⟩, ?_⟩, ?_, TR', ?_, ?_, hap⟩, ?_⟩
      · exact ⟨hb9, (K5.out.fr F4.out fun h => h).fr hfs (by omega), k4.fr hfs (by omega), hs5.h.fr hfs (Ne.symm (blk_kv HB5.out hs5.h)), Row.nil _ _ _ _, by have := K5.out.lt; omega, by have := hs3.h.lt; omega, by have := hs3.h.lt; omega, .inl hs5.ts, .inr (.inr rfl), .inr (.inl rfl), .inl hs5.th⟩
      · rintro k (h | h | h)
        · have := Hlt.out k h; omega
        · have := k4.lt; omega
        · have := K5.out.lt; omega
      · rintro k (h | h | h)
        · exact .inl h
        · exact .inr (by omega)
        · exact .inr (by omega)
      · rw [List.take_of_length_le (by rw [← HM.out]; exact Nat.le_refl _)] at hRr
        exact ((hRr.nil F1.out).nil F4.out).fr hfs fun k hk h => hap k hk (.inl (by rw [h]; exact hs5.ts))
      · exact fun k hk => (hTR' k hk).imp id fun h => by omega
      · exact ((((hfw.mono fun k hk => .inr hk)).then F1.out.nil).then F4.out.nil).then (hfs.mono fun k hk => by rw [hk]; exact .inl hs5.ts)
end Go.Proofs.Ytgoghmblfdlnbaa
end

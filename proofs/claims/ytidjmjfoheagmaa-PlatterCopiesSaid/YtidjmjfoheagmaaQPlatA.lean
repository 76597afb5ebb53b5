/- awake of chapter 2. Conditions: none. -/
import Derived.Test.YtidjmjfoheagmaaQPlatR
set_option linter.unusedSimpArgs false
set_option linter.unusedVariables false
namespace Go.Proofs.Ytidjmjfoheagmaa
open Go.RowKit

/-- A platter of few operations, m of them at most. -/
def Pl.okm (p : Pl) (m : Nat) : Prop := (∀ op, p.co op ≤ m ∧ p.si op ≤ m) ∧ p.fa.length ≤ 1000 ∧ 0 < p.bl.length ∧ p.ca.length ≤ m ∧ ∀ q ∈ p.ca, q.1 < p.bl.length
section
variable {p : Pl} {m : Nat}
theorem Pl.okm.ok (h : p.okm m) (hm : m ≤ 1000000 := by omega) : p.ok := ⟨fun op => ⟨by have := (h.1 op).1; omega, by have := (h.1 op).2; omega⟩, by have := h.2.1; omega, h.2.2.1, by have := h.2.2.2.1; omega, h.2.2.2.2⟩
theorem Pl.okm.mono (h : p.okm m) {n : Nat} (hn : m ≤ n) : p.okm n := ⟨fun op => ⟨by have := (h.1 op).1; omega, by have := (h.1 op).2; omega⟩, h.2.1, h.2.2.1, by have := h.2.2.2.1; omega, h.2.2.2.2⟩
theorem Pl.okm.ask (h : p.okm m) (op : Nat) : (p.ask op).okm (m + 1) := by
  refine ⟨fun k => ?_, h.2.1, h.2.2.1, Nat.le_succ_of_le h.2.2.2.1, h.2.2.2.2⟩
  have h1 := h.1 k
  constructor
  · show (if k = op then p.co k + 1 else p.co k) ≤ m + 1
    split <;> omega
  · show (if k = op then p.si k + 1 else p.si k) ≤ m + 1
    split <;> omega
theorem Pl.okm.put (h : p.okm m) {n : Nat} (xs : List Nat) (hn : n < p.bl.length) : (p.put n xs).okm (m + 1) := by
  refine ⟨fun k => ⟨Nat.le_succ_of_le (h.1 k).1, Nat.le_succ_of_le (h.1 k).2⟩, h.2.1, h.2.2.1, ?_, ?_⟩
  · show (p.ca ++ [(n, xs)]).length ≤ m + 1
    have := h.2.2.2.1
    simp; omega
  · intro q hq
    rcases List.mem_append.1 hq with hq | hq
    · exact h.2.2.2.2 q hq
    · rw [List.mem_singleton] at hq; rw [hq]; exact hn
theorem Pl.okm.settle (h : p.okm m) (kept : Nat → Bool) : (p.settle kept).okm m := by
  refine ⟨h.1, h.2.1, ?_, Nat.zero_le _, by intro q hq; cases hq⟩
  show 0 < (setB p.ca kept p.bl p.ca.length).length
  rw [setB_len]; exact h.2.2.1
theorem Pl.okm.crash (h : p.okm m) (keep : List Bool) : (p.crash keep).okm m :=
  let h2 := h.settle (keptOf keep)
  ⟨h2.1, Nat.zero_le _, h2.2.2.1, h2.2.2.2.1, h2.2.2.2.2⟩
theorem okm_fresh (n : Nat) (hn : 0 < n) : (fresh n).okm 0 := ⟨fun _ => ⟨Nat.le_refl _, Nat.le_refl _⟩, by simp [fresh], by simpa [fresh] using hn, by simp [fresh], by simp [fresh]⟩
theorem settle_bl (kept : Nat → Bool) : (p.settle kept).bl.length = p.bl.length := setB_len _ _ _ _
theorem crash_bl (keep : List Bool) : (p.crash keep).bl.length = p.bl.length := setB_len _ _ _ _
theorem not_bad (h : p.fa = []) (op : Nat) : ¬ p.bad op := by simp [Pl.bad, h]
end

theorem byt_rep (n b : Nat) (hb : b < 256) : Byt (List.replicate n b) := by intro c hc; simp at hc; omega
theorem conv_row {w : World} {S : Nat → Prop} {v : Value} {n : Nat} {xs : List Nat} (h : View w S 1 v n (bys xs)) : (convert 22 9 v).run Try.prog w = .ok (.string (str xs)) w :=
  h.str Try.underlying22 Try.underlying5 Try.underlying9

/-- A block of one byte. -/
@[irreducible] def rep (b : Nat) : List Nat := List.replicate 64 b
theorem rep_eq (b : Nat) : rep b = List.replicate 64 b := by unfold rep; rfl
theorem byt_full {b : Nat} (hb : b < 256) : Byt (rep b) := by rw [rep_eq]; exact byt_rep _ _ hb
theorem full_rep (b : Nat) (w : World) : Calls Try.prog 12 #[.int .u8 (b : Int)] w fun e w' => ∃ g, e = .returned (.slice (some ⟨g, 0, none⟩) 64 64) ∧ Row w' (New w) 5 1 (.slice (some ⟨g, 0, none⟩) 64 64) 64 (bys (rep b)) ∧ Fr Nil w w' := by
  rw [rep_eq]; exact full_ok b w

set_option maxRecDepth 100000 in
set_option maxHeartbeats 3000000 in
theorem awake_ok (w : World) : Calls Try.prog 9 #[] w fun e w' => e = .returned (.bool true) ∧ Fr Nil w w' := by
  go_enter Try.func9, Try.ntmps9
  go_wp2_with fail
  refine (pnew_ok 64 (by omega) (by omega) w).mono ?_
  rintro e w1 ⟨pb, rfl, hP1, hf1⟩
  have k1 := okm_fresh 64 (by omega)
  have l1 : (fresh 64).bl.length = 64 := by simp [fresh]
  have n1 : (fresh 64).fa = [] := rfl
  go_wp2_with fail
  have hP1b := hP1.bd
  refine (full_rep 7 w1).mono ?_
  rintro e w2 ⟨g2, rfl, hR2, hf2⟩
  go_wp2_with fail
  refine (write_ok (fun k => New w k ∧ k < w1.heap.size) (New w1) pb (fresh 64) 3 _ _ w2 (hP1b.fr hf2 fun _ _ h => h) k1.ok (not_bad n1 _) (by rw [l1]; omega) hR2.view (byt_full (by omega)) (fun k hk h => by have : w1.heap.size ≤ k := hk; omega)).mono ?_
  rintro e w3 ⟨rfl, hP3, hf3⟩
  have s1 := hf1.size
  have s2 := hf2.size
  have s3 := hf3.size
  have hP3' : IsP w3 (New w) pb _ := hP3.mono fun k hk => hk.elim (fun h => h.1) (fun h => by unfold New; omega)
  have hF3 : Fr Nil w w3 := (hf1.then hf2).trans hf3 (fun k hk => .inr hk.1)
  have k3 := (k1.ask 2).put (n := 3) (rep 7) (by show 3 < (fresh 64).bl.length; rw [l1]; omega)
  have l3 : (((fresh 64).ask 2).put 3 (rep 7)).bl.length = 64 := l1
  have n3 : (((fresh 64).ask 2).put 3 (rep 7)).fa = [] := rfl
  clear hP1 hP1b hP3 hR2
  go_wp2_with fail
  refine (crash_ok (New w) Nil pb _ 0 [] _ w3 hP3' k3.ok (by omega) (View.nil _ _ _) (fun _ h => h.elim)).mono ?_
  rintro e w4 ⟨rfl, hP4, hf4⟩
  have k4 := k3.crash []
  have g4 : ((((fresh 64).ask 2).put 3 (rep 7)).crash []).get 3 = rep 0 := by rw [rep_eq, rep_eq]; kernel_rfl
  have l4 : ((((fresh 64).ask 2).put 3 (rep 7)).crash []).bl.length = 64 := by rw [crash_bl]; exact l3
  have n4 : ((((fresh 64).ask 2).put 3 (rep 7)).crash []).fa = [] := rfl
  obtain ⟨p4, hp4⟩ : ∃ p4, p4 = (((fresh 64).ask 2).put 3 (rep 7)).crash [] := ⟨_, rfl⟩
  rw [← hp4] at hP4 k4 g4 l4 n4
  go_wp2_with fail
  have hP4b := hP4.bd
  refine (read_ok (fun k => New w k ∧ k < w4.heap.size) pb p4 3 w4 hP4b k4.ok (not_bad n4 _) (by rw [l4]; omega)).mono ?_
  rintro e w5 ⟨A5, c5, rfl, hR5, -, -, hP5, hf5⟩
  rw [g4] at hR5
  have s4 := hf4.size
  have s5 := hf5.size
  have hF5 : Fr Nil w w5 := (hF3.trans hf4 (fun k hk => .inr hk)).trans hf5 (fun k hk => .inr hk.1)
  have hV5 := hR5.view.bd
  clear hP4 hP4b hR5
  go_wp2_with fail
  refine (full_rep 7 w5).mono ?_
  rintro e w6 ⟨g6, rfl, hR6, hf6⟩
  have k5 := k4.ask 1
  have l5 : (p4.ask 1).bl.length = 64 := l4
  go_wp2_with fail
  refine (write_ok (fun k => New w k ∧ k < w4.heap.size) (New w5) pb (p4.ask 1) 3 _ _ w6 (hP5.fr hf6 fun _ _ h => h) k5.ok (not_bad n4 _) (by rw [l5]; omega) hR6.view (byt_full (by omega)) (fun k hk h => by have : w5.heap.size ≤ k := hk; omega)).mono ?_
  rintro e w7 ⟨rfl, hP7, hf7⟩
  have s6 := hf6.size
  have s7 := hf7.size
  have hV7 := (hV5.fr hf6 fun _ _ _ h => h).fr hf7 (fun k hk _ h => by have h1 : w4.heap.size ≤ k := hk.1; omega)
  have hF7 : Fr Nil w w7 := (hF5.then hf6).trans hf7 (fun k hk => .inr hk.1)
  have k7 := (k5.ask 2).put (n := 3) (rep 7) (by show 3 < (p4.ask 1).bl.length; rw [l5]; omega)
  clear hP5 hR6
  have g9 : ((((((p4.ask 1).ask 2).put 3 (rep 7)).ask 3).settle fun _ => true).crash []).get 3 = rep 7 := by rw [hp4, rep_eq]; kernel_rfl
  go_wp2_with fail
  refine (sync_ok _ pb _ w7 hP7 k7.ok (not_bad n4 _)).mono ?_
  rintro e w8 ⟨rfl, hP8, hf8⟩
  have k8 := (k7.ask 3).settle (fun _ => true)
  have l8 : (((((p4.ask 1).ask 2).put 3 (rep 7)).ask 3).settle fun _ => true).bl.length = 64 := by rw [settle_bl]; exact l4
  have s8 := hf8.size
  have hV8 := hV7.fr hf8 (fun k hk hlt h => by have h1 : w4.heap.size ≤ k := hk.1; have h2 := hk.2; rcases h with h | h <;> omega)
  have hF8 : Fr Nil w w8 := hF7.trans hf8 (fun k hk => .inr (hk.elim (fun h => h.1) (fun h => by omega)))
  clear hP7
  go_wp2_with fail
  refine (crash_ok _ Nil pb _ 0 [] _ w8 hP8 k8.ok (by omega) (View.nil _ _ _) (fun _ h => h.elim)).mono ?_
  rintro e w9 ⟨rfl, hP9, hf9⟩
  have k9 := k8.crash []
  have l9 : ((((((p4.ask 1).ask 2).put 3 (rep 7)).ask 3).settle fun _ => true).crash []).bl.length = 64 := by rw [crash_bl]; exact l8
  have n9 : ((((((p4.ask 1).ask 2).put 3 (rep 7)).ask 3).settle fun _ => true).crash []).fa = [] := rfl
  have s9 := hf9.size
  have hV9 := hV8.fr hf9 (fun k hk hlt h => by have h1 : w4.heap.size ≤ k := hk.1; have h2 := hk.2; rcases h with h | h <;> omega)
  have hF9 : Fr Nil w w9 := hF8.trans hf9 (fun k hk => .inr (hk.elim (fun h => h.1) (fun h => by omega)))
  clear hP8 hp4
  generalize ((((((p4.ask 1).ask 2).put 3 (rep 7)).ask 3).settle fun _ => true).crash []) = p9 at *
  go_wp2_with fail
  refine (read_ok _ pb p9 3 w9 hP9 k9.ok (not_bad n9 _) (by rw [l9]; omega)).mono ?_
  rintro e w10 ⟨A10, c10, rfl, hR10, -, -, hP10, hf10⟩
  rw [g9] at hR10
  have s10 := hf10.size
  have hV10 := hV9.fr hf10 (fun k hk hlt h => by have h1 : w4.heap.size ≤ k := hk.1; have h2 := hk.2; rcases h with h | h <;> omega)
  have hF10 : Fr Nil w w10 := hF9.trans hf10 (fun k hk => .inr (hk.elim (fun h => h.1) (fun h => by omega)))
  have hX10 := hR10.view
  clear hR10 hP10 hP9
  have hS : ((convert 22 9 (.slice A5 64 c5)).run Try.prog w10.drew = .ok (.string (str (rep 0))) w10.drew) ∧ ((convert 22 9 (.slice A10 64 c10)).run Try.prog w10.drew = .ok (.string (str (rep 7))) w10.drew) := ⟨conv_row (w := w10.drew) hV10, conv_row (w := w10.drew) hX10⟩
  go_wp2_with fail
  refine wpU_region (k := 32) (S := fun w' => ((convert 22 9 (.slice A5 64 c5)).run Try.prog w' = .ok (.string (str (rep 0))) w') ∧ ((convert 22 9 (.slice A10 64 c10)).run Try.prog w' = .ok (.string (str (rep 7))) w')) (by kernel_rfl) ?_
  refine wpU_take (i := 0) (v := ?_) rfl (by kernel_rfl) (by kernel_rfl) (fun _ _ _ h => h) _ _ _ _ (by kernel_rfl) (by kernel_rfl) (by kernel_rfl) (Or.inl ⟨by kernel_rfl, ?_⟩) hS ?_
  rotate_left
  · (intro w9 hS9; obtain ⟨s0, s1⟩ := hS9; go_simp); (try with_reducible rfl)
  try simp only [Act.put, List.setIfInBounds_toArray, List.set_cons_zero, List.set_cons_succ]
  refine wpU_take (i := 1) (v := ?_) rfl (by kernel_rfl) (by kernel_rfl) (fun _ _ _ h => h) _ _ _ _ (by kernel_rfl) (by kernel_rfl) (by kernel_rfl) (Or.inl ⟨by kernel_rfl, ?_⟩) hS ?_
  rotate_left
  · (intro w9 hS9; obtain ⟨s0, s1⟩ := hS9; go_simp); (try with_reducible rfl)
  try simp only [Act.put, List.setIfInBounds_toArray, List.set_cons_zero, List.set_cons_succ]
  refine wpU_take (i := 2) (v := ?_) rfl (by kernel_rfl) (by kernel_rfl) (fun _ _ _ h => h) _ _ _ _ (by kernel_rfl) (by kernel_rfl) (by kernel_rfl) (Or.inl ⟨by kernel_rfl, ?_⟩) hS ?_
  rotate_left
  · (intro w9 hS9; obtain ⟨s0, s1⟩ := hS9; go_simp); (try with_reducible rfl)
  try simp only [Act.put, List.setIfInBounds_toArray, List.set_cons_zero, List.set_cons_succ]
  refine wpU_take (i := 3) (v := ?_) rfl (by kernel_rfl) (by kernel_rfl) (fun _ _ _ h => h) _ _ _ _ (by kernel_rfl) (by kernel_rfl) (by kernel_rfl) (Or.inl ⟨by kernel_rfl, ?_⟩) hS ?_
  rotate_left
  · (intro w9 hS9; obtain ⟨s0, s1⟩ := hS9; go_simp); (try with_reducible rfl)
  try simp only [Act.put, List.setIfInBounds_toArray, List.set_cons_zero, List.set_cons_succ]
  refine wpU_take (i := 4) (v := ?_) rfl (by kernel_rfl) (by kernel_rfl) (fun _ _ _ h => h) _ _ _ _ (by kernel_rfl) (by kernel_rfl) (by kernel_rfl) (Or.inl ⟨by kernel_rfl, ?_⟩) hS ?_
  rotate_left
  · (intro w9 hS9; obtain ⟨s0, s1⟩ := hS9; go_simp); (try with_reducible rfl)
  try simp only [Act.put, List.setIfInBounds_toArray, List.set_cons_zero, List.set_cons_succ]
  refine wpU_take (i := 5) (v := ?_) rfl (by kernel_rfl) (by kernel_rfl) (fun _ _ _ h => h) _ _ _ _ (by kernel_rfl) (by kernel_rfl) (by kernel_rfl) (Or.inl ⟨by kernel_rfl, ?_⟩) hS ?_
  rotate_left
  · (intro w9 hS9; obtain ⟨s0, s1⟩ := hS9; go_simp); (try with_reducible rfl)
  try simp only [Act.put, List.setIfInBounds_toArray, List.set_cons_zero, List.set_cons_succ]
  refine wpU_take (i := 6) (v := ?_) rfl (by kernel_rfl) (by kernel_rfl) (fun _ _ _ h => h) _ _ _ _ (by kernel_rfl) (by kernel_rfl) (by kernel_rfl) (Or.inl ⟨by kernel_rfl, ?_⟩) hS ?_
  rotate_left
  · (intro w9 hS9; obtain ⟨s0, s1⟩ := hS9; go_simp); (try with_reducible rfl)
  try simp only [Act.put, List.setIfInBounds_toArray, List.set_cons_zero, List.set_cons_succ]
  refine wpU_take (i := 7) (v := ?_) rfl (by kernel_rfl) (by kernel_rfl) (fun _ _ _ h => h) _ _ _ _ (by kernel_rfl) (by kernel_rfl) (by kernel_rfl) (Or.inl ⟨by kernel_rfl, ?_⟩) hS ?_
  rotate_left
  · (intro w9 hS9; obtain ⟨s0, s1⟩ := hS9; go_simp); (try with_reducible rfl)
  try simp only [Act.put, List.setIfInBounds_toArray, List.set_cons_zero, List.set_cons_succ]
  refine wpU_take (i := 8) (v := ?_) rfl (by kernel_rfl) (by kernel_rfl) (fun _ _ _ h => h) _ _ _ _ (by kernel_rfl) (by kernel_rfl) (by kernel_rfl) (Or.inl ⟨by kernel_rfl, ?_⟩) hS ?_
  rotate_left
  · (intro w9 hS9; obtain ⟨s0, s1⟩ := hS9; go_simp); (try with_reducible rfl)
  try simp only [Act.put, List.setIfInBounds_toArray, List.set_cons_zero, List.set_cons_succ]
  refine wpU_take (i := 9) (v := ?_) rfl (by kernel_rfl) (by kernel_rfl) (fun _ _ _ h => h) _ _ _ _ (by kernel_rfl) (by kernel_rfl) (by kernel_rfl) (Or.inl ⟨by kernel_rfl, ?_⟩) hS ?_
  rotate_left
  · (intro w9 hS9; obtain ⟨s0, s1⟩ := hS9; go_simp); (try with_reducible rfl)
  try simp only [Act.put, List.setIfInBounds_toArray, List.set_cons_zero, List.set_cons_succ]
  refine wpU_take (i := 10) (v := ?_) rfl (by kernel_rfl) (by kernel_rfl) (fun _ _ _ h => h) _ _ _ _ (by kernel_rfl) (by kernel_rfl) (by kernel_rfl) (Or.inl ⟨by kernel_rfl, ?_⟩) hS ?_
  rotate_left
  · (intro w9 hS9; obtain ⟨s0, s1⟩ := hS9; go_simp); (try with_reducible rfl)
  try simp only [Act.put, List.setIfInBounds_toArray, List.set_cons_zero, List.set_cons_succ]
  refine wpU_take (i := 11) (v := ?_) rfl (by kernel_rfl) (by kernel_rfl) (fun _ _ _ h => h) _ _ _ _ (by kernel_rfl) (by kernel_rfl) (by kernel_rfl) (Or.inl ⟨by kernel_rfl, ?_⟩) hS ?_
  rotate_left
  · (intro w9 hS9; obtain ⟨s0, s1⟩ := hS9; go_simp); (try with_reducible rfl)
  try simp only [Act.put, List.setIfInBounds_toArray, List.set_cons_zero, List.set_cons_succ]
  refine wpU_take (i := 12) (v := ?_) rfl (by kernel_rfl) (by kernel_rfl) (fun _ _ _ h => h) _ _ _ _ (by kernel_rfl) (by kernel_rfl) (by kernel_rfl) (Or.inl ⟨by kernel_rfl, ?_⟩) hS ?_
  rotate_left
  · (intro w9 hS9; obtain ⟨s0, s1⟩ := hS9; go_simp); (try with_reducible rfl)
  try simp only [Act.put, List.setIfInBounds_toArray, List.set_cons_zero, List.set_cons_succ]
  refine wpU_take (i := 13) (v := ?_) rfl (by kernel_rfl) (by kernel_rfl) (fun _ _ _ h => h) _ _ _ _ (by kernel_rfl) (by kernel_rfl) (by kernel_rfl) (Or.inl ⟨by kernel_rfl, ?_⟩) hS ?_
  rotate_left
  · (intro w9 hS9; obtain ⟨s0, s1⟩ := hS9; go_simp); (try with_reducible rfl)
  try simp only [Act.put, List.setIfInBounds_toArray, List.set_cons_zero, List.set_cons_succ]
  refine wpU_take (i := 14) (v := ?_) rfl (by kernel_rfl) (by kernel_rfl) (fun _ _ _ h => h) _ _ _ _ (by kernel_rfl) (by kernel_rfl) (by kernel_rfl) (Or.inl ⟨by kernel_rfl, ?_⟩) hS ?_
  rotate_left
  · (intro w9 hS9; obtain ⟨s0, s1⟩ := hS9; go_simp); (try with_reducible rfl)
  try simp only [Act.put, List.setIfInBounds_toArray, List.set_cons_zero, List.set_cons_succ]
  refine wpU_take (i := 15) (v := ?_) rfl (by kernel_rfl) (by kernel_rfl) (fun _ _ _ h => h) _ _ _ _ (by kernel_rfl) (by kernel_rfl) (by kernel_rfl) (Or.inl ⟨by kernel_rfl, ?_⟩) hS ?_
  rotate_left
  · (intro w9 hS9; obtain ⟨s0, s1⟩ := hS9; go_simp); (try with_reducible rfl)
  try simp only [Act.put, List.setIfInBounds_toArray, List.set_cons_zero, List.set_cons_succ]
  refine wpU_take (i := 16) (v := ?_) rfl (by kernel_rfl) (by kernel_rfl) (fun _ _ _ h => h) _ _ _ _ (by kernel_rfl) (by kernel_rfl) (by kernel_rfl) (Or.inl ⟨by kernel_rfl, ?_⟩) hS ?_
  rotate_left
  · (intro w9 hS9; obtain ⟨s0, s1⟩ := hS9; go_simp); (try with_reducible rfl)
  try simp only [Act.put, List.setIfInBounds_toArray, List.set_cons_zero, List.set_cons_succ]
  refine wpU_take (i := 17) (v := ?_) rfl (by kernel_rfl) (by kernel_rfl) (fun _ _ _ h => h) _ _ _ _ (by kernel_rfl) (by kernel_rfl) (by kernel_rfl) (Or.inl ⟨by kernel_rfl, ?_⟩) hS ?_
  rotate_left
  · (intro w9 hS9; obtain ⟨s0, s1⟩ := hS9; go_simp); (try with_reducible rfl)
  try simp only [Act.put, List.setIfInBounds_toArray, List.set_cons_zero, List.set_cons_succ]
  refine wpU_take (i := 18) (v := ?_) rfl (by kernel_rfl) (by kernel_rfl) (fun _ _ _ h => h) _ _ _ _ (by kernel_rfl) (by kernel_rfl) (by kernel_rfl) (Or.inl ⟨by kernel_rfl, ?_⟩) hS ?_
  rotate_left
  · (intro w9 hS9; obtain ⟨s0, s1⟩ := hS9; go_simp); (try with_reducible rfl)
  try simp only [Act.put, List.setIfInBounds_toArray, List.set_cons_zero, List.set_cons_succ]
  refine wpU_take (i := 19) (v := ?_) rfl (by kernel_rfl) (by kernel_rfl) (fun _ _ _ h => h) _ _ _ _ (by kernel_rfl) (by kernel_rfl) (by kernel_rfl) (Or.inl ⟨by kernel_rfl, ?_⟩) hS ?_
  rotate_left
  · (intro w9 hS9; obtain ⟨s0, s1⟩ := hS9; go_simp); (try with_reducible rfl)
  try simp only [Act.put, List.setIfInBounds_toArray, List.set_cons_zero, List.set_cons_succ]
  refine wpU_take (i := 20) (v := ?_) rfl (by kernel_rfl) (by kernel_rfl) (fun _ _ _ h => h) _ _ _ _ (by kernel_rfl) (by kernel_rfl) (by kernel_rfl) (Or.inl ⟨by kernel_rfl, ?_⟩) hS ?_
  rotate_left
  · (intro w9 hS9; obtain ⟨s0, s1⟩ := hS9; go_simp); (try with_reducible rfl)
  try simp only [Act.put, List.setIfInBounds_toArray, List.set_cons_zero, List.set_cons_succ]
  refine wpU_next (i := 21) rfl (by kernel_rfl) (fun K hK => ?_)
  go_simp
  refine (full_rep 0 w10.drew).mono ?_
  rintro e wA ⟨gA, rfl, hRA, hfA⟩
  have hVA := View.fr (w := w10.drew) hV10 hfA fun _ _ _ h => h
  have hXA := View.fr (w := w10.drew) hX10 hfA fun _ _ _ h => h
  have hSA := And.intro (conv_row hVA) (conv_row hXA)
  have cA := conv_row hRA.view
  refine hK.out _ _ (fun _ => hSA) ?_
  clear hK K
  try simp only [Act.put, List.setIfInBounds_toArray, List.set_cons_zero, List.set_cons_succ]
  refine wpU_next (i := 22) rfl (by kernel_rfl) (fun K hK => ?_)
  go_simp
  refine hK.out _ _ (fun _ => hSA) ?_
  clear hK K
  try simp only [Act.put, List.setIfInBounds_toArray, List.set_cons_zero, List.set_cons_succ]
  refine wpU_take (i := 23) (v := ?_) rfl (by kernel_rfl) (by kernel_rfl) (fun _ _ _ h => h) _ _ _ _ (by kernel_rfl) (by kernel_rfl) (by kernel_rfl) (Or.inl ⟨by kernel_rfl, ?_⟩) hSA ?_
  rotate_left
  · (intro w9 hS9; obtain ⟨s0, s1⟩ := hS9; go_simp); (try with_reducible rfl)
  try simp only [Act.put, List.setIfInBounds_toArray, List.set_cons_zero, List.set_cons_succ]
  refine wpU_take (i := 24) (v := ?_) rfl (by kernel_rfl) (by kernel_rfl) (fun _ _ _ h => h) _ _ _ _ (by kernel_rfl) (by kernel_rfl) (by kernel_rfl) (Or.inl ⟨by kernel_rfl, ?_⟩) hSA ?_
  rotate_left
  · (intro w9 hS9; obtain ⟨s0, s1⟩ := hS9; go_simp); (try with_reducible rfl)
  try simp only [Act.put, List.setIfInBounds_toArray, List.set_cons_zero, List.set_cons_succ]
  refine wpU_take (i := 25) (v := ?_) rfl (by kernel_rfl) (by kernel_rfl) (fun _ _ _ h => h) _ _ _ _ (by kernel_rfl) (by kernel_rfl) (by kernel_rfl) (Or.inl ⟨by kernel_rfl, ?_⟩) hSA ?_
  rotate_left
  · (intro w9 hS9; obtain ⟨s0, s1⟩ := hS9; go_simp); (try with_reducible rfl)
  try simp only [Act.put, List.setIfInBounds_toArray, List.set_cons_zero, List.set_cons_succ]
  refine wpU_take (i := 26) (v := ?_) rfl (by kernel_rfl) (by kernel_rfl) (fun _ _ _ h => h) _ _ _ _ (by kernel_rfl) (by kernel_rfl) (by kernel_rfl) (Or.inl ⟨by kernel_rfl, ?_⟩) hSA ?_
  rotate_left
  · (intro w9 hS9; obtain ⟨s0, s1⟩ := hS9; go_simp); (try with_reducible rfl)
  try simp only [Act.put, List.setIfInBounds_toArray, List.set_cons_zero, List.set_cons_succ]
  refine wpU_take (i := 27) (v := ?_) rfl (by kernel_rfl) (by kernel_rfl) (fun _ _ _ h => h) _ _ _ _ (by kernel_rfl) (by kernel_rfl) (by kernel_rfl) (Or.inl ⟨by kernel_rfl, ?_⟩) hSA ?_
  rotate_left
  · (intro w9 hS9; obtain ⟨s0, s1⟩ := hS9; go_simp); (try with_reducible rfl)
  try simp only [Act.put, List.setIfInBounds_toArray, List.set_cons_zero, List.set_cons_succ]
  refine wpU_next (i := 28) rfl (by kernel_rfl) (fun K hK => ?_)
  go_simp
  refine (full_rep 7 wA).mono ?_
  rintro e wB ⟨gB, rfl, hRB, hfB⟩
  have hSB := And.intro (conv_row (hVA.fr hfB fun _ _ _ h => h)) (conv_row (hXA.fr hfB fun _ _ _ h => h))
  have cB := conv_row hRB.view
  refine hK.out _ _ (fun _ => hSB) ?_
  clear hK K
  try simp only [Act.put, List.setIfInBounds_toArray, List.set_cons_zero, List.set_cons_succ]
  refine wpU_next (i := 29) rfl (by kernel_rfl) (fun K hK => ?_)
  go_simp
  refine hK.out _ _ (fun _ => hSB) ?_
  clear hK K
  try simp only [Act.put, List.setIfInBounds_toArray, List.set_cons_zero, List.set_cons_succ]
  refine wpU_take (i := 30) (v := ?_) rfl (by kernel_rfl) (by kernel_rfl) (fun _ _ _ h => h) _ _ _ _ (by kernel_rfl) (by kernel_rfl) (by kernel_rfl) (Or.inl ⟨by kernel_rfl, ?_⟩) hSB ?_
  rotate_left
  · (intro w9 hS9; obtain ⟨s0, s1⟩ := hS9; go_simp); (try with_reducible rfl)
  try simp only [Act.put, List.setIfInBounds_toArray, List.set_cons_zero, List.set_cons_succ]
  refine wpU_take (i := 31) (v := ?_) rfl (by kernel_rfl) (by kernel_rfl) (fun _ _ _ h => h) _ _ _ _ (by kernel_rfl) (by kernel_rfl) (by kernel_rfl) (Or.inl ⟨by kernel_rfl, ?_⟩) hSB ?_
  rotate_left
  · (intro w9 hS9; obtain ⟨s0, s1⟩ := hS9; go_simp); (try with_reducible rfl)
  try simp only [Act.put, List.setIfInBounds_toArray, List.set_cons_zero, List.set_cons_succ]
  refine wpU_next (i := 32) rfl (by kernel_rfl) (fun K hK => ?_)
  go_simp
  refine hK.out _ _ (fun h => absurd rfl h.1) ?_
  refine wpU_done (by kernel_rfl) ?_ _
  clear hK K
  go_wp2
  go_ret
  exact ⟨rfl, (hF10.drew.then hfA).then hfB⟩
end Go.Proofs.Ytidjmjfoheagmaa

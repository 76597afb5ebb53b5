/- platter's small functions: full, New, Blocks, Cached, Count, there, asked. Conditions: the platter is a block of the program's own. -/
import Derived.Test.YtidjmjfoheagmaaQPlat
set_option linter.unusedSimpArgs false
set_option linter.unusedVariables false
namespace Go.Proofs.Ytidjmjfoheagmaa
open Go.RowKit

@[go_sem] theorem mk64 (w : World) : (Instr.makeSlice 22 (.int .i64 64) (.int .i64 64)).run Try.prog w = .ok (.slice (some ⟨w.heap.size, 0, none⟩) 64 64) (w.alloc (.cells (madeCells #[.int .u8 0] 64) 5)) := mk_u8 64 (by omega) w

/-- full: a block of one byte. -/
theorem full_ok (b : Nat) (w : World) : Calls Try.prog 12 #[.int .u8 (b : Int)] w fun e w' => ∃ g, e = .returned (.slice (some ⟨g, 0, none⟩) 64 64) ∧ Row w' (New w) 5 1 (.slice (some ⟨g, 0, none⟩) 64 64) 64 (bys (List.replicate 64 b)) ∧ Fr Nil w w' := by
  go_enter Try.func12, Try.ntmps12
  go_wp2_with fail
  obtain ⟨W1, hW1⟩ : ∃ W1, W1 = w.alloc (.cells (madeCells #[.int .u8 0] 64) 5) := ⟨_, rfl⟩
  have hx1 : Row W1 (New w) 5 1 (.slice (some ⟨w.heap.size, 0, none⟩) 64 64) 64 (bys (List.replicate 64 0)) := by rw [hW1]; exact zeros_row 64 (by omega) w
  have hf1 : Fr Nil w W1 := by rw [hW1]; exact (Fr.refl _ _).alloc _
  rw [← hW1]
  clear hW1
  go_loopw [4] (fun v4 wr => ∃ i : Nat, v4 = .int .i64 i ∧ i ≤ 64 ∧ Fr Nil w wr ∧ Row wr (New w) 5 1 (.slice (some ⟨w.heap.size, 0, none⟩) 64 64) 64 (bys (List.replicate i b ++ List.replicate (64 - i) 0))) (fun v4 _ => 64 - (intOf v4).toNat)
  case atStart => exact ⟨0, rfl, by omega, hf1, by simpa using hx1⟩
  case round =>
    obtain ⟨i, rfl, hi, hfr, hR⟩ := hrel
    by_cases hlt : i < 64
    · have hd : ((i : Int) < 64) = True := by simp; omega
      have hcell : wr.cell? ⟨w.heap.size, i, none⟩ = some (.int .u8 ((0 : Nat) : Int)) := hR.cell (by
        unfold bys
        rw [List.getElem?_map, List.getElem?_append_right (by simp), List.length_replicate, Nat.sub_self, show 64 - i = (63 - i) + 1 by omega, List.replicate_succ]
        rfl)
      have hfz : wr.frozen? ⟨w.heap.size, i, none⟩ = false := hR.frozen i
      have hset := hR.store i (.int .u8 (b : Int))
      have hfs : Fr Nil w (wr.setCell ⟨w.heap.size, i, none⟩ (.int .u8 (b : Int))) := hfr.setCell (a := ⟨w.heap.size, i, none⟩) (.inr (Nat.le_refl _)) _
      have heq : (bys (List.replicate i b ++ List.replicate (64 - i) 0)).set i (.int .u8 (b : Int)) = bys (List.replicate (i + 1) b ++ List.replicate (64 - (i + 1)) 0) := by
        unfold bys
        rw [show (Value.int .u8 (b : Int)) = (fun n : Nat => Value.int .u8 (n : Int)) b from rfl, ← List.map_set]
        congr 1
        rw [List.set_append_right _ _ (by simp), List.length_replicate, Nat.sub_self, show 64 - i = (63 - i) + 1 by omega, List.replicate_succ, List.set_cons_zero, show 64 - (i + 1) = 63 - i by omega, List.replicate_succ']
        simp
      rw [heq] at hset
      clear heq
      go_wp2
      go_roundw
      case rel => exact ⟨i + 1, by go_num, by omega, hfs, hset⟩
      case measure => simp [intOf]; omega
    · have hi64 : i = 64 := by omega
      subst hi64
      go_wp2
      go_ret
      exact ⟨w.heap.size, rfl, by simpa using hR, hfr⟩

theorem blocks_ok (T : Nat → Prop) (pb : Nat) (p : Pl) (w : World) (h : IsP w T pb p) :
    Calls Try.prog 18 #[.pointer (some ⟨pb, 0, none⟩)] w fun e w' => e = .returned (.int .i64 (p.bl.length : Int)) ∧ w = w' := by
  obtain ⟨h0, vb, vc, vf, h1, ⟨bs, h2, -⟩, h3, h4⟩ := h
  obtain ⟨A, c, rfl⟩ := h2.slice
  have hc : w.cell? ⟨pb, 0, none⟩ = some (.slice A p.bl.length c) := h1.cell 0
  clear h1 h2 h3 h4
  go_enter Try.func18, Try.ntmps18
  go_wp2
  go_ret
  exact ⟨rfl, rfl⟩
theorem cached_ok (T : Nat → Prop) (pb : Nat) (p : Pl) (w : World) (h : IsP w T pb p) :
    Calls Try.prog 14 #[.pointer (some ⟨pb, 0, none⟩)] w fun e w' => e = .returned (.int .i64 (p.ca.length : Int)) ∧ w = w' := by
  obtain ⟨h0, vb, vc, vf, h1, h2, ⟨cv, h3, -⟩, h4⟩ := h
  obtain ⟨A, c, rfl⟩ := h3.slice
  have hc : w.cell? ⟨pb, 1, none⟩ = some (.slice A p.ca.length c) := h1.cell 1
  clear h1 h2 h3 h4
  go_enter Try.func14, Try.ntmps14
  go_wp2
  go_ret
  exact ⟨rfl, rfl⟩
theorem there_ok (T : Nat → Prop) (pb : Nat) (p : Pl) (n : Int) (w : World) (h : IsP w T pb p) :
    Calls Try.prog 28 #[.pointer (some ⟨pb, 0, none⟩), .int .i64 n] w fun e w' => e = .returned (.bool (decide (0 ≤ n ∧ n < p.bl.length))) ∧ w = w' := by
  obtain ⟨h0, vb, vc, vf, h1, ⟨bs, h2, -⟩, h3, h4⟩ := h
  obtain ⟨A, c, rfl⟩ := h2.slice
  have hc : w.cell? ⟨pb, 0, none⟩ = some (.slice A p.bl.length c) := h1.cell 0
  clear h1 h2 h3 h4
  by_cases hn : 0 ≤ n
  · have hd : decide (0 ≤ n ∧ n < p.bl.length) = decide (n < p.bl.length) := by simp [hn]
    rw [hd]
    go_enter Try.func28, Try.ntmps28
    go_wp2
    go_ret
    exact ⟨rfl, rfl⟩
  · have hd : decide (0 ≤ n ∧ n < p.bl.length) = false := by simp [hn]
    rw [hd]
    go_enter Try.func28, Try.ntmps28
    go_wp2
    go_ret
    exact ⟨rfl, rfl⟩
theorem count_ok (T : Nat → Prop) (pb : Nat) (p : Pl) (op : Nat) (hop : op = 1 ∨ op = 2 ∨ op = 3) (w : World) (h : IsP w T pb p) :
    Calls Try.prog 19 #[.pointer (some ⟨pb, 0, none⟩), .int .i64 op] w fun e w' => e = .returned (.int .i64 (p.co op : Int)) ∧ w = w' := by
  obtain ⟨h0, vb, vc, vf, h1, h2, h3, h4⟩ := h
  have hc1 : w.cell? ⟨pb, 4, none⟩ = some (.int .i64 (p.co 1)) := h1.cell 4
  have hc2 : w.cell? ⟨pb, 5, none⟩ = some (.int .i64 (p.co 2)) := h1.cell 5
  have hc3 : w.cell? ⟨pb, 6, none⟩ = some (.int .i64 (p.co 3)) := h1.cell 6
  clear h1 h2 h3 h4
  rcases hop with rfl | rfl | rfl
  all_goals
    go_enter Try.func19, Try.ntmps19
    go_wp2
    go_ret
    exact ⟨rfl, rfl⟩
theorem count_none (p : Option Addr) (hp : p.isSome) (op : Int) (hop : op < 1 ∨ 3 < op) (w : World) :
    Calls Try.prog 19 #[.pointer p, .int .i64 op] w fun e w' => e = .returned (.int .i64 0) ∧ w = w' := by
  obtain ⟨a, rfl⟩ := Option.isSome_iff_exists.1 hp
  by_cases h1 : op < 1
  · go_enter Try.func19, Try.ntmps19
    go_wp2
    go_ret
    exact ⟨rfl, rfl⟩
  · have h2 : 3 < op := by omega
    go_enter Try.func19, Try.ntmps19
    go_wp2
    go_ret
    exact ⟨rfl, rfl⟩
end Go.Proofs.Ytidjmjfoheagmaa

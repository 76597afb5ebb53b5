/- platter's counting: slices.Contains of faults, asked. Conditions: the platter is a block of the program's own. -/
import Derived.Test.YtidjmjfoheagmaaQPlatB
set_option linter.unusedSimpArgs false
set_option linter.unusedVariables false
namespace Go.Proofs.Ytidjmjfoheagmaa
open Go.RowKit

theorem st_fault : Try.prog.stoodInHeld 46 = false := by kernel_rfl
theorem part0 (w : World) (x y : Value) : (part 3 #[x, y] 0).run Try.prog w = .ok x w := by kernel_rfl
theorem part1 (w : World) (x y : Value) : (part 3 #[x, y] 1).run Try.prog w = .ok y w := by kernel_rfl
theorem eqi (d : Nat) (a b : Int) (w : World) : (Op.equalIn (d+1) 3 (.int .i64 a) (.int .i64 b)).run Try.prog w = .ok (a == b) w := by
  simp [Op.equalIn, run_underlying Try.underlying3]
theorem eql_fault (a b c d : Int) (w : World) : (binOp .eql 46 (.agg #[.int .i64 a, .int .i64 b]) (.agg #[.int .i64 c, .int .i64 d])).run Try.prog w = .ok (.bool (a == c && b == d)) w := by
  have h : ∀ n : Nat, (Op.equalIn (n + 2) 46 (.agg #[.int .i64 a, .int .i64 b]) (.agg #[.int .i64 c, .int .i64 d])).run Try.prog w = .ok (a == c && b == d) w := fun n => by
    unfold Op.equalIn
    simp [run_underlying Try.underlying46, st_fault, part0, part1, eqi, Result.andThen]
    by_cases h1 : a = c <;> by_cases h2 : b = d <;> simp [part0, part1, eqi, h1, h2, Result.andThen]
  simp only [binOp]
  simp [Op.equal, Op.maxDepth, h 9998]

theorem index_ok (S : Nat → Prop) (v : Value) (n : Nat) (fa : List (Int × Int)) (hn : n = fa.length) (hl : n ≤ 1000000) (a b : Int) (w : World) (hv : View w S 2 v n (flatF fa)) :
    Calls Try.prog 48 #[v, .agg #[.int .i64 a, .int .i64 b]] w fun e w' => ∃ r : Int, e = .returned (.int .i64 r) ∧ (decide (0 ≤ r) = decide ((a, b) ∈ fa)) ∧ Fr Nil w w' := by
  subst hn
  obtain ⟨_, A, c, rfl, e1, e2, e3, e4, e5⟩ := id hv
  clear e3 e4
  go_enter Try.func48, Try.ntmps48
  go_wp2_with fail
  obtain ⟨W1, hW1⟩ : ∃ W1, W1 = w.alloc (.cells #[.int .i64 a, .int .i64 b] 46) := ⟨_, rfl⟩
  have hx1 : Blk W1 w.heap.size #[.int .i64 a, .int .i64 b] 46 := by rw [hW1]; exact Blk.new _ _ _
  have hf1 : Fr Nil w W1 := by rw [hW1]; exact (Fr.refl _ _).alloc _
  rw [← hW1]
  clear hW1
  go_loopw [8] (fun v8 wr => ∃ i : Nat, v8 = .int .i64 i ∧ i ≤ fa.length ∧ Fr Nil W1 wr ∧ (a, b) ∉ fa.take i) (fun v8 _ => fa.length - (intOf v8).toNat)
  case atStart => exact ⟨0, rfl, by omega, Fr.refl _ _, by simp⟩
  case round =>
    obtain ⟨i, rfl, hi, hfr, hno⟩ := hrel
    have Hno := hid hno; clear hno
    have hxr := hx1.fr hfr (fun h => h)
    have hc0 : wr.cell? ⟨w.heap.size, 0, none⟩ = some (.int .i64 a) := hxr.cell 0
    have hc1 : wr.cell? ⟨w.heap.size, 1, none⟩ = some (.int .i64 b) := hxr.cell 1
    by_cases hlt : i < fa.length
    · have hi2 : i < fa.length := hlt
      obtain ⟨bb, o, rfl, h5a, h5b, h5⟩ := e5 (by omega)
      obtain ⟨h6, h7⟩ := flatF_at fa i fa[i].1 fa[i].2 (List.getElem?_eq_getElem hi2)
      have hd0 : wr.cell? ⟨bb, o + i * 2, none⟩ = some (.int .i64 fa[i].1) := by rw [Nat.mul_comm]; exact hfr.cell (hf1.cell (h5 _ _ h6) id) id
      have hd1 : wr.cell? ⟨bb, o + i * 2 + 1, none⟩ = some (.int .i64 fa[i].2) := by rw [Nat.mul_comm]; exact hfr.cell (hf1.cell (h5 _ _ h7) id) id
      have htk : Hid (fa.take (i + 1) = fa.take i ++ [fa[i]]) := hid (List.take_succ_eq_append_getElem hi2)
      have hmem : Hid (fa[i] ∈ fa) := hid (List.getElem_mem hi2)
      generalize fa[i] = q at *
      obtain ⟨q1, q2⟩ := q
      clear h5 h6 h7 e5
      by_cases hq : a = q1 ∧ b = q2
      · have hval : ∀ w : World, (binOp .eql 46 (.agg #[.int .i64 a, .int .i64 b]) (.agg #[.int .i64 q1, .int .i64 q2])).run Try.prog w = .ok (.bool true) w := fun w => by rw [eql_fault]; simp [hq]
        have Hq := hid hq; clear hq
        go_wp2_with fail
        go_quiet (fail)
        go_wp2
        go_ret
        refine ⟨(i : Int), rfl, ?_, (hf1.then hfr).drewN _⟩
        have := hmem.out
        rw [← Hq.out.1, ← Hq.out.2] at this
        simp [this]
      · have hval : ∀ w : World, (binOp .eql 46 (.agg #[.int .i64 a, .int .i64 b]) (.agg #[.int .i64 q1, .int .i64 q2])).run Try.prog w = .ok (.bool false) w := fun w => by
          have h9 : (a == q1 && b == q2) = false := by
            cases h : (a == q1 && b == q2) with
            | false => rfl
            | true => simp at h; exact absurd h hq
          rw [eql_fault, h9]
        have Hq := hid hq; clear hq
        go_wp2_with fail
        go_quiet (fail)
        go_wp2
        go_roundw
        case rel =>
          refine ⟨i + 1, by go_num, by omega, hfr.drewN _, ?_⟩
          rw [htk.out]
          simp only [List.mem_append, List.mem_singleton, not_or]
          exact ⟨Hno.out, fun h => Hq.out (by simpa using h)⟩
        case measure => simp [intOf]; omega
    · go_wp2
      go_ret
      have hall : fa.take i = fa := List.take_of_length_le (by omega)
      refine ⟨-1, rfl, ?_, hf1.then hfr⟩
      rw [hall] at Hno
      simp [Hno.out]

theorem contains_ok (S : Nat → Prop) (v : Value) (n : Nat) (fa : List (Int × Int)) (hn : n = fa.length) (hl : n ≤ 1000000) (a b : Int) (w : World) (hv : View w S 2 v n (flatF fa)) :
    Calls Try.prog 47 #[v, .agg #[.int .i64 a, .int .i64 b]] w fun e w' => e = .returned (.bool (decide ((a, b) ∈ fa))) ∧ Fr Nil w w' := by
  go_enter Try.func47, Try.ntmps47
  go_wp2_with fail
  obtain ⟨W1, hW1⟩ : ∃ W1, W1 = w.alloc (.cells #[.int .i64 a, .int .i64 b] 46) := ⟨_, rfl⟩
  have hf1 : Fr Nil w W1 := by rw [hW1]; exact (Fr.refl _ _).alloc _
  rw [← hW1]
  clear hW1
  refine (index_ok S v n fa hn hl a b W1 (hv.fr hf1 fun _ _ _ h => h)).mono ?_
  rintro e w2 ⟨r, rfl, hr, hf2⟩
  have Hr := hid hr; clear hr
  go_wp2
  go_ret
  rw [← Hr.out]
  exact ⟨rfl, hf1.then hf2⟩

theorem IsP.drew {w : World} {T : Nat → Prop} {pb : Nat} {p : Pl} (h : IsP w T pb p) : IsP w.drew T pb p := h
theorem VT.drew {w : World} {T : Nat → Prop} {X : TypeId} {s n : Nat} {v : Value} {xs : List Value} (h : VT w T X s v n xs) : VT w.drew T X s v n xs := h
/-- asked: an operation is counted. -/
def AskPost (T : Nat → Prop) (pb : Nat) (p : Pl) (op : Nat) (w : World) (e : Ending) (w' : World) : Prop :=
  IsP w' T pb (p.ask op) ∧ Fr (fun k => k = pb) w w' ∧ e = if ((op : Int), ((p.si op + 1 : Nat) : Int)) ∈ p.fa then .panicked [{ v := .iface 84 (.agg #[]), recovered := false }] else .returned (.tuple #[])

set_option maxHeartbeats 1600000 in
theorem asked_ok (T : Nat → Prop) (pb : Nat) (p : Pl) (op : Nat) (hop : op = 1 ∨ op = 2 ∨ op = 3) (hc : p.co op ≤ 1000000 ∧ p.si op ≤ 1000000 ∧ p.fa.length ≤ 1000000) (w : World) (h : IsP w T pb p) :
    Calls Try.prog 45 #[.pointer (some ⟨pb, 0, none⟩), .int .i64 (op : Int)] w (AskPost T pb p op w) := by
  obtain ⟨h0, vb, vc, vf, h1, h2, h3, h4⟩ := h
  obtain ⟨_, A, c, rfl, -⟩ := id h4
  rcases hop with rfl | rfl | rfl
  · have hco : w.cell? ⟨pb, 4, none⟩ = some (.int .i64 (p.co 1)) := h1.cell 4
    have hz : w.frozen? ⟨pb, 4, none⟩ = false := h1.frozen 4
    have hwr : wrap64 ((p.co 1 : Int) + 1) = ((p.co 1 + 1 : Nat) : Int) := by unfold wrap64; omega
    have hwr2 : wrap64 ((p.si 1 : Int) + 1) = ((p.si 1 + 1 : Nat) : Int) := by unfold wrap64; omega
    go_enter Try.func45, Try.ntmps45
    go_wp2_with fail
    go_region
    obtain ⟨W1, hW1⟩ : ∃ W1, W1 = (w.setCell ⟨pb, 4, none⟩ (.int .i64 ((p.co 1 : Int) + 1))).drew := ⟨_, rfl⟩
    have hb1 : Blk W1 pb ((pcs vb vc (.slice A p.fa.length c) p.co p.si).setIfInBounds 4 (.int .i64 ((p.co 1 : Int) + 1))) 69 := by rw [hW1]; exact (h1.set 4 _).drew
    have hf1 : Fr (fun k => k = pb) w W1 := by rw [hW1]; exact ((Fr.refl (fun k => k = pb) w).setCell (a := ⟨pb, 4, none⟩) (.inl rfl) _).drew
    rw [← hW1]
    clear hW1
    have hcs : W1.cell? ⟨pb, 8, none⟩ = some (.int .i64 (p.si 1)) := hb1.cell 8
    have hzs : W1.frozen? ⟨pb, 8, none⟩ = false := hb1.frozen 8
    go_wp2_with fail
    go_region
    obtain ⟨W2, hW2⟩ : ∃ W2, W2 = (W1.setCell ⟨pb, 8, none⟩ (.int .i64 ((p.si 1 : Int) + 1))).drew := ⟨_, rfl⟩
    have hb2 : Blk W2 pb (((pcs vb vc (.slice A p.fa.length c) p.co p.si).setIfInBounds 4 (.int .i64 ((p.co 1 : Int) + 1))).setIfInBounds 8 (.int .i64 ((p.si 1 : Int) + 1))) 69 := by rw [hW2]; exact (hb1.set 8 _).drew
    have hf2 : Fr (fun k => k = pb) w W2 := by rw [hW2]; exact (hf1.setCell (a := ⟨pb, 8, none⟩) (.inl rfl) _).drew
    rw [← hW2]
    clear hW2
    have hcf : W2.cell? ⟨pb, 2, none⟩ = some (.slice A p.fa.length c) := hb2.cell 2
    have hcs2 : W2.cell? ⟨pb, 8, none⟩ = some (.int .i64 ((p.si 1 : Int) + 1)) := hb2.cell 8
    have hv2 : VT W2 T 46 2 (.slice A p.fa.length c) p.fa.length (flatF p.fa) := VT.fr (Y := 69) h4 hf2 (fun k _ _ e => by rw [e]; exact h1.typ) (by decide)
    have hP2 : IsP W2 T pb (p.ask 1) := IsP.own h0 h1 hf2 hb2 h2 h3 h4
    go_wp2_with fail
    go_region_with (go_at_call 47; refine (contains_ok _ _ _ p.fa rfl (by omega) 1 ((p.si 1 : Int) + 1) W2.drew hv2.drew).mono ?_; rintro e w3 ⟨rfl, hf3⟩)
    all_goals
      have hP3 := hP2.drew.fr hf3 (fun _ _ h => h)
      have hf4 : Fr (fun k => k = pb) w w3 := hf2.drew.then hf3.nil
      by_cases hin : (((1 : Nat) : Int), ((p.si 1 + 1 : Nat) : Int)) ∈ p.fa
      · have hd : decide (((1 : Int), (p.si 1 : Int) + 1) ∈ p.fa) = true := by simpa using hin
        have Hin := hid hin; clear hin
        rw [hd]
        go_wp2
        refine ⟨rfl, hP3, hf4, ?_⟩
        rw [if_pos Hin.out]
      · have hd : decide (((1 : Int), (p.si 1 : Int) + 1) ∈ p.fa) = false := by simpa using hin
        have Hin := hid hin; clear hin
        rw [hd]
        go_wp2
        go_end0
        refine ⟨hP3, hf4, ?_⟩
        rw [if_neg Hin.out]
  · have hco : w.cell? ⟨pb, 5, none⟩ = some (.int .i64 (p.co 2)) := h1.cell 5
    have hz : w.frozen? ⟨pb, 5, none⟩ = false := h1.frozen 5
    have hwr : wrap64 ((p.co 2 : Int) + 1) = ((p.co 2 + 1 : Nat) : Int) := by unfold wrap64; omega
    have hwr2 : wrap64 ((p.si 2 : Int) + 1) = ((p.si 2 + 1 : Nat) : Int) := by unfold wrap64; omega
    go_enter Try.func45, Try.ntmps45
    go_wp2_with fail
    go_region
    obtain ⟨W1, hW1⟩ : ∃ W1, W1 = (w.setCell ⟨pb, 5, none⟩ (.int .i64 ((p.co 2 : Int) + 1))).drew := ⟨_, rfl⟩
    have hb1 : Blk W1 pb ((pcs vb vc (.slice A p.fa.length c) p.co p.si).setIfInBounds 5 (.int .i64 ((p.co 2 : Int) + 1))) 69 := by rw [hW1]; exact (h1.set 5 _).drew
    have hf1 : Fr (fun k => k = pb) w W1 := by rw [hW1]; exact ((Fr.refl (fun k => k = pb) w).setCell (a := ⟨pb, 5, none⟩) (.inl rfl) _).drew
    rw [← hW1]
    clear hW1
    have hcs : W1.cell? ⟨pb, 9, none⟩ = some (.int .i64 (p.si 2)) := hb1.cell 9
    have hzs : W1.frozen? ⟨pb, 9, none⟩ = false := hb1.frozen 9
    go_wp2_with fail
    go_region
    obtain ⟨W2, hW2⟩ : ∃ W2, W2 = (W1.setCell ⟨pb, 9, none⟩ (.int .i64 ((p.si 2 : Int) + 1))).drew := ⟨_, rfl⟩
    have hb2 : Blk W2 pb (((pcs vb vc (.slice A p.fa.length c) p.co p.si).setIfInBounds 5 (.int .i64 ((p.co 2 : Int) + 1))).setIfInBounds 9 (.int .i64 ((p.si 2 : Int) + 1))) 69 := by rw [hW2]; exact (hb1.set 9 _).drew
    have hf2 : Fr (fun k => k = pb) w W2 := by rw [hW2]; exact (hf1.setCell (a := ⟨pb, 9, none⟩) (.inl rfl) _).drew
    rw [← hW2]
    clear hW2
    have hcf : W2.cell? ⟨pb, 2, none⟩ = some (.slice A p.fa.length c) := hb2.cell 2
    have hcs2 : W2.cell? ⟨pb, 9, none⟩ = some (.int .i64 ((p.si 2 : Int) + 1)) := hb2.cell 9
    have hv2 : VT W2 T 46 2 (.slice A p.fa.length c) p.fa.length (flatF p.fa) := VT.fr (Y := 69) h4 hf2 (fun k _ _ e => by rw [e]; exact h1.typ) (by decide)
    have hP2 : IsP W2 T pb (p.ask 2) := IsP.own h0 h1 hf2 hb2 h2 h3 h4
    go_wp2_with fail
    go_region_with (go_at_call 47; refine (contains_ok _ _ _ p.fa rfl (by omega) 2 ((p.si 2 : Int) + 1) W2.drew hv2.drew).mono ?_; rintro e w3 ⟨rfl, hf3⟩)
    all_goals
      have hP3 := hP2.drew.fr hf3 (fun _ _ h => h)
      have hf4 : Fr (fun k => k = pb) w w3 := hf2.drew.then hf3.nil
      by_cases hin : (((2 : Nat) : Int), ((p.si 2 + 1 : Nat) : Int)) ∈ p.fa
      · have hd : decide (((2 : Int), (p.si 2 : Int) + 1) ∈ p.fa) = true := by simpa using hin
        have Hin := hid hin; clear hin
        rw [hd]
        go_wp2
        refine ⟨rfl, hP3, hf4, ?_⟩
        rw [if_pos Hin.out]
      · have hd : decide (((2 : Int), (p.si 2 : Int) + 1) ∈ p.fa) = false := by simpa using hin
        have Hin := hid hin; clear hin
        rw [hd]
        go_wp2
        go_end0
        refine ⟨hP3, hf4, ?_⟩
        rw [if_neg Hin.out]
  · have hco : w.cell? ⟨pb, 6, none⟩ = some (.int .i64 (p.co 3)) := h1.cell 6
    have hz : w.frozen? ⟨pb, 6, none⟩ = false := h1.frozen 6
    have hwr : wrap64 ((p.co 3 : Int) + 1) = ((p.co 3 + 1 : Nat) : Int) := by unfold wrap64; omega
    have hwr2 : wrap64 ((p.si 3 : Int) + 1) = ((p.si 3 + 1 : Nat) : Int) := by unfold wrap64; omega
    go_enter Try.func45, Try.ntmps45
    go_wp2_with fail
    go_region
    obtain ⟨W1, hW1⟩ : ∃ W1, W1 = (w.setCell ⟨pb, 6, none⟩ (.int .i64 ((p.co 3 : Int) + 1))).drew := ⟨_, rfl⟩
    have hb1 : Blk W1 pb ((pcs vb vc (.slice A p.fa.length c) p.co p.si).setIfInBounds 6 (.int .i64 ((p.co 3 : Int) + 1))) 69 := by rw [hW1]; exact (h1.set 6 _).drew
    have hf1 : Fr (fun k => k = pb) w W1 := by rw [hW1]; exact ((Fr.refl (fun k => k = pb) w).setCell (a := ⟨pb, 6, none⟩) (.inl rfl) _).drew
    rw [← hW1]
    clear hW1
    have hcs : W1.cell? ⟨pb, 10, none⟩ = some (.int .i64 (p.si 3)) := hb1.cell 10
    have hzs : W1.frozen? ⟨pb, 10, none⟩ = false := hb1.frozen 10
    go_wp2_with fail
    go_region
    obtain ⟨W2, hW2⟩ : ∃ W2, W2 = (W1.setCell ⟨pb, 10, none⟩ (.int .i64 ((p.si 3 : Int) + 1))).drew := ⟨_, rfl⟩
    have hb2 : Blk W2 pb (((pcs vb vc (.slice A p.fa.length c) p.co p.si).setIfInBounds 6 (.int .i64 ((p.co 3 : Int) + 1))).setIfInBounds 10 (.int .i64 ((p.si 3 : Int) + 1))) 69 := by rw [hW2]; exact (hb1.set 10 _).drew
    have hf2 : Fr (fun k => k = pb) w W2 := by rw [hW2]; exact (hf1.setCell (a := ⟨pb, 10, none⟩) (.inl rfl) _).drew
    rw [← hW2]
    clear hW2
    have hcf : W2.cell? ⟨pb, 2, none⟩ = some (.slice A p.fa.length c) := hb2.cell 2
    have hcs2 : W2.cell? ⟨pb, 10, none⟩ = some (.int .i64 ((p.si 3 : Int) + 1)) := hb2.cell 10
    have hv2 : VT W2 T 46 2 (.slice A p.fa.length c) p.fa.length (flatF p.fa) := VT.fr (Y := 69) h4 hf2 (fun k _ _ e => by rw [e]; exact h1.typ) (by decide)
    have hP2 : IsP W2 T pb (p.ask 3) := IsP.own h0 h1 hf2 hb2 h2 h3 h4
    go_wp2_with fail
    go_region_with (go_at_call 47; refine (contains_ok _ _ _ p.fa rfl (by omega) 3 ((p.si 3 : Int) + 1) W2.drew hv2.drew).mono ?_; rintro e w3 ⟨rfl, hf3⟩)
    all_goals
      have hP3 := hP2.drew.fr hf3 (fun _ _ h => h)
      have hf4 : Fr (fun k => k = pb) w w3 := hf2.drew.then hf3.nil
      by_cases hin : (((3 : Nat) : Int), ((p.si 3 + 1 : Nat) : Int)) ∈ p.fa
      · have hd : decide (((3 : Int), (p.si 3 : Int) + 1) ∈ p.fa) = true := by simpa using hin
        have Hin := hid hin; clear hin
        rw [hd]
        go_wp2
        refine ⟨rfl, hP3, hf4, ?_⟩
        rw [if_pos Hin.out]
      · have hd : decide (((3 : Int), (p.si 3 : Int) + 1) ∈ p.fa) = false := by simpa using hin
        have Hin := hid hin; clear hin
        rw [hd]
        go_wp2
        go_end0
        refine ⟨hP3, hf4, ?_⟩
        rw [if_neg Hin.out]
end Go.Proofs.Ytidjmjfoheagmaa

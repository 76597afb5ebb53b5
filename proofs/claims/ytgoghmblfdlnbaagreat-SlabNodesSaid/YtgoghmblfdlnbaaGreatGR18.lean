/- The texts VPlatC, VPlatT, VPlatW of this proof, one behind the other. Conditions: those of each. -/
import Derived.Test.YtgoghmblfdlnbaaGreatGR3
import Derived.Test.YtgoghmblfdlnbaaGreatGR12
import Derived.Test.YtgoghmblfdlnbaaGreatGR17
section
/- platter's counting: slices.Contains of faults, asked. Conditions: the platter is a block of the program's own. -/
set_option linter.unusedSimpArgs false
set_option linter.unusedVariables false
namespace Go.Proofs.YtgoghmblfdlnbaaGreat
open Go.RowKit

theorem st_fault : Tryz.prog.stoodInHeld 166 = false := by kernel_rfl
theorem part0 (w : World) (x y : Value) : (part 3 #[x, y] 0).run Tryz.prog w = .ok x w := by kernel_rfl
theorem part1 (w : World) (x y : Value) : (part 3 #[x, y] 1).run Tryz.prog w = .ok y w := by kernel_rfl
theorem eqi (d : Nat) (a b : Int) (w : World) : (Op.equalIn (d+1) 3 (.int .i64 a) (.int .i64 b)).run Tryz.prog w = .ok (a == b) w := by
  simp [Op.equalIn, run_underlying Tryz.underlying3]
theorem eql_fault (a b c d : Int) (w : World) : (binOp .eql 166 (.agg #[.int .i64 a, .int .i64 b]) (.agg #[.int .i64 c, .int .i64 d])).run Tryz.prog w = .ok (.bool (a == c && b == d)) w := by
  have h : ∀ n : Nat, (Op.equalIn (n + 2) 166 (.agg #[.int .i64 a, .int .i64 b]) (.agg #[.int .i64 c, .int .i64 d])).run Tryz.prog w = .ok (a == c && b == d) w := fun n => by
    unfold Op.equalIn
    simp [run_underlying Tryz.underlying166, st_fault, part0, part1, eqi, Result.andThen]
    by_cases h1 : a = c <;> by_cases h2 : b = d <;> simp [part0, part1, eqi, h1, h2, Result.andThen]
  simp only [binOp]
  simp [Op.equal, Op.maxDepth, h 9998]

theorem pindex_ok (S : Nat → Prop) (v : Value) (n : Nat) (fa : List (Int × Int)) (hn : n = fa.length) (hl : n ≤ 1000000) (a b : Int) (w : World) (hv : View w S 2 v n (flatF fa)) :
    Calls Tryz.prog 116 #[v, .agg #[.int .i64 a, .int .i64 b]] w fun e w' => ∃ r : Int, e = .returned (.int .i64 r) ∧ (decide (0 ≤ r) = decide ((a, b) ∈ fa)) ∧ Fr Nil w w' := by
  subst hn
  obtain ⟨_, A, c, rfl, e1, e2, e3, e4, e5⟩ := id hv
  clear e3 e4
  go_enter Tryz.func116, Tryz.ntmps116
  go_wp2_with fail
  obtain ⟨W1, hW1⟩ : ∃ W1, W1 = w.alloc (.cells #[.int .i64 a, .int .i64 b] 166) := ⟨_, rfl⟩
  have hx1 : Blk W1 w.heap.size #[.int .i64 a, .int .i64 b] 166 := by rw [hW1]; exact Blk.new _ _ _
  have hf1 : Fr Nil w W1 := by rw [hW1]; exact (Fr.refl _ _).alloc _
  rw [← hW1]
  clear hW1
  go_loopw [8] (fun v8 wr => ∃ i : Nat, v8 = .int .i64 i ∧ i ≤ fa.length ∧ Fr Nil W1 wr ∧ (a, b) ∉ fa.take i) (fun v8 _ => fa.length - (intOf v8).toNat)
  case atStart => exact ⟨0, rfl, by omega, Fr.refl _ _, by simp⟩
  case round =>
    obtain ⟨i, rfl, hi, hfr, hno⟩ := hrel
    have Hno := hid hno; clear hno
    have hxr := hx1.fr hfr (fun h => h)
    have hc0 : wr.cell? ⟨w.heap.size, 0, none⟩ = some (.int .i64 a) := hxr.cell 0
    have hc1 : wr.cell? ⟨w.heap.size, 1, none⟩ = some (.int .i64 b) := hxr.cell 1
    by_cases hlt : i < fa.length
    · have hi2 : i < fa.length := hlt
      obtain ⟨bb, o, rfl, h5a, h5b, h5⟩ := e5 (by omega)
      obtain ⟨h6, h7⟩ := flatF_at fa i fa[i].1 fa[i].2 (List.getElem?_eq_getElem hi2)
      have hd0 : wr.cell? ⟨bb, o + i * 2, none⟩ = some (.int .i64 fa[i].1) := by rw [Nat.mul_comm]; exact hfr.cell (hf1.cell (h5 _ _ h6) id) id
      have hd1 : wr.cell? ⟨bb, o + i * 2 + 1, none⟩ = some (.int .i64 fa[i].2) := by rw [Nat.mul_comm]; exact hfr.cell (hf1.cell (h5 _ _ h7) id) id
      have htk : Hid (fa.take (i + 1) = fa.take i ++ [fa[i]]) := hid (List.take_succ_eq_append_getElem hi2)
      have hmem : Hid (fa[i] ∈ fa) := hid (List.getElem_mem hi2)
      generalize fa[i] = q at *
      obtain ⟨q1, q2⟩ := q
      clear h5 h6 h7 e5
      by_cases hq : a = q1 ∧ b = q2
      · have hval : ∀ w : World, (binOp .eql 166 (.agg #[.int .i64 a, .int .i64 b]) (.agg #[.int .i64 q1, .int .i64 q2])).run Tryz.prog w = .ok (.bool true) w := fun w => by rw [eql_fault]; simp [hq]
        have Hq := hid hq; clear hq
        go_wp2_with fail
        go_quiet (fail)
        go_wp2
        go_ret
        refine ⟨(i : Int), rfl, ?_, (hf1.then hfr).drewN _⟩
        have := hmem.out
        rw [← Hq.out.1, ← Hq.out.2] at this
        simp [this]
      · have hval : ∀ w : World, (binOp .eql 166 (.agg #[.int .i64 a, .int .i64 b]) (.agg #[.int .i64 q1, .int .i64 q2])).run Tryz.prog w = .ok (.bool false) w := fun w => by
          have h9 : (a == q1 && b == q2) = false := by
            cases h : (a == q1 && b == q2) with
            | false => rfl
            | true => simp at h; exact absurd h hq
          rw [eql_fault, h9]
        have Hq := hid hq; clear hq
        go_wp2_with fail
        go_quiet (fail)
        go_wp2
        go_roundw
        case rel =>
          refine ⟨i + 1, by go_num, by omega, hfr.drewN _, ?_⟩
          rw [htk.out]
          simp only [List.mem_append, List.mem_singleton, not_or]
          exact ⟨Hno.out, fun h => Hq.out (by simpa using h)⟩
        case measure => simp [intOf]; omega
    · go_wp2
      go_ret
      have hall : fa.take i = fa := List.take_of_length_le (by omega)
      refine ⟨-1, rfl, ?_, hf1.then hfr⟩
      rw [hall] at Hno
      simp [Hno.out]

theorem contains_ok (S : Nat → Prop) (v : Value) (n : Nat) (fa : List (Int × Int)) (hn : n = fa.length) (hl : n ≤ 1000000) (a b : Int) (w : World) (hv : View w S 2 v n (flatF fa)) :
    Calls Tryz.prog 103 #[v, .agg #[.int .i64 a, .int .i64 b]] w fun e w' => e = .returned (.bool (decide ((a, b) ∈ fa))) ∧ Fr Nil w w' := by
  go_enter Tryz.func103, Tryz.ntmps103
  go_wp2_with fail
  obtain ⟨W1, hW1⟩ : ∃ W1, W1 = w.alloc (.cells #[.int .i64 a, .int .i64 b] 166) := ⟨_, rfl⟩
  have hf1 : Fr Nil w W1 := by rw [hW1]; exact (Fr.refl _ _).alloc _
  rw [← hW1]
  clear hW1
  refine (pindex_ok S v n fa hn hl a b W1 (hv.fr hf1 fun _ _ _ h => h)).mono ?_
  rintro e w2 ⟨r, rfl, hr, hf2⟩
  have Hr := hid hr; clear hr
  go_wp2
  go_ret
  rw [← Hr.out]
  exact ⟨rfl, hf1.then hf2⟩

theorem IsP.drew {w : World} {T : Nat → Prop} {pb : Nat} {p : Pl} (h : IsP w T pb p) : IsP w.drew T pb p := h
theorem VT.drew {w : World} {T : Nat → Prop} {X : TypeId} {s n : Nat} {v : Value} {xs : List Value} (h : VT w T X s v n xs) : VT w.drew T X s v n xs := h
/-- asked: an operation is counted. -/
def AskPost (T : Nat → Prop) (pb : Nat) (p : Pl) (op : Nat) (w : World) (e : Ending) (w' : World) : Prop :=
  IsP w' T pb (p.ask op) ∧ Fr (fun k => k = pb) w w' ∧ e = if ((op : Int), ((p.si op + 1 : Nat) : Int)) ∈ p.fa then .panicked [{ v := .iface 144 (.agg #[]), recovered := false }] else .returned (.tuple #[])

set_option maxHeartbeats 1600000 in
theorem asked_ok (T : Nat → Prop) (pb : Nat) (p : Pl) (op : Nat) (hop : op = 1 ∨ op = 2 ∨ op = 3) (hc : p.co op ≤ 1000000 ∧ p.si op ≤ 1000000 ∧ p.fa.length ≤ 1000000) (w : World) (h : IsP w T pb p) :
    Calls Tryz.prog 82 #[.pointer (some ⟨pb, 0, none⟩), .int .i64 (op : Int)] w (AskPost T pb p op w) := by
  obtain ⟨h0, vb, vc, vf, h1, h2, h3, h4⟩ := h
  obtain ⟨_, A, c, rfl, -⟩ := id h4
  rcases hop with rfl | rfl | rfl
  · have hco : w.cell? ⟨pb, 4, none⟩ = some (.int .i64 (p.co 1)) := h1.cell 4
    have hz : w.frozen? ⟨pb, 4, none⟩ = false := h1.frozen 4
    have hwr : wrap64 ((p.co 1 : Int) + 1) = ((p.co 1 + 1 : Nat) : Int) := by unfold wrap64; omega
    have hwr2 : wrap64 ((p.si 1 : Int) + 1) = ((p.si 1 + 1 : Nat) : Int) := by unfold wrap64; omega
    go_enter Tryz.func82, Tryz.ntmps82
    go_wp2_with fail
    go_region
    obtain ⟨W1, hW1⟩ : ∃ W1, W1 = (w.setCell ⟨pb, 4, none⟩ (.int .i64 ((p.co 1 : Int) + 1))).drew := ⟨_, rfl⟩
    have hb1 : Blk W1 pb ((pcs vb vc (.slice A p.fa.length c) p.co p.si).setIfInBounds 4 (.int .i64 ((p.co 1 : Int) + 1))) 114 := by rw [hW1]; exact (h1.set 4 _).drew
    have hf1 : Fr (fun k => k = pb) w W1 := by rw [hW1]; exact ((Fr.refl (fun k => k = pb) w).setCell (a := ⟨pb, 4, none⟩) (.inl rfl) _).drew
    rw [← hW1]
    clear hW1
    have hcs : W1.cell? ⟨pb, 8, none⟩ = some (.int .i64 (p.si 1)) := hb1.cell 8
    have hzs : W1.frozen? ⟨pb, 8, none⟩ = false := hb1.frozen 8
    go_wp2_with fail
    go_region
    obtain ⟨W2, hW2⟩ : ∃ W2, W2 = (W1.setCell ⟨pb, 8, none⟩ (.int .i64 ((p.si 1 : Int) + 1))).drew := ⟨_, rfl⟩
    have hb2 : Blk W2 pb (((pcs vb vc (.slice A p.fa.length c) p.co p.si).setIfInBounds 4 (.int .i64 ((p.co 1 : Int) + 1))).setIfInBounds 8 (.int .i64 ((p.si 1 : Int) + 1))) 114 := by rw [hW2]; exact (hb1.set 8 _).drew
    have hf2 : Fr (fun k => k = pb) w W2 := by rw [hW2]; exact (hf1.setCell (a := ⟨pb, 8, none⟩) (.inl rfl) _).drew
    rw [← hW2]
    clear hW2
    have hcf : W2.cell? ⟨pb, 2, none⟩ = some (.slice A p.fa.length c) := hb2.cell 2
    have hcs2 : W2.cell? ⟨pb, 8, none⟩ = some (.int .i64 ((p.si 1 : Int) + 1)) := hb2.cell 8
    have hv2 : VT W2 T 166 2 (.slice A p.fa.length c) p.fa.length (flatF p.fa) := VT.fr (Y := 114) h4 hf2 (fun k _ _ e => by rw [e]; exact h1.typ) (by decide)
    have hP2 : IsP W2 T pb (p.ask 1) := IsP.own h0 h1 hf2 hb2 h2 h3 h4
    go_wp2_with fail
    go_region_with (go_at_call 103; refine (contains_ok _ _ _ p.fa rfl (by omega) 1 ((p.si 1 : Int) + 1) W2.drew hv2.drew).mono ?_; rintro e w3 ⟨rfl, hf3⟩)
    all_goals
      have hP3 := hP2.drew.fr hf3 (fun _ _ h => h)
      have hf4 : Fr (fun k => k = pb) w w3 := hf2.drew.then hf3.nil
      by_cases hin : (((1 : Nat) : Int), ((p.si 1 + 1 : Nat) : Int)) ∈ p.fa
      · have hd : decide (((1 : Int), (p.si 1 : Int) + 1) ∈ p.fa) = true := by simpa using hin
        have Hin := hid hin; clear hin
        rw [hd]
        go_wp2
        refine ⟨rfl, hP3, hf4, ?_⟩
        rw [if_pos Hin.out]
      · have hd : decide (((1 : Int), (p.si 1 : Int) + 1) ∈ p.fa) = false := by simpa using hin
        have Hin := hid hin; clear hin
        rw [hd]
        go_wp2
        go_end0
        refine ⟨hP3, hf4, ?_⟩
        rw [if_neg Hin.out]
  · have hco : w.cell? ⟨pb, 5, none⟩ = some (.int .i64 (p.co 2)) := h1.cell 5
    have hz : w.frozen? ⟨pb, 5, none⟩ = false := h1.frozen 5
    have hwr : wrap64 ((p.co 2 : Int) + 1) = ((p.co 2 + 1 : Nat) : Int) := by unfold wrap64; omega
    have hwr2 : wrap64 ((p.si 2 : Int) + 1) = ((p.si 2 + 1 : Nat) : Int) := by unfold wrap64; omega
    go_enter Tryz.func82, Tryz.ntmps82
    go_wp2_with fail
    go_region
    obtain ⟨W1, hW1⟩ : ∃ W1, W1 = (w.setCell ⟨pb, 5, none⟩ (.int .i64 ((p.co 2 : Int) + 1))).drew := ⟨_, rfl⟩
    have hb1 : Blk W1 pb ((pcs vb vc (.slice A p.fa.length c) p.co p.si).setIfInBounds 5 (.int .i64 ((p.co 2 : Int) + 1))) 114 := by rw [hW1]; exact (h1.set 5 _).drew
    have hf1 : Fr (fun k => k = pb) w W1 := by rw [hW1]; exact ((Fr.refl (fun k => k = pb) w).setCell (a := ⟨pb, 5, none⟩) (.inl rfl) _).drew
    rw [← hW1]
    clear hW1
    have hcs : W1.cell? ⟨pb, 9, none⟩ = some (.int .i64 (p.si 2)) := hb1.cell 9
    have hzs : W1.frozen? ⟨pb, 9, none⟩ = false := hb1.frozen 9
    go_wp2_with fail
    go_region
    obtain ⟨W2, hW2⟩ : ∃ W2, W2 = (W1.setCell ⟨pb, 9, none⟩ (.int .i64 ((p.si 2 : Int) + 1))).drew := ⟨_, rfl⟩
    have hb2 : Blk W2 pb (((pcs vb vc (.slice A p.fa.length c) p.co p.si).setIfInBounds 5 (.int .i64 ((p.co 2 : Int) + 1))).setIfInBounds 9 (.int .i64 ((p.si 2 : Int) + 1))) 114 := by rw [hW2]; exact (hb1.set 9 _).drew
    have hf2 : Fr (fun k => k = pb) w W2 := by rw [hW2]; exact (hf1.setCell (a := ⟨pb, 9, none⟩) (.inl rfl) _).drew
    rw [← hW2]
    clear hW2
    have hcf : W2.cell? ⟨pb, 2, none⟩ = some (.slice A p.fa.length c) := hb2.cell 2
    have hcs2 : W2.cell? ⟨pb, 9, none⟩ = some (.int .i64 ((p.si 2 : Int) + 1)) := hb2.cell 9
    have hv2 : VT W2 T 166 2 (.slice A p.fa.length c) p.fa.length (flatF p.fa) := VT.fr (Y := 114) h4 hf2 (fun k _ _ e => by rw [e]; exact h1.typ) (by decide)
    have hP2 : IsP W2 T pb (p.ask 2) := IsP.own h0 h1 hf2 hb2 h2 h3 h4
    go_wp2_with fail
    go_region_with (go_at_call 103; refine (contains_ok _ _ _ p.fa rfl (by omega) 2 ((p.si 2 : Int) + 1) W2.drew hv2.drew).mono ?_; rintro e w3 ⟨rfl, hf3⟩)
    all_goals
      have hP3 := hP2.drew.fr hf3 (fun _ _ h => h)
      have hf4 : Fr (fun k => k = pb) w w3 := hf2.drew.then hf3.nil
      by_cases hin : (((2 : Nat) : Int), ((p.si 2 + 1 : Nat) : Int)) ∈ p.fa
      · have hd : decide (((2 : Int), (p.si 2 : Int) + 1) ∈ p.fa) = true := by simpa using hin
        have Hin := hid hin; clear hin
        rw [hd]
        go_wp2
        refine ⟨rfl, hP3, hf4, ?_⟩
        rw [if_pos Hin.out]
      · have hd : decide (((2 : Int), (p.si 2 : Int) + 1) ∈ p.fa) = false := by simpa using hin
        have Hin := hid hin; clear hin
        rw [hd]
        go_wp2
        go_end0
        refine ⟨hP3, hf4, ?_⟩
        rw [if_neg Hin.out]
  · have hco : w.cell? ⟨pb, 6, none⟩ = some (.int .i64 (p.co 3)) := h1.cell 6
    have hz : w.frozen? ⟨pb, 6, none⟩ = false := h1.frozen 6
    have hwr : wrap64 ((p.co 3 : Int) + 1) = ((p.co 3 + 1 : Nat) : Int) := by unfold wrap64; omega
    have hwr2 : wrap64 ((p.si 3 : Int) + 1) = ((p.si 3 + 1 : Nat) : Int) := by unfold wrap64; omega
    go_enter Tryz.func82, Tryz.ntmps82
    go_wp2_with fail
    go_region
    obtain ⟨W1, hW1⟩ : ∃ W1, W1 = (w.setCell ⟨pb, 6, none⟩ (.int .i64 ((p.co 3 : Int) + 1))).drew := ⟨_, rfl⟩
    have hb1 : Blk W1 pb ((pcs vb vc (.slice A p.fa.length c) p.co p.si).setIfInBounds 6 (.int .i64 ((p.co 3 : Int) + 1))) 114 := by rw [hW1]; exact (h1.set 6 _).drew
    have hf1 : Fr (fun k => k = pb) w W1 := by rw [hW1]; exact ((Fr.refl (fun k => k = pb) w).setCell (a := ⟨pb, 6, none⟩) (.inl rfl) _).drew
    rw [← hW1]
    clear hW1
    have hcs : W1.cell? ⟨pb, 10, none⟩ = some (.int .i64 (p.si 3)) := hb1.cell 10
    have hzs : W1.frozen? ⟨pb, 10, none⟩ = false := hb1.frozen 10
    go_wp2_with fail
    go_region
    obtain ⟨W2, hW2⟩ : ∃ W2, W2 = (W1.setCell ⟨pb, 10, none⟩ (.int .i64 ((p.si 3 : Int) + 1))).drew := ⟨_, rfl⟩
    have hb2 : Blk W2 pb (((pcs vb vc (.slice A p.fa.length c) p.co p.si).setIfInBounds 6 (.int .i64 ((p.co 3 : Int) + 1))).setIfInBounds 10 (.int .i64 ((p.si 3 : Int) + 1))) 114 := by rw [hW2]; exact (hb1.set 10 _).drew
    have hf2 : Fr (fun k => k = pb) w W2 := by rw [hW2]; exact (hf1.setCell (a := ⟨pb, 10, none⟩) (.inl rfl) _).drew
    rw [← hW2]
    clear hW2
    have hcf : W2.cell? ⟨pb, 2, none⟩ = some (.slice A p.fa.length c) := hb2.cell 2
    have hcs2 : W2.cell? ⟨pb, 10, none⟩ = some (.int .i64 ((p.si 3 : Int) + 1)) := hb2.cell 10
    have hv2 : VT W2 T 166 2 (.slice A p.fa.length c) p.fa.length (flatF p.fa) := VT.fr (Y := 114) h4 hf2 (fun k _ _ e => by rw [e]; exact h1.typ) (by decide)
    have hP2 : IsP W2 T pb (p.ask 3) := IsP.own h0 h1 hf2 hb2 h2 h3 h4
    go_wp2_with fail
    go_region_with (go_at_call 103; refine (contains_ok _ _ _ p.fa rfl (by omega) 3 ((p.si 3 : Int) + 1) W2.drew hv2.drew).mono ?_; rintro e w3 ⟨rfl, hf3⟩)
    all_goals
      have hP3 := hP2.drew.fr hf3 (fun _ _ h => h)
      have hf4 : Fr (fun k => k = pb) w w3 := hf2.drew.then hf3.nil
      by_cases hin : (((3 : Nat) : Int), ((p.si 3 + 1 : Nat) : Int)) ∈ p.fa
      · have hd : decide (((3 : Int), (p.si 3 : Int) + 1) ∈ p.fa) = true := by simpa using hin
        have Hin := hid hin; clear hin
        rw [hd]
        go_wp2
        refine ⟨rfl, hP3, hf4, ?_⟩
        rw [if_pos Hin.out]
      · have hd : decide (((3 : Int), (p.si 3 : Int) + 1) ∈ p.fa) = false := by simpa using hin
        have Hin := hid hin; clear hin
        rw [hd]
        go_wp2
        go_end0
        refine ⟨hP3, hf4, ?_⟩
        rw [if_neg Hin.out]
end Go.Proofs.YtgoghmblfdlnbaaGreat
end

section
/- platter's tried: an operation that is counted, and may fail. Conditions: the platter is a block of the program's own. -/
set_option linter.unusedSimpArgs false
set_option linter.unusedVariables false
namespace Go.Proofs.YtgoghmblfdlnbaaGreat
open Go.RowKit

def brk : List PanicEntry := [{ v := .iface 144 (.agg #[]), recovered := false }]
@[go_sem] theorem assert_broken (w : World) : (Instr.typeAssert (.iface 144 (.agg #[])) 20 144 true).run Tryz.prog w = .ok (.tuple #[.agg #[], .bool true]) w := by kernel_rfl

/-- The deferred function, where nothing panics. -/
theorem tried_ret (eb : Nat) (w : World) : CallsD Tryz.prog 81 #[.pointer (some ⟨eb, 0, none⟩)] .returning w fun e u' w' => e = .returned (.tuple #[]) ∧ u' = .returning ∧ w = w' := by
  refine callsD_of_wpS Tryz.func81 rfl fun c₀ cs hu => ?_
  simp only [Tryz.ntmps81, List.size_toArray, List.length_cons, List.length_nil, Nat.reduceAdd, Nat.reduceSub, Array.replicate_succ, Array.replicate_zero, List.push_toArray, List.append_toArray, List.nil_append, List.cons_append]
  apply wpS_seq
  apply wpS_region
  simp [wpOpsS, go_sem, recoverD, hu, Tryz.ntmps81, Exit.thenS]
  refine wpS_plain (fun e a' w' => e = .normal ∧ a'.defers = [] ∧ w = w') (fun Q' hQ => ?_) ?_
  · go_wp2
  · rintro e a' w' ⟨rfl, h0, rfl⟩
    cases c₀
    simp_all [bodyPostS, results, Tryz.results81]

/-- .. where a fault was. -/
theorem tried_brk (eb : Nat) (x : Int) (older : List PanicEntry) (w : World) (hb : Blk w eb #[.int .i64 x] 40) : CallsD Tryz.prog 81 #[.pointer (some ⟨eb, 0, none⟩)] (.panicking ({ v := .iface 144 (.agg #[]), recovered := false } :: older)) w fun e u' w' =>
    e = .returned (.tuple #[]) ∧ u' = .panicking ({ v := .iface 144 (.agg #[]), recovered := true } :: older) ∧ Fr (fun k => k = eb) w w' ∧ Blk w' eb #[.int .i64 6] 40 := by
  have hc : w.cell? ⟨eb, 0, none⟩ = some (.int .i64 x) := hb.cell 0
  have hf : w.frozen? ⟨eb, 0, none⟩ = false := hb.frozen 0
  have hlt : eb < w.heap.size := hb.lt
  refine callsD_of_wpS Tryz.func81 rfl fun c₀ cs hu => ?_
  simp only [Tryz.ntmps81, List.size_toArray, List.length_cons, List.length_nil, Nat.reduceAdd, Nat.reduceSub, Array.replicate_succ, Array.replicate_zero, List.push_toArray, List.append_toArray, List.nil_append, List.cons_append]
  apply wpS_seq
  apply wpS_region
  simp [wpOpsS, go_sem, recoverD, hu, Tryz.ntmps81, Exit.thenS]
  refine wpS_plain (fun e a' w' => e = .normal ∧ a'.defers = [] ∧ Fr (fun k => k = eb) w w' ∧ Blk w' eb #[.int .i64 6] 40) (fun Q' hQ => ?_) ?_
  · go_wp2
    exact ⟨((Fr.refl (fun k => k = eb) w).setCell (a := ⟨eb, 0, none⟩) (.inl rfl) _).alloc _, (hb.set 0 _).alloc _⟩
  · rintro e a' w' ⟨rfl, h0, h1, h2⟩
    cases c₀
    simp_all [bodyPostS, results, Tryz.results81]

/-- What tried leaves. -/
def TriedPost (w : World) (T : Nat → Prop) (R : Int → World → Prop) (e : Ending) (w' : World) : Prop :=
  ∃ r w3, e = .returned (.int .i64 r) ∧ R r w3 ∧ Fr (fun k => k = w.heap.size) w3 w' ∧ Fr T w w3

/-- tried, where no fault is planned: the function that is given is called. -/
theorem tried_gen (K : Nat) (caps : Array Value) (T U : Nat → Prop) (pb : Nat) (p : Pl) (op : Nat) (hop : op = 1 ∨ op = 2 ∨ op = 3) (hc : p.co op ≤ 1000000 ∧ p.si op ≤ 1000000 ∧ p.fa.length ≤ 1000000 ∧ 0 < p.bl.length) (w : World) (h : IsP w T pb p)
    (hT : ∀ k, T k → k < w.heap.size) (hU : ∀ k, U k → k < w.heap.size) (hno : ((op : Int), ((p.si op + 1 : Nat) : Int)) ∉ p.fa)
    (hK : ∀ args w, (callFunc K args).run Tryz.prog w = .ok (.enter K args) w) (R : Int → World → Prop)
    (hF : ∀ w2, Fr T w w2 → w.heap.size < w2.heap.size → IsP w2 T pb (p.ask op) → Calls Tryz.prog K caps w2 fun e w3 => ∃ r, e = .returned (.int .i64 r) ∧ R r w3 ∧ Fr (fun k => T k ∨ U k) w2 w3) :
    Calls Tryz.prog 50 #[.pointer (some ⟨pb, 0, none⟩), .int .i64 (op : Int), .func (.func K) #[] caps] w (TriedPost w (fun k => T k ∨ U k) R) := by
  have H := hid hF; clear hF
  have HC := hid hc; clear hc
  have HNO := hid hno; clear hno
  go_enter_defers Tryz.func50, Tryz.ntmps50
  go_wp2_with fail
  obtain ⟨W1, hW1⟩ : ∃ W1, W1 = w.alloc (.cells #[.int .i64 0] 40) := ⟨_, rfl⟩
  have hb1 : Blk W1 w.heap.size #[.int .i64 0] 40 := by rw [hW1]; exact Blk.new _ _ _
  have hf1 : Fr Nil w W1 := by rw [hW1]; exact (Fr.refl _ _).alloc _
  have hs1 : W1.heap.size = w.heap.size + 1 := by rw [hW1]; simp
  rw [← hW1]
  clear hW1
  have hP1 := h.fr hf1 fun _ _ h => h
  refine (blocks_ok T pb p W1 hP1).mono ?_
  rintro e w2 ⟨rfl, rfl⟩
  have hz : ((p.bl.length : Int) == 0) = false := by have := HC.out; rw [beq_eq_false_iff_ne]; omega
  go_wp2_with fail
  refine (asked_ok T pb p op hop ⟨HC.out.1, HC.out.2.1, HC.out.2.2.1⟩ W1 hP1).mono ?_
  rintro e w2 ⟨hP2, hf2, he⟩
  rw [if_neg HNO.out] at he
  subst he
  have hpT : ∀ k, k = pb → T k := fun k hk => by rw [hk]; exact h.1
  have hb2 := hb1.fr hf2 (fun e => by have := hT _ h.1; omega)
  go_wp2_with fail
  refine (H.out w2 (hf1.nil.then (hf2.mono hpT)) (by have := hf2.size; omega) hP2).mono ?_
  rintro e w3 ⟨r, rfl, hR, hf3⟩
  have hb3 := hb2.fr hf3 (fun h => h.elim (fun h => by have := hT _ h; omega) (fun h => by have := hU _ h; omega))
  have hc3 : w3.cell? ⟨w.heap.size, 0, none⟩ = some (.int .i64 0) := hb3.cell 0
  have hz3 : w3.frozen? ⟨w.heap.size, 0, none⟩ = false := hb3.frozen 0
  have hfT : Fr (fun k => T k ∨ U k) w w3 := (hf1.nil.then (hf2.mono fun k hk => .inl (hpT k hk))).then hf3
  go_wp2
  have hcell : (w3.setCell ⟨w.heap.size, 0, none⟩ (.int .i64 r)).cell? ⟨w.heap.size, 0, none⟩ = some (.int .i64 r) := (hb3.set 0 _).cell 0
  refine leaves_cons (f := 81) (args := #[.pointer (some ⟨w.heap.size, 0, none⟩)]) (by simp) (by simp [go_sem]) ?_
  refine (tried_ret w.heap.size _).mono ?_
  rintro e u' w'' ⟨rfl, rfl, rfl⟩
  simp [Leaves, settle, results, Tryz.results50, go_sem, hcell]
  exact ⟨r, w3, rfl, hR, (Fr.refl (fun k => k = w.heap.size) w3).setCell (a := ⟨w.heap.size, 0, none⟩) (.inl rfl) _, hfT⟩

theorem tried_ok (K : Nat) (caps : Array Value) (T : Nat → Prop) (pb : Nat) (p : Pl) (op : Nat) (hop : op = 1 ∨ op = 2 ∨ op = 3) (hc : p.co op ≤ 1000000 ∧ p.si op ≤ 1000000 ∧ p.fa.length ≤ 1000000 ∧ 0 < p.bl.length) (w : World) (h : IsP w T pb p)
    (hT : ∀ k, T k → k < w.heap.size) (hno : ((op : Int), ((p.si op + 1 : Nat) : Int)) ∉ p.fa)
    (hK : ∀ args w, (callFunc K args).run Tryz.prog w = .ok (.enter K args) w) (R : Int → World → Prop)
    (hF : ∀ w2, Fr T w w2 → w.heap.size < w2.heap.size → IsP w2 T pb (p.ask op) → Calls Tryz.prog K caps w2 fun e w3 => ∃ r, e = .returned (.int .i64 r) ∧ R r w3 ∧ Fr T w2 w3) :
    Calls Tryz.prog 50 #[.pointer (some ⟨pb, 0, none⟩), .int .i64 (op : Int), .func (.func K) #[] caps] w (TriedPost w T R) :=
  (tried_gen K caps T Nil pb p op hop hc w h hT (fun _ h => h.elim) hno hK R fun w2 a b c => (hF w2 a b c).mono fun e w3 ⟨r, h1, h2, h3⟩ => ⟨r, h1, h2, h3.mono fun _ h => .inl h⟩).mono
    fun e w' ⟨r, w3, h1, h2, h3, h4⟩ => ⟨r, w3, h1, h2, h3, h4.mono fun _ h => h.elim id False.elim⟩

/-- tried, where a fault is planned: the function that is given is not called. -/
theorem tried_fault (K : Nat) (caps : Array Value) (T : Nat → Prop) (pb : Nat) (p : Pl) (op : Nat) (hop : op = 1 ∨ op = 2 ∨ op = 3) (hc : p.co op ≤ 1000000 ∧ p.si op ≤ 1000000 ∧ p.fa.length ≤ 1000000 ∧ 0 < p.bl.length) (w : World) (h : IsP w T pb p)
    (hT : ∀ k, T k → k < w.heap.size) (hno : ((op : Int), ((p.si op + 1 : Nat) : Int)) ∈ p.fa) :
    Calls Tryz.prog 50 #[.pointer (some ⟨pb, 0, none⟩), .int .i64 (op : Int), .func (.func K) #[] caps] w fun e w' => e = .returned (.int .i64 6) ∧ IsP w' T pb (p.ask op) ∧ Fr (fun k => k = pb) w w' := by
  have HC := hid hc; clear hc
  have HNO := hid hno; clear hno
  go_enter_defers Tryz.func50, Tryz.ntmps50
  go_wp2_with fail
  obtain ⟨W1, hW1⟩ : ∃ W1, W1 = w.alloc (.cells #[.int .i64 0] 40) := ⟨_, rfl⟩
  have hb1 : Blk W1 w.heap.size #[.int .i64 0] 40 := by rw [hW1]; exact Blk.new _ _ _
  have hf1 : Fr Nil w W1 := by rw [hW1]; exact (Fr.refl _ _).alloc _
  have hs1 : W1.heap.size = w.heap.size + 1 := by rw [hW1]; simp
  rw [← hW1]
  clear hW1
  have hP1 := h.fr hf1 fun _ _ h => h
  refine (blocks_ok T pb p W1 hP1).mono ?_
  rintro e w2 ⟨rfl, rfl⟩
  have hz : ((p.bl.length : Int) == 0) = false := by have := HC.out; rw [beq_eq_false_iff_ne]; omega
  go_wp2_with fail
  refine (asked_ok T pb p op hop ⟨HC.out.1, HC.out.2.1, HC.out.2.2.1⟩ W1 hP1).mono ?_
  rintro e w2 ⟨hP2, hf2, he⟩
  rw [if_pos HNO.out] at he
  subst he
  have hb2 := hb1.fr hf2 (fun e => by have := hT _ h.1; omega)
  show bodyPostD Tryz.prog Tryz.f50 (fun e w' => e = .returned (.int .i64 6) ∧ IsP w' T pb (p.ask op) ∧ Fr (fun k => k = pb) w w') (Exit.panic brk) _ _
  refine leaves_cons (f := 81) (args := #[.pointer (some ⟨w.heap.size, 0, none⟩)]) (by simp) (by simp [go_sem]) ?_
  refine (tried_brk w.heap.size 0 [] _ hb2).mono ?_
  rintro e u' w'' ⟨rfl, rfl, hf5, hb5⟩
  have hcell : w''.cell? ⟨w.heap.size, 0, none⟩ = some (.int .i64 6) := hb5.cell 0
  have hP5 := hP2.fr hf5 (fun k hk (e : k = w.heap.size) => by have := hT _ hk; omega)
  have hF5 : Fr (fun k => k = pb) w w'' := (hf1.nil.then hf2).trans hf5 (fun k hk => .inr (by omega))
  simp [Leaves, settle, results, Tryz.results50, go_sem, hcell]
  exact ⟨hP5, hF5⟩
end Go.Proofs.YtgoghmblfdlnbaaGreat
end

section
/- platter's Write. Conditions: the platter is a block of the program's own; the bytes can be read. -/
set_option linter.unusedSimpArgs false
set_option linter.unusedVariables false
namespace Go.Proofs.YtgoghmblfdlnbaaGreat
open Go.RowKit

/-- append of elements that lie at an address, as an equation. -/
theorem app_run {P : Program} {e : TypeId} {s n : Nat} {v : Value} {xs : List Value} {w : World} {T : Nat → Prop} (t : TypeId) (z : Value) (bytes : Nat) (ht : P.underlying t = some (.slice e)) (hi : (P.info? e).map (fun i => (i.zero, i.size, i.bytes)) = some (some z, s, bytes))
    (hzs : z.cells.size = s) (hsz : 0 < s) (hrow : Row w T e s v n xs) (ad : Addr) (m c : Nat) (news : List Value) (hm : 0 < m) (hl : news.length = m * s) (hnews : ∀ j u, news[j]? = some u → w.cell? (ad.add j) = some u) (h1 : ∀ u ∈ news, u.oneCell' = true)
    (hbytes : (n + m) * bytes ≤ 140737488355328) (hb0 : 0 < bytes) :
    ∃ g cap w', (Builtin.append_ #[t, t] t #[v, .slice (some ad) m c]).run P w = .ok (.slice (some ⟨g, 0, none⟩) (n + m) cap) w' ∧ Row w' (fun k => k = g) e s (.slice (some ⟨g, 0, none⟩) (n + m) cap) (n + m) (xs ++ news) ∧ (v.ownBlock = some g ∨ w.heap.size ≤ g) ∧ Fr (fun k => v.ownBlock = some k) w w' := by
  obtain ⟨i, hi1, hi2, hi3, hi4⟩ := info_parts hi
  have hle : n + m ≤ 140737488355328 := Nat.le_trans (Nat.le_mul_of_pos_right _ hb0) hbytes
  obtain ⟨v', w', hr, hown, hg, hnil, hat⟩ := run_append_own_at (P := P) w 0 t t e i z s bytes ht hi1 hi2 hi3 hi4 hzs hsz v n xs hrow.1 ad m c news hl hnews h1 (by unfold maxLen; omega) hbytes (Nat.zero_le _)
  rcases hown.2 with ⟨h0, h00⟩ | ⟨g, cap, cur, rfl, hb, hh, hnc, r⟩
  · omega
  · refine ⟨g, cap, w', hr, ⟨hown, fun k hk => by simpa [Value.ownBlock] using hk.symm⟩, ?_, Fr.of_grown hg⟩
    simp only [Value.ownBlock] at hat
    rcases hat with hat | hat
    · exact .inl hat.symm
    · injection hat with hat
      exact .inr (by omega)

theorem info_write : (Tryz.prog.info? 124).map (fun i => (i.zero, i.size, i.bytes)) = some (some (.agg #[.int .i64 0, .slice none 0 0]), 2, 32) := by kernel_rfl

def Pl.put (p : Pl) (n : Nat) (xs : List Nat) : Pl := { p with ca := p.ca ++ [(n, xs)] }

theorem two_at (w : World) (x y : Value) (t : TypeId) : ∀ j u, [x, y][j]? = some u → (w.alloc (.cells #[x, y] t)).cell? ((⟨w.heap.size, 0, none⟩ : Addr).add j) = some u := by
  intro j u hj
  rw [Addr.add_lit, Nat.zero_add, cell_of_row _ w.heap.size j #[x, y] t (0, 0) (heap_alloc_new w _), ← Array.getElem?_toList]
  exact hj

theorem write1_bad (T S1 : Nat → Prop) (pb : Nat) (p : Pl) (n : Int) (m : Nat) (A : Option Addr) (c : Nat) (px nx bx : Nat) (w : World) (h : IsP w T pb p) (h1 : Blk w px #[.pointer (some ⟨pb, 0, none⟩)] 32) (h2 : Blk w nx #[.int .i64 n] 3) (h3 : Blk w bx #[.slice A m c] 30)
    (hbad : ¬ (0 ≤ n ∧ n < p.bl.length) ∨ m ≠ 64) :
    Calls Tryz.prog 62 #[.pointer (some ⟨px, 0, none⟩), .pointer (some ⟨nx, 0, none⟩), .pointer (some ⟨bx, 0, none⟩)] w fun e w' => e = .returned (.int .i64 1) ∧ w = w' := by
  have c1 : w.cell? ⟨px, 0, none⟩ = some (.pointer (some ⟨pb, 0, none⟩)) := h1.cell 0
  have c2 : w.cell? ⟨nx, 0, none⟩ = some (.int .i64 n) := h2.cell 0
  have c3 : w.cell? ⟨bx, 0, none⟩ = some (.slice A m c) := h3.cell 0
  go_enter Tryz.func62, Tryz.ntmps62
  go_wp2_with fail
  refine (there_ok T pb p n w h).mono ?_
  rintro e w2 ⟨rfl, rfl⟩
  by_cases ht : 0 ≤ n ∧ n < p.bl.length
  · have hm : m ≠ 64 := hbad.elim (fun h => absurd ht h) id
    have hm2 : ((m : Int) == 64) = false := by rw [beq_eq_false_iff_ne]; omega
    have hm3 : ((m : Int) != 64) = true := by rw [bne, hm2]; rfl
    rw [decide_eq_true ht]
    have Hm := hid hm; clear hm hbad ht
    go_wp2
    go_ret
    exact ⟨rfl, rfl⟩
  · rw [decide_eq_false ht]
    clear ht hbad
    go_wp2
    go_ret
    exact ⟨rfl, rfl⟩

set_option maxHeartbeats 1600000 in
theorem write1_ok (T S1 : Nat → Prop) (pb : Nat) (p : Pl) (n : Nat) (xs : List Nat) (v : Value) (px nx bx : Nat) (w : World) (h : IsP w T pb p) (h1 : Blk w px #[.pointer (some ⟨pb, 0, none⟩)] 32) (h2 : Blk w nx #[.int .i64 (n : Int)] 3) (h3 : Blk w bx #[v] 30)
    (hn : n < p.bl.length) (hv : View w S1 1 v 64 (bys xs)) (hB : Byt xs) (hca : p.ca.length ≤ 1000000) :
    Calls Tryz.prog 62 #[.pointer (some ⟨px, 0, none⟩), .pointer (some ⟨nx, 0, none⟩), .pointer (some ⟨bx, 0, none⟩)] w fun e w' => e = .returned (.int .i64 0) ∧ IsP w' (Grow w T) pb (p.put n xs) ∧ Fr T w w' := by
  have hx64 : xs.length = 64 := by have := hv.length; rwa [bys_length, Nat.mul_one] at this
  obtain ⟨A, c, rfl⟩ : ∃ A c, v = .slice A 64 c := let ⟨_, A, c, e, _⟩ := hv; ⟨A, c, e⟩
  have c1 : w.cell? ⟨px, 0, none⟩ = some (.pointer (some ⟨pb, 0, none⟩)) := h1.cell 0
  have c2 : w.cell? ⟨nx, 0, none⟩ = some (.int .i64 (n : Int)) := h2.cell 0
  have c3 : w.cell? ⟨bx, 0, none⟩ = some (.slice A 64 c) := h3.cell 0
  go_enter Tryz.func62, Tryz.ntmps62
  go_wp2_with fail
  refine (there_ok T pb p n w h).mono ?_
  rintro e w2 ⟨rfl, rfl⟩
  rw [decide_eq_true (show (0 : Int) ≤ (n : Int) ∧ (n : Int) < (p.bl.length : Int) by omega)]
  obtain ⟨g0, vb, vc, vf, g1, g2, ⟨cv, g3, g3'⟩, g4⟩ := h
  have hc1 : w.cell? ⟨pb, 1, none⟩ = some vc := g1.cell 1
  obtain ⟨Ac, cc, rfl⟩ := g3.slice
  go_wp2_with fail
  have hne : (Value.slice Ac p.ca.length cc).ownBlock ≠ some pb := g3.apart_blk g1 (by decide)
  have hn1 : (Value.slice Ac p.ca.length cc).ownBlock ≠ some px := g3.apart_blk h1 (by decide)
  have hn2 : (Value.slice Ac p.ca.length cc).ownBlock ≠ some nx := g3.apart_blk h2 (by decide)
  have hn3 : (Value.slice Ac p.ca.length cc).ownBlock ≠ some bx := g3.apart_blk h3 (by decide)
  have hS : w.drew.cell? ⟨px, 0, none⟩ = some (.pointer (some ⟨pb, 0, none⟩)) ∧ w.drew.cell? ⟨nx, 0, none⟩ = some (.int .i64 (n : Int)) ∧ w.drew.cell? ⟨bx, 0, none⟩ = some (.slice A 64 c) ∧ w.drew.cell? ⟨pb, 1, none⟩ = some (.slice Ac p.ca.length cc) := ⟨c1, c2, c3, hc1⟩
  refine wpU_region (k := 13) (S := fun w' => w'.cell? ⟨px, 0, none⟩ = some (.pointer (some ⟨pb, 0, none⟩)) ∧ w'.cell? ⟨nx, 0, none⟩ = some (.int .i64 (n : Int)) ∧ w'.cell? ⟨bx, 0, none⟩ = some (.slice A 64 c) ∧ w'.cell? ⟨pb, 1, none⟩ = some (.slice Ac p.ca.length cc)) (by kernel_rfl) ?_
  refine wpU_take (i := 0) (v := ?_) rfl (by kernel_rfl) (by kernel_rfl) (fun _ _ _ h => h) _ _ _ _ (by kernel_rfl) (by kernel_rfl) (by kernel_rfl) (Or.inl ⟨by rfl, ?_⟩) hS ?_
  rotate_left
  · (intro w9 hS9; obtain ⟨s0, s1, s2, s3⟩ := hS9; go_simp); (try with_reducible rfl)
  try simp only [Act.put, List.setIfInBounds_toArray, List.set_cons_zero, List.set_cons_succ]
  refine wpU_take (i := 1) (v := ?_) rfl (by kernel_rfl) (by kernel_rfl) (fun _ _ _ h => h) _ _ _ _ (by kernel_rfl) (by kernel_rfl) (by kernel_rfl) (Or.inl ⟨by rfl, ?_⟩) hS ?_
  rotate_left
  · (intro w9 hS9; obtain ⟨s0, s1, s2, s3⟩ := hS9; go_simp); (try with_reducible rfl)
  try simp only [Act.put, List.setIfInBounds_toArray, List.set_cons_zero, List.set_cons_succ]
  refine wpU_take (i := 2) (v := ?_) rfl (by kernel_rfl) (by kernel_rfl) (fun _ _ _ h => h) _ _ _ _ (by kernel_rfl) (by kernel_rfl) (by kernel_rfl) (Or.inl ⟨by rfl, ?_⟩) hS ?_
  rotate_left
  · (intro w9 hS9; obtain ⟨s0, s1, s2, s3⟩ := hS9; go_simp); (try with_reducible rfl)
  try simp only [Act.put, List.setIfInBounds_toArray, List.set_cons_zero, List.set_cons_succ]
  refine wpU_take (i := 3) (v := ?_) rfl (by kernel_rfl) (by kernel_rfl) (fun _ _ _ h => h) _ _ _ _ (by kernel_rfl) (by kernel_rfl) (by kernel_rfl) (Or.inl ⟨by rfl, ?_⟩) hS ?_
  rotate_left
  · (intro w9 hS9; obtain ⟨s0, s1, s2, s3⟩ := hS9; go_simp); (try with_reducible rfl)
  try simp only [Act.put, List.setIfInBounds_toArray, List.set_cons_zero, List.set_cons_succ]
  refine wpU_take (i := 4) (v := ?_) rfl (by kernel_rfl) (by kernel_rfl) (fun _ _ _ h => h) _ _ _ _ (by kernel_rfl) (by kernel_rfl) (by kernel_rfl) (Or.inl ⟨by rfl, ?_⟩) hS ?_
  rotate_left
  · (intro w9 hS9; obtain ⟨s0, s1, s2, s3⟩ := hS9; go_simp); (try with_reducible rfl)
  try simp only [Act.put, List.setIfInBounds_toArray, List.set_cons_zero, List.set_cons_succ]
  refine wpU_take (i := 5) (v := ?_) rfl (by kernel_rfl) (by kernel_rfl) (fun _ _ _ h => h) _ _ _ _ (by kernel_rfl) (by kernel_rfl) (by kernel_rfl) (Or.inl ⟨by rfl, ?_⟩) hS ?_
  rotate_left
  · (intro w9 hS9; obtain ⟨s0, s1, s2, s3⟩ := hS9; go_simp); (try with_reducible rfl)
  try simp only [Act.put, List.setIfInBounds_toArray, List.set_cons_zero, List.set_cons_succ]
  refine wpU_take (i := 6) (v := ?_) rfl (by kernel_rfl) (by kernel_rfl) (fun _ _ _ h => h) _ _ _ _ (by kernel_rfl) (by kernel_rfl) (by kernel_rfl) (Or.inl ⟨by rfl, ?_⟩) hS ?_
  rotate_left
  · (intro w9 hS9; obtain ⟨s0, s1, s2, s3⟩ := hS9; go_simp); (try with_reducible rfl)
  try simp only [Act.put, List.setIfInBounds_toArray, List.set_cons_zero, List.set_cons_succ]
  refine wpU_next (i := 7) rfl (by kernel_rfl) (fun K hK => ?_)
  go_simp
  refine (bclone_ok S1 (.slice A 64 c) 64 xs (by omega) w.drew hv.drew).mono ?_
  rintro e w4 ⟨A3, k3, rfl, hR3, hf4, -⟩
  have hS4 : w4.cell? ⟨px, 0, none⟩ = some (.pointer (some ⟨pb, 0, none⟩)) ∧ w4.cell? ⟨nx, 0, none⟩ = some (.int .i64 (n : Int)) ∧ w4.cell? ⟨bx, 0, none⟩ = some (.slice A 64 c) ∧ w4.cell? ⟨pb, 1, none⟩ = some (.slice Ac p.ca.length cc) := ⟨hf4.cell (w := w.drew) c1 id, hf4.cell (w := w.drew) c2 id, hf4.cell (w := w.drew) c3 id, hf4.cell (w := w.drew) hc1 id⟩
  refine hK.out _ _ (fun _ => hS4) ?_
  clear hK K
  try simp only [Act.put, List.setIfInBounds_toArray, List.set_cons_zero, List.set_cons_succ]
  refine wpU_take (i := 8) (v := ?_) rfl (by kernel_rfl) (by kernel_rfl) (fun _ _ _ h => h) _ _ _ _ (by kernel_rfl) (by kernel_rfl) (by kernel_rfl) (Or.inl ⟨by rfl, ?_⟩) hS4 ?_
  rotate_left
  · (intro w9 hS9; obtain ⟨s0, s1, s2, s3⟩ := hS9; go_simp); (try with_reducible rfl)
  try simp only [Act.put, List.setIfInBounds_toArray, List.set_cons_zero, List.set_cons_succ]
  refine wpU_next (i := 9) rfl (by kernel_rfl) (fun K hK => ?_)
  go_simp
  obtain ⟨W5, hW5⟩ : ∃ W5, W5 = w4.alloc (.cells #[.int .i64 (n : Int), .slice A3 64 k3] 124) := ⟨_, rfl⟩
  have hv5 : View W5 (New w4) 2 (.slice (some ⟨w4.heap.size, 0, none⟩) 1 1) 1 [.int .i64 (n : Int), .slice A3 64 k3] := by rw [hW5]; exact View.lit w4 #[.int .i64 (n : Int), .slice A3 64 k3] 124 (0, 0) 1 rfl (by omega)
  have hfA : Fr Nil w W5 := by rw [hW5]; exact (((Fr.refl Nil w).drew).then hf4).alloc _
  have hf45 : Fr Nil w4 W5 := by rw [hW5]; exact (Fr.refl _ _).alloc _
  have hS5 : W5.cell? ⟨px, 0, none⟩ = some (.pointer (some ⟨pb, 0, none⟩)) ∧ W5.cell? ⟨nx, 0, none⟩ = some (.int .i64 (n : Int)) ∧ W5.cell? ⟨bx, 0, none⟩ = some (.slice A 64 c) ∧ W5.cell? ⟨pb, 1, none⟩ = some (.slice Ac p.ca.length cc) := ⟨hfA.cell c1 id, hfA.cell c2 id, hfA.cell c3 id, hfA.cell hc1 id⟩
  refine hK.out _ _ (fun _ => by rw [← hW5]; exact hS5) ?_
  rw [← hW5]
  clear hW5
  clear hK K
  try simp only [Act.put, List.setIfInBounds_toArray, List.set_cons_zero, List.set_cons_succ]
  refine wpU_next (i := 10) rfl (by kernel_rfl) (fun K hK => ?_)
  refine step_app_view (by rfl) _ _ 110 (by rfl) (.agg #[.int .i64 0, .slice none 0 0]) 32 Tryz.underlying110 info_write (by rfl) (by decide) (g3.frS hfA fun _ _ h => h) (by rfl) hv5 (by rfl) (by simp [Value.oneCell']) (by omega) (by decide) ?_
  intro A6 cap6 w6 hrow6 hf6
  have hS6 : w6.cell? ⟨px, 0, none⟩ = some (.pointer (some ⟨pb, 0, none⟩)) ∧ w6.cell? ⟨nx, 0, none⟩ = some (.int .i64 (n : Int)) ∧ w6.cell? ⟨bx, 0, none⟩ = some (.slice A 64 c) ∧ w6.cell? ⟨pb, 1, none⟩ = some (.slice Ac p.ca.length cc) := ⟨hf6.cell hS5.1 hn1, hf6.cell hS5.2.1 hn2, hf6.cell hS5.2.2.1 hn3, hf6.cell hS5.2.2.2 hne⟩
  refine hK.out _ _ (fun _ => hS6) ?_
  clear hK K
  try simp only [Act.put, List.setIfInBounds_toArray, List.set_cons_zero, List.set_cons_succ]
  refine wpU_take (i := 11) (v := ?_) rfl (by kernel_rfl) (by kernel_rfl) (fun _ _ _ h => h) _ _ _ _ (by kernel_rfl) (by kernel_rfl) (by kernel_rfl) (Or.inl ⟨by rfl, ?_⟩) hS6 ?_
  rotate_left
  · (intro w9 hS9; obtain ⟨s0, s1, s2, s3⟩ := hS9; go_simp); (try with_reducible rfl)
  try simp only [Act.put, List.setIfInBounds_toArray, List.set_cons_zero, List.set_cons_succ]
  refine wpU_take (i := 12) (v := ?_) rfl (by kernel_rfl) (by kernel_rfl) (fun _ _ _ h => h) _ _ _ _ (by kernel_rfl) (by kernel_rfl) (by kernel_rfl) (Or.inl ⟨by rfl, ?_⟩) hS6 ?_
  rotate_left
  · (intro w9 hS9; obtain ⟨s0, s1, s2, s3⟩ := hS9; go_simp); (try with_reducible rfl)
  try simp only [Act.put, List.setIfInBounds_toArray, List.set_cons_zero, List.set_cons_succ]
  have g6 := (g1.fr hfA (fun h => h)).fr hf6 hne
  have hc6 : w6.cell? ⟨pb, 1, none⟩ = some (.slice Ac p.ca.length cc) := g6.cell 1
  have hz6 : w6.frozen? ⟨pb, 1, none⟩ = false := g6.frozen 1
  refine wpU_next (i := 13) rfl (by kernel_rfl) (fun K hK => ?_)
  go_simp
  refine hK.out _ _ (fun h => absurd rfl h.1) ?_
  refine wpU_done (by kernel_rfl) ?_ _
  clear hK K
  have hsz4 : w.heap.size ≤ w4.heap.size := (Fr.then ((Fr.refl Nil w).drew) hf4).size
  have hszA := hfA.size
  have hsz45 := hf45.size
  go_wp2
  go_ret
  have hdat : Dat w6 (Grow w T) (.slice A3 64 k3) xs := by
    have h1 : VT w4 (Grow w T) 5 1 (.slice A3 64 k3) 64 (bys xs) := hR3.vt.mono fun k hk => .inr hk
    have h2 : VT W5 (Grow w T) 5 1 (.slice A3 64 k3) 64 (bys xs) := VT.fr (Y := 4) h1 hf45 (fun _ _ _ h => h.elim) (by decide)
    have h3 : VT w6 (Grow w T) 5 1 (.slice A3 64 k3) 64 (bys xs) := VT.fr (Y := 124) h2 hf6 (fun k _ _ hk => (g3.own_typ hk).fr hfA id) (by decide)
    exact ⟨hx64, hB, h3⟩
  have hY : ∀ k, T k → k < w.heap.size → (Value.slice Ac p.ca.length cc).ownBlock = some k → Typ w k 124 := fun k _ _ hk => g3.own_typ hk
  have hf06 : Fr (fun k => (Value.slice Ac p.ca.length cc).ownBlock = some k) w w6 := hfA.nil.then hf6
  have hB6 : BlksOk w6 T vb p.bl := g2.fr hf06 hY (by decide) (by decide)
  have hF6 : FauOk w6 T vf p.fa := VT.fr g4 hf06 hY (by decide)
  have hC6 : CacOk w6 (Grow w T) (.slice A6 (p.ca.length + 1) cap6) (p.ca ++ [(n, xs)]) := by
    refine ⟨cv ++ [(n, .slice A3 64 k3)], ?_, ?_⟩
    · have : flatW (cv ++ [(n, .slice A3 64 k3)]) = flatW cv ++ [.int .i64 (n : Int), .slice A3 64 k3] := by simp [flatW]
      rw [this, List.length_append, List.length_singleton]
      refine hrow6.mono fun k hk => hk.elim (fun h => .inl (g3.2 k h)) (fun h => .inr (by omega))
    · intro i m x hi
      have hcl : cv.length = p.ca.length := by have := g3.length; rw [flatW_length] at this; omega
      by_cases hlt : i < p.ca.length
      · rw [List.getElem?_append_left hlt] at hi
        obtain ⟨u, hu, hd⟩ := g3' i m x hi
        exact ⟨u, by rw [List.getElem?_append_left (by omega)]; exact hu, (Dat.fr hd hf06 hY (by decide)).mono fun k hk => .inl hk⟩
      · rw [List.getElem?_append_right (by omega)] at hi
        have h0 : i - p.ca.length = 0 := by
          have := (List.getElem?_eq_some_iff.1 hi).1
          simpa using this
        rw [h0] at hi
        simp only [List.getElem?_cons_zero, Option.some.injEq, Prod.mk.injEq] at hi
        obtain ⟨rfl, rfl⟩ := hi
        exact ⟨_, by rw [List.getElem?_append_right (by omega), hcl, h0]; rfl, hdat⟩
  have hf7 : Fr (fun k => k = pb) w6 (w6.setCell ⟨pb, 1, none⟩ (.slice A6 (p.ca.length + 1) cap6)) := (Fr.refl (fun k => k = pb) w6).setCell (a := ⟨pb, 1, none⟩) (.inl rfl) _
  refine ⟨rfl, IsP.own (p := p.put n xs) (.inl g0) g6 hf7 (g6.set 1 _) (hB6.mono fun k hk => .inl hk) ?_ (hF6.mono fun k hk => .inl hk), ?_⟩
  · show CacOk w6 (Grow w T) (.slice A6 (p.ca.length + 1) cap6) (p.ca ++ [(n, xs)])
    exact hC6
  · exact (hf06.mono fun k hk => g3.2 k hk).setCell (a := ⟨pb, 1, none⟩) (.inl g0) _
end Go.Proofs.YtgoghmblfdlnbaaGreat
end

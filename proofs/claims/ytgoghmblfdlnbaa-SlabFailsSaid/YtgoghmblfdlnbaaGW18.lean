/- The texts VPlatC, VPlatT of this proof, one behind the other. Conditions: those of each. -/
import Derived.Test.YtgoghmblfdlnbaaGW17
section
/- platter's counting: slices.Contains of faults, asked. Conditions: the platter is a block of the program's own. -/
set_option linter.unusedSimpArgs false
set_option linter.unusedVariables false
namespace Go.Proofs.Ytgoghmblfdlnbaa
open Go.RowKit

theorem st_fault : Try.prog.stoodInHeld 92 = false := by kernel_rfl
theorem part0 (w : World) (x y : Value) : (part 3 #[x, y] 0).run Try.prog w = .ok x w := by kernel_rfl
theorem part1 (w : World) (x y : Value) : (part 3 #[x, y] 1).run Try.prog w = .ok y w := by kernel_rfl
theorem eqi (d : Nat) (a b : Int) (w : World) : (Op.equalIn (d+1) 3 (.int .i64 a) (.int .i64 b)).run Try.prog w = .ok (a == b) w := by
  simp [Op.equalIn, run_underlying Try.underlying3]
theorem eql_fault (a b c d : Int) (w : World) : (binOp .eql 92 (.agg #[.int .i64 a, .int .i64 b]) (.agg #[.int .i64 c, .int .i64 d])).run Try.prog w = .ok (.bool (a == c && b == d)) w := by
  have h : ∀ n : Nat, (Op.equalIn (n + 2) 92 (.agg #[.int .i64 a, .int .i64 b]) (.agg #[.int .i64 c, .int .i64 d])).run Try.prog w = .ok (a == c && b == d) w := fun n => by
    unfold Op.equalIn
    simp [run_underlying Try.underlying92, st_fault, part0, part1, eqi, Result.andThen]
    by_cases h1 : a = c <;> by_cases h2 : b = d <;> simp [part0, part1, eqi, h1, h2, Result.andThen]
  simp only [binOp]
  simp [Op.equal, Op.maxDepth, h 9998]

theorem pindex_ok (S : Nat → Prop) (v : Value) (n : Nat) (fa : List (Int × Int)) (hn : n = fa.length) (hl : n ≤ 1000000) (a b : Int) (w : World) (hv : View w S 2 v n (flatF fa)) :
    Calls Try.prog 84 #[v, .agg #[.int .i64 a, .int .i64 b]] w fun e w' => ∃ r : Int, e = .returned (.int .i64 r) ∧ (decide (0 ≤ r) = decide ((a, b) ∈ fa)) ∧ Fr Nil w w' := by
  subst hn
  obtain ⟨_, A, c, rfl, e1, e2, e3, e4, e5⟩ := id hv
  clear e3 e4
  go_enter Try.func84, Try.ntmps84
  go_wp2_with fail
  obtain ⟨W1, hW1⟩ : ∃ W1, W1 = w.alloc (.cells #[.int .i64 a, .int .i64 b] 92) := ⟨_, rfl⟩
  have hx1 : Blk W1 w.heap.size #[.int .i64 a, .int .i64 b] 92 := by rw [hW1]; exact Blk.new _ _ _
  have hf1 : Fr Nil w W1 := by rw [hW1]; exact (Fr.refl _ _).alloc _
  rw [← hW1]
  clear hW1
  go_loopw [8] (fun v8 wr => ∃ i : Nat, v8 = .int .i64 i ∧ i ≤ fa.length ∧ Fr Nil W1 wr ∧ (a, b) ∉ fa.take i) (fun v8 _ => fa.length - (intOf v8).toNat)
  case atStart => exact ⟨0, rfl, by omega, Fr.refl _ _, by simp⟩
  case round =>
    obtain ⟨i, rfl, hi, hfr, hno⟩ := hrel
    have Hno := hid hno; clear hno
    have hxr := hx1.fr hfr (fun h => h)
    have hc0 : wr.cell? ⟨w.heap.size, 0, none⟩ = some (.int .i64 a) := hxr.cell 0
    have hc1 : wr.cell? ⟨w.heap.size, 1, none⟩ = some (.int .i64 b) := hxr.cell 1
    by_cases hlt : i < fa.length
    · have hi2 : i < fa.length := hlt
      obtain ⟨bb, o, rfl, h5a, h5b, h5⟩ := e5 (by omega)
      obtain ⟨h6, h7⟩ := flatF_at fa i fa[i].1 fa[i].2 (List.getElem?_eq_getElem hi2)
      have hd0 : wr.cell? ⟨bb, o + i * 2, none⟩ = some (.int .i64 fa[i].1) := by rw [Nat.mul_comm]; exact hfr.cell (hf1.cell (h5 _ _ h6) id) id
      have hd1 : wr.cell? ⟨bb, o + i * 2 + 1, none⟩ = some (.int .i64 fa[i].2) := by rw [Nat.mul_comm]; exact hfr.cell (hf1.cell (h5 _ _ h7) id) id
      have htk : Hid (fa.take (i + 1) = fa.take i ++ [fa[i]]) := hid (List.take_succ_eq_append_getElem hi2)
      have hmem : Hid (fa[i] ∈ fa) := hid (List.getElem_mem hi2)
      generalize fa[i] = q at *
      obtain ⟨q1, q2⟩ := q
      clear h5 h6 h7 e5
      by_cases hq : a = q1 ∧ b = q2
      · have hval : ∀ w : World, (binOp .eql 92 (.agg #[.int .i64 a, .int .i64 b]) (.agg #[.int .i64 q1, .int .i64 q2])).run Try.prog w = .ok (.bool true) w := fun w => by rw [eql_fault]; simp [hq]
        have Hq := hid hq; clear hq
        go_wp2_with fail
        go_quiet (fail)
        go_wp2
        go_ret
        refine ⟨(i : Int), rfl, ?_, (hf1.then hfr).drewN _⟩
        have := hmem.out
        rw [← Hq.out.1, ← Hq.out.2] at this
        simp [this]
      · have hval : ∀ w : World, (binOp .eql 92 (.agg #[.int .i64 a, .int .i64 b]) (.agg #[.int .i64 q1, .int .i64 q2])).run Try.prog w = .ok (.bool false) w := fun w => by
          have h9 : (a == q1 && b == q2) = false := by
            cases h : (a == q1 && b == q2) with
            | false => rfl
            | true => simp at h; exact absurd h hq
          rw [eql_fault, h9]
        have Hq := hid hq; clear hq
        go_wp2_with fail
        go_quiet (fail)
        go_wp2
        go_roundw
        case rel =>
          refine ⟨i + 1, by go_num, by omega, hfr.drewN _, ?_⟩
          rw [htk.out]
          simp only [List.mem_append, List.mem_singleton, not_or]
          exact ⟨Hno.out, fun h => Hq.out (by simpa using h)⟩
        case measure => simp [intOf]; omega
    · go_wp2
      go_ret
      have hall : fa.take i = fa := List.take_of_length_le (by omega)
      refine ⟨-1, rfl, ?_, hf1.then hfr⟩
      rw [hall] at Hno
      simp [Hno.out]

theorem contains_ok (S : Nat → Prop) (v : Value) (n : Nat) (fa : List (Int × Int)) (hn : n = fa.length) (hl : n ≤ 1000000) (a b : Int) (w : World) (hv : View w S 2 v n (flatF fa)) :
    Calls Try.prog 78 #[v, .agg #[.int .i64 a, .int .i64 b]] w fun e w' => e = .returned (.bool (decide ((a, b) ∈ fa))) ∧ Fr Nil w w' := by
  go_enter Try.func78, Try.ntmps78
  go_wp2_with fail
  obtain ⟨W1, hW1⟩ : ∃ W1, W1 = w.alloc (.cells #[.int .i64 a, .int .i64 b] 92) := ⟨_, rfl⟩
  have hf1 : Fr Nil w W1 := by rw [hW1]; exact (Fr.refl _ _).alloc _
  rw [← hW1]
  clear hW1
  refine (pindex_ok S v n fa hn hl a b W1 (hv.fr hf1 fun _ _ _ h => h)).mono ?_
  rintro e w2 ⟨r, rfl, hr, hf2⟩
  have Hr := hid hr; clear hr
  go_wp2
  go_ret
  rw [← Hr.out]
  exact ⟨rfl, hf1.then hf2⟩

theorem IsP.drew {w : World} {T : Nat → Prop} {pb : Nat} {p : Pl} (h : IsP w T pb p) : IsP w.drew T pb p := h
theorem VT.drew {w : World} {T : Nat → Prop} {X : TypeId} {s n : Nat} {v : Value} {xs : List Value} (h : VT w T X s v n xs) : VT w.drew T X s v n xs := h
/-- asked: an operation is counted. -/
def AskPost (T : Nat → Prop) (pb : Nat) (p : Pl) (op : Nat) (w : World) (e : Ending) (w' : World) : Prop :=
  IsP w' T pb (p.ask op) ∧ Fr (fun k => k = pb) w w' ∧ e = if ((op : Int), ((p.si op + 1 : Nat) : Int)) ∈ p.fa then .panicked [{ v := .iface 130 (.agg #[]), recovered := false }] else .returned (.tuple #[])

set_option maxHeartbeats 1600000 in
theorem asked_ok (T : Nat → Prop) (pb : Nat) (p : Pl) (op : Nat) (hop : op = 1 ∨ op = 2 ∨ op = 3) (hc : p.co op ≤ 1000000 ∧ p.si op ≤ 1000000 ∧ p.fa.length ≤ 1000000) (w : World) (h : IsP w T pb p) :
    Calls Try.prog 64 #[.pointer (some ⟨pb, 0, none⟩), .int .i64 (op : Int)] w (AskPost T pb p op w) := by
  obtain ⟨h0, vb, vc, vf, h1, h2, h3, h4⟩ := h
  obtain ⟨_, A, c, rfl, -⟩ := id h4
  rcases hop with rfl | rfl | rfl
  · have hco : w.cell? ⟨pb, 4, none⟩ = some (.int .i64 (p.co 1)) := h1.cell 4
    have hz : w.frozen? ⟨pb, 4, none⟩ = false := h1.frozen 4
    have hwr : wrap64 ((p.co 1 : Int) + 1) = ((p.co 1 + 1 : Nat) : Int) := by unfold wrap64; omega
    have hwr2 : wrap64 ((p.si 1 : Int) + 1) = ((p.si 1 + 1 : Nat) : Int) := by unfold wrap64; omega
    go_enter Try.func64, Try.ntmps64
    go_wp2_with fail
    go_region
    obtain ⟨W1, hW1⟩ : ∃ W1, W1 = (w.setCell ⟨pb, 4, none⟩ (.int .i64 ((p.co 1 : Int) + 1))).drew := ⟨_, rfl⟩
    have hb1 : Blk W1 pb ((pcs vb vc (.slice A p.fa.length c) p.co p.si).setIfInBounds 4 (.int .i64 ((p.co 1 : Int) + 1))) 89 := by rw [hW1]; exact (h1.set 4 _).drew
    have hf1 : Fr (fun k => k = pb) w W1 := by rw [hW1]; exact ((Fr.refl (fun k => k = pb) w).setCell (a := ⟨pb, 4, none⟩) (.inl rfl) _).drew
    rw [← hW1]
    clear hW1
    have hcs : W1.cell? ⟨pb, 8, none⟩ = some (.int .i64 (p.si 1)) := hb1.cell 8
    have hzs : W1.frozen? ⟨pb, 8, none⟩ = false := hb1.frozen 8
    go_wp2_with fail
    go_region
    obtain ⟨W2, hW2⟩ : ∃ W2, W2 = (W1.setCell ⟨pb, 8, none⟩ (.int .i64 ((p.si 1 : Int) + 1))).drew := ⟨_, rfl⟩
    have hb2 : Blk W2 pb (((pcs vb vc (.slice A p.fa.length c) p.co p.si).setIfInBounds 4 (.int .i64 ((p.co 1 : Int) + 1))).setIfInBounds 8 (.int .i64 ((p.si 1 : Int) + 1))) 89 := by rw [hW2]; exact (hb1.set 8 _).drew
    have hf2 : Fr (fun k => k = pb) w W2 := by rw [hW2]; exact (hf1.setCell (a := ⟨pb, 8, none⟩) (.inl rfl) _).drew
    rw [← hW2]
    clear hW2
    have hcf : W2.cell? ⟨pb, 2, none⟩ = some (.slice A p.fa.length c) := hb2.cell 2
    have hcs2 : W2.cell? ⟨pb, 8, none⟩ = some (.int .i64 ((p.si 1 : Int) + 1)) := hb2.cell 8
    have hv2 : VT W2 T 92 2 (.slice A p.fa.length c) p.fa.length (flatF p.fa) := VT.fr (Y := 89) h4 hf2 (fun k _ _ e => by rw [e]; exact h1.typ) (by decide)
    have hP2 : IsP W2 T pb (p.ask 1) := IsP.own h0 h1 hf2 hb2 h2 h3 h4
    go_wp2_with fail
    go_region_with (go_at_call 78; refine (contains_ok _ _ _ p.fa rfl (by omega) 1 ((p.si 1 : Int) + 1) W2.drew hv2.drew).mono ?_; rintro e w3 ⟨rfl, hf3⟩)
    all_goals
      have hP3 := hP2.drew.fr hf3 (fun _ _ h => h)
      have hf4 : Fr (fun k => k = pb) w w3 := hf2.drew.then hf3.nil
      by_cases hin : (((1 : Nat) : Int), ((p.si 1 + 1 : Nat) : Int)) ∈ p.fa
      · have hd : decide (((1 : Int), (p.si 1 : Int) + 1) ∈ p.fa) = true := by simpa using hin
        have Hin := hid hin; clear hin
        rw [hd]
        go_wp2
        refine ⟨rfl, hP3, hf4, ?_⟩
        rw [if_pos Hin.out]
      · have hd : decide (((1 : Int), (p.si 1 : Int) + 1) ∈ p.fa) = false := by simpa using hin
        have Hin := hid hin; clear hin
        rw [hd]
        go_wp2
        go_end0
        refine ⟨hP3, hf4, ?_⟩
        rw [if_neg Hin.out]
  · have hco : w.cell? ⟨pb, 5, none⟩ = some (.int .i64 (p.co 2)) := h1.cell 5
    have hz : w.frozen? ⟨pb, 5, none⟩ = false := h1.frozen 5
    have hwr : wrap64 ((p.co 2 : Int) + 1) = ((p.co 2 + 1 : Nat) : Int) := by unfold wrap64; omega
    have hwr2 : wrap64 ((p.si 2 : Int) + 1) = ((p.si 2 + 1 : Nat) : Int) := by unfold wrap64; omega
    go_enter Try.func64, Try.ntmps64
    go_wp2_with fail
    go_region
    obtain ⟨W1, hW1⟩ : ∃ W1, W1 = (w.setCell ⟨pb, 5, none⟩ (.int .i64 ((p.co 2 : Int) + 1))).drew := ⟨_, rfl⟩
    have hb1 : Blk W1 pb ((pcs vb vc (.slice A p.fa.length c) p.co p.si).setIfInBounds 5 (.int .i64 ((p.co 2 : Int) + 1))) 89 := by rw [hW1]; exact (h1.set 5 _).drew
    have hf1 : Fr (fun k => k = pb) w W1 := by rw [hW1]; exact ((Fr.refl (fun k => k = pb) w).setCell (a := ⟨pb, 5, none⟩) (.inl rfl) _).drew
    rw [← hW1]
    clear hW1
    have hcs : W1.cell? ⟨pb, 9, none⟩ = some (.int .i64 (p.si 2)) := hb1.cell 9
    have hzs : W1.frozen? ⟨pb, 9, none⟩ = false := hb1.frozen 9
    go_wp2_with fail
    go_region
    obtain ⟨W2, hW2⟩ : ∃ W2, W2 = (W1.setCell ⟨pb, 9, none⟩ (.int .i64 ((p.si 2 : Int) + 1))).drew := ⟨_, rfl⟩
    have hb2 : Blk W2 pb (((pcs vb vc (.slice A p.fa.length c) p.co p.si).setIfInBounds 5 (.int .i64 ((p.co 2 : Int) + 1))).setIfInBounds 9 (.int .i64 ((p.si 2 : Int) + 1))) 89 := by rw [hW2]; exact (hb1.set 9 _).drew
    have hf2 : Fr (fun k => k = pb) w W2 := by rw [hW2]; exact (hf1.setCell (a := ⟨pb, 9, none⟩) (.inl rfl) _).drew
    rw [← hW2]
    clear hW2
    have hcf : W2.cell? ⟨pb, 2, none⟩ = some (.slice A p.fa.length c) := hb2.cell 2
    have hcs2 : W2.cell? ⟨pb, 9, none⟩ = some (.int .i64 ((p.si 2 : Int) + 1)) := hb2.cell 9
    have hv2 : VT W2 T 92 2 (.slice A p.fa.length c) p.fa.length (flatF p.fa) := VT.fr (Y := 89) h4 hf2 (fun k _ _ e => by rw [e]; exact h1.typ) (by decide)
    have hP2 : IsP W2 T pb (p.ask 2) := IsP.own h0 h1 hf2 hb2 h2 h3 h4
    go_wp2_with fail
    go_region_with (go_at_call 78; refine (contains_ok _ _ _ p.fa rfl (by omega) 2 ((p.si 2 : Int) + 1) W2.drew hv2.drew).mono ?_; rintro e w3 ⟨rfl, hf3⟩)
    all_goals
      have hP3 := hP2.drew.fr hf3 (fun _ _ h => h)
      have hf4 : Fr (fun k => k = pb) w w3 := hf2.drew.then hf3.nil
      by_cases hin : (((2 : Nat) : Int), ((p.si 2 + 1 : Nat) : Int)) ∈ p.fa
      · have hd : decide (((2 : Int), (p.si 2 : Int) + 1) ∈ p.fa) = true := by simpa using hin
        have Hin := hid hin; clear hin
        rw [hd]
        go_wp2
        refine ⟨rfl, hP3, hf4, ?_⟩
        rw [if_pos Hin.out]
      · have hd : decide (((2 : Int), (p.si 2 : Int) + 1) ∈ p.fa) = false := by simpa using hin
        have Hin := hid hin; clear hin
        rw [hd]
        go_wp2
        go_end0
        refine ⟨hP3, hf4, ?_⟩
        rw [if_neg Hin.out]
  · have hco : w.cell? ⟨pb, 6, none⟩ = some (.int .i64 (p.co 3)) := h1.cell 6
    have hz : w.frozen? ⟨pb, 6, none⟩ = false := h1.frozen 6
    have hwr : wrap64 ((p.co 3 : Int) + 1) = ((p.co 3 + 1 : Nat) : Int) := by unfold wrap64; omega
    have hwr2 : wrap64 ((p.si 3 : Int) + 1) = ((p.si 3 + 1 : Nat) : Int) := by unfold wrap64; omega
    go_enter Try.func64, Try.ntmps64
    go_wp2_with fail
    go_region
    obtain ⟨W1, hW1⟩ : ∃ W1, W1 = (w.setCell ⟨pb, 6, none⟩ (.int .i64 ((p.co 3 : Int) + 1))).drew := ⟨_, rfl⟩
    have hb1 : Blk W1 pb ((pcs vb vc (.slice A p.fa.length c) p.co p.si).setIfInBounds 6 (.int .i64 ((p.co 3 : Int) + 1))) 89 := by rw [hW1]; exact (h1.set 6 _).drew
    have hf1 : Fr (fun k => k = pb) w W1 := by rw [hW1]; exact ((Fr.refl (fun k => k = pb) w).setCell (a := ⟨pb, 6, none⟩) (.inl rfl) _).drew
    rw [← hW1]
    clear hW1
    have hcs : W1.cell? ⟨pb, 10, none⟩ = some (.int .i64 (p.si 3)) := hb1.cell 10
    have hzs : W1.frozen? ⟨pb, 10, none⟩ = false := hb1.frozen 10
    go_wp2_with fail
    go_region
    obtain ⟨W2, hW2⟩ : ∃ W2, W2 = (W1.setCell ⟨pb, 10, none⟩ (.int .i64 ((p.si 3 : Int) + 1))).drew := ⟨_, rfl⟩
    have hb2 : Blk W2 pb (((pcs vb vc (.slice A p.fa.length c) p.co p.si).setIfInBounds 6 (.int .i64 ((p.co 3 : Int) + 1))).setIfInBounds 10 (.int .i64 ((p.si 3 : Int) + 1))) 89 := by rw [hW2]; exact (hb1.set 10 _).drew
    have hf2 : Fr (fun k => k = pb) w W2 := by rw [hW2]; exact (hf1.setCell (a := ⟨pb, 10, none⟩) (.inl rfl) _).drew
    rw [← hW2]
    clear hW2
    have hcf : W2.cell? ⟨pb, 2, none⟩ = some (.slice A p.fa.length c) := hb2.cell 2
    have hcs2 : W2.cell? ⟨pb, 10, none⟩ = some (.int .i64 ((p.si 3 : Int) + 1)) := hb2.cell 10
    have hv2 : VT W2 T 92 2 (.slice A p.fa.length c) p.fa.length (flatF p.fa) := VT.fr (Y := 89) h4 hf2 (fun k _ _ e => by rw [e]; exact h1.typ) (by decide)
    have hP2 : IsP W2 T pb (p.ask 3) := IsP.own h0 h1 hf2 hb2 h2 h3 h4
    go_wp2_with fail
    go_region_with (go_at_call 78; refine (contains_ok _ _ _ p.fa rfl (by omega) 3 ((p.si 3 : Int) + 1) W2.drew hv2.drew).mono ?_; rintro e w3 ⟨rfl, hf3⟩)
    all_goals
      have hP3 := hP2.drew.fr hf3 (fun _ _ h => h)
      have hf4 : Fr (fun k => k = pb) w w3 := hf2.drew.then hf3.nil
      by_cases hin : (((3 : Nat) : Int), ((p.si 3 + 1 : Nat) : Int)) ∈ p.fa
      · have hd : decide (((3 : Int), (p.si 3 : Int) + 1) ∈ p.fa) = true := by simpa using hin
        have Hin := hid hin; clear hin
        rw [hd]
        go_wp2
        refine ⟨rfl, hP3, hf4, ?_⟩
        rw [if_pos Hin.out]
      · have hd : decide (((3 : Int), (p.si 3 : Int) + 1) ∈ p.fa) = false := by simpa using hin
        have Hin := hid hin; clear hin
        rw [hd]
        go_wp2
        go_end0
        refine ⟨hP3, hf4, ?_⟩
        rw [if_neg Hin.out]
end Go.Proofs.Ytgoghmblfdlnbaa
end

section
/- platter's tried: an operation that is counted, and may fail. Conditions: the platter is a block of the program's own. -/
set_option linter.unusedSimpArgs false
set_option linter.unusedVariables false
namespace Go.Proofs.Ytgoghmblfdlnbaa
open Go.RowKit

def brk : List PanicEntry := [{ v := .iface 130 (.agg #[]), recovered := false }]
@[go_sem] theorem assert_broken (w : World) : (Instr.typeAssert (.iface 130 (.agg #[])) 20 130 true).run Try.prog w = .ok (.tuple #[.agg #[], .bool true]) w := by kernel_rfl

/-- The deferred function, where nothing panics. -/
theorem tried_ret (eb : Nat) (w : World) : CallsD Try.prog 63 #[.pointer (some ⟨eb, 0, none⟩)] .returning w fun e u' w' => e = .returned (.tuple #[]) ∧ u' = .returning ∧ w = w' := by
  refine callsD_of_wpS Try.func63 rfl fun c₀ cs hu => ?_
  simp only [Try.ntmps63, List.size_toArray, List.length_cons, List.length_nil, Nat.reduceAdd, Nat.reduceSub, Array.replicate_succ, Array.replicate_zero, List.push_toArray, List.append_toArray, List.nil_append, List.cons_append]
  apply wpS_seq
  apply wpS_region
  simp [wpOpsS, go_sem, recoverD, hu, Try.ntmps63, Exit.thenS]
  refine wpS_plain (fun e a' w' => e = .normal ∧ a'.defers = [] ∧ w = w') (fun Q' hQ => ?_) ?_
  · go_wp2
  · rintro e a' w' ⟨rfl, h0, rfl⟩
    cases c₀
    simp_all [bodyPostS, results, Try.results63]

/-- .. where a fault was. -/
theorem tried_brk (eb : Nat) (x : Int) (older : List PanicEntry) (w : World) (hb : Blk w eb #[.int .i64 x] 34) : CallsD Try.prog 63 #[.pointer (some ⟨eb, 0, none⟩)] (.panicking ({ v := .iface 130 (.agg #[]), recovered := false } :: older)) w fun e u' w' =>
    e = .returned (.tuple #[]) ∧ u' = .panicking ({ v := .iface 130 (.agg #[]), recovered := true } :: older) ∧ Fr (fun k => k = eb) w w' ∧ Blk w' eb #[.int .i64 6] 34 := by
  have hc : w.cell? ⟨eb, 0, none⟩ = some (.int .i64 x) := hb.cell 0
  have hf : w.frozen? ⟨eb, 0, none⟩ = false := hb.frozen 0
  have hlt : eb < w.heap.size := hb.lt
  refine callsD_of_wpS Try.func63 rfl fun c₀ cs hu => ?_
  simp only [Try.ntmps63, List.size_toArray, List.length_cons, List.length_nil, Nat.reduceAdd, Nat.reduceSub, Array.replicate_succ, Array.replicate_zero, List.push_toArray, List.append_toArray, List.nil_append, List.cons_append]
  apply wpS_seq
  apply wpS_region
  simp [wpOpsS, go_sem, recoverD, hu, Try.ntmps63, Exit.thenS]
  refine wpS_plain (fun e a' w' => e = .normal ∧ a'.defers = [] ∧ Fr (fun k => k = eb) w w' ∧ Blk w' eb #[.int .i64 6] 34) (fun Q' hQ => ?_) ?_
  · go_wp2
    exact ⟨((Fr.refl (fun k => k = eb) w).setCell (a := ⟨eb, 0, none⟩) (.inl rfl) _).alloc _, (hb.set 0 _).alloc _⟩
  · rintro e a' w' ⟨rfl, h0, h1, h2⟩
    cases c₀
    simp_all [bodyPostS, results, Try.results63]

/-- What tried leaves. -/
def TriedPost (w : World) (T : Nat → Prop) (R : Int → World → Prop) (e : Ending) (w' : World) : Prop :=
  ∃ r w3, e = .returned (.int .i64 r) ∧ R r w3 ∧ Fr (fun k => k = w.heap.size) w3 w' ∧ Fr T w w3

/-- tried, where no fault is planned: the function that is given is called. -/
theorem tried_gen (K : Nat) (caps : Array Value) (T U : Nat → Prop) (pb : Nat) (p : Pl) (op : Nat) (hop : op = 1 ∨ op = 2 ∨ op = 3) (hc : p.co op ≤ 1000000 ∧ p.si op ≤ 1000000 ∧ p.fa.length ≤ 1000000 ∧ 0 < p.bl.length) (w : World) (h : IsP w T pb p)
    (hT : ∀ k, T k → k < w.heap.size) (hU : ∀ k, U k → k < w.heap.size) (hno : ((op : Int), ((p.si op + 1 : Nat) : Int)) ∉ p.fa)
    (hK : ∀ args w, (callFunc K args).run Try.prog w = .ok (.enter K args) w) (R : Int → World → Prop)
    (hF : ∀ w2, Fr T w w2 → w.heap.size < w2.heap.size → IsP w2 T pb (p.ask op) → Calls Try.prog K caps w2 fun e w3 => ∃ r, e = .returned (.int .i64 r) ∧ R r w3 ∧ Fr (fun k => T k ∨ U k) w2 w3) :
    Calls Try.prog 41 #[.pointer (some ⟨pb, 0, none⟩), .int .i64 (op : Int), .func (.func K) #[] caps] w (TriedPost w (fun k => T k ∨ U k) R) := by
  have H := hid hF; clear hF
  have HC := hid hc; clear hc
  have HNO := hid hno; clear hno
  go_enter_defers Try.func41, Try.ntmps41
  go_wp2_with fail
  obtain ⟨W1, hW1⟩ : ∃ W1, W1 = w.alloc (.cells #[.int .i64 0] 34) := ⟨_, rfl⟩
  have hb1 : Blk W1 w.heap.size #[.int .i64 0] 34 := by rw [hW1]; exact Blk.new _ _ _
  have hf1 : Fr Nil w W1 := by rw [hW1]; exact (Fr.refl _ _).alloc _
  have hs1 : W1.heap.size = w.heap.size + 1 := by rw [hW1]; simp
  rw [← hW1]
  clear hW1
  have hP1 := h.fr hf1 fun _ _ h => h
  refine (blocks_ok T pb p W1 hP1).mono ?_
  rintro e w2 ⟨rfl, rfl⟩
  have hz : ((p.bl.length : Int) == 0) = false := by have := HC.out; rw [beq_eq_false_iff_ne]; omega
  go_wp2_with fail
  refine (asked_ok T pb p op hop ⟨HC.out.1, HC.out.2.1, HC.out.2.2.1⟩ W1 hP1).mono ?_
  rintro e w2 ⟨hP2, hf2, he⟩
  rw [if_neg HNO.out] at he
  subst he
  have hpT : ∀ k, k = pb → T k := fun k hk => by rw [hk]; exact h.1
  have hb2 := hb1.fr hf2 (fun e => by have := hT _ h.1; omega)
  go_wp2_with fail
  refine (H.out w2 (hf1.nil.then (hf2.mono hpT)) (by have := hf2.size; omega) hP2).mono ?_
  rintro e w3 ⟨r, rfl, hR, hf3⟩
  have hb3 := hb2.fr hf3 (fun h => h.elim (fun h => by have := hT _ h; omega) (fun h => by have := hU _ h; omega))
  have hc3 : w3.cell? ⟨w.heap.size, 0, none⟩ = some (.int .i64 0) := hb3.cell 0
  have hz3 : w3.frozen? ⟨w.heap.size, 0, none⟩ = false := hb3.frozen 0
  have hfT : Fr (fun k => T k ∨ U k) w w3 := (hf1.nil.then (hf2.mono fun k hk => .inl (hpT k hk))).then hf3
  go_wp2
  have hcell : (w3.setCell ⟨w.heap.size, 0, none⟩ (.int .i64 r)).cell? ⟨w.heap.size, 0, none⟩ = some (.int .i64 r) := (hb3.set 0 _).cell 0
  refine leaves_cons (f := 63) (args := #[.pointer (some ⟨w.heap.size, 0, none⟩)]) (by simp) (by simp [go_sem]) ?_
  refine (tried_ret w.heap.size _).mono ?_
  rintro e u' w'' ⟨rfl, rfl, rfl⟩
  simp [Leaves, settle, results, Try.results41, go_sem, hcell]
  exact ⟨r, w3, rfl, hR, (Fr.refl (fun k => k = w.heap.size) w3).setCell (a := ⟨w.heap.size, 0, none⟩) (.inl rfl) _, hfT⟩

theorem tried_ok (K : Nat) (caps : Array Value) (T : Nat → Prop) (pb : Nat) (p : Pl) (op : Nat) (hop : op = 1 ∨ op = 2 ∨ op = 3) (hc : p.co op ≤ 1000000 ∧ p.si op ≤ 1000000 ∧ p.fa.length ≤ 1000000 ∧ 0 < p.bl.length) (w : World) (h : IsP w T pb p)
    (hT : ∀ k, T k → k < w.heap.size) (hno : ((op : Int), ((p.si op + 1 : Nat) : Int)) ∉ p.fa)
    (hK : ∀ args w, (callFunc K args).run Try.prog w = .ok (.enter K args) w) (R : Int → World → Prop)
    (hF : ∀ w2, Fr T w w2 → w.heap.size < w2.heap.size → IsP w2 T pb (p.ask op) → Calls Try.prog K caps w2 fun e w3 => ∃ r, e = .returned (.int .i64 r) ∧ R r w3 ∧ Fr T w2 w3) :
    Calls Try.prog 41 #[.pointer (some ⟨pb, 0, none⟩), .int .i64 (op : Int), .func (.func K) #[] caps] w (TriedPost w T R) :=
  (tried_gen K caps T Nil pb p op hop hc w h hT (fun _ h => h.elim) hno hK R fun w2 a b c => (hF w2 a b c).mono fun e w3 ⟨r, h1, h2, h3⟩ => ⟨r, h1, h2, h3.mono fun _ h => .inl h⟩).mono
    fun e w' ⟨r, w3, h1, h2, h3, h4⟩ => ⟨r, w3, h1, h2, h3, h4.mono fun _ h => h.elim id False.elim⟩

/-- tried, where a fault is planned: the function that is given is not called. -/
theorem tried_fault (K : Nat) (caps : Array Value) (T : Nat → Prop) (pb : Nat) (p : Pl) (op : Nat) (hop : op = 1 ∨ op = 2 ∨ op = 3) (hc : p.co op ≤ 1000000 ∧ p.si op ≤ 1000000 ∧ p.fa.length ≤ 1000000 ∧ 0 < p.bl.length) (w : World) (h : IsP w T pb p)
    (hT : ∀ k, T k → k < w.heap.size) (hno : ((op : Int), ((p.si op + 1 : Nat) : Int)) ∈ p.fa) :
    Calls Try.prog 41 #[.pointer (some ⟨pb, 0, none⟩), .int .i64 (op : Int), .func (.func K) #[] caps] w fun e w' => e = .returned (.int .i64 6) ∧ IsP w' T pb (p.ask op) ∧ Fr (fun k => k = pb) w w' := by
  have HC := hid hc; clear hc
  have HNO := hid hno; clear hno
  go_enter_defers Try.func41, Try.ntmps41
  go_wp2_with fail
  obtain ⟨W1, hW1⟩ : ∃ W1, W1 = w.alloc (.cells #[.int .i64 0] 34) := ⟨_, rfl⟩
  have hb1 : Blk W1 w.heap.size #[.int .i64 0] 34 := by rw [hW1]; exact Blk.new _ _ _
  have hf1 : Fr Nil w W1 := by rw [hW1]; exact (Fr.refl _ _).alloc _
  have hs1 : W1.heap.size = w.heap.size + 1 := by rw [hW1]; simp
  rw [← hW1]
  clear hW1
  have hP1 := h.fr hf1 fun _ _ h => h
  refine (blocks_ok T pb p W1 hP1).mono ?_
  rintro e w2 ⟨rfl, rfl⟩
  have hz : ((p.bl.length : Int) == 0) = false := by have := HC.out; rw [beq_eq_false_iff_ne]; omega
  go_wp2_with fail
  refine (asked_ok T pb p op hop ⟨HC.out.1, HC.out.2.1, HC.out.2.2.1⟩ W1 hP1).mono ?_
  rintro e w2 ⟨hP2, hf2, he⟩
  rw [if_pos HNO.out] at he
  subst he
  have hb2 := hb1.fr hf2 (fun e => by have := hT _ h.1; omega)
  show bodyPostD Try.prog Try.f41 (fun e w' => e = .returned (.int .i64 6) ∧ IsP w' T pb (p.ask op) ∧ Fr (fun k => k = pb) w w') (Exit.panic brk) _ _
  refine leaves_cons (f := 63) (args := #[.pointer (some ⟨w.heap.size, 0, none⟩)]) (by simp) (by simp [go_sem]) ?_
  refine (tried_brk w.heap.size 0 [] _ hb2).mono ?_
  rintro e u' w'' ⟨rfl, rfl, hf5, hb5⟩
  have hcell : w''.cell? ⟨w.heap.size, 0, none⟩ = some (.int .i64 6) := hb5.cell 0
  have hP5 := hP2.fr hf5 (fun k hk (e : k = w.heap.size) => by have := hT _ hk; omega)
  have hF5 : Fr (fun k => k = pb) w w'' := (hf1.nil.then hf2).trans hf5 (fun k hk => .inr (by omega))
  simp [Leaves, settle, results, Try.results41, go_sem, hcell]
  exact ⟨hP5, hF5⟩
end Go.Proofs.Ytgoghmblfdlnbaa
end

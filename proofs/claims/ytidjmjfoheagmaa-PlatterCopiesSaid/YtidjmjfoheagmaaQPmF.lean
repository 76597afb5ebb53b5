/- The reference's Platter: fault. -/
import Derived.Test.YtidjmjfoheagmaaQPmA
set_option linter.unusedSimpArgs false
set_option linter.unusedVariables false
namespace Go.Proofs.Ytidjmjfoheagmaa
open Go.RowKit
set_option maxRecDepth 20000 in
theorem m_fault1 (T : Nat → Prop) (mb : Nat) (p : Pl) (b : Bool) (hb : b = true ↔ p.bad 1) (hc : p.co 1 ≤ 1000000 ∧ p.si 1 ≤ 1000000 ∧ p.fa.length ≤ 1000000) (w : World) (h : IsM w T mb p) :
    Calls Try.prog 46 #[.pointer (some ⟨mb, 0, none⟩), .int .i64 1] w fun e w' => e = .returned (.bool b) ∧ IsM w' T mb (p.ask 1) ∧ Fr (fun k => k = mb) w w' := by
  obtain ⟨h0, vb, vc, vf, h1, h2, h3, h4⟩ := h
  obtain ⟨_, A, c, rfl, -⟩ := id h4
  have HB := hid hb
  clear hb
  have hco : w.cell? ⟨mb, 4, none⟩ = some (.int .i64 (p.co 1)) := h1.cell 4
  have hz : w.frozen? ⟨mb, 4, none⟩ = false := h1.frozen 4
  obtain ⟨hc1, hc2, hc3⟩ := hc
  go_enter Try.func46, Try.ntmps46
  go_wp2_with fail
  go_region
  obtain ⟨W1, hW1⟩ : ∃ W1, W1 = (w.setCell ⟨mb, 4, none⟩ (.int .i64 ((p.co 1 : Int) + 1))).drew := ⟨_, rfl⟩
  have hb1 : Blk W1 mb ((pcs vb vc (.slice A p.fa.length c) p.co p.si).setIfInBounds 4 (.int .i64 ((p.co 1 : Int) + 1))) 64 := by rw [hW1]; exact (h1.set 4 _).drew
  have hf1 : Fr (fun k => k = mb) w W1 := by rw [hW1]; exact ((Fr.refl (fun k => k = mb) w).setCell (a := ⟨mb, 4, none⟩) (.inl rfl) _).drew
  rw [← hW1]
  clear hW1
  have hcs : W1.cell? ⟨mb, 8, none⟩ = some (.int .i64 (p.si 1)) := hb1.cell 8
  have hzs : W1.frozen? ⟨mb, 8, none⟩ = false := hb1.frozen 8
  go_wp2_with fail
  go_region
  obtain ⟨W2, hW2⟩ : ∃ W2, W2 = (W1.setCell ⟨mb, 8, none⟩ (.int .i64 ((p.si 1 : Int) + 1))).drew := ⟨_, rfl⟩
  have hb2 : Blk W2 mb (((pcs vb vc (.slice A p.fa.length c) p.co p.si).setIfInBounds 4 (.int .i64 ((p.co 1 : Int) + 1))).setIfInBounds 8 (.int .i64 ((p.si 1 : Int) + 1))) 64 := by rw [hW2]; exact (hb1.set 8 _).drew
  have hf2 : Fr (fun k => k = mb) w W2 := by rw [hW2]; exact (hf1.setCell (a := ⟨mb, 8, none⟩) (.inl rfl) _).drew
  rw [← hW2]
  clear hW2
  have hP2 := hid (show IsM W2 T mb (p.ask 1) from IsM.own h0 h1 hf2 hb2 h2 h3 h4)
  have hF2 := hid hf2
  have HB2 := hid hb2
  have hV2 := hid (show VT W2 T 89 2 (.slice A p.fa.length c) p.fa.length (flatF p.fa) from VT.fr (Y := 64) h4 hf2 (fun k _ _ e => by rw [e]; exact h1.typ) (by decide))
  clear hco hz hcs hzs hb1 hf1 hb2 hf2 h1 h2 h3 h4
  obtain ⟨n, hn⟩ : ∃ n, n = p.fa.length := ⟨_, rfl⟩
  rw [← hn] at hV2 HB2 hc3
  have Hn := hid hn
  clear hn
  have hcf : W2.cell? ⟨mb, 2, none⟩ = some (.slice A n c) := HB2.out.cell 2
  go_wp2_with fail
  go_loopw [5] (fun v5 wr => ∃ i : Nat, v5 = .int .i64 i ∧ i ≤ n ∧ Hid (∀ j, j < i → p.fa[j]? ≠ some (((1 : Nat) : Int), ((p.si 1 + 1 : Nat) : Int))) ∧ Fr Nil W2 wr) (fun v5 _ => n - (intOf v5).toNat)
  case atStart => exact ⟨0, rfl, by omega, hid fun j hj => absurd hj (Nat.not_lt_zero _), Fr.refl _ _⟩
  case round =>
    clear hcf
    obtain ⟨i, rfl, hi, hA, hfw⟩ := hrel
    have hbw := HB2.out.fr hfw fun h => h
    have hcf : wr.cell? ⟨mb, 2, none⟩ = some (.slice A n c) := hbw.cell 2
    have hcs : wr.cell? ⟨mb, 8, none⟩ = some (.int .i64 ((p.si 1 : Int) + 1)) := hbw.cell 8
    clear hbw
    by_cases hlt : i < n
    · obtain ⟨bf, o, x, y, rfl, hx, q0, q1⟩ := fau_at (hV2.out.fr (S1 := Nil) (Y := 4) hfw (fun _ _ _ h => h.elim) (by decide)) Hn.out hlt
      have Hx := hid hx
      clear hx
      go_upto_region 6 with (fail)
      cases e1 : (x == 1) with
      | true =>
        cases e2 : (y == (p.si 1 : Int) + 1) with
        | true =>
          have E := hid (show b = true from HB.out.2 (List.mem_of_getElem? (by rw [Hx.out, show x = 1 from eq_of_beq e1, show y = (p.si 1 : Int) + 1 from eq_of_beq e2]; rfl)))
          go_quiet (fail)
          go_wp2
          go_ret
          exact ⟨by rw [E.out]; rfl, hP2.out.fr (hfw.then ((Fr.refl _ _).drewN _)) fun _ _ h => h, (hF2.out.thenNil hfw).drewN _⟩
        | false =>
          have E := hid (show p.fa[i]? ≠ some (((1 : Nat) : Int), ((p.si 1 + 1 : Nat) : Int)) from fun h => by
            rw [Hx.out] at h
            injection h with h
            injection h with _ h
            rw [h] at e2
            simp at e2)
          go_quiet (fail)
          go_wp2_with fail
          go_roundw
          case rel => exact ⟨i + 1, by go_num, by omega, hid fun j hj => by
            by_cases h : j = i
            · subst h; exact E.out
            · exact hA.out j (by omega), hfw.drewN _⟩
          case measure => simp [intOf]; omega
      | false =>
        have E := hid (show p.fa[i]? ≠ some (((1 : Nat) : Int), ((p.si 1 + 1 : Nat) : Int)) from fun h => by
          rw [Hx.out] at h
          injection h with h
          injection h with h _
          rw [h] at e1
          simp at e1)
        go_quiet (fail)
        go_wp2_with fail
        go_roundw
        case rel => exact ⟨i + 1, by go_num, by omega, hid fun j hj => by
          by_cases h : j = i
          · subst h; exact E.out
          · exact hA.out j (by omega), hfw.drewN _⟩
        case measure => simp [intOf]; omega
    · have E := hid (show b = false from by
        cases hbb : b with
        | false => rfl
        | true =>
          obtain ⟨j, hj⟩ := List.getElem?_of_mem (HB.out.1 hbb)
          exact absurd hj (hA.out j (by have := (List.getElem?_eq_some_iff.1 hj).1; have := Hn.out; omega)))
      go_wp2
      go_ret
      exact ⟨by rw [E.out]; rfl, hP2.out.fr hfw fun _ _ h => h, hF2.out.thenNil hfw⟩
set_option maxRecDepth 20000 in
theorem m_fault2 (T : Nat → Prop) (mb : Nat) (p : Pl) (b : Bool) (hb : b = true ↔ p.bad 2) (hc : p.co 2 ≤ 1000000 ∧ p.si 2 ≤ 1000000 ∧ p.fa.length ≤ 1000000) (w : World) (h : IsM w T mb p) :
    Calls Try.prog 46 #[.pointer (some ⟨mb, 0, none⟩), .int .i64 2] w fun e w' => e = .returned (.bool b) ∧ IsM w' T mb (p.ask 2) ∧ Fr (fun k => k = mb) w w' := by
  obtain ⟨h0, vb, vc, vf, h1, h2, h3, h4⟩ := h
  obtain ⟨_, A, c, rfl, -⟩ := id h4
  have HB := hid hb
  clear hb
  have hco : w.cell? ⟨mb, 5, none⟩ = some (.int .i64 (p.co 2)) := h1.cell 5
  have hz : w.frozen? ⟨mb, 5, none⟩ = false := h1.frozen 5
  obtain ⟨hc1, hc2, hc3⟩ := hc
  go_enter Try.func46, Try.ntmps46
  go_wp2_with fail
  go_region
  obtain ⟨W1, hW1⟩ : ∃ W1, W1 = (w.setCell ⟨mb, 5, none⟩ (.int .i64 ((p.co 2 : Int) + 1))).drew := ⟨_, rfl⟩
  have hb1 : Blk W1 mb ((pcs vb vc (.slice A p.fa.length c) p.co p.si).setIfInBounds 5 (.int .i64 ((p.co 2 : Int) + 1))) 64 := by rw [hW1]; exact (h1.set 5 _).drew
  have hf1 : Fr (fun k => k = mb) w W1 := by rw [hW1]; exact ((Fr.refl (fun k => k = mb) w).setCell (a := ⟨mb, 5, none⟩) (.inl rfl) _).drew
  rw [← hW1]
  clear hW1
  have hcs : W1.cell? ⟨mb, 9, none⟩ = some (.int .i64 (p.si 2)) := hb1.cell 9
  have hzs : W1.frozen? ⟨mb, 9, none⟩ = false := hb1.frozen 9
  go_wp2_with fail
  go_region
  obtain ⟨W2, hW2⟩ : ∃ W2, W2 = (W1.setCell ⟨mb, 9, none⟩ (.int .i64 ((p.si 2 : Int) + 1))).drew := ⟨_, rfl⟩
  have hb2 : Blk W2 mb (((pcs vb vc (.slice A p.fa.length c) p.co p.si).setIfInBounds 5 (.int .i64 ((p.co 2 : Int) + 1))).setIfInBounds 9 (.int .i64 ((p.si 2 : Int) + 1))) 64 := by rw [hW2]; exact (hb1.set 9 _).drew
  have hf2 : Fr (fun k => k = mb) w W2 := by rw [hW2]; exact (hf1.setCell (a := ⟨mb, 9, none⟩) (.inl rfl) _).drew
  rw [← hW2]
  clear hW2
  have hP2 := hid (show IsM W2 T mb (p.ask 2) from IsM.own h0 h1 hf2 hb2 h2 h3 h4)
  have hF2 := hid hf2
  have HB2 := hid hb2
  have hV2 := hid (show VT W2 T 89 2 (.slice A p.fa.length c) p.fa.length (flatF p.fa) from VT.fr (Y := 64) h4 hf2 (fun k _ _ e => by rw [e]; exact h1.typ) (by decide))
  clear hco hz hcs hzs hb1 hf1 hb2 hf2 h1 h2 h3 h4
  obtain ⟨n, hn⟩ : ∃ n, n = p.fa.length := ⟨_, rfl⟩
  rw [← hn] at hV2 HB2 hc3
  have Hn := hid hn
  clear hn
  have hcf : W2.cell? ⟨mb, 2, none⟩ = some (.slice A n c) := HB2.out.cell 2
  go_wp2_with fail
  go_loopw [5] (fun v5 wr => ∃ i : Nat, v5 = .int .i64 i ∧ i ≤ n ∧ Hid (∀ j, j < i → p.fa[j]? ≠ some (((2 : Nat) : Int), ((p.si 2 + 1 : Nat) : Int))) ∧ Fr Nil W2 wr) (fun v5 _ => n - (intOf v5).toNat)
  case atStart => exact ⟨0, rfl, by omega, hid fun j hj => absurd hj (Nat.not_lt_zero _), Fr.refl _ _⟩
  case round =>
    clear hcf
    obtain ⟨i, rfl, hi, hA, hfw⟩ := hrel
    have hbw := HB2.out.fr hfw fun h => h
    have hcf : wr.cell? ⟨mb, 2, none⟩ = some (.slice A n c) := hbw.cell 2
    have hcs : wr.cell? ⟨mb, 9, none⟩ = some (.int .i64 ((p.si 2 : Int) + 1)) := hbw.cell 9
    clear hbw
    by_cases hlt : i < n
    · obtain ⟨bf, o, x, y, rfl, hx, q0, q1⟩ := fau_at (hV2.out.fr (S1 := Nil) (Y := 4) hfw (fun _ _ _ h => h.elim) (by decide)) Hn.out hlt
      have Hx := hid hx
      clear hx
      go_upto_region 6 with (fail)
      cases e1 : (x == 2) with
      | true =>
        cases e2 : (y == (p.si 2 : Int) + 1) with
        | true =>
          have E := hid (show b = true from HB.out.2 (List.mem_of_getElem? (by rw [Hx.out, show x = 2 from eq_of_beq e1, show y = (p.si 2 : Int) + 1 from eq_of_beq e2]; rfl)))
          go_quiet (fail)
          go_wp2
          go_ret
          exact ⟨by rw [E.out]; rfl, hP2.out.fr (hfw.then ((Fr.refl _ _).drewN _)) fun _ _ h => h, (hF2.out.thenNil hfw).drewN _⟩
        | false =>
          have E := hid (show p.fa[i]? ≠ some (((2 : Nat) : Int), ((p.si 2 + 1 : Nat) : Int)) from fun h => by
            rw [Hx.out] at h
            injection h with h
            injection h with _ h
            rw [h] at e2
            simp at e2)
          go_quiet (fail)
          go_wp2_with fail
          go_roundw
          case rel => exact ⟨i + 1, by go_num, by omega, hid fun j hj => by
            by_cases h : j = i
            · subst h; exact E.out
            · exact hA.out j (by omega), hfw.drewN _⟩
          case measure => simp [intOf]; omega
      | false =>
        have E := hid (show p.fa[i]? ≠ some (((2 : Nat) : Int), ((p.si 2 + 1 : Nat) : Int)) from fun h => by
          rw [Hx.out] at h
          injection h with h
          injection h with h _
          rw [h] at e1
          simp at e1)
        go_quiet (fail)
        go_wp2_with fail
        go_roundw
        case rel => exact ⟨i + 1, by go_num, by omega, hid fun j hj => by
          by_cases h : j = i
          · subst h; exact E.out
          · exact hA.out j (by omega), hfw.drewN _⟩
        case measure => simp [intOf]; omega
    · have E := hid (show b = false from by
        cases hbb : b with
        | false => rfl
        | true =>
          obtain ⟨j, hj⟩ := List.getElem?_of_mem (HB.out.1 hbb)
          exact absurd hj (hA.out j (by have := (List.getElem?_eq_some_iff.1 hj).1; have := Hn.out; omega)))
      go_wp2
      go_ret
      exact ⟨by rw [E.out]; rfl, hP2.out.fr hfw fun _ _ h => h, hF2.out.thenNil hfw⟩
set_option maxRecDepth 20000 in
theorem m_fault3 (T : Nat → Prop) (mb : Nat) (p : Pl) (b : Bool) (hb : b = true ↔ p.bad 3) (hc : p.co 3 ≤ 1000000 ∧ p.si 3 ≤ 1000000 ∧ p.fa.length ≤ 1000000) (w : World) (h : IsM w T mb p) :
    Calls Try.prog 46 #[.pointer (some ⟨mb, 0, none⟩), .int .i64 3] w fun e w' => e = .returned (.bool b) ∧ IsM w' T mb (p.ask 3) ∧ Fr (fun k => k = mb) w w' := by
  obtain ⟨h0, vb, vc, vf, h1, h2, h3, h4⟩ := h
  obtain ⟨_, A, c, rfl, -⟩ := id h4
  have HB := hid hb
  clear hb
  have hco : w.cell? ⟨mb, 6, none⟩ = some (.int .i64 (p.co 3)) := h1.cell 6
  have hz : w.frozen? ⟨mb, 6, none⟩ = false := h1.frozen 6
  obtain ⟨hc1, hc2, hc3⟩ := hc
  go_enter Try.func46, Try.ntmps46
  go_wp2_with fail
  go_region
  obtain ⟨W1, hW1⟩ : ∃ W1, W1 = (w.setCell ⟨mb, 6, none⟩ (.int .i64 ((p.co 3 : Int) + 1))).drew := ⟨_, rfl⟩
  have hb1 : Blk W1 mb ((pcs vb vc (.slice A p.fa.length c) p.co p.si).setIfInBounds 6 (.int .i64 ((p.co 3 : Int) + 1))) 64 := by rw [hW1]; exact (h1.set 6 _).drew
  have hf1 : Fr (fun k => k = mb) w W1 := by rw [hW1]; exact ((Fr.refl (fun k => k = mb) w).setCell (a := ⟨mb, 6, none⟩) (.inl rfl) _).drew
  rw [← hW1]
  clear hW1
  have hcs : W1.cell? ⟨mb, 10, none⟩ = some (.int .i64 (p.si 3)) := hb1.cell 10
  have hzs : W1.frozen? ⟨mb, 10, none⟩ = false := hb1.frozen 10
  go_wp2_with fail
  go_region
  obtain ⟨W2, hW2⟩ : ∃ W2, W2 = (W1.setCell ⟨mb, 10, none⟩ (.int .i64 ((p.si 3 : Int) + 1))).drew := ⟨_, rfl⟩
  have hb2 : Blk W2 mb (((pcs vb vc (.slice A p.fa.length c) p.co p.si).setIfInBounds 6 (.int .i64 ((p.co 3 : Int) + 1))).setIfInBounds 10 (.int .i64 ((p.si 3 : Int) + 1))) 64 := by rw [hW2]; exact (hb1.set 10 _).drew
  have hf2 : Fr (fun k => k = mb) w W2 := by rw [hW2]; exact (hf1.setCell (a := ⟨mb, 10, none⟩) (.inl rfl) _).drew
  rw [← hW2]
  clear hW2
  have hP2 := hid (show IsM W2 T mb (p.ask 3) from IsM.own h0 h1 hf2 hb2 h2 h3 h4)
  have hF2 := hid hf2
  have HB2 := hid hb2
  have hV2 := hid (show VT W2 T 89 2 (.slice A p.fa.length c) p.fa.length (flatF p.fa) from VT.fr (Y := 64) h4 hf2 (fun k _ _ e => by rw [e]; exact h1.typ) (by decide))
  clear hco hz hcs hzs hb1 hf1 hb2 hf2 h1 h2 h3 h4
  obtain ⟨n, hn⟩ : ∃ n, n = p.fa.length := ⟨_, rfl⟩
  rw [← hn] at hV2 HB2 hc3
  have Hn := hid hn
  clear hn
  have hcf : W2.cell? ⟨mb, 2, none⟩ = some (.slice A n c) := HB2.out.cell 2
  go_wp2_with fail
  go_loopw [5] (fun v5 wr => ∃ i : Nat, v5 = .int .i64 i ∧ i ≤ n ∧ Hid (∀ j, j < i → p.fa[j]? ≠ some (((3 : Nat) : Int), ((p.si 3 + 1 : Nat) : Int))) ∧ Fr Nil W2 wr) (fun v5 _ => n - (intOf v5).toNat)
  case atStart => exact ⟨0, rfl, by omega, hid fun j hj => absurd hj (Nat.not_lt_zero _), Fr.refl _ _⟩
  case round =>
    clear hcf
    obtain ⟨i, rfl, hi, hA, hfw⟩ := hrel
    have hbw := HB2.out.fr hfw fun h => h
    have hcf : wr.cell? ⟨mb, 2, none⟩ = some (.slice A n c) := hbw.cell 2
    have hcs : wr.cell? ⟨mb, 10, none⟩ = some (.int .i64 ((p.si 3 : Int) + 1)) := hbw.cell 10
    clear hbw
    by_cases hlt : i < n
    · obtain ⟨bf, o, x, y, rfl, hx, q0, q1⟩ := fau_at (hV2.out.fr (S1 := Nil) (Y := 4) hfw (fun _ _ _ h => h.elim) (by decide)) Hn.out hlt
      have Hx := hid hx
      clear hx
      go_upto_region 6 with (fail)
      cases e1 : (x == 3) with
      | true =>
        cases e2 : (y == (p.si 3 : Int) + 1) with
        | true =>
          have E := hid (show b = true from HB.out.2 (List.mem_of_getElem? (by rw [Hx.out, show x = 3 from eq_of_beq e1, show y = (p.si 3 : Int) + 1 from eq_of_beq e2]; rfl)))
          go_quiet (fail)
          go_wp2
          go_ret
          exact ⟨by rw [E.out]; rfl, hP2.out.fr (hfw.then ((Fr.refl _ _).drewN _)) fun _ _ h => h, (hF2.out.thenNil hfw).drewN _⟩
        | false =>
          have E := hid (show p.fa[i]? ≠ some (((3 : Nat) : Int), ((p.si 3 + 1 : Nat) : Int)) from fun h => by
            rw [Hx.out] at h
            injection h with h
            injection h with _ h
            rw [h] at e2
            simp at e2)
          go_quiet (fail)
          go_wp2_with fail
          go_roundw
          case rel => exact ⟨i + 1, by go_num, by omega, hid fun j hj => by
            by_cases h : j = i
            · subst h; exact E.out
            · exact hA.out j (by omega), hfw.drewN _⟩
          case measure => simp [intOf]; omega
      | false =>
        have E := hid (show p.fa[i]? ≠ some (((3 : Nat) : Int), ((p.si 3 + 1 : Nat) : Int)) from fun h => by
          rw [Hx.out] at h
          injection h with h
          injection h with h _
          rw [h] at e1
          simp at e1)
        go_quiet (fail)
        go_wp2_with fail
        go_roundw
        case rel => exact ⟨i + 1, by go_num, by omega, hid fun j hj => by
          by_cases h : j = i
          · subst h; exact E.out
          · exact hA.out j (by omega), hfw.drewN _⟩
        case measure => simp [intOf]; omega
    · have E := hid (show b = false from by
        cases hbb : b with
        | false => rfl
        | true =>
          obtain ⟨j, hj⟩ := List.getElem?_of_mem (HB.out.1 hbb)
          exact absurd hj (hA.out j (by have := (List.getElem?_eq_some_iff.1 hj).1; have := Hn.out; omega)))
      go_wp2
      go_ret
      exact ⟨by rw [E.out]; rfl, hP2.out.fr hfw fun _ _ h => h, hF2.out.thenNil hfw⟩
end Go.Proofs.Ytidjmjfoheagmaa

/- The reference's Platter: Write. -/
import Derived.Test.YtidjmjfoheagmaaQPmR
import Derived.Test.YtidjmjfoheagmaaStep
import Derived.Test.YtidjmjfoheagmaaUntil
set_option linter.unusedSimpArgs false
set_option linter.unusedVariables false
namespace Go.Proofs.Ytidjmjfoheagmaa
open Go.RowKit
theorem info_cached : (Try.prog.info? 88).map (fun i => (i.zero, i.size, i.bytes)) = some (some (.agg #[.int .i64 0, .slice none 0 0]), 2, 32) := by kernel_rfl
def wrIn (b : Bool) (p : Pl) (n : Int) (m : Nat) : Bool := !b && inB p n && decide (m = 64)
def wrE (b : Bool) (p : Pl) (n : Int) (m : Nat) : Int := if b then 6 else if wrIn b p n m then 0 else 1
def wrP (b : Bool) (p : Pl) (n : Int) (m : Nat) (xs : List Nat) : Pl := if wrIn b p n m then (p.ask 2).put n.toNat xs else p.ask 2
theorem wr_out {p : Pl} {n : Int} {m : Nat} {xs : List Nat} (h : ¬ (0 ≤ n ∧ n < (p.bl.length : Int)) ∨ m ≠ 64) : wrE false p n m = 1 ∧ wrP false p n m xs = p.ask 2 := by
  have : wrIn false p n m = false := by
    unfold wrIn
    rcases h with h | h
    · rw [show inB p n = false from decide_eq_false h]; simp
    · rw [decide_eq_false h]; simp
  unfold wrE wrP
  rw [this]
  exact ⟨rfl, rfl⟩
theorem wr_in {p : Pl} {n : Nat} {xs : List Nat} (h : n < p.bl.length) : wrE false p (n : Nat) 64 = 0 ∧ wrP false p (n : Nat) 64 xs = (p.ask 2).put n xs := by
  have : wrIn false p (n : Nat) 64 = true := by
    unfold wrIn
    rw [inB_yes (by omega)]; rfl
  unfold wrE wrP
  rw [this]
  exact ⟨rfl, rfl⟩
set_option maxRecDepth 20000 in
theorem m_write (T S1 : Nat → Prop) (mb : Nat) (p : Pl) (n : Int) (m : Nat) (xs : List Nat) (v : Value) (b : Bool) (hb : b = true ↔ p.bad 2) (hok : p.ok) (hn : -9223372036854775808 ≤ n ∧ n < 9223372036854775808) (w : World) (h : IsM w T mb p) (hv : View w S1 1 v m (bys xs)) (hB : Byt xs) (hS : ∀ k, S1 k → ¬ T k) :
    Calls Try.prog 36 #[.pointer (some ⟨mb, 0, none⟩), .int .i64 n, v] w fun e w' => e = .returned (.int .i64 (wrE b p n m)) ∧ IsM w' (Grow w T) mb (wrP b p n m xs) ∧ Fr T w w' := by
  obtain ⟨A, c, rfl⟩ : ∃ A c, v = .slice A m c := let ⟨_, A, c, e, _⟩ := hv; ⟨A, c, e⟩
  have hm9 := hv.le
  have hxl : xs.length = m := by have := hv.length; rwa [bys_length, Nat.mul_one] at this
  have hca := hok.2.2.2.1
  have hTm := h.1
  have Hf := hid (m_fault2 T mb p b hb ⟨(hok.1 2).1, (hok.1 2).2, hok.2.1⟩ w h)
  have HTm := hid hTm
  clear hb hok h hTm
  go_enter Try.func36, Try.ntmps36
  go_wp2_with fail
  refine Hf.out.mono ?_
  rintro e w1 ⟨rfl, h, f1⟩
  have F1 := hid (f1.mono (S' := T) fun k hk => by rw [hk]; exact HTm.out)
  have HV := hid (hv.fr f1 fun k hk _ e => hS k hk (by rw [e]; exact HTm.out))
  have HM := hid h
  clear f1 Hf hv
  cases b with
  | true =>
    clear h
    go_wp2
    go_ret
    exact ⟨rfl, HM.out.mono fun k hk => .inl hk, F1.out⟩
  | false =>
    obtain ⟨g0, vb, vc, vf, g1, ⟨bs, g2, g2'⟩, ⟨cv, g3, g3'⟩, g4⟩ := h
    obtain ⟨Ab, cb, rfl⟩ := g2.slice
    obtain ⟨Ac, cc, rfl⟩ := g3.slice
    have c0 : w1.cell? ⟨mb, 0, none⟩ = some (.slice Ab p.bl.length cb) := g1.cell 0
    have hbl9 : p.bl.length ≤ 9223372036854775807 := g2.le
    by_cases h1 : n < 0
    · have E := hid (wr_out (p := p) (n := n) (m := m) (xs := xs) (.inl (by omega)))
      clear g1 g2 g2' g3 g3' g4
      go_wp2
      go_ret
      exact ⟨by rw [E.out.1]; rfl, by rw [E.out.2]; exact HM.out.mono fun k hk => .inl hk, F1.out⟩
    obtain ⟨N, rfl⟩ : ∃ N : Nat, n = N := ⟨n.toNat, by omega⟩
    clear h1
    by_cases h2 : p.bl.length ≤ N
    · have E := hid (wr_out (p := p) (n := (N : Nat)) (m := m) (xs := xs) (.inl (by omega)))
      clear g1 g2 g2' g3 g3' g4
      go_wp2
      go_ret
      exact ⟨by rw [E.out.1]; rfl, by rw [E.out.2]; exact HM.out.mono fun k hk => .inl hk, F1.out⟩
    have h2 : N < p.bl.length := by omega
    by_cases h3 : m = 64
    · have h3' := h3
      subst h3'
      have E := hid (wr_in (p := p) (n := N) (xs := xs) h2)
      have c1 : w1.cell? ⟨mb, 1, none⟩ = some (.slice Ac p.ca.length cc) := g1.cell 1
      have z1 : w1.frozen? ⟨mb, 1, none⟩ = false := g1.frozen 1
      have Hne := hid (show (Value.slice Ac p.ca.length cc).ownBlock ≠ some mb from g3.apart_blk g1 (by decide))
      have G1 := hid g1
      have G2 := hid (show BlksOk w1 T (.slice Ab p.bl.length cb) p.bl from ⟨bs, g2, g2'⟩)
      have G3 := hid (show Row w1 T 88 2 (.slice Ac p.ca.length cc) p.ca.length (flatW cv) from g3)
      have G3' := hid (show ∀ (i n : Nat) x, p.ca[i]? = some (n, x) → ∃ v, cv[i]? = some (n, v) ∧ Dat w1 T v x from g3')
      have G4 := hid (show FauM w1 T vf p.fa from g4)
      clear g1 g2 g2' g3 g3' g4 h3
      obtain ⟨M, hK⟩ : ∃ M, M = p.ca.length := ⟨_, rfl⟩
      rw [← hK] at c1 hca Hne G3
      have HK := hid hK
      clear hK
      go_upto_region 5 with (fail)
      have hS : (fun w' : World => w'.cell? ⟨mb, 1, none⟩ = some (.slice Ac M cc)) w1.drew := c1
      refine wpU_region (k := 13) (S := fun w' : World => w'.cell? ⟨mb, 1, none⟩ = some (.slice Ac M cc)) (by kernel_rfl) ?_
      refine wpU_take (i := 0) (v := ?_) rfl (by kernel_rfl) (by kernel_rfl) (fun _ _ _ h => h) _ _ _ _ (by kernel_rfl) (by kernel_rfl) (by kernel_rfl) (Or.inl ⟨by kernel_rfl, ?_⟩) hS ?_
      rotate_left
      · (intro w9 hS9; obtain s0 := hS9; go_simp); (try with_reducible rfl)
      try simp only [Act.put, List.getElem_toArray, List.getElem_cons_succ, List.getElem_cons_zero, List.setIfInBounds_toArray, List.set_cons_zero, List.set_cons_succ]
      refine wpU_take (i := 1) (v := ?_) rfl (by kernel_rfl) (by kernel_rfl) (fun _ _ _ h => h) _ _ _ _ (by kernel_rfl) (by kernel_rfl) (by kernel_rfl) (Or.inl ⟨by kernel_rfl, ?_⟩) hS ?_
      rotate_left
      · (intro w9 hS9; obtain s0 := hS9; go_simp); (try with_reducible rfl)
      try simp only [Act.put, List.getElem_toArray, List.getElem_cons_succ, List.getElem_cons_zero, List.setIfInBounds_toArray, List.set_cons_zero, List.set_cons_succ]
      refine wpU_take (i := 2) (v := ?_) rfl (by kernel_rfl) (by kernel_rfl) (fun _ _ _ h => h) _ _ _ _ (by kernel_rfl) (by kernel_rfl) (by kernel_rfl) (Or.inl ⟨by kernel_rfl, ?_⟩) hS ?_
      rotate_left
      · (intro w9 hS9; obtain s0 := hS9; go_simp); (try with_reducible rfl)
      try simp only [Act.put, List.getElem_toArray, List.getElem_cons_succ, List.getElem_cons_zero, List.setIfInBounds_toArray, List.set_cons_zero, List.set_cons_succ]
      refine wpU_take (i := 3) (v := ?_) rfl (by kernel_rfl) (by kernel_rfl) (fun _ _ _ h => h) _ _ _ _ (by kernel_rfl) (by kernel_rfl) (by kernel_rfl) (Or.inl ⟨by kernel_rfl, ?_⟩) hS ?_
      rotate_left
      · (intro w9 hS9; obtain s0 := hS9; go_simp); (try with_reducible rfl)
      try simp only [Act.put, List.getElem_toArray, List.getElem_cons_succ, List.getElem_cons_zero, List.setIfInBounds_toArray, List.set_cons_zero, List.set_cons_succ]
      refine wpU_take (i := 4) (v := ?_) rfl (by kernel_rfl) (by kernel_rfl) (fun _ _ _ h => h) _ _ _ _ (by kernel_rfl) (by kernel_rfl) (by kernel_rfl) (Or.inl ⟨by kernel_rfl, ?_⟩) hS ?_
      rotate_left
      · (intro w9 hS9; obtain s0 := hS9; go_simp); (try with_reducible rfl)
      try simp only [Act.put, List.getElem_toArray, List.getElem_cons_succ, List.getElem_cons_zero, List.setIfInBounds_toArray, List.set_cons_zero, List.set_cons_succ]
      refine wpU_take (i := 5) (v := ?_) rfl (by kernel_rfl) (by kernel_rfl) (fun _ _ _ h => h) _ _ _ _ (by kernel_rfl) (by kernel_rfl) (by kernel_rfl) (Or.inl ⟨by kernel_rfl, ?_⟩) hS ?_
      rotate_left
      · (intro w9 hS9; obtain s0 := hS9; go_simp); (try with_reducible rfl)
      try simp only [Act.put, List.getElem_toArray, List.getElem_cons_succ, List.getElem_cons_zero, List.setIfInBounds_toArray, List.set_cons_zero, List.set_cons_succ]
      refine wpU_take (i := 6) (v := ?_) rfl (by kernel_rfl) (by kernel_rfl) (fun _ _ _ h => h) _ _ _ _ (by kernel_rfl) (by kernel_rfl) (by kernel_rfl) (Or.inl ⟨by kernel_rfl, ?_⟩) hS ?_
      rotate_left
      · (intro w9 hS9; obtain s0 := hS9; go_simp); (try with_reducible rfl)
      try simp only [Act.put, List.getElem_toArray, List.getElem_cons_succ, List.getElem_cons_zero, List.setIfInBounds_toArray, List.set_cons_zero, List.set_cons_succ]
      refine wpU_next (i := 7) rfl (by kernel_rfl) (fun K hK => ?_)
      refine step_app_view (by rfl) _ _ 22 (by rfl) (.int .u8 0) 1 Try.underlying22 info_u8m (by rfl) (by decide) (Row.nil _ (New w1) _ _) (by rfl) HV.out.drew (by rfl) (bys_cell _) (by omega) (by decide) ?_
      intro A4 c4 w4 r4 f4
      have f4n : Fr Nil w1 w4 := ((Fr.refl Nil w1).drew).trans f4 fun k hk => absurd hk (by simp [Value.ownBlock])
      have hS4 : (fun w' : World => w'.cell? ⟨mb, 1, none⟩ = some (.slice Ac M cc)) w4 := f4n.cell hS fun h => h
      have HD4 := hid (show VT w4 (New w1) 5 1 (.slice A4 64 c4) 64 (bys xs) from (r4.mono fun k hk => hk.elim (fun h => by simp [Value.ownBlock] at h) fun h => h).vt)
      have HF4 := hid f4n
      clear r4 f4 f4n
      refine hK.out _ _ (fun _ => hS4) ?_
      clear hK K
      try simp only [Act.put, List.getElem_toArray, List.getElem_cons_succ, List.getElem_cons_zero, List.setIfInBounds_toArray, List.set_cons_zero, List.set_cons_succ]
      refine wpU_take (i := 8) (v := ?_) rfl (by kernel_rfl) (by kernel_rfl) (fun _ _ _ h => h) _ _ _ _ (by kernel_rfl) (by kernel_rfl) (by kernel_rfl) (Or.inl ⟨by kernel_rfl, ?_⟩) hS4 ?_
      rotate_left
      · (intro w9 hS9; obtain s0 := hS9; go_simp); (try with_reducible rfl)
      try simp only [Act.put, List.getElem_toArray, List.getElem_cons_succ, List.getElem_cons_zero, List.setIfInBounds_toArray, List.set_cons_zero, List.set_cons_succ]
      refine wpU_next (i := 9) rfl (by kernel_rfl) (fun K hK => ?_)
      go_simp
      obtain ⟨W5, hW5⟩ : ∃ W5, W5 = w4.alloc (.cells #[.int .i64 (N : Int), .slice A4 64 c4] 88) := ⟨_, rfl⟩
      have hv5 : View W5 (New w4) 2 (.slice (some ⟨w4.heap.size, 0, none⟩) 1 1) 1 [.int .i64 (N : Int), .slice A4 64 c4] := by rw [hW5]; exact View.lit w4 #[.int .i64 (N : Int), .slice A4 64 c4] 88 (0, 0) 1 rfl (by omega)
      have hf45 : Fr Nil w4 W5 := by rw [hW5]; exact (Fr.refl _ _).alloc _
      have hS5 : (fun w' : World => w'.cell? ⟨mb, 1, none⟩ = some (.slice Ac M cc)) W5 := hf45.cell hS4 fun h => h
      rw [← hW5]
      clear hW5
      refine hK.out _ _ (fun _ => hS5) ?_
      clear hK K
      try simp only [Act.put, List.getElem_toArray, List.getElem_cons_succ, List.getElem_cons_zero, List.setIfInBounds_toArray, List.set_cons_zero, List.set_cons_succ]
      refine wpU_next (i := 10) rfl (by kernel_rfl) (fun K hK => ?_)
      have HF5 := hid (HF4.out.then hf45)
      have HD5 := hid (show VT W5 (New w1) 5 1 (.slice A4 64 c4) 64 (bys xs) from VT.fr (Y := 4) HD4.out hf45 (fun _ _ _ h => h.elim) (by decide))
      refine step_app_view (by rfl) _ _ 61 (by rfl) (.agg #[.int .i64 0, .slice none 0 0]) 32 Try.underlying61 info_cached (by rfl) (by decide) (G3.out.frS HF5.out fun _ _ h => h) (by rfl) hv5 (by rfl) (by simp [Value.oneCell']) (by omega) (by decide) ?_
      intro A6 cap6 w6 hrow6 hf6
      have hS6 : (fun w' : World => w'.cell? ⟨mb, 1, none⟩ = some (.slice Ac M cc)) w6 := hf6.cell hS5 Hne.out
      refine hK.out _ _ (fun _ => hS6) ?_
      clear hK K
      try simp only [Act.put, List.getElem_toArray, List.getElem_cons_succ, List.getElem_cons_zero, List.setIfInBounds_toArray, List.set_cons_zero, List.set_cons_succ]
      have g6 := (G1.out.fr HF5.out (fun h => h)).fr hf6 Hne.out
      have hz6 : w6.frozen? ⟨mb, 1, none⟩ = false := g6.frozen 1
      have hc6 : w6.cell? ⟨mb, 1, none⟩ = some (.slice Ac M cc) := hS6
      have Hfin := hid (show IsM (w6.setCell ⟨mb, 1, none⟩ (.slice A6 (M + 1) cap6)) (Grow w T) mb ((p.ask 2).put N xs) ∧ Fr T w (w6.setCell ⟨mb, 1, none⟩ (.slice A6 (M + 1) cap6)) from by
        have hown : ∀ k, (Value.slice Ac M cc).ownBlock = some k → T k := G3.out.2
        have hY : ∀ k, True → k < w1.heap.size → (Value.slice Ac M cc).ownBlock = some k → Typ w1 k 88 := fun k _ _ hk => G3.out.own_typ hk
        have hf06 : Fr (fun k => (Value.slice Ac M cc).ownBlock = some k) w1 w6 := HF5.out.nil.then hf6
        have hs1 := F1.out.size
        have hgw : ∀ k, Grow w1 T k → Grow w T k := fun k hk => hk.elim .inl fun h => .inr (Nat.le_trans hs1 h)
        have hdat : Dat w6 (Grow w T) (.slice A4 64 c4) xs := by
          have h3 : VT w6 (New w1) 5 1 (.slice A4 64 c4) 64 (bys xs) := VT.fr (Y := 88) HD5.out hf6 (fun k _ _ hk => (G3.out.own_typ hk).fr HF5.out id) (by decide)
          exact ⟨hxl, hB, h3.mono fun k hk => .inr (Nat.le_trans hs1 hk)⟩
        have hC6 : CacM w6 (Grow w T) (.slice A6 (M + 1) cap6) (p.ca ++ [(N, xs)]) := by
          refine ⟨cv ++ [(N, .slice A4 64 c4)], ?_, ?_⟩
          · have : flatW (cv ++ [(N, .slice A4 64 c4)]) = flatW cv ++ [.int .i64 (N : Int), .slice A4 64 c4] := by simp [flatW]
            rw [this, List.length_append, List.length_singleton, ← HK.out]
            refine hrow6.mono fun k hk => hk.elim (fun h => .inl (hown k h)) (fun h => .inr (Nat.le_trans hs1 (Nat.le_trans HF5.out.size h)))
          · intro i m x hi
            have hcl : cv.length = p.ca.length := by have := G3.out.length; rw [flatW_length] at this; have := HK.out; omega
            by_cases hlt : i < p.ca.length
            · rw [List.getElem?_append_left hlt] at hi
              obtain ⟨u, hu, hd⟩ := G3'.out i m x hi
              exact ⟨u, by rw [List.getElem?_append_left (by omega)]; exact hu, (Dat.fr hd hf06 hY (by decide)).mono fun k hk => .inl hk⟩
            · rw [List.getElem?_append_right (by omega)] at hi
              have h0 : i - p.ca.length = 0 := by
                have := (List.getElem?_eq_some_iff.1 hi).1
                simpa using this
              rw [h0] at hi
              simp only [List.getElem?_cons_zero, Option.some.injEq, Prod.mk.injEq] at hi
              obtain ⟨rfl, rfl⟩ := hi
              exact ⟨_, by rw [List.getElem?_append_right (by omega), hcl, h0]; rfl, hdat⟩
        have hf7 : Fr (fun k => k = mb) w6 (w6.setCell ⟨mb, 1, none⟩ (.slice A6 (M + 1) cap6)) := (Fr.refl (fun k => k = mb) w6).setCell (a := ⟨mb, 1, none⟩) (.inl rfl) _
        refine ⟨IsM.own (p := (p.ask 2).put N xs) (.inl HTm.out) g6 hf7 (g6.set 1 _) ((G2.out.fr hf06 hY (by decide) (by decide)).mono fun k hk => .inl hk) hC6 (VT.mono (VT.fr G4.out hf06 hY (by decide)) fun k hk => .inl hk), ?_⟩
        exact (F1.out.then (hf06.mono fun k hk => hown k hk)).setCell (a := ⟨mb, 1, none⟩) (.inl HTm.out) _)
      clear hrow6 hf6 g6 hv5 hf45
      refine wpU_take (i := 11) (v := ?_) rfl (by kernel_rfl) (by kernel_rfl) (fun _ _ _ h => h) _ _ _ _ (by kernel_rfl) (by kernel_rfl) (by kernel_rfl) (Or.inl ⟨by kernel_rfl, ?_⟩) hS6 ?_
      rotate_left
      · (intro w9 hS9; obtain s0 := hS9; go_simp); (try with_reducible rfl)
      try simp only [Act.put, List.getElem_toArray, List.getElem_cons_succ, List.getElem_cons_zero, List.setIfInBounds_toArray, List.set_cons_zero, List.set_cons_succ]
      refine wpU_take (i := 12) (v := ?_) rfl (by kernel_rfl) (by kernel_rfl) (fun _ _ _ h => h) _ _ _ _ (by kernel_rfl) (by kernel_rfl) (by kernel_rfl) (Or.inl ⟨by kernel_rfl, ?_⟩) hS6 ?_
      rotate_left
      · (intro w9 hS9; obtain s0 := hS9; go_simp); (try with_reducible rfl)
      try simp only [Act.put, List.getElem_toArray, List.getElem_cons_succ, List.getElem_cons_zero, List.setIfInBounds_toArray, List.set_cons_zero, List.set_cons_succ]
      refine wpU_next (i := 13) rfl (by kernel_rfl) (fun K hK => ?_)
      go_simp
      refine hK.out _ _ (fun h => absurd rfl h.1) ?_
      refine wpU_done (by kernel_rfl) ?_ _
      clear hK K
      go_wp2
      go_ret
      exact ⟨by rw [E.out.1]; rfl, by rw [E.out.2]; exact Hfin.out.1, Hfin.out.2⟩
    · have E := hid (wr_out (p := p) (n := (N : Nat)) (m := m) (xs := xs) (.inr h3))
      have H3 := hid h3
      have hx : ((m : Int) == 64) = false := by simp; omega
      have hx2 : ((m : Int) != 64) = true := by simp; omega
      clear h3
      clear g1 g2 g2' g3 g3' g4
      go_wp2
      go_ret
      exact ⟨by rw [E.out.1]; rfl, by rw [E.out.2]; exact HM.out.mono fun k hk => .inl hk, F1.out⟩
end Go.Proofs.Ytidjmjfoheagmaa

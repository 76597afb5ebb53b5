/- The reference's Platter: Read. -/
import Derived.Test.YtidjmjfoheagmaaQPmF
set_option linter.unusedSimpArgs false
set_option linter.unusedVariables false
namespace Go.Proofs.Ytidjmjfoheagmaa
open Go.RowKit
def inB (p : Pl) (n : Int) : Bool := decide (0 ≤ n ∧ n < (p.bl.length : Int))
theorem inB_yes {p : Pl} {n : Int} (h : 0 ≤ n ∧ n < (p.bl.length : Int)) : inB p n = true := decide_eq_true h
theorem inB_no {p : Pl} {n : Int} (h : ¬ (0 ≤ n ∧ n < (p.bl.length : Int))) : ¬ inB p n = true := by unfold inB; rw [decide_eq_false h]; decide
def rdE (b : Bool) (p : Pl) (n : Int) : Int := if b then 6 else if inB p n = true then 0 else 1
def rdB (b : Bool) (p : Pl) (n : Int) : List Nat := if b then [] else if inB p n = true then p.get n.toNat else []
theorem last_none (ca : List (Nat × List Nat)) (n : Nat) (x : List Nat) (h : ∀ e ∈ ca, e.1 ≠ n) : lastC ca n x = x := by
  induction ca with
  | nil => rfl
  | cons q ca ih =>
    show lastC ca n (if q.1 = n then q.2 else x) = x
    rw [if_neg (h q List.mem_cons_self)]
    exact ih fun e he => h e (List.mem_cons_of_mem _ he)
theorem last_at {ca : List (Nat × List Nat)} {n i : Nat} {x : List Nat} (hi : i < ca.length) (h1 : (ca[i]'hi).1 = n) (h2 : ∀ j (hj : j < ca.length), i < j → (ca[j]'hj).1 ≠ n) : lastC ca n x = (ca[i]'hi).2 := by
  have e : ca = ca.take i ++ ca[i]'hi :: ca.drop (i + 1) := by rw [← List.drop_eq_getElem_cons hi, List.take_append_drop]
  have h3 : ∀ y, lastC (ca.drop (i + 1)) n y = y := fun y => last_none _ _ _ fun q hq => by
    obtain ⟨k, hk, rfl⟩ := List.getElem_of_mem hq
    rw [List.getElem_drop]
    exact h2 _ (by rw [List.length_drop] at hk; omega) (by omega)
  conv => lhs; rw [e]
  unfold lastC
  rw [List.foldl_append, List.foldl_cons, if_pos h1]
  exact h3 _
theorem last_no {ca : List (Nat × List Nat)} {n : Nat} {x : List Nat} (h2 : ∀ j (hj : j < ca.length), (ca[j]'hj).1 ≠ n) : lastC ca n x = x :=
  last_none _ _ _ fun q hq => by
    obtain ⟨k, hk, rfl⟩ := List.getElem_of_mem hq
    exact h2 _ hk
set_option maxRecDepth 20000 in
theorem m_read (T : Nat → Prop) (mb : Nat) (p : Pl) (n : Int) (b : Bool) (hb : b = true ↔ p.bad 1) (hok : p.ok) (hn : -9223372036854775808 ≤ n ∧ n < 9223372036854775808) (w : World) (h : IsM w T mb p) :
    Calls Try.prog 37 #[.pointer (some ⟨mb, 0, none⟩), .int .i64 n] w fun e w' => ∃ A m c, e = .returned (.tuple #[.slice A m c, .int .i64 (rdE b p n)]) ∧ View w' (New w) 1 (.slice A m c) m (bys (rdB b p n)) ∧ Byt (rdB b p n) ∧ IsM w' T mb (p.ask 1) ∧ Fr (fun k => k = mb) w w' := by
  have hca := hok.2.2.2.1
  have Hok := hid hok
  have Hf := hid (m_fault1 T mb p b hb ⟨(hok.1 1).1, (hok.1 1).2, hok.2.1⟩ w h)
  clear hb hok h
  go_enter Try.func37, Try.ntmps37
  go_wp2_with fail
  refine Hf.out.mono ?_
  rintro e w1 ⟨rfl, h, f1⟩
  have F1 := hid f1
  clear f1 Hf
  cases b with
  | true =>
    have HM := hid h
    clear h
    go_wp2
    go_ret2
    exact ⟨none, 0, 0, rfl, View.nil _ _ _, fun c hc => by simp [rdB] at hc, HM.out, F1.out⟩
  | false =>
    have HM := hid h
    obtain ⟨g0, vb, vc, vf, g1, ⟨bs, g2, g2'⟩, ⟨cv, g3, g3'⟩, g4⟩ := h
    obtain ⟨Ab, cb, rfl⟩ := g2.slice
    obtain ⟨Ac, cc, rfl⟩ := g3.slice
    have c0 : w1.cell? ⟨mb, 0, none⟩ = some (.slice Ab p.bl.length cb) := g1.cell 0
    have hbl9 : p.bl.length ≤ 9223372036854775807 := g2.le
    by_cases h1 : n < 0
    · have E := hid (show rdE false p n = 1 by unfold rdE; rw [if_neg (by decide), if_neg (inB_no (by omega))])
      have E2 := hid (show rdB false p n = [] by unfold rdB; rw [if_neg (by decide), if_neg (inB_no (by omega))])
      clear g1 g2 g2' g3 g3' g4
      go_wp2
      go_ret2
      exact ⟨none, 0, 0, by rw [E.out]; rfl, by rw [E2.out]; exact View.nil _ _ _, fun c hc => by rw [E2.out] at hc; simp at hc, HM.out, F1.out⟩
    obtain ⟨N, rfl⟩ : ∃ N : Nat, n = N := ⟨n.toNat, by omega⟩
    clear h1
    by_cases h2 : p.bl.length ≤ N
    · have E := hid (show rdE false p (N : Nat) = 1 by unfold rdE; rw [if_neg (by decide), if_neg (inB_no (by omega))])
      have E2 := hid (show rdB false p (N : Nat) = [] by unfold rdB; rw [if_neg (by decide), if_neg (inB_no (by omega))])
      clear g1 g2 g2' g3 g3' g4
      go_wp2
      go_ret2
      exact ⟨none, 0, 0, by rw [E.out]; rfl, by rw [E2.out]; exact View.nil _ _ _, fun c hc => by rw [E2.out] at hc; simp at hc, HM.out, F1.out⟩
    have h2 : N < p.bl.length := by omega
    have E := hid (show rdE false p (N : Nat) = 0 by unfold rdE; rw [if_neg (by decide), if_pos (inB_yes (by omega))])
    have E2 := hid (show rdB false p (N : Nat) = p.get N by unfold rdB; rw [if_neg (by decide), if_pos (inB_yes (by omega)), Int.toNat_natCast])
    have c1 : w1.cell? ⟨mb, 1, none⟩ = some (.slice Ac p.ca.length cc) := g1.cell 1
    have G1 := hid g1
    have G2 := hid g2
    have G2' := hid g2'
    have G3 := hid g3
    have G3' := hid g3'
    have HCo := hid Hok.out.2.2.2.2
    clear g1 g2 g2' g3 g3' g4
    obtain ⟨K, hK⟩ : ∃ K, K = p.ca.length := ⟨_, rfl⟩
    rw [← hK] at c1 hca
    have HK := hid hK
    clear hK
    have hw1 : IntKind.i64.wrap ((K : Int) - 1) = (K : Int) - 1 := by rw [IntKind.wrap_i64]; omega
    go_wp2_with fail
    clear hw1 c0 c1
    go_loopw [6] (fun v6 wr => ∃ i : Nat, v6 = .int .i64 ((i : Int) - 1) ∧ i ≤ K ∧ Hid (∀ j (hj : j < p.ca.length), i ≤ j → (p.ca[j]'hj).1 ≠ N) ∧ Fr Nil w1 wr) (fun v6 _ => (intOf v6 + 1).toNat)
    case atStart => exact ⟨K, rfl, by omega, hid fun j hj h => by have := HK.out; omega, Fr.refl _ _⟩
    case round =>
      obtain ⟨i, rfl, hi, hA, hfw⟩ := hrel
      have hbw := G1.out.fr hfw fun h => h
      have c0 : wr.cell? ⟨mb, 0, none⟩ = some (.slice Ab p.bl.length cb) := hbw.cell 0
      have c1 : wr.cell? ⟨mb, 1, none⟩ = some (.slice Ac K cc) := by rw [HK.out]; exact hbw.cell 1
      clear hbw
      by_cases hlt : 0 < i
      · have hil : i - 1 < p.ca.length := by have := HK.out; omega
        obtain ⟨g, v, rfl, hTg, q0, q1, hd⟩ := cac_at (G3.out.fr hfw fun _ _ h => h) (fun i n x hx => let ⟨v, hv, hd⟩ := G3'.out i n x hx; ⟨v, hv, hd.fr (S1 := Nil) (X := 4) hfw (fun _ _ _ h => h.elim) (by decide)⟩) hil
        obtain ⟨Av, cv', rfl⟩ := hd.slice
        obtain ⟨e, he⟩ : ∃ e, e = i - 1 := ⟨_, rfl⟩
        have He := hid he
        have hj2 : ((i : Int) - 1).toNat = e := by omega
        have hj3 : (0 : Int) ≤ (i : Int) - 1 := by omega
        have hj4 : (i : Int) - 1 < (K : Int) := by omega
        obtain ⟨m, hm⟩ : ∃ m, m = (p.ca[i - 1]'hil).1 := ⟨_, rfl⟩
        obtain ⟨x, hx⟩ : ∃ x, x = (p.ca[i - 1]'hil).2 := ⟨_, rfl⟩
        have hm8 : m < p.bl.length := by rw [hm]; exact HCo.out _ (List.getElem_mem hil)
        have q0 : wr.cell? ⟨g, (i - 1) * 2, none⟩ = some (.int .i64 ((p.ca[i - 1]'hil).1 : Int)) := q0
        have hd : Dat wr T (.slice Av 64 cv') (p.ca[i - 1]'hil).2 := hd
        rw [← hm, ← he] at q0
        rw [← he] at q1
        rw [← hx] at hd
        have Hm := hid hm
        have Hx := hid hx
        have Hd := hid hd
        clear he hm hx hd
        by_cases hmn : m = N
        · have EG := hid (show p.get N = x by
            unfold Pl.get
            rw [Hx.out]
            exact last_at hil (by rw [← Hm.out]; exact hmn) fun j hj h => hA.out j hj (by omega))
          have hb1 : ((m : Int) == (N : Int)) = true := by rw [hmn]; exact beq_self_eq_true _
          have hb2 : (m == N) = true := by rw [hmn]; exact beq_self_eq_true _
          clear hmn
          go_wp2_with (at_builtin; refine wp_app_view rfl _ _ 22 rfl (.int .u8 0) 1 Try.underlying22 info_u8m rfl (by decide) (Row.nil _ (New w) _ _) rfl Hd.out.2.2 rfl (bys_cell _) (by omega) (by decide) ?_)
          intro A5 c5 w5 r1 r2 r3
          have HR := hid r1
          have HF := hid (hfw.trans r2 (fun k hk => absurd hk (by simp [Value.ownBlock])))
          clear r1 r2 r3
          go_wp2
          go_ret2
          refine ⟨A5, 64, c5, by rw [E.out]; rfl, ?_, by rw [E2.out, EG.out]; exact Hd.out.2.1, HM.out.fr HF.out fun _ _ h => h, F1.out.thenNil HF.out⟩
          rw [E2.out, EG.out]
          have h9 : View w5 _ 1 (.slice A5 64 c5) 64 (bys x) := HR.out.view
          exact h9.mono fun k hk => by
            rcases hk with h | h
            · simp [Value.ownBlock] at h
            · exact Nat.le_trans (Nat.le_trans F1.out.size hfw.size) h
        · have hb1 : ((m : Int) == (N : Int)) = false := by simp; omega
          have hb2 : (m == N) = false := by simpa using hmn
          have HN := hid hmn
          clear hmn
          have hw1 : IntKind.i64.wrap ((i : Int) - 1 - 1) = (i : Int) - 1 - 1 := by rw [IntKind.wrap_i64]; omega
          go_wp2_with fail
          go_roundw
          case rel =>
            refine ⟨i - 1, ?_, by omega, hid fun j hj h => ?_, hfw⟩
            · show Value.int .i64 _ = _
              congr 1
              first | (unfold wrap64; omega) | omega
            · by_cases h1 : j = i - 1
              · subst h1; rw [← Hm.out]; exact HN.out
              · exact hA.out j hj (by omega)
          case measure => simp [intOf]; omega
      · have EG := hid (show p.get N = p.bl.getD N [] by
          unfold Pl.get
          exact last_no fun j hj => hA.out j hj (by omega))
        have hneg : ¬ (0 : Int) ≤ (i : Int) - 1 := by omega
        obtain ⟨g, v, rfl, hTg, q0, -, -, hd⟩ := blk_at (G2.out.fr hfw fun _ _ h => h) (fun i x hx => let ⟨v, hv, hd⟩ := G2'.out i x hx; ⟨v, hv, hd.fr (S1 := Nil) (X := 4) hfw (fun _ _ _ h => h.elim) (by decide)⟩) (show N < (p.ask 1).bl.length from h2)
        obtain ⟨Av, cv', rfl⟩ := hd.slice
        have hget : p.bl.getD N [] = p.bl[N] := by simp [List.getD, List.getElem?_eq_getElem h2]
        have Hget := hid hget
        clear hget
        have hd : Dat wr T (.slice Av 64 cv') (p.bl[N]'h2) := hd
        obtain ⟨x, hx⟩ : ∃ x, x = p.bl[N]'h2 := ⟨_, rfl⟩
        rw [← hx] at hd Hget
        have Hd := hid hd
        clear hd hx
        go_wp2_with (at_builtin; refine wp_app_view rfl _ _ 22 rfl (.int .u8 0) 1 Try.underlying22 info_u8m rfl (by decide) (Row.nil _ (New w) _ _) rfl Hd.out.2.2 rfl (bys_cell _) (by omega) (by decide) ?_)
        intro A5 c5 w5 r1 r2 r3
        have HR := hid r1
        have HF := hid (hfw.trans r2 (fun k hk => absurd hk (by simp [Value.ownBlock])))
        clear r1 r2 r3
        go_wp2
        go_ret2
        refine ⟨A5, 64, c5, by rw [E.out]; rfl, ?_, by rw [E2.out, EG.out, Hget.out]; exact Hd.out.2.1, HM.out.fr HF.out fun _ _ h => h, F1.out.thenNil HF.out⟩
        rw [E2.out, EG.out, Hget.out]
        have h9 : View w5 _ 1 (.slice A5 64 c5) 64 (bys x) := HR.out.view
        exact h9.mono fun k hk => by
          rcases hk with h | h
          · simp [Value.ownBlock] at h
          · exact Nat.le_trans (Nat.le_trans F1.out.size hfw.size) h
end Go.Proofs.Ytidjmjfoheagmaa

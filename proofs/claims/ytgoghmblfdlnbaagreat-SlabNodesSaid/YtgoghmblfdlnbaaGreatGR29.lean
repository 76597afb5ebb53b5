/- The texts VNdD of this proof, one behind the other. Conditions: those of each. -/
import Derived.Test.YtgoghmblfdlnbaaGreatGR28
section
/- node.Decode: the reading function -/
set_option linter.unusedSimpArgs false
set_option linter.unusedVariables false
namespace Go.Proofs.YtgoghmblfdlnbaaGreat.nd
open Go.RowKit

theorem info_place : (Tryz.prog.info? 51).map (fun i => (i.zero, i.size, i.bytes)) = some (some (.agg #[.int .i64 0, .int .i64 0, .int .i64 0]), 3, 24) := by kernel_rfl
theorem info_kid : (Tryz.prog.info? 57).map (fun i => (i.zero, i.size, i.bytes)) = some (some (.agg #[.int .i64 0, .int .i64 0, .int .i64 0]), 3, 24) := by kernel_rfl
theorem kcells_cell (k : Kd) : ∀ u ∈ kcells k, u.oneCell' = true := by
  intro u hu
  simp [kcells] at hu
  rcases hu with rfl | rfl | rfl <;> rfl
theorem IsR.mono {w : World} {S S' : Nat → Prop} {rb : Nat} {xs : List Nat} (h : IsR w S rb xs) (hs : ∀ k, S k → S' k) : IsR w S' rb xs :=
  ⟨hs _ h.1, h.2.elim fun v h' => ⟨v, h'.1, h'.2.mono fun k hk => ⟨hs k hk.1, hk.2⟩⟩⟩
theorem IsR.bd {w : World} {S : Nat → Prop} {rb : Nat} {xs : List Nat} (h : IsR w S rb xs) : IsR w (fun k => S k ∧ k < w.heap.size) rb xs :=
  h.2.elim fun v h' => ⟨⟨h.1, h'.1.lt⟩, v, h'.1, h'.2.bd.mono fun k hk => ⟨⟨hk.1.1, hk.2⟩, hk.1.2⟩⟩

theorem isR_dr {w : World} {S : Nat → Prop} {rb : Nat} {xs : List Nat} (h : IsR w S rb xs) : IsR w.drew S rb xs := h
/-- What the reading function leaves. -/
def DecPost (w : World) (S : Nat → Prop) (rb nb mb : Nat) (e : Ending) (w' : World) : Outc → Prop
  | .bad er => e = .panicked (brk er) ∧ Fr (fun k => (k = nb ∨ k = mb) ∨ k = rb) w w' ∧ ∃ m : Nat, m ≤ 8 ∧ Blk w' mb #[.int .i64 m] 3
  | .big rest => e = .returned (.tuple #[]) ∧ Fr (fun k => (k = nb ∨ k = mb) ∨ k = rb) w w' ∧ IsR w' S rb rest ∧ ∃ m : Nat, 8 < m ∧ Blk w' mb #[.int .i64 m] 3
  | .good x rest => e = .returned (.tuple #[]) ∧ Fr (fun k => (k = nb ∨ k = mb) ∨ k = rb) w w' ∧ IsR w' S rb rest ∧ (∃ m : Nat, m ≤ 8 ∧ Blk w' mb #[.int .i64 m] 3) ∧ ∃ q, Blk w' nb (ncells x q) 62 ∧ Rws w' w.heap.size q x 3 51 57
def DecPost' (w : World) (S : Nat → Prop) (rb nb mb : Nat) (e : Ending) (w' : World) : Got Nd → Prop
  | .bad er => DecPost w S rb nb mb e w' (.bad er)
  | .ok x rest => DecPost w S rb nb mb e w' (.good x rest)

set_option maxRecDepth 100000 in
set_option maxHeartbeats 1600000 in
theorem dec1_ok (S0 : Nat → Prop) (rb nb mb : Nat) (xs : List Nat) (hx : xs.length ≤ 100000) (hB : Byt xs) (w : World) (hR0 : IsR w S0 rb xs) (hn : Blk w nb #[.int .i64 0, .slice none 0 0, .slice none 0 0, .slice none 0 0, .slice none 0 0] 62) (hm : Blk w mb #[.int .i64 0] 3) (hSn : ¬ S0 nb) (hSm : ¬ S0 mb) (hne : nb ≠ mb) :
    Calls Tryz.prog 77 #[.pointer (some ⟨rb, 0, none⟩), .pointer (some ⟨nb, 0, none⟩), .pointer (some ⟨mb, 0, none⟩)] w fun e w' => DecPost w S0 rb nb mb e w' (outc xs) := by
  obtain ⟨S, hS⟩ : ∃ S : Nat → Prop, S = fun k => S0 k ∧ k < w.heap.size := ⟨_, rfl⟩
  have hR : IsR w S rb xs := by rw [hS]; exact hR0.bd
  have hS0 : ∀ k, S k → S0 k := fun k hk => by rw [hS] at hk; exact hk.1
  have hSl : ∀ k, S k → k < w.heap.size := fun k hk => by rw [hS] at hk; exact hk.2
  have hrn : nb ≠ rb := fun h => hSn (h ▸ hR0.1)
  have hrm : mb ≠ rb := fun h => hSm (h ▸ hR0.1)
  clear hS hR0
  have hrl : rb < w.heap.size := hSl _ hR.1
  have hnl := hn.lt
  have hml := hm.lt
  have frT : ∀ {w1 w2 : World}, Fr (fun k => k = rb) w1 w2 → Fr (fun k => (k = nb ∨ k = mb) ∨ k = rb) w1 w2 := fun h => h.mono fun k hk => .inr hk
  go_enter Tryz.func77, Tryz.ntmps77
  go_wp2_with fail
  refine (rnum_any S rb xs (by omega) hB w hR).mono ?_
  intro e w1 hp
  cases hnum : num xs with
  | bad er =>
    rw [hnum] at hp
    obtain ⟨rfl, rfl⟩ := hp
    have ho : outc xs = .bad er := by unfold outc; rw [hnum]
    refine ⟨rfl, ?_⟩
    rw [ho]
    exact ⟨rfl, Fr.refl _ _, 0, by omega, hm⟩
  | ok h r =>
    rw [hnum] at hp
    obtain ⟨rfl, hf1, hR1⟩ := hp
    have Hnum := hid hnum
    have hl1 := num_le hnum
    have hB1 := num_byt hnum hB
    clear hnum
    have hn1 := hn.fr hf1 hrn
    have hm1 := hm.fr hf1 hrm
    have c0 := hn1.cell 0
    have z0 := hn1.frozen 0
    have hq0 : Rws (w1.setCell ⟨nb, 0, none⟩ (.int .i64 (h : Nat))) w.heap.size ⟨none, 0, none, 0, none, 0, none, 0⟩ ⟨(h : Nat), [], [], [], []⟩ 3 51 57 := Rws.nil _ _ _ _ _ _
    have hn2 : Blk (w1.setCell ⟨nb, 0, none⟩ (.int .i64 (h : Nat))) nb (ncells ⟨(h : Nat), [], [], [], []⟩ ⟨none, 0, none, 0, none, 0, none, 0⟩) 62 := hn1.set 0 _
    have hm2 : Blk (w1.setCell ⟨nb, 0, none⟩ (.int .i64 (h : Nat))) mb #[.int .i64 0] 3 := hm1.set_other (a := ⟨nb, 0, none⟩) (Ne.symm hne) _
    have hf12 : Fr (fun k => k = nb) w1 (w1.setCell ⟨nb, 0, none⟩ (.int .i64 (h : Nat))) := (Fr.refl (fun k => k = nb) w1).setCell (a := ⟨nb, 0, none⟩) (.inl rfl) _
    have hR2 := hR1.fr hf12 (fun k hk _ (e : k = nb) => hSn (e ▸ hS0 k hk))
    have hf2 : Fr (fun k => (k = nb ∨ k = mb) ∨ k = rb) w (w1.setCell ⟨nb, 0, none⟩ (.int .i64 (h : Nat))) := (frT hf1).then (hf12.mono fun k hk => .inl (.inl hk))
    go_wp2_with fail
    generalize w1.setCell ⟨nb, 0, none⟩ (.int .i64 (h : Nat)) = w2 at *
    clear c0 z0 hn1 hm1 hf12 hR1
    refine (rnum_any S rb r (by omega) hB1 w2 hR2).mono ?_
    intro e w3 hp
    cases hnum : num r with
    | bad er =>
      rw [hnum] at hp
      obtain ⟨rfl, rfl⟩ := hp
      have ho : outc xs = .bad er := by unfold outc; rw [Hnum.out]; simp only [hnum]
      refine ⟨rfl, ?_⟩
      rw [ho]
      exact ⟨rfl, hf2, 0, by omega, hm2⟩
    | ok m r2 =>
      rw [hnum] at hp
      obtain ⟨rfl, hf3, hR3⟩ := hp
      have Hout : Hid (outc xs = if 8 < m then .big r2 else oc (rdN m ⟨(h : Nat), [], [], [], []⟩ r2)) := hid (by unfold outc; rw [Hnum.out]; simp only [hnum])
      have hl2 := num_le hnum
      have hB2 := num_byt hnum hB1
      clear hnum
      have hn3 := hn2.fr hf3 hrn
      have hm3 := hm2.fr hf3 hrm
      have hq3 := hq0.fr hf3 (fun k hk (e : k = rb) => by omega)
      have c0 := hm3.cell 0
      have z0 := hm3.frozen 0
      have hn4 : Blk (w3.setCell ⟨mb, 0, none⟩ (.int .i64 (m : Nat))) nb (ncells ⟨(h : Nat), [], [], [], []⟩ ⟨none, 0, none, 0, none, 0, none, 0⟩) 62 := hn3.set_other (a := ⟨mb, 0, none⟩) hne _
      have hm4 : Blk (w3.setCell ⟨mb, 0, none⟩ (.int .i64 (m : Nat))) mb #[.int .i64 (m : Nat)] 3 := hm3.set 0 _
      have hf34 : Fr (fun k => k = mb) w3 (w3.setCell ⟨mb, 0, none⟩ (.int .i64 (m : Nat))) := (Fr.refl (fun k => k = mb) w3).setCell (a := ⟨mb, 0, none⟩) (.inl rfl) _
      have hR4 := hR3.fr hf34 (fun k hk _ (e : k = mb) => hSm (e ▸ hS0 k hk))
      have hq4 := hq3.fr hf34 (fun k hk (e : k = mb) => by omega)
      have hf4 : Fr (fun k => (k = nb ∨ k = mb) ∨ k = rb) w (w3.setCell ⟨mb, 0, none⟩ (.int .i64 (m : Nat))) := (hf2.then (frT hf3)).then (hf34.mono fun k hk => .inl (.inr hk))
      go_wp2_with fail
      generalize w3.setCell ⟨mb, 0, none⟩ (.int .i64 (m : Nat)) = w4 at *
      clear c0 z0 hn2 hm2 hn3 hm3 hq0 hq3 hf34 hR2 hR3 hf1 hf2 hf3 hm hn hR
      by_cases hbig : 8 < m
      · have ho : Hid (outc xs = .big r2) := hid (by rw [Hout.out, if_pos hbig])
        have cm := hm4.cell 0
        clear Hout
        go_loopw [4] (fun v4 wr => v4 = .int .i64 (0 : Nat) ∧ wr = w4) (fun _ _ => 0)
        case atStart => exact ⟨rfl, rfl⟩
        case round =>
          obtain ⟨rfl, rfl⟩ := hrel
          have hmp : 0 < m := by omega
          go_wp2
          go_end0
          rw [ho.out]
          exact ⟨rfl, hf4, hR4.mono hS0, m, hbig, hm4⟩
      · have ho : Hid (DecPost' w S0 rb nb mb = fun e w' o => DecPost' w S0 rb nb mb e w' o) := hid rfl
        have Hgood : Hid (∀ e w', DecPost' w S0 rb nb mb e w' (rdN m ⟨(h : Nat), [], [], [], []⟩ r2) → DecPost w S0 rb nb mb e w' (outc xs)) := hid (fun e w' hp => by
          rw [Hout.out, if_neg hbig]
          cases hrd : rdN m ⟨(h : Nat), [], [], [], []⟩ r2 with
          | bad er => rw [hrd] at hp; exact hp
          | ok x rest => rw [hrd] at hp; exact hp)
        clear ho Hout
        have hm8 : m ≤ 8 := by omega
        go_loopw [4] (fun v4 wr => ∃ (i : Nat) (bs : List Nat) (x : Nd) (q : Ptr), v4 = .int .i64 i ∧ i ≤ m ∧ Fr (fun k => (k = nb ∨ k = mb) ∨ k = rb) w wr ∧ IsR wr S rb bs ∧ Byt bs ∧ bs.length ≤ 100000 ∧ Blk wr nb (ncells x q) 62 ∧ Rws wr w.heap.size q x 3 51 57 ∧ Blk wr mb #[.int .i64 (m : Nat)] 3 ∧ Hid (rdN (m - i) x bs = rdN m ⟨(h : Nat), [], [], [], []⟩ r2) ∧ x.ks.length ≤ i ∧ x.ps.length ≤ i ∧ x.gs.length ≤ i ∧ x.ds.length ≤ i) (fun v4 _ => m - (intOf v4).toNat)
        case atStart => exact ⟨0, r2, _, _, rfl, by omega, hf4, hR4, hB2, by omega, hn4, hq4, hm4, hid rfl, by simp, by simp, by simp, by simp⟩
        case round =>
          clear hn4 hm4 hR4 hf4 hq4
          obtain ⟨i, bs, x, q, rfl, hi, hfr, hRr, hBr, hlr, hnr, hqr, hmr, hrd, lk, lp, lg, ld⟩ := hrel
          have cm : wr.cell? ⟨mb, 0, none⟩ = some (.int .i64 (m : Nat)) := hmr.cell 0
          by_cases hlt : i < m
          · have hm88 : (m : Int) ≤ 8 := by omega
            have Hrd : Hid (rdN (m - i) x bs = match nums' (wd x) bs with
              | .bad e => .bad e
              | .ok l r => rdN (m - i - 1) (addE x l) r) := hid (by rw [show m - i = (m - i - 1) + 1 by omega]; rfl)
            have hnA := hnr
            have hqA := hqr
            have hRC := hRr
            have hmB := hmr
            have hfrC := hfr
            have hBA := hBr
            have hlA : True := trivial
            have hS : (fun w' : World => w'.cell? ⟨nb, 1, none⟩ = some (.slice q.A1 x.ks.length q.c1)) (wr).drew := hnA.cell 1
            go_wp2_with fail
            refine wpU_region (k := 7) (S := fun w' : World => w'.cell? ⟨nb, 1, none⟩ = some (.slice q.A1 x.ks.length q.c1)) (by kernel_rfl) ?_
            refine wpU_take (i := 0) (v := ?_) rfl (by kernel_rfl) (by kernel_rfl) (fun _ _ _ h => h) _ _ _ _ (by kernel_rfl) (by kernel_rfl) (by kernel_rfl) (Or.inl ⟨by kernel_rfl, ?_⟩) hS ?_
            rotate_left
            · (intro w9 hS9; obtain s0 := hS9; go_simp); (try with_reducible rfl)
            try simp only [Act.put, List.setIfInBounds_toArray, List.set_cons_zero, List.set_cons_succ]
            refine wpU_take (i := 1) (v := ?_) rfl (by kernel_rfl) (by kernel_rfl) (fun _ _ _ h => h) _ _ _ _ (by kernel_rfl) (by kernel_rfl) (by kernel_rfl) (Or.inl ⟨by kernel_rfl, ?_⟩) hS ?_
            rotate_left
            · (intro w9 hS9; obtain s0 := hS9; go_simp); (try with_reducible rfl)
            try simp only [Act.put, List.setIfInBounds_toArray, List.set_cons_zero, List.set_cons_succ]
            refine wpU_take (i := 2) (v := ?_) rfl (by kernel_rfl) (by kernel_rfl) (fun _ _ _ h => h) _ _ _ _ (by kernel_rfl) (by kernel_rfl) (by kernel_rfl) (Or.inl ⟨by kernel_rfl, ?_⟩) hS ?_
            rotate_left
            · (intro w9 hS9; obtain s0 := hS9; go_simp); (try with_reducible rfl)
            try simp only [Act.put, List.setIfInBounds_toArray, List.set_cons_zero, List.set_cons_succ]
            refine wpU_next (i := 3) rfl (by kernel_rfl) (fun K hK => ?_)
            go_simp
            refine (rnum_any S rb bs (by omega) hBA ((wr).drew) (isR_dr hRC)).mono ?_
            intro e wA hp
            cases hn1 : num bs with
            | bad er =>
              rw [hn1] at hp
              obtain ⟨rfl, rfl⟩ := hp
              refine ⟨rfl, Hgood.out _ _ ?_⟩
              rw [← hrd.out, Hrd.out, show nums' (wd x) bs = .bad er from by unfold wd; split <;> first | (simp [nums', hn1]; done) | (exfalso; have g1 := Hee1.out.1; have g2 := H0.out; omega)]
              exact ⟨rfl, hfrC.drew, m, hm8, hmB⟩
            | ok k1 r1 =>
            rw [hn1] at hp
            obtain ⟨rfl, hfA, hRA⟩ := hp
            have hfrA := (hfrC.drew).then (frT hfA)
            have hBA9 := num_byt hn1 hBA
            have hmA := Blk.fr (w := (wr).drew) hmB hfA hrm
            have hnB := Blk.fr (w := (wr).drew) hnA hfA hrn
            have hqB := Rws.fr (w := (wr).drew) hqA.drew hfA (fun k hk (e : k = rb) => by omega)
            have hSA : wA.cell? ⟨nb, 1, none⟩ = some (.slice q.A1 x.ks.length q.c1) := hnB.cell 1
            refine hK.out _ _ (fun _ => hSA) ?_
            clear hK K
            try simp only [Act.put, List.setIfInBounds_toArray, List.set_cons_zero, List.set_cons_succ]
            refine wpU_next (i := 4) rfl (by kernel_rfl) (fun K hK => ?_)
            go_simp
            have hSB : (wA.alloc (.cells #[.int .i64 (k1 : Nat)] 3)).cell? ⟨nb, 1, none⟩ = some (.slice q.A1 x.ks.length q.c1) := (hnB.alloc _).cell 1
            refine hK.out _ _ (fun _ => hSB) ?_
            clear hK K
            try simp only [Act.put, List.setIfInBounds_toArray, List.set_cons_zero, List.set_cons_succ]
            refine wpU_next (i := 5) rfl (by kernel_rfl) (fun K hK => ?_)
            refine step_app_view rfl _ _ 49 (by rfl) (.int .i64 0) 8 Tryz.underlying49 info_int rfl (by decide) (hqB.alloc _).k (by rfl) (View.lit (s := 1) wA #[.int .i64 (k1 : Nat)] 3 (0, 0) 1 rfl (by decide)) (by rfl) (ints_cell [(k1 : Int)]) (by omega) (by decide) ?_
            intro A7 c7 w7 q1 q2
            have G := grew_key (hnB.alloc (.cells #[.int .i64 (k1 : Nat)] 3)) (hqB.alloc _) (by decide) (by decide) (by decide) (by decide) (by decide) (by decide) (by rw [World.size_alloc]; have := hfrA.size; omega) (k1 : Int) q1 q2
            clear q1 q2 hnA hqA hnB hqB hRC hmB hfrC hBA hlA
            have hlA := num_le hn1
            have hBA : Byt r1 := hBA9
            have o1 : w7.cell? ⟨nb, 1, none⟩ = some (.slice q.A1 x.ks.length q.c1) := G.old.cell 1
            have z1 := G.old.frozen 1
            refine hK.out _ _ (fun _ => o1) ?_
            clear hK K
            try simp only [Act.put, List.setIfInBounds_toArray, List.set_cons_zero, List.set_cons_succ]
            refine wpU_take (i := 6) (v := ?_) rfl (by kernel_rfl) (by kernel_rfl) (fun _ _ _ h => h) _ _ _ _ (by kernel_rfl) (by kernel_rfl) (by kernel_rfl) (Or.inl ⟨by kernel_rfl, ?_⟩) o1 ?_
            rotate_left
            · (intro w9 hS9; obtain s0 := hS9; go_simp); (try with_reducible rfl)
            try simp only [Act.put, List.setIfInBounds_toArray, List.set_cons_zero, List.set_cons_succ]
            refine wpU_next (i := 7) rfl (by kernel_rfl) (fun K hK => ?_)
            go_simp
            refine hK.out _ _ (fun h => absurd rfl h.1) ?_
            refine wpU_done (by kernel_rfl) ?_ _
            clear hK K
            obtain ⟨x1, hxx⟩ : ∃ y : Nd, y = ⟨x.h, x.ks ++ [(k1 : Int)], x.ps, x.gs, x.ds⟩ := ⟨_, rfl⟩
            obtain ⟨q1, hqq⟩ : ∃ y : Ptr, y = ⟨A7, c7, q.A2, q.c2, q.A3, q.c3, q.A4, q.c4⟩ := ⟨_, rfl⟩
            have hnA := G.blk
            have hqA := G.rws
            have hfG := G.fr
            rw [← hxx, ← hqq] at hnA hqA
            have Hx1 := hid hxx
            clear hxx hqq G o1 z1 hSA hSB
            have hRB := IsR.fr (S1 := Nil) hRA ((Fr.refl Nil wA).alloc (.cells #[.int .i64 (k1 : Nat)] 3)) (fun _ _ _ h => h)
            have hmB := Blk.fr (hmA.alloc (.cells #[.int .i64 (k1 : Nat)] 3)) hfG (fun h => h.elim (fun e => hne e.symm) (fun e => by omega))
            have hRC := hRB.fr hfG (fun k hk _ h => h.elim (fun e => hSn (e ▸ hS0 k hk)) (fun e => by have := hSl k hk; omega))
            have hfrC := (hfrA.alloc (.cells #[.int .i64 (k1 : Nat)] 3)).trans hfG (fun k hk => hk.elim (fun h => .inl (.inl (.inl h))) .inr)
            clear hRB hfG hRA hmA hfA hfrA
            generalize w7.setCell _ _ = w8 at *
            have hl1x : r1.length ≤ 100000 := by omega
            have ee1 : x1.h = x.h ∧ x1.ks.length = x.ks.length + 1 ∧ x1.ps.length = x.ps.length ∧ x1.gs.length = x.gs.length ∧ x1.ds.length = x.ds.length := by rw [Hx1.out]; simp
            have Hee1 := hid ee1; clear ee1
            go_wp2_with fail
            refine (rnum_any S rb r1 (by omega) hBA (w8) hRC).mono ?_
            intro e w9 hp
            cases hn2 : num r1 with
            | bad er =>
              rw [hn2] at hp
              obtain ⟨rfl, rfl⟩ := hp
              refine ⟨rfl, Hgood.out _ _ ?_⟩
              rw [← hrd.out, Hrd.out, show nums' (wd x) bs = .bad er from by unfold wd; split <;> first | (simp [nums', hn1, hn2]; done) | (exfalso; have g1 := Hee1.out.1; have g2 := H0.out; omega)]
              exact ⟨rfl, hfrC, m, hm8, hmB⟩
            | ok k2 rr2 =>
            rw [hn2] at hp
            obtain ⟨rfl, hfA, hRA⟩ := hp
            have hfrA := (hfrC).then (frT hfA)
            have hBA9 := num_byt hn2 hBA
            have hmA := Blk.fr (w := w8) hmB hfA hrm
            have hl2x := num_le hn2
            have hnB := Blk.fr hnA hfA hrn
            have hqB := Rws.fr hqA hfA (fun k hk (e : k = rb) => by omega)
            go_wp2_with fail
            refine (rnum_any S rb rr2 (by omega) hBA9 (w9) hRA).mono ?_
            intro e w10 hp
            cases hn3 : num rr2 with
            | bad er =>
              rw [hn3] at hp
              obtain ⟨rfl, rfl⟩ := hp
              refine ⟨rfl, Hgood.out _ _ ?_⟩
              rw [← hrd.out, Hrd.out, show nums' (wd x) bs = .bad er from by unfold wd; split <;> first | (simp [nums', hn1, hn2, hn3]; done) | (exfalso; have g1 := Hee1.out.1; have g2 := H0.out; omega)]
              exact ⟨rfl, hfrA, m, hm8, hmA⟩
            | ok k3 rr3 =>
            rw [hn3] at hp
            obtain ⟨rfl, hfA, hRA⟩ := hp
            have hfrA := (hfrA).then (frT hfA)
            have hBA9 := num_byt hn3 hBA9
            have hmA := Blk.fr (w := w9) hmA hfA hrm
            have hl3x := num_le hn3
            replace hnA := Blk.fr hnB hfA hrn
            replace hqA := Rws.fr hqB hfA (fun k hk (e : k = rb) => by omega)
            replace hRC := hRA
            replace hmB := hmA
            replace hfrC := hfrA
            replace hBA := hBA9
            clear hnB hqB
            have e0 : w10.cell? ⟨nb, 0, none⟩ = some (.int .i64 x1.h) := hnA.cell 0
            by_cases h0 : x1.h = 0
            · have hb0 : (x1.h == 0) = true := by simpa using h0
              have H0 := hid h0; clear h0
              have lp1 : x1.ps.length ≤ i := by have := Hee1.out; omega
              have lg1 : x1.gs.length ≤ i := by have := Hee1.out; omega
              have hS : (fun w' : World => w'.cell? ⟨nb, 2, none⟩ = some (.slice q1.A2 x1.ps.length q1.c2)) (w10).drew := hnA.cell 2
              go_wp2_with fail
              refine wpU_region (k := 10) (S := fun w' : World => w'.cell? ⟨nb, 2, none⟩ = some (.slice q1.A2 x1.ps.length q1.c2)) (by kernel_rfl) ?_
              refine wpU_take (i := 0) (v := ?_) rfl (by kernel_rfl) (by kernel_rfl) (fun _ _ _ h => h) _ _ _ _ (by kernel_rfl) (by kernel_rfl) (by kernel_rfl) (Or.inl ⟨by kernel_rfl, ?_⟩) hS ?_
              rotate_left
              · (intro w9 hS9; obtain s0 := hS9; go_simp); (try with_reducible rfl)
              try simp only [Act.put, List.setIfInBounds_toArray, List.set_cons_zero, List.set_cons_succ]
              refine wpU_take (i := 1) (v := ?_) rfl (by kernel_rfl) (by kernel_rfl) (fun _ _ _ h => h) _ _ _ _ (by kernel_rfl) (by kernel_rfl) (by kernel_rfl) (Or.inl ⟨by kernel_rfl, ?_⟩) hS ?_
              rotate_left
              · (intro w9 hS9; obtain s0 := hS9; go_simp); (try with_reducible rfl)
              try simp only [Act.put, List.setIfInBounds_toArray, List.set_cons_zero, List.set_cons_succ]
              refine wpU_take (i := 2) (v := ?_) rfl (by kernel_rfl) (by kernel_rfl) (fun _ _ _ h => h) _ _ _ _ (by kernel_rfl) (by kernel_rfl) (by kernel_rfl) (Or.inl ⟨by kernel_rfl, ?_⟩) hS ?_
              rotate_left
              · (intro w9 hS9; obtain s0 := hS9; go_simp); (try with_reducible rfl)
              try simp only [Act.put, List.setIfInBounds_toArray, List.set_cons_zero, List.set_cons_succ]
              refine wpU_take (i := 3) (v := ?_) rfl (by kernel_rfl) (by kernel_rfl) (fun _ _ _ h => h) _ _ _ _ (by kernel_rfl) (by kernel_rfl) (by kernel_rfl) (Or.inl ⟨by kernel_rfl, ?_⟩) hS ?_
              rotate_left
              · (intro w9 hS9; obtain s0 := hS9; go_simp); (try with_reducible rfl)
              try simp only [Act.put, List.setIfInBounds_toArray, List.set_cons_zero, List.set_cons_succ]
              refine wpU_take (i := 4) (v := ?_) rfl (by kernel_rfl) (by kernel_rfl) (fun _ _ _ h => h) _ _ _ _ (by kernel_rfl) (by kernel_rfl) (by kernel_rfl) (Or.inl ⟨by kernel_rfl, ?_⟩) hS ?_
              rotate_left
              · (intro w9 hS9; obtain s0 := hS9; go_simp); (try with_reducible rfl)
              try simp only [Act.put, List.setIfInBounds_toArray, List.set_cons_zero, List.set_cons_succ]
              refine wpU_next (i := 5) rfl (by kernel_rfl) (fun K hK => ?_)
              go_simp
              refine (rnum_any S rb rr3 (by omega) hBA ((w10).drew) (isR_dr hRC)).mono ?_
              intro e wA hp
              cases hn4 : num rr3 with
              | bad er =>
                rw [hn4] at hp
                obtain ⟨rfl, rfl⟩ := hp
                refine ⟨rfl, Hgood.out _ _ ?_⟩
                rw [← hrd.out, Hrd.out, show nums' (wd x) bs = .bad er from by unfold wd; split <;> first | (simp [nums', hn1, hn2, hn3, hn4]; done) | (exfalso; have g1 := Hee1.out.1; have g2 := H0.out; omega)]
                exact ⟨rfl, hfrC.drew, m, hm8, hmB⟩
              | ok k4 rr4 =>
              rw [hn4] at hp
              obtain ⟨rfl, hfA, hRA⟩ := hp
              have hfrA := (hfrC.drew).then (frT hfA)
              have hBA9 := num_byt hn4 hBA
              have hmA := Blk.fr (w := (w10).drew) hmB hfA hrm
              have hnB := Blk.fr (w := (w10).drew) hnA hfA hrn
              have hqB := Rws.fr (w := (w10).drew) hqA.drew hfA (fun k hk (e : k = rb) => by omega)
              have hSA : wA.cell? ⟨nb, 2, none⟩ = some (.slice q1.A2 x1.ps.length q1.c2) := hnB.cell 2
              refine hK.out _ _ (fun _ => hSA) ?_
              clear hK K
              try simp only [Act.put, List.setIfInBounds_toArray, List.set_cons_zero, List.set_cons_succ]
              refine wpU_take (i := 6) (v := ?_) rfl (by kernel_rfl) (by kernel_rfl) (fun _ _ _ h => h) _ _ _ _ (by kernel_rfl) (by kernel_rfl) (by kernel_rfl) (Or.inl ⟨by kernel_rfl, ?_⟩) hSA ?_
              rotate_left
              · (intro w9 hS9; obtain s0 := hS9; go_simp); (try with_reducible rfl)
              try simp only [Act.put, List.setIfInBounds_toArray, List.set_cons_zero, List.set_cons_succ]
              refine wpU_next (i := 7) rfl (by kernel_rfl) (fun K hK => ?_)
              go_simp
              have hSB : (wA.alloc (.cells #[.int .i64 (k2 : Nat), .int .i64 (k3 : Nat), .int .i64 (k4 : Nat)] 51)).cell? ⟨nb, 2, none⟩ = some (.slice q1.A2 x1.ps.length q1.c2) := (hnB.alloc _).cell 2
              refine hK.out _ _ (fun _ => hSB) ?_
              clear hK K
              try simp only [Act.put, List.setIfInBounds_toArray, List.set_cons_zero, List.set_cons_succ]
              refine wpU_next (i := 8) rfl (by kernel_rfl) (fun K hK => ?_)
              refine step_app_view rfl _ _ 52 (by rfl) (.agg #[.int .i64 0, .int .i64 0, .int .i64 0]) 24 Tryz.underlying52 info_place rfl (by decide) (hqB.alloc _).p (by rfl) (View.lit (s := 3) wA #[.int .i64 (k2 : Nat), .int .i64 (k3 : Nat), .int .i64 (k4 : Nat)] 51 (0, 0) 1 rfl (by decide)) (by rfl) (kcells_cell ⟨k2, k3, k4⟩) (by omega) (by decide) ?_
              intro A7 c7 w7 q1 q2
              have G := grew_place (hnB.alloc (.cells #[.int .i64 (k2 : Nat), .int .i64 (k3 : Nat), .int .i64 (k4 : Nat)] 51)) (hqB.alloc _) (by decide) (by decide) (by decide) (by decide) (by decide) (by decide) (by rw [World.size_alloc]; have := hfrA.size; omega) ⟨k2, k3, k4⟩ q1 q2
              clear q1 q2 hnA hqA hnB hqB hRC hmB hfrC hBA hlA
              have hlA := num_le hn4
              have hBA : Byt rr4 := hBA9
              have o1 : w7.cell? ⟨nb, 2, none⟩ = some (.slice q1.A2 x1.ps.length q1.c2) := G.old.cell 2
              have z1 := G.old.frozen 2
              refine hK.out _ _ (fun _ => o1) ?_
              clear hK K
              try simp only [Act.put, List.setIfInBounds_toArray, List.set_cons_zero, List.set_cons_succ]
              refine wpU_take (i := 9) (v := ?_) rfl (by kernel_rfl) (by kernel_rfl) (fun _ _ _ h => h) _ _ _ _ (by kernel_rfl) (by kernel_rfl) (by kernel_rfl) (Or.inl ⟨by kernel_rfl, ?_⟩) o1 ?_
              rotate_left
              · (intro w9 hS9; obtain s0 := hS9; go_simp); (try with_reducible rfl)
              try simp only [Act.put, List.setIfInBounds_toArray, List.set_cons_zero, List.set_cons_succ]
              refine wpU_next (i := 10) rfl (by kernel_rfl) (fun K hK => ?_)
              go_simp
              refine hK.out _ _ (fun h => absurd rfl h.1) ?_
              refine wpU_done (by kernel_rfl) ?_ _
              clear hK K
              obtain ⟨x2, hxx⟩ : ∃ y : Nd, y = ⟨x1.h, x1.ks, x1.ps ++ [⟨(k2 : Int), (k3 : Int), (k4 : Int)⟩], x1.gs, x1.ds⟩ := ⟨_, rfl⟩
              obtain ⟨q2, hqq⟩ : ∃ y : Ptr, y = ⟨q1.A1, q1.c1, A7, c7, q1.A3, q1.c3, q1.A4, q1.c4⟩ := ⟨_, rfl⟩
              have hnA := G.blk
              have hqA := G.rws
              have hfG := G.fr
              rw [← hxx, ← hqq] at hnA hqA
              have Hx2 := hid hxx
              clear hxx hqq G o1 z1 hSA hSB
              have hRB := IsR.fr (S1 := Nil) hRA ((Fr.refl Nil wA).alloc (.cells #[.int .i64 (k2 : Nat), .int .i64 (k3 : Nat), .int .i64 (k4 : Nat)] 51)) (fun _ _ _ h => h)
              have hmB := Blk.fr (hmA.alloc (.cells #[.int .i64 (k2 : Nat), .int .i64 (k3 : Nat), .int .i64 (k4 : Nat)] 51)) hfG (fun h => h.elim (fun e => hne e.symm) (fun e => by omega))
              have hRC := hRB.fr hfG (fun k hk _ h => h.elim (fun e => hSn (e ▸ hS0 k hk)) (fun e => by have := hSl k hk; omega))
              have hfrC := (hfrA.alloc (.cells #[.int .i64 (k2 : Nat), .int .i64 (k3 : Nat), .int .i64 (k4 : Nat)] 51)).trans hfG (fun k hk => hk.elim (fun h => .inl (.inl (.inl h))) .inr)
              clear hRB hfG hRA hmA hfA hfrA
              generalize w7.setCell _ _ = w11 at *
              have hl4x : rr4.length ≤ 100000 := by omega
              have lg2 : x2.gs.length ≤ i := by rw [Hx2.out]; exact lg1
              have hS : (fun w' : World => w'.cell? ⟨nb, 3, none⟩ = some (.slice q2.A3 x2.gs.length q2.c3)) (w11).drew := hnA.cell 3
              go_wp2_with fail
              refine wpU_region (k := 7) (S := fun w' : World => w'.cell? ⟨nb, 3, none⟩ = some (.slice q2.A3 x2.gs.length q2.c3)) (by kernel_rfl) ?_
              refine wpU_take (i := 0) (v := ?_) rfl (by kernel_rfl) (by kernel_rfl) (fun _ _ _ h => h) _ _ _ _ (by kernel_rfl) (by kernel_rfl) (by kernel_rfl) (Or.inl ⟨by kernel_rfl, ?_⟩) hS ?_
              rotate_left
              · (intro w9 hS9; obtain s0 := hS9; go_simp); (try with_reducible rfl)
              try simp only [Act.put, List.setIfInBounds_toArray, List.set_cons_zero, List.set_cons_succ]
              refine wpU_take (i := 1) (v := ?_) rfl (by kernel_rfl) (by kernel_rfl) (fun _ _ _ h => h) _ _ _ _ (by kernel_rfl) (by kernel_rfl) (by kernel_rfl) (Or.inl ⟨by kernel_rfl, ?_⟩) hS ?_
              rotate_left
              · (intro w9 hS9; obtain s0 := hS9; go_simp); (try with_reducible rfl)
              try simp only [Act.put, List.setIfInBounds_toArray, List.set_cons_zero, List.set_cons_succ]
              refine wpU_take (i := 2) (v := ?_) rfl (by kernel_rfl) (by kernel_rfl) (fun _ _ _ h => h) _ _ _ _ (by kernel_rfl) (by kernel_rfl) (by kernel_rfl) (Or.inl ⟨by kernel_rfl, ?_⟩) hS ?_
              rotate_left
              · (intro w9 hS9; obtain s0 := hS9; go_simp); (try with_reducible rfl)
              try simp only [Act.put, List.setIfInBounds_toArray, List.set_cons_zero, List.set_cons_succ]
              refine wpU_next (i := 3) rfl (by kernel_rfl) (fun K hK => ?_)
              go_simp
              refine (rnum_any S rb rr4 (by omega) hBA ((w11).drew) (isR_dr hRC)).mono ?_
              intro e wA hp
              cases hn5 : num rr4 with
              | bad er =>
                rw [hn5] at hp
                obtain ⟨rfl, rfl⟩ := hp
                refine ⟨rfl, Hgood.out _ _ ?_⟩
                rw [← hrd.out, Hrd.out, show nums' (wd x) bs = .bad er from by unfold wd; split <;> first | (simp [nums', hn1, hn2, hn3, hn4, hn5]; done) | (exfalso; have g1 := Hee1.out.1; have g2 := H0.out; omega)]
                exact ⟨rfl, hfrC.drew, m, hm8, hmB⟩
              | ok k5 rr5 =>
              rw [hn5] at hp
              obtain ⟨rfl, hfA, hRA⟩ := hp
              have hfrA := (hfrC.drew).then (frT hfA)
              have hBA9 := num_byt hn5 hBA
              have hmA := Blk.fr (w := (w11).drew) hmB hfA hrm
              have hnB := Blk.fr (w := (w11).drew) hnA hfA hrn
              have hqB := Rws.fr (w := (w11).drew) hqA.drew hfA (fun k hk (e : k = rb) => by omega)
              have hSA : wA.cell? ⟨nb, 3, none⟩ = some (.slice q2.A3 x2.gs.length q2.c3) := hnB.cell 3
              refine hK.out _ _ (fun _ => hSA) ?_
              clear hK K
              try simp only [Act.put, List.setIfInBounds_toArray, List.set_cons_zero, List.set_cons_succ]
              refine wpU_next (i := 4) rfl (by kernel_rfl) (fun K hK => ?_)
              go_simp
              have hSB : (wA.alloc (.cells #[.int .i64 (k5 : Nat)] 3)).cell? ⟨nb, 3, none⟩ = some (.slice q2.A3 x2.gs.length q2.c3) := (hnB.alloc _).cell 3
              refine hK.out _ _ (fun _ => hSB) ?_
              clear hK K
              try simp only [Act.put, List.setIfInBounds_toArray, List.set_cons_zero, List.set_cons_succ]
              refine wpU_next (i := 5) rfl (by kernel_rfl) (fun K hK => ?_)
              refine step_app_view rfl _ _ 49 (by rfl) (.int .i64 0) 8 Tryz.underlying49 info_int rfl (by decide) (hqB.alloc _).g (by rfl) (View.lit (s := 1) wA #[.int .i64 (k5 : Nat)] 3 (0, 0) 1 rfl (by decide)) (by rfl) (ints_cell [(k5 : Int)]) (by omega) (by decide) ?_
              intro A7 c7 w7 q1 q2
              have G := grew_gen (hnB.alloc (.cells #[.int .i64 (k5 : Nat)] 3)) (hqB.alloc _) (by decide) (by decide) (by decide) (by decide) (by decide) (by decide) (by rw [World.size_alloc]; have := hfrA.size; omega) (k5 : Int) q1 q2
              clear q1 q2 hnA hqA hnB hqB hRC hmB hfrC hBA hlA
              have hlA := num_le hn5
              have hBA : Byt rr5 := hBA9
              have o1 : w7.cell? ⟨nb, 3, none⟩ = some (.slice q2.A3 x2.gs.length q2.c3) := G.old.cell 3
              have z1 := G.old.frozen 3
              refine hK.out _ _ (fun _ => o1) ?_
              clear hK K
              try simp only [Act.put, List.setIfInBounds_toArray, List.set_cons_zero, List.set_cons_succ]
              refine wpU_take (i := 6) (v := ?_) rfl (by kernel_rfl) (by kernel_rfl) (fun _ _ _ h => h) _ _ _ _ (by kernel_rfl) (by kernel_rfl) (by kernel_rfl) (Or.inl ⟨by kernel_rfl, ?_⟩) o1 ?_
              rotate_left
              · (intro w9 hS9; obtain s0 := hS9; go_simp); (try with_reducible rfl)
              try simp only [Act.put, List.setIfInBounds_toArray, List.set_cons_zero, List.set_cons_succ]
              refine wpU_next (i := 7) rfl (by kernel_rfl) (fun K hK => ?_)
              go_simp
              refine hK.out _ _ (fun h => absurd rfl h.1) ?_
              refine wpU_done (by kernel_rfl) ?_ _
              clear hK K
              obtain ⟨x3, hxx⟩ : ∃ y : Nd, y = ⟨x2.h, x2.ks, x2.ps, x2.gs ++ [(k5 : Int)], x2.ds⟩ := ⟨_, rfl⟩
              obtain ⟨q3, hqq⟩ : ∃ y : Ptr, y = ⟨q2.A1, q2.c1, q2.A2, q2.c2, A7, c7, q2.A4, q2.c4⟩ := ⟨_, rfl⟩
              have hnA := G.blk
              have hqA := G.rws
              have hfG := G.fr
              rw [← hxx, ← hqq] at hnA hqA
              have Hx3 := hid hxx
              clear hxx hqq G o1 z1 hSA hSB
              have hRB := IsR.fr (S1 := Nil) hRA ((Fr.refl Nil wA).alloc (.cells #[.int .i64 (k5 : Nat)] 3)) (fun _ _ _ h => h)
              have hmB := Blk.fr (hmA.alloc (.cells #[.int .i64 (k5 : Nat)] 3)) hfG (fun h => h.elim (fun e => hne e.symm) (fun e => by omega))
              have hRC := hRB.fr hfG (fun k hk _ h => h.elim (fun e => hSn (e ▸ hS0 k hk)) (fun e => by have := hSl k hk; omega))
              have hfrC := (hfrA.alloc (.cells #[.int .i64 (k5 : Nat)] 3)).trans hfG (fun k hk => hk.elim (fun h => .inl (.inl (.inl h))) .inr)
              clear hRB hfG hRA hmA hfA hfrA
              generalize w7.setCell _ _ = w12 at *
              have hl5x : rr5.length ≤ 100000 := by omega
              have hx0 : x.h = 0 := by have := Hee1.out.1; have := H0.out; omega
              have hfin : Hid (rdN (m - (i + 1)) x3 rr5 = rdN m ⟨(h : Nat), [], [], [], []⟩ r2) := hid (by
                rw [← hrd.out, Hrd.out, show nums' (wd x) bs = .ok [k1, k2, k3, k4, k5] rr5 from by simp [wd, hx0, nums', hn1, hn2, hn3, hn4, hn5]]
                show _ = rdN (m - i - 1) (addE x [k1, k2, k3, k4, k5]) rr5
                rw [show m - i - 1 = m - (i + 1) by omega, show x3 = addE x [k1, k2, k3, k4, k5] from by unfold addE; rw [if_pos hx0, Hx3.out, Hx2.out, Hx1.out]; rfl])
              have hlen : Hid (x3.ks.length ≤ i + 1 ∧ x3.ps.length ≤ i + 1 ∧ x3.gs.length ≤ i + 1 ∧ x3.ds.length ≤ i + 1) := hid (by
                have := Hee1.out
                rw [Hx3.out, Hx2.out]
                simp only [List.length_append, List.length_cons, List.length_nil]
                omega)
              clear hn1 hn2 hn3 hn4 hn5 hx0
              go_wp2
              go_roundw
              case rel => exact ⟨i + 1, rr5, x3, q3, by go_num, by omega, hfrC, hRC, hBA, hl5x, hnA, hqA, hmB, hfin, hlen.out.1, hlen.out.2.1, hlen.out.2.2.1, hlen.out.2.2.2⟩
              case measure => simp [intOf]; omega
            · have hb0 : (x1.h == 0) = false := by simpa using h0
              have H0 := hid h0; clear h0
              have ld1 : x1.ds.length ≤ i := by have := Hee1.out; omega
              have hS : (fun w' : World => w'.cell? ⟨nb, 4, none⟩ = some (.slice q1.A4 x1.ds.length q1.c4)) (w10).drew := hnA.cell 4
              go_wp2_with fail
              refine wpU_region (k := 10) (S := fun w' : World => w'.cell? ⟨nb, 4, none⟩ = some (.slice q1.A4 x1.ds.length q1.c4)) (by kernel_rfl) ?_
              refine wpU_take (i := 0) (v := ?_) rfl (by kernel_rfl) (by kernel_rfl) (fun _ _ _ h => h) _ _ _ _ (by kernel_rfl) (by kernel_rfl) (by kernel_rfl) (Or.inl ⟨by kernel_rfl, ?_⟩) hS ?_
              rotate_left
              · (intro w9 hS9; obtain s0 := hS9; go_simp); (try with_reducible rfl)
              try simp only [Act.put, List.setIfInBounds_toArray, List.set_cons_zero, List.set_cons_succ]
              refine wpU_take (i := 1) (v := ?_) rfl (by kernel_rfl) (by kernel_rfl) (fun _ _ _ h => h) _ _ _ _ (by kernel_rfl) (by kernel_rfl) (by kernel_rfl) (Or.inl ⟨by kernel_rfl, ?_⟩) hS ?_
              rotate_left
              · (intro w9 hS9; obtain s0 := hS9; go_simp); (try with_reducible rfl)
              try simp only [Act.put, List.setIfInBounds_toArray, List.set_cons_zero, List.set_cons_succ]
              refine wpU_take (i := 2) (v := ?_) rfl (by kernel_rfl) (by kernel_rfl) (fun _ _ _ h => h) _ _ _ _ (by kernel_rfl) (by kernel_rfl) (by kernel_rfl) (Or.inl ⟨by kernel_rfl, ?_⟩) hS ?_
              rotate_left
              · (intro w9 hS9; obtain s0 := hS9; go_simp); (try with_reducible rfl)
              try simp only [Act.put, List.setIfInBounds_toArray, List.set_cons_zero, List.set_cons_succ]
              refine wpU_take (i := 3) (v := ?_) rfl (by kernel_rfl) (by kernel_rfl) (fun _ _ _ h => h) _ _ _ _ (by kernel_rfl) (by kernel_rfl) (by kernel_rfl) (Or.inl ⟨by kernel_rfl, ?_⟩) hS ?_
              rotate_left
              · (intro w9 hS9; obtain s0 := hS9; go_simp); (try with_reducible rfl)
              try simp only [Act.put, List.setIfInBounds_toArray, List.set_cons_zero, List.set_cons_succ]
              refine wpU_take (i := 4) (v := ?_) rfl (by kernel_rfl) (by kernel_rfl) (fun _ _ _ h => h) _ _ _ _ (by kernel_rfl) (by kernel_rfl) (by kernel_rfl) (Or.inl ⟨by kernel_rfl, ?_⟩) hS ?_
              rotate_left
              · (intro w9 hS9; obtain s0 := hS9; go_simp); (try with_reducible rfl)
              try simp only [Act.put, List.setIfInBounds_toArray, List.set_cons_zero, List.set_cons_succ]
              refine wpU_next (i := 5) rfl (by kernel_rfl) (fun K hK => ?_)
              go_simp
              refine (rnum_any S rb rr3 (by omega) hBA ((w10).drew) (isR_dr hRC)).mono ?_
              intro e wA hp
              cases hn4 : num rr3 with
              | bad er =>
                rw [hn4] at hp
                obtain ⟨rfl, rfl⟩ := hp
                refine ⟨rfl, Hgood.out _ _ ?_⟩
                rw [← hrd.out, Hrd.out, show nums' (wd x) bs = .bad er from by unfold wd; split <;> first | (simp [nums', hn1, hn2, hn3, hn4]; done) | (exfalso; have g1 := Hee1.out.1; have g2 := H0.out; omega)]
                exact ⟨rfl, hfrC.drew, m, hm8, hmB⟩
              | ok k4 rr4 =>
              rw [hn4] at hp
              obtain ⟨rfl, hfA, hRA⟩ := hp
              have hfrA := (hfrC.drew).then (frT hfA)
              have hBA9 := num_byt hn4 hBA
              have hmA := Blk.fr (w := (w10).drew) hmB hfA hrm
              have hnB := Blk.fr (w := (w10).drew) hnA hfA hrn
              have hqB := Rws.fr (w := (w10).drew) hqA.drew hfA (fun k hk (e : k = rb) => by omega)
              have hSA : wA.cell? ⟨nb, 4, none⟩ = some (.slice q1.A4 x1.ds.length q1.c4) := hnB.cell 4
              refine hK.out _ _ (fun _ => hSA) ?_
              clear hK K
              try simp only [Act.put, List.setIfInBounds_toArray, List.set_cons_zero, List.set_cons_succ]
              refine wpU_take (i := 6) (v := ?_) rfl (by kernel_rfl) (by kernel_rfl) (fun _ _ _ h => h) _ _ _ _ (by kernel_rfl) (by kernel_rfl) (by kernel_rfl) (Or.inl ⟨by kernel_rfl, ?_⟩) hSA ?_
              rotate_left
              · (intro w9 hS9; obtain s0 := hS9; go_simp); (try with_reducible rfl)
              try simp only [Act.put, List.setIfInBounds_toArray, List.set_cons_zero, List.set_cons_succ]
              refine wpU_next (i := 7) rfl (by kernel_rfl) (fun K hK => ?_)
              go_simp
              have hSB : (wA.alloc (.cells #[.int .i64 (k2 : Nat), .int .i64 (k3 : Nat), .int .i64 (k4 : Nat)] 57)).cell? ⟨nb, 4, none⟩ = some (.slice q1.A4 x1.ds.length q1.c4) := (hnB.alloc _).cell 4
              refine hK.out _ _ (fun _ => hSB) ?_
              clear hK K
              try simp only [Act.put, List.setIfInBounds_toArray, List.set_cons_zero, List.set_cons_succ]
              refine wpU_next (i := 8) rfl (by kernel_rfl) (fun K hK => ?_)
              refine step_app_view rfl _ _ 60 (by rfl) (.agg #[.int .i64 0, .int .i64 0, .int .i64 0]) 24 Tryz.underlying60 info_kid rfl (by decide) (hqB.alloc _).d (by rfl) (View.lit (s := 3) wA #[.int .i64 (k2 : Nat), .int .i64 (k3 : Nat), .int .i64 (k4 : Nat)] 57 (0, 0) 1 rfl (by decide)) (by rfl) (kcells_cell ⟨k2, k3, k4⟩) (by omega) (by decide) ?_
              intro A7 c7 w7 q1 q2
              have G := grew_kid (hnB.alloc (.cells #[.int .i64 (k2 : Nat), .int .i64 (k3 : Nat), .int .i64 (k4 : Nat)] 57)) (hqB.alloc _) (by decide) (by decide) (by decide) (by decide) (by decide) (by decide) (by rw [World.size_alloc]; have := hfrA.size; omega) ⟨k2, k3, k4⟩ q1 q2
              clear q1 q2 hnA hqA hnB hqB hRC hmB hfrC hBA hlA
              have hlA := num_le hn4
              have hBA : Byt rr4 := hBA9
              have o1 : w7.cell? ⟨nb, 4, none⟩ = some (.slice q1.A4 x1.ds.length q1.c4) := G.old.cell 4
              have z1 := G.old.frozen 4
              refine hK.out _ _ (fun _ => o1) ?_
              clear hK K
              try simp only [Act.put, List.setIfInBounds_toArray, List.set_cons_zero, List.set_cons_succ]
              refine wpU_take (i := 9) (v := ?_) rfl (by kernel_rfl) (by kernel_rfl) (fun _ _ _ h => h) _ _ _ _ (by kernel_rfl) (by kernel_rfl) (by kernel_rfl) (Or.inl ⟨by kernel_rfl, ?_⟩) o1 ?_
              rotate_left
              · (intro w9 hS9; obtain s0 := hS9; go_simp); (try with_reducible rfl)
              try simp only [Act.put, List.setIfInBounds_toArray, List.set_cons_zero, List.set_cons_succ]
              refine wpU_next (i := 10) rfl (by kernel_rfl) (fun K hK => ?_)
              go_simp
              refine hK.out _ _ (fun h => absurd rfl h.1) ?_
              refine wpU_done (by kernel_rfl) ?_ _
              clear hK K
              obtain ⟨x2, hxx⟩ : ∃ y : Nd, y = ⟨x1.h, x1.ks, x1.ps, x1.gs, x1.ds ++ [⟨(k2 : Int), (k3 : Int), (k4 : Int)⟩]⟩ := ⟨_, rfl⟩
              obtain ⟨q2, hqq⟩ : ∃ y : Ptr, y = ⟨q1.A1, q1.c1, q1.A2, q1.c2, q1.A3, q1.c3, A7, c7⟩ := ⟨_, rfl⟩
              have hnA := G.blk
              have hqA := G.rws
              have hfG := G.fr
              rw [← hxx, ← hqq] at hnA hqA
              have Hx2 := hid hxx
              clear hxx hqq G o1 z1 hSA hSB
              have hRB := IsR.fr (S1 := Nil) hRA ((Fr.refl Nil wA).alloc (.cells #[.int .i64 (k2 : Nat), .int .i64 (k3 : Nat), .int .i64 (k4 : Nat)] 57)) (fun _ _ _ h => h)
              have hmB := Blk.fr (hmA.alloc (.cells #[.int .i64 (k2 : Nat), .int .i64 (k3 : Nat), .int .i64 (k4 : Nat)] 57)) hfG (fun h => h.elim (fun e => hne e.symm) (fun e => by omega))
              have hRC := hRB.fr hfG (fun k hk _ h => h.elim (fun e => hSn (e ▸ hS0 k hk)) (fun e => by have := hSl k hk; omega))
              have hfrC := (hfrA.alloc (.cells #[.int .i64 (k2 : Nat), .int .i64 (k3 : Nat), .int .i64 (k4 : Nat)] 57)).trans hfG (fun k hk => hk.elim (fun h => .inl (.inl (.inl h))) .inr)
              clear hRB hfG hRA hmA hfA hfrA
              generalize w7.setCell _ _ = w11 at *
              have hl4x : rr4.length ≤ 100000 := by omega
              have hx0 : x.h ≠ 0 := fun h9 => H0.out (by have := Hee1.out.1; omega)
              have hfin : Hid (rdN (m - (i + 1)) x2 rr4 = rdN m ⟨(h : Nat), [], [], [], []⟩ r2) := hid (by
                rw [← hrd.out, Hrd.out, show nums' (wd x) bs = .ok [k1, k2, k3, k4] rr4 from by simp [wd, hx0, nums', hn1, hn2, hn3, hn4]]
                show _ = rdN (m - i - 1) (addE x [k1, k2, k3, k4]) rr4
                rw [show m - i - 1 = m - (i + 1) by omega, show x2 = addE x [k1, k2, k3, k4] from by unfold addE; rw [if_neg hx0, Hx2.out, Hx1.out]; rfl])
              have hlen : Hid (x2.ks.length ≤ i + 1 ∧ x2.ps.length ≤ i + 1 ∧ x2.gs.length ≤ i + 1 ∧ x2.ds.length ≤ i + 1) := hid (by
                have := Hee1.out
                rw [Hx2.out]
                simp only [List.length_append, List.length_cons, List.length_nil]
                omega)
              clear hn1 hn2 hn3 hn4 hx0
              go_wp2
              go_roundw
              case rel => exact ⟨i + 1, rr4, x2, q2, by go_num, by omega, hfrC, hRC, hBA, hl4x, hnA, hqA, hmB, hfin, hlen.out.1, hlen.out.2.1, hlen.out.2.2.1, hlen.out.2.2.2⟩
              case measure => simp [intOf]; omega
          · have him : i = m := by omega
            have hfin : Hid (rdN m ⟨(h : Nat), [], [], [], []⟩ r2 = .ok x bs) := hid (by rw [← hrd.out, him, Nat.sub_self]; rfl)
            have Him := hid him; clear him
            go_wp2
            go_end0
            refine Hgood.out _ _ ?_
            rw [hfin.out]
            exact ⟨rfl, hfr, hRr.mono hS0, ⟨m, hm8, hmr⟩, q, hnr, hqr⟩
end Go.Proofs.YtgoghmblfdlnbaaGreat.nd
end

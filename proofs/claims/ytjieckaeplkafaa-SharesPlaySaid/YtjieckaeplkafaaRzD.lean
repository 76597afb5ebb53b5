/- The reference's Shares: Add. Conditions: the bounds of its lists. -/
import Derived.Test.YtjieckaeplkafaaRzC
import Derived.Test.YtjieckaeplkafaaStep
import Derived.Laws.Slices
set_option linter.unusedSimpArgs false
set_option linter.unusedVariables false
namespace Go.Proofs.Ytjieckaeplkafaa
open Go.RowKit
set_option maxRecDepth 20000 in
theorem rz_addno (T : Nat → Prop) (sb mb : Nat) (N W : List Us) (w : World) (h : Rz w T sb mb N W) (hN : N.length ≤ 100000) (a n : Int) (hf : n < 1 ∨ a < 0 ∨ atN N a < N.length) :
    Calls Try.prog 25 #[.pointer (some ⟨sb, 0, none⟩), .agg #[.int .i64 a, .int .i64 n]] w fun e w' => e = .returned (.bool false) ∧ Fr Nil w w' := by
  have H := hid h
  have hN' := hid hN
  clear h hN
  by_cases h1 : n < 1
  · clear hf
    go_enter Try.func25, Try.ntmps25
    go_wp2_with fail
    go_ret
    exact ⟨rfl, (Fr.refl _ _).alloc _⟩
  by_cases h2 : a < 0
  · clear hf
    go_enter Try.func25, Try.ntmps25
    go_wp2_with fail
    go_ret
    exact ⟨rfl, (Fr.refl _ _).alloc _⟩
  have h3 : atN N a < N.length := hf.resolve_left h1 |>.resolve_left h2
  have hat : atI N a = (atN N a : Int) := if_pos h3
  have Hat := fun w h => hid (rz_at T sb mb N W w h hN'.out a)
  simp only [hat] at Hat
  generalize atN N a = j at *
  clear hf h3 hat
  go_enter Try.func25, Try.ntmps25
  go_wp2_with fail
  refine (Hat _ (H.out.nil ((Fr.refl _ _).alloc _))).out.mono ?_
  rintro e w1 ⟨rfl, rfl⟩
  go_wp2
  go_ret
  exact ⟨rfl, (Fr.refl _ _).alloc _⟩
/-- So many lie ahead of a. -/
def ahead (N : List Us) (a : Nat) : Nat := (N.takeWhile fun u => decide (u.a < a)).length
def insN (N : List Us) (a n : Nat) : List Us := N.take (ahead N a) ++ [⟨a, n, 1⟩] ++ N.drop (ahead N a)
theorem ahead_at {N : List Us} {a k : Nat} (hk : k ≤ N.length) (h1 : ∀ q, q < k → (us N q).a < a) (h2 : k < N.length → ¬ (us N k).a < a) : ahead N a = k := by
  unfold ahead
  induction N generalizing k with
  | nil => simp at hk; subst hk; rfl
  | cons u N ih =>
    cases k with
    | zero =>
      have h := h2 (by simp)
      rw [List.takeWhile_cons, if_neg (by simpa [us] using h)]; rfl
    | succ k =>
      have h := h1 0 (by omega)
      rw [List.takeWhile_cons, if_pos (by simpa [us] using h), List.length_cons, ih (k := k) (by simpa using hk) (fun q hq => by simpa [us] using h1 (q + 1) (by omega)) (fun hl => by simpa [us] using h2 (by simpa using hl))]
theorem wpU_two {P : Program} {ops : Array Oper} {Q : Exit → Act → World → Prop} {md : Region.Mode} {S : World → Prop} {k i j : Nat} {oi oj : Oper} {n : Nat} {l : Array Bool} {a : Act} {w : World} (hi : ops[i]? = some oi) (hj : ops[j]? = some oj) (hr : Region.ready md ops l = [i, j])
    (h1 : ∀ K' : Act → World → Prop, Hid (∀ a w, (i ≠ k ∧ l.getD k false = false → S w) → wpU P md ops Q S k n (l.setIfInBounds i true) a w → K' a w) → if Region.wanted oi (yielded ops a.tmps) = true then Oper.wp P oi a w K' Q else K' (a.put oi.dst undef) w)
    (h2 : ∀ K' : Act → World → Prop, Hid (∀ a w, (j ≠ k ∧ l.getD k false = false → S w) → wpU P md ops Q S k n (l.setIfInBounds j true) a w → K' a w) → if Region.wanted oj (yielded ops a.tmps) = true then Oper.wp P oj a w K' Q else K' (a.put oj.dst undef) w) : wpU P md ops Q S k (n + 1) l a w := by
  refine ⟨fun h0 => absurd (hr ▸ h0) (by simp), hr ▸ ?_⟩
  intro m hm
  rcases List.mem_cons.1 hm with rfl | hm
  · exact wpOp_step hi fun K' hK => h1 K' (hid fun a w h1 h2 => hK a w ⟨h1, h2⟩)
  · obtain rfl := List.mem_singleton.1 hm
    exact wpOp_step hj fun K' hK => h2 K' (hid fun a w h1 h2 => hK a w ⟨h1, h2⟩)
set_option maxRecDepth 20000 in
set_option maxHeartbeats 1000000 in
theorem rz_add (T : Nat → Prop) (sb mb : Nat) (N W : List Us) (w : World) (h : Rz w T sb mb N W) (hN : N.length ≤ 100000) (a n : Nat) (hn : 1 ≤ n) (hat : ¬ atN N (a : Nat) < N.length) (hb : a ≤ 100000) :
    Calls Try.prog 25 #[.pointer (some ⟨sb, 0, none⟩), .agg #[.int .i64 (a : Nat), .int .i64 (n : Nat)]] w fun e w' => e = .returned (.bool true) ∧
      (∃ T', Rz w' T' sb mb (insN N a n) W ∧ ∀ k, T' k → T k ∨ w.heap.size ≤ k) ∧ Fr (fun k => k = sb) w w' := by
  have H := hid h
  have hN' := hid hN
  have hat' : atI N (a : Nat) = -1 := if_neg hat
  have Hat := fun w h => hid (rz_at T sb mb N W w h hN'.out (a : Nat))
  simp only [hat'] at Hat
  obtain ⟨⟨v1, v2, h1, h2, h3⟩, h4, h5⟩ := h
  obtain ⟨A, c, rfl⟩ := h2.slice
  have HB := hid h1
  have HV := hid h2.view
  have H3 := hid h3
  have HT := hid h4
  have Hlt := hid h5
  obtain ⟨M, hM⟩ : ∃ M, M = N.length := ⟨_, rfl⟩
  rw [← hM] at HV HB hN
  have HM := hid hM
  clear h1 h2 h3 h4 h5 hat' hat hM
  go_enter Try.func25, Try.ntmps25
  go_wp2_with fail
  obtain ⟨W1, hW1⟩ : ∃ W1, W1 = w.alloc (.cells #[.int .i64 (a : Nat), .int .i64 (n : Nat)] 33) := ⟨_, rfl⟩
  have f1 : Fr Nil w W1 := by rw [hW1]; exact (Fr.refl _ _).alloc _
  have hX0 : Blk W1 w.heap.size #[.int .i64 (a : Nat), .int .i64 (n : Nat)] 33 := by rw [hW1]; exact Blk.new _ _ _
  rw [← hW1]
  clear hW1
  obtain ⟨xb, hxb⟩ : ∃ xb, xb = w.heap.size := ⟨_, rfl⟩
  rw [← hxb] at hX0 ⊢
  have HX := hid hX0
  have F1 := hid f1
  have Hxb := hid hxb
  clear hX0 f1 hxb
  refine (Hat _ (H.out.nil F1.out)).out.mono ?_
  rintro e w1 ⟨rfl, rfl⟩
  have c1 : W1.cell? ⟨sb, 1, none⟩ = some (.slice A M c) := (HB.out.fr F1.out fun h => h).cell 1
  go_wp2_with (at_builtin; refine wp_app_view rfl _ _ 68 rfl (.agg #[.int .i64 0, .int .i64 0, .int .i64 0, .bool false]) 32 Try.underlying68 info_use rfl (by decide) (Row.nil W1 Nil 72 4) rfl (HV.out.fr F1.out fun _ _ _ h => h) rfl (quad_cell N) (by omega) (by decide) ?_)
  rintro A6 c6 w6 r1 r2 rn
  rw [Nat.zero_add] at r1
  rw [Nat.zero_add]
  have hf6 : Fr Nil W1 w6 := r2.mono fun k hk => by simp [Value.ownBlock] at hk
  have hr6 : Row w6 (New W1) 72 4 (.slice A6 M c6) M (quad N) := r1.mono fun k hk => hk.elim (fun h => by simp [Value.ownBlock] at h) id
  have HR := hid hr6
  have F6 := hid hf6
  have HX6 := hid (HX.out.fr hf6 fun h => h)
  have HRn := hid rn
  clear r1 r2 hf6 c1
  by_cases hM0 : 0 < M
  · obtain ⟨g, cg, hA6, hg, hgl⟩ := hr6.form hM0
    injection hA6 with hA6 _ hcg
    subst hA6; subst hcg
    have hMc : M ≤ c6 := by
      obtain ⟨g', cap', cur', e', _, _, hh, _⟩ := hr6.blk (by simp)
      injection e' with _ _ e'
      omega
    have Hg := hid hg
    clear rn hr6 hg hgl
    go_wp2_with fail
    go_loopw [6] (fun v6 wx => ∃ k : Nat, v6 = .int .i64 k ∧ k ≤ M ∧ Hid (∀ q, q < k → (us N q).a < a) ∧ Fr Nil w6 wx) (fun v6 _ => M - (intOf v6).toNat)
    case atStart => exact ⟨0, rfl, by omega, hid (fun q hq => by omega), Fr.refl _ _⟩
    case round =>
      obtain ⟨k, rfl, hk, hb, hfw⟩ := hrel
      have hx0 : wr.cell? ⟨xb, 0, none⟩ = some (.int .i64 (a : Nat)) := (HX6.out.fr hfw fun h => h).cell 0
      by_cases hkM : k < M
      · obtain ⟨b, o, hbo, -, hbl, q0, -⟩ := uz_at (HR.out.view.fr hfw fun _ _ _ h => h) hkM
        injection hbo with hbo
        injection hbo with hb1 hb2
        subst hb1; subst hb2
        rw [Nat.zero_add] at q0
        obtain ⟨x, hx⟩ : ∃ x, x = (us N k).a := ⟨_, rfl⟩
        rw [← hx] at q0
        have Hx := hid hx
        clear hx
        by_cases hxa : x < a
        · have hxb : decide (x < a) = true := by simpa using hxa
          have Hxa := hid hxa
          clear hxa
          go_upto_region 5 with (fail)
          go_quiet (fail)
          go_wp2_with fail
          go_roundw
          case rel => exact ⟨k + 1, by go_num, by omega, hid (fun q hq => by
            by_cases h : q = k
            · rw [h, ← Hx.out]; exact Hxa.out
            · exact hb.out q (by omega)), hfw.drewN _⟩
          case measure => simp [intOf]; omega
        · have hxb : decide (x < a) = false := by simpa using hxa
          have Hxa := hid hxa
          clear hxa
          have Hah := hid (ahead_at (N := N) (a := a) (k := k) (by rw [← HM.out]; exact hk) hb.out fun _ => by rw [← Hx.out]; exact Hxa.out)
          go_upto_region 5 with (fail)
          go_quiet (fail)
          go_upto_region 7 with (fail)
          clear hx0 q0 hxb hbl
          obtain ⟨W9, hW9⟩ : ∃ W9, W9 = wr.drewN nq := ⟨_, rfl⟩
          rw [← hW9]
          have f9 : Fr Nil w6 W9 := by rw [hW9]; exact hfw.drewN _
          have F9 := hid f9
          have HX9 := hid (HX6.out.fr f9 fun h => h)
          have HR9 := hid (HR.out.fr f9 fun _ _ h => h)
          have hS : (fun w' : World => w'.cell? ⟨xb, 0, none⟩ = some (.int .i64 (a : Nat)) ∧ w'.cell? ⟨xb, 1, none⟩ = some (.int .i64 (n : Nat))) W9.drew := ⟨HX9.out.drew.cell 0, HX9.out.drew.cell 1⟩
          clear hW9 f9 hfw
          have hk0 : (0 : Int) ≤ (k : Int) := by omega
          have hkM' : (k : Int) ≤ (M : Int) := by omega
          have hkc : (k : Int) ≤ (c6 : Int) := by omega
          have hMc' : (M : Int) ≤ (c6 : Int) := by omega
          refine wpU_region (k := 15) (S := (fun w' : World => w'.cell? ⟨xb, 0, none⟩ = some (.int .i64 (a : Nat)) ∧ w'.cell? ⟨xb, 1, none⟩ = some (.int .i64 (n : Nat)))) (by kernel_rfl) ?_
          have V1 := hid (show View W9 (New W1) 4 (.slice (some ⟨g, 0, none⟩) k c6) k (quad (N.take k)) from by rw [← quad_take]; exact HR9.out.view.pre hk)
          have hV0 := HR9.out.view.drop (l := k) hk
          rw [quad_drop] at hV0
          have Hk := hid hk
          have HMc := hid hMc
          refine wpU_take (i := 0) (v := ?_) rfl (by kernel_rfl) (by kernel_rfl) (fun _ _ _ h => h) _ _ _ _ (by kernel_rfl) (by kernel_rfl) (by kernel_rfl) (Or.inl ⟨by kernel_rfl, ?_⟩) hS ?_
          rotate_left
          · (intro w9 hS9; obtain ⟨s0, s1⟩ := hS9; go_simp); (try with_reducible rfl)
          try simp only [Act.put, List.getElem_toArray, List.getElem_cons_succ, List.getElem_cons_zero, List.setIfInBounds_toArray, List.set_cons_zero, List.set_cons_succ]
          refine wpU_take (i := 1) (v := ?_) rfl (by kernel_rfl) (by kernel_rfl) (fun _ _ _ h => h) _ _ _ _ (by kernel_rfl) (by kernel_rfl) (by kernel_rfl) (Or.inl ⟨by kernel_rfl, ?_⟩) hS ?_
          rotate_left
          · (intro w9 hS9; obtain ⟨s0, s1⟩ := hS9; go_simp); (try with_reducible rfl)
          try simp only [Act.put, List.getElem_toArray, List.getElem_cons_succ, List.getElem_cons_zero, List.setIfInBounds_toArray, List.set_cons_zero, List.set_cons_succ]
          refine wpU_take (i := 2) (v := ?_) rfl (by kernel_rfl) (by kernel_rfl) (fun _ _ _ h => h) _ _ _ _ (by kernel_rfl) (by kernel_rfl) (by kernel_rfl) (Or.inl ⟨by kernel_rfl, ?_⟩) hS ?_
          rotate_left
          · (intro w9 hS9; obtain ⟨s0, s1⟩ := hS9; go_simp); (try with_reducible rfl)
          try simp only [Act.put, List.getElem_toArray, List.getElem_cons_succ, List.getElem_cons_zero, List.setIfInBounds_toArray, List.set_cons_zero, List.set_cons_succ]
          refine wpU_take (i := 3) (v := ?_) rfl (by kernel_rfl) (by kernel_rfl) (fun _ _ _ h => h) _ _ _ _ (by kernel_rfl) (by kernel_rfl) (by kernel_rfl) (Or.inl ⟨by kernel_rfl, ?_⟩) hS ?_
          rotate_left
          · (intro w9 hS9; obtain ⟨s0, s1⟩ := hS9; go_simp); (try with_reducible rfl)
          try simp only [Act.put, List.getElem_toArray, List.getElem_cons_succ, List.getElem_cons_zero, List.setIfInBounds_toArray, List.set_cons_zero, List.set_cons_succ]
          by_cases hck : c6 = k
          · have hkM2 : M = k := by omega
            subst hkM2
            subst hck
            rw [show sliced (some ⟨g, 0, none⟩) c6 c6 c6 4 = .slice (some ⟨g, 0, none⟩) 0 0 from by simp [sliced], Nat.sub_self] at hV0
            have V3 := hid hV0.bd
            clear hV0
            refine wpU_take (i := 5) (v := ?_) rfl (by kernel_rfl) (by kernel_rfl) (fun _ _ _ h => h) _ _ _ _ (by kernel_rfl) (by kernel_rfl) (by kernel_rfl) (Or.inl ⟨by kernel_rfl, ?_⟩) hS ?_
            rotate_left
            · (intro w9 hS9; obtain ⟨s0, s1⟩ := hS9; go_simp); (try with_reducible rfl)
            try simp only [Act.put, List.getElem_toArray, List.getElem_cons_succ, List.getElem_cons_zero, List.setIfInBounds_toArray, List.set_cons_zero, List.set_cons_succ]
            refine wpU_take (i := 6) (v := ?_) rfl (by kernel_rfl) (by kernel_rfl) (fun _ _ _ h => h) _ _ _ _ (by kernel_rfl) (by kernel_rfl) (by kernel_rfl) (Or.inl ⟨by kernel_rfl, ?_⟩) hS ?_
            rotate_left
            · (intro w9 hS9; obtain ⟨s0, s1⟩ := hS9; go_simp); (try with_reducible rfl)
            try simp only [Act.put, List.getElem_toArray, List.getElem_cons_succ, List.getElem_cons_zero, List.setIfInBounds_toArray, List.set_cons_zero, List.set_cons_succ]
            refine wpU_take (i := 9) (v := ?_) rfl (by kernel_rfl) (by kernel_rfl) (fun _ _ _ h => h) _ _ _ _ (by kernel_rfl) (by kernel_rfl) (by kernel_rfl) (Or.inl ⟨by kernel_rfl, ?_⟩) hS ?_
            rotate_left
            · (intro w9 hS9; obtain ⟨s0, s1⟩ := hS9; go_simp); (try with_reducible rfl)
            try simp only [Act.put, List.getElem_toArray, List.getElem_cons_succ, List.getElem_cons_zero, List.setIfInBounds_toArray, List.set_cons_zero, List.set_cons_succ]
            refine wpU_take (i := 10) (v := ?_) rfl (by kernel_rfl) (by kernel_rfl) (fun _ _ _ h => h) _ _ _ _ (by kernel_rfl) (by kernel_rfl) (by kernel_rfl) (Or.inl ⟨by kernel_rfl, ?_⟩) hS ?_
            rotate_left
            · (intro w9 hS9; obtain ⟨s0, s1⟩ := hS9; go_simp); (try with_reducible rfl)
            try simp only [Act.put, List.getElem_toArray, List.getElem_cons_succ, List.getElem_cons_zero, List.setIfInBounds_toArray, List.set_cons_zero, List.set_cons_succ]
            refine wpU_take (i := 11) (v := ?_) rfl (by kernel_rfl) (by kernel_rfl) (fun _ _ _ h => h) _ _ _ _ (by kernel_rfl) (by kernel_rfl) (by kernel_rfl) (Or.inl ⟨by kernel_rfl, ?_⟩) hS ?_
            rotate_left
            · (intro w9 hS9; obtain ⟨s0, s1⟩ := hS9; go_simp); (try with_reducible rfl)
            try simp only [Act.put, List.getElem_toArray, List.getElem_cons_succ, List.getElem_cons_zero, List.setIfInBounds_toArray, List.set_cons_zero, List.set_cons_succ]
            refine wpU_two (i := 4) (j := 7) rfl rfl (by kernel_rfl) (fun K hK => ?_) (fun K hK => ?_)
            · skip
              refine step_app_view rfl _ _ 68 (by rfl) (.agg #[.int .i64 0, .int .i64 0, .int .i64 0, .bool false]) 32 Try.underlying68 info_use rfl (by decide) (Row.nil W9.drew Nil 72 4) (by rfl) (V1.out.fr (((Fr.refl Nil W9).drew)) fun _ _ _ h => h) (by rfl) (quad_cell _) (by have := Hk.out; omega) (by decide) ?_
              intro A1 c1 wA q1 q2
              rw [Nat.zero_add] at q1
              rw [Nat.zero_add]
              have fAA := hid (show Fr Nil W9.drew wA from q2.mono fun k hk => by simp [Value.ownBlock] at hk)
              have fA := hid (show Fr Nil W9 wA from (((Fr.refl Nil W9).drew)).then (q2.mono fun k hk => by simp [Value.ownBlock] at hk))
              have RA := hid (show Row wA (New W9) 72 4 (.slice A1 c6 c1) c6 (quad (N.take c6)) from q1.mono fun k hk => hk.elim (fun h => by simp [Value.ownBlock] at h) (fun h => Nat.le_trans (show Fr Nil W9 W9.drew from ((Fr.refl Nil W9).drew)).size h))
              clear q1 q2
              have hS2 : (fun w' : World => w'.cell? ⟨xb, 0, none⟩ = some (.int .i64 (a : Nat)) ∧ w'.cell? ⟨xb, 1, none⟩ = some (.int .i64 (n : Nat))) wA := ⟨(HX9.out.fr (fA.out) fun h => h).cell 0, (HX9.out.fr (fA.out) fun h => h).cell 1⟩
              refine hK.out _ _ (fun _ => hS2) ?_
              clear hK K
              try simp only [Act.put, List.getElem_toArray, List.getElem_cons_succ, List.getElem_cons_zero, List.setIfInBounds_toArray, List.set_cons_zero, List.set_cons_succ]
              refine wpU_next (i := 7) rfl (by kernel_rfl) (fun K hK => ?_)
              go_simp
              obtain ⟨wB, hwB⟩ : ∃ wB, wB = (wA.alloc (.cells #[.int .i64 (a : Nat), .int .i64 (n : Nat), .int .i64 1, .bool false] 72)) := ⟨_, rfl⟩
              have fB := hid (show Fr Nil W9 wB from by rw [hwB]; exact ((fA.out).alloc _))
              have VB := hid (show View wB (New W9) 4 (.slice (some ⟨wA.heap.size, 0, none⟩) 1 1) 1 (qc ⟨a, n, 1⟩) from by
                rw [hwB]; exact (View.lit (s := 4) wA #[.int .i64 (a : Nat), .int .i64 (n : Nat), .int .i64 1, .bool false] 72 (0, 0) 1 rfl (by decide)).mono fun k hk => Nat.le_trans (show Fr Nil W9 wA from fA.out).size hk)
              rw [← hwB]
              have fBB := hid (show Fr Nil wA wB from by rw [hwB]; exact ((Fr.refl Nil wA).alloc _))
              clear hwB
              clear hS2
              have hS2 : (fun w' : World => w'.cell? ⟨xb, 0, none⟩ = some (.int .i64 (a : Nat)) ∧ w'.cell? ⟨xb, 1, none⟩ = some (.int .i64 (n : Nat))) wB := ⟨(HX9.out.fr (fB.out) fun h => h).cell 0, (HX9.out.fr (fB.out) fun h => h).cell 1⟩
              refine hK.out _ _ (fun _ => hS2) ?_
              clear hK K
              try simp only [Act.put, List.getElem_toArray, List.getElem_cons_succ, List.getElem_cons_zero, List.setIfInBounds_toArray, List.set_cons_zero, List.set_cons_succ]
              have RW := hid (RA.out.fr fBB.out fun _ _ h => h)
              have VW := VB
              refine wpU_next (i := 8) rfl (by kernel_rfl) (fun K hK => ?_)
              refine step_app_view rfl _ _ 68 (by rfl) (.agg #[.int .i64 0, .int .i64 0, .int .i64 0, .bool false]) 32 Try.underlying68 info_use rfl (by decide) RW.out (by rfl) VW.out (by rfl) (qc_cell _) (by have := Hk.out; omega) (by decide) ?_
              intro A2 c2 wC q1 q2
              have fC := hid (show Fr Nil W9 wC from (fB.out).trans q2 fun k hk => .inr (RW.out.2 k hk))
              have RC := hid (show Row wC (New W9) 72 4 (.slice A2 (c6 + 1) c2) (c6 + 1) (quad (N.take c6 ++ [⟨a, n, 1⟩])) from by rw [quad_append, quad_one]; exact q1.mono fun k hk => hk.elim (fun h => RW.out.2 k h) (fun h => Nat.le_trans (fB.out).size h))
              clear q1 q2
              have hS2 : (fun w' : World => w'.cell? ⟨xb, 0, none⟩ = some (.int .i64 (a : Nat)) ∧ w'.cell? ⟨xb, 1, none⟩ = some (.int .i64 (n : Nat))) wC := ⟨(HX9.out.fr (fC.out) fun h => h).cell 0, (HX9.out.fr (fC.out) fun h => h).cell 1⟩
              refine hK.out _ _ (fun _ => hS2) ?_
              clear hK K
              try simp only [Act.put, List.getElem_toArray, List.getElem_cons_succ, List.getElem_cons_zero, List.setIfInBounds_toArray, List.set_cons_zero, List.set_cons_succ]
              refine wpU_next (i := 12) rfl (by kernel_rfl) (fun K hK => ?_)
              refine step_app_view rfl _ _ 68 (by rfl) (.agg #[.int .i64 0, .int .i64 0, .int .i64 0, .bool false]) 32 Try.underlying68 info_use rfl (by decide) RC.out (by rfl) (V3.out.fr fC.out fun _ _ _ h => h) (by rfl) (quad_cell _) (by have := Hk.out; omega) (by decide) ?_
              intro A3 c3 wD q1 q2
              have fD := hid (show Fr Nil W9 wD from fC.out.trans q2 fun k hk => .inr (RC.out.2 k hk))
              have RD := hid (show Row wD (New W9) 72 4 (.slice A3 (c6 + 1 + 0) c3) (c6 + 1 + 0) (quad (N.take c6 ++ [⟨a, n, 1⟩] ++ N.drop c6)) from by rw [quad_append]; exact q1.mono fun k hk => hk.elim (fun h => RC.out.2 k h) (fun h => Nat.le_trans fC.out.size h))
              clear q1 q2
              have hS2 : (fun w' : World => w'.cell? ⟨xb, 0, none⟩ = some (.int .i64 (a : Nat)) ∧ w'.cell? ⟨xb, 1, none⟩ = some (.int .i64 (n : Nat))) wD := ⟨(HX9.out.fr (fD.out) fun h => h).cell 0, (HX9.out.fr (fD.out) fun h => h).cell 1⟩
              refine hK.out _ _ (fun _ => hS2) ?_
              clear hK K
              try simp only [Act.put, List.getElem_toArray, List.getElem_cons_succ, List.getElem_cons_zero, List.setIfInBounds_toArray, List.set_cons_zero, List.set_cons_succ]
              refine wpU_next (i := 13) rfl (by kernel_rfl) (fun K hK => ?_)
              go_simp
              refine hK.out _ _ (fun _ => hS2) ?_
              clear hK K
              try simp only [Act.put, List.getElem_toArray, List.getElem_cons_succ, List.getElem_cons_zero, List.setIfInBounds_toArray, List.set_cons_zero, List.set_cons_succ]
              refine wpU_next (i := 14) rfl (by kernel_rfl) (fun K hK => ?_)
              go_simp
              refine hK.out _ _ (fun _ => hS2) ?_
              clear hK K
              try simp only [Act.put, List.getElem_toArray, List.getElem_cons_succ, List.getElem_cons_zero, List.setIfInBounds_toArray, List.set_cons_zero, List.set_cons_succ]
              have FD := hid (((F1.out.then F6.out).then F9.out).then fD.out)
              have HBD := hid (HB.out.fr FD.out fun h => h)
              have kc := HBD.out.cell 1
              have kz := HBD.out.frozen 1
              have klt := HBD.out.lt
              refine wpU_next (i := 15) rfl (by kernel_rfl) (fun K hK => ?_)
              go_simp
              refine hK.out _ _ (fun h => absurd rfl h.1) ?_
              refine wpU_done (by kernel_rfl) ?_ _
              clear hK K
              clear kc kz klt hS2 hS
              go_wp2
              go_ret
              have hsz : c6 + 1 + 0 = (insN N a n).length := by
                unfold insN
                rw [Hah.out]
                simp only [List.length_append, List.length_take, List.length_drop, List.length_cons, List.length_nil]
                have := HM.out; have := Hk.out
                omega
              have hin : insN N a n = N.take c6 ++ [⟨a, n, 1⟩] ++ N.drop c6 := by unfold insN; rw [Hah.out]
              have hfs : Fr (fun k => k = sb) w (wD.setCell ⟨sb, 1, none⟩ (.slice A3 (c6 + 1 + 0) c3)) := (FD.out.nil (S := fun k => k = sb)).setCell (a := ⟨sb, 1, none⟩) (.inl rfl) _
              have hnew : ∀ k, New W9 k → w.heap.size ≤ k := fun k hk => Nat.le_trans ((F1.out.then F6.out).then F9.out).size hk
              refine ⟨rfl, Rz.of (v1 := .slice A3 (c6 + 1 + 0) c3) (v2 := v2) hfs.size HT.out (Hlt.out sb HT.out) (HBD.out.set 1 _) ?_ ?_, hfs⟩
              · rw [hin, show (N.take c6 ++ [(⟨a, n, 1⟩ : Us)] ++ N.drop c6).length = c6 + 1 + 0 from by rw [← hin, hsz]]
                refine (RD.out.setCell ?_ _).mono fun k hk => .inr (hnew k hk)
                intro e
                have h1 := hnew _ (RD.out.2 _ e)
                have h2 := Hlt.out sb HT.out
                dsimp only at h1
                omega
              · exact (H3.out.fr hfs (fun k hk e => (H3.out.apart_blk HB.out (by decide)) (by rw [hk, e]))).mono fun k hk => .inl hk
            · go_simp
              obtain ⟨wB, hwB⟩ : ∃ wB, wB = (W9.alloc (.cells #[.int .i64 (a : Nat), .int .i64 (n : Nat), .int .i64 1, .bool false] 72)).drew := ⟨_, rfl⟩
              have fB := hid (show Fr Nil W9 wB from by rw [hwB]; exact (((Fr.refl Nil W9)).alloc _).drew)
              have VB := hid (show View wB (New W9) 4 (.slice (some ⟨W9.heap.size, 0, none⟩) 1 1) 1 (qc ⟨a, n, 1⟩) from by
                rw [hwB]; exact (View.lit (s := 4) W9 #[.int .i64 (a : Nat), .int .i64 (n : Nat), .int .i64 1, .bool false] 72 (0, 0) 1 rfl (by decide)).drew.mono fun k hk => Nat.le_trans (show Fr Nil W9 W9 from (Fr.refl Nil W9)).size hk)
              rw [← hwB]
              have fBB := hid (show Fr Nil W9 wB from by rw [hwB]; exact ((Fr.refl Nil W9).alloc _).drew)
              clear hwB
              have hS2 : (fun w' : World => w'.cell? ⟨xb, 0, none⟩ = some (.int .i64 (a : Nat)) ∧ w'.cell? ⟨xb, 1, none⟩ = some (.int .i64 (n : Nat))) wB := ⟨(HX9.out.fr (fB.out) fun h => h).cell 0, (HX9.out.fr (fB.out) fun h => h).cell 1⟩
              refine hK.out _ _ (fun _ => hS2) ?_
              clear hK K
              try simp only [Act.put, List.getElem_toArray, List.getElem_cons_succ, List.getElem_cons_zero, List.setIfInBounds_toArray, List.set_cons_zero, List.set_cons_succ]
              refine wpU_next (i := 4) rfl (by kernel_rfl) (fun K hK => ?_)
              refine step_app_view rfl _ _ 68 (by rfl) (.agg #[.int .i64 0, .int .i64 0, .int .i64 0, .bool false]) 32 Try.underlying68 info_use rfl (by decide) (Row.nil wB Nil 72 4) (by rfl) (V1.out.fr (fB.out) fun _ _ _ h => h) (by rfl) (quad_cell _) (by have := Hk.out; omega) (by decide) ?_
              intro A1 c1 wA q1 q2
              rw [Nat.zero_add] at q1
              rw [Nat.zero_add]
              have fAA := hid (show Fr Nil wB wA from q2.mono fun k hk => by simp [Value.ownBlock] at hk)
              have fA := hid (show Fr Nil W9 wA from (fB.out).then (q2.mono fun k hk => by simp [Value.ownBlock] at hk))
              have RA := hid (show Row wA (New W9) 72 4 (.slice A1 c6 c1) c6 (quad (N.take c6)) from q1.mono fun k hk => hk.elim (fun h => by simp [Value.ownBlock] at h) (fun h => Nat.le_trans (show Fr Nil W9 wB from fB.out).size h))
              clear q1 q2
              clear hS2
              have hS2 : (fun w' : World => w'.cell? ⟨xb, 0, none⟩ = some (.int .i64 (a : Nat)) ∧ w'.cell? ⟨xb, 1, none⟩ = some (.int .i64 (n : Nat))) wA := ⟨(HX9.out.fr (fA.out) fun h => h).cell 0, (HX9.out.fr (fA.out) fun h => h).cell 1⟩
              refine hK.out _ _ (fun _ => hS2) ?_
              clear hK K
              try simp only [Act.put, List.getElem_toArray, List.getElem_cons_succ, List.getElem_cons_zero, List.setIfInBounds_toArray, List.set_cons_zero, List.set_cons_succ]
              have RW := RA
              have VW := hid (VB.out.fr fAA.out fun _ _ _ h => h)
              refine wpU_next (i := 8) rfl (by kernel_rfl) (fun K hK => ?_)
              refine step_app_view rfl _ _ 68 (by rfl) (.agg #[.int .i64 0, .int .i64 0, .int .i64 0, .bool false]) 32 Try.underlying68 info_use rfl (by decide) RW.out (by rfl) VW.out (by rfl) (qc_cell _) (by have := Hk.out; omega) (by decide) ?_
              intro A2 c2 wC q1 q2
              have fC := hid (show Fr Nil W9 wC from (fA.out).trans q2 fun k hk => .inr (RW.out.2 k hk))
              have RC := hid (show Row wC (New W9) 72 4 (.slice A2 (c6 + 1) c2) (c6 + 1) (quad (N.take c6 ++ [⟨a, n, 1⟩])) from by rw [quad_append, quad_one]; exact q1.mono fun k hk => hk.elim (fun h => RW.out.2 k h) (fun h => Nat.le_trans (fA.out).size h))
              clear q1 q2
              have hS2 : (fun w' : World => w'.cell? ⟨xb, 0, none⟩ = some (.int .i64 (a : Nat)) ∧ w'.cell? ⟨xb, 1, none⟩ = some (.int .i64 (n : Nat))) wC := ⟨(HX9.out.fr (fC.out) fun h => h).cell 0, (HX9.out.fr (fC.out) fun h => h).cell 1⟩
              refine hK.out _ _ (fun _ => hS2) ?_
              clear hK K
              try simp only [Act.put, List.getElem_toArray, List.getElem_cons_succ, List.getElem_cons_zero, List.setIfInBounds_toArray, List.set_cons_zero, List.set_cons_succ]
              refine wpU_next (i := 12) rfl (by kernel_rfl) (fun K hK => ?_)
              refine step_app_view rfl _ _ 68 (by rfl) (.agg #[.int .i64 0, .int .i64 0, .int .i64 0, .bool false]) 32 Try.underlying68 info_use rfl (by decide) RC.out (by rfl) (V3.out.fr fC.out fun _ _ _ h => h) (by rfl) (quad_cell _) (by have := Hk.out; omega) (by decide) ?_
              intro A3 c3 wD q1 q2
              have fD := hid (show Fr Nil W9 wD from fC.out.trans q2 fun k hk => .inr (RC.out.2 k hk))
              have RD := hid (show Row wD (New W9) 72 4 (.slice A3 (c6 + 1 + 0) c3) (c6 + 1 + 0) (quad (N.take c6 ++ [⟨a, n, 1⟩] ++ N.drop c6)) from by rw [quad_append]; exact q1.mono fun k hk => hk.elim (fun h => RC.out.2 k h) (fun h => Nat.le_trans fC.out.size h))
              clear q1 q2
              have hS2 : (fun w' : World => w'.cell? ⟨xb, 0, none⟩ = some (.int .i64 (a : Nat)) ∧ w'.cell? ⟨xb, 1, none⟩ = some (.int .i64 (n : Nat))) wD := ⟨(HX9.out.fr (fD.out) fun h => h).cell 0, (HX9.out.fr (fD.out) fun h => h).cell 1⟩
              refine hK.out _ _ (fun _ => hS2) ?_
              clear hK K
              try simp only [Act.put, List.getElem_toArray, List.getElem_cons_succ, List.getElem_cons_zero, List.setIfInBounds_toArray, List.set_cons_zero, List.set_cons_succ]
              refine wpU_next (i := 13) rfl (by kernel_rfl) (fun K hK => ?_)
              go_simp
              refine hK.out _ _ (fun _ => hS2) ?_
              clear hK K
              try simp only [Act.put, List.getElem_toArray, List.getElem_cons_succ, List.getElem_cons_zero, List.setIfInBounds_toArray, List.set_cons_zero, List.set_cons_succ]
              refine wpU_next (i := 14) rfl (by kernel_rfl) (fun K hK => ?_)
              go_simp
              refine hK.out _ _ (fun _ => hS2) ?_
              clear hK K
              try simp only [Act.put, List.getElem_toArray, List.getElem_cons_succ, List.getElem_cons_zero, List.setIfInBounds_toArray, List.set_cons_zero, List.set_cons_succ]
              have FD := hid (((F1.out.then F6.out).then F9.out).then fD.out)
              have HBD := hid (HB.out.fr FD.out fun h => h)
              have kc := HBD.out.cell 1
              have kz := HBD.out.frozen 1
              have klt := HBD.out.lt
              refine wpU_next (i := 15) rfl (by kernel_rfl) (fun K hK => ?_)
              go_simp
              refine hK.out _ _ (fun h => absurd rfl h.1) ?_
              refine wpU_done (by kernel_rfl) ?_ _
              clear hK K
              clear kc kz klt hS2 hS
              go_wp2
              go_ret
              have hsz : c6 + 1 + 0 = (insN N a n).length := by
                unfold insN
                rw [Hah.out]
                simp only [List.length_append, List.length_take, List.length_drop, List.length_cons, List.length_nil]
                have := HM.out; have := Hk.out
                omega
              have hin : insN N a n = N.take c6 ++ [⟨a, n, 1⟩] ++ N.drop c6 := by unfold insN; rw [Hah.out]
              have hfs : Fr (fun k => k = sb) w (wD.setCell ⟨sb, 1, none⟩ (.slice A3 (c6 + 1 + 0) c3)) := (FD.out.nil (S := fun k => k = sb)).setCell (a := ⟨sb, 1, none⟩) (.inl rfl) _
              have hnew : ∀ k, New W9 k → w.heap.size ≤ k := fun k hk => Nat.le_trans ((F1.out.then F6.out).then F9.out).size hk
              refine ⟨rfl, Rz.of (v1 := .slice A3 (c6 + 1 + 0) c3) (v2 := v2) hfs.size HT.out (Hlt.out sb HT.out) (HBD.out.set 1 _) ?_ ?_, hfs⟩
              · rw [hin, show (N.take c6 ++ [(⟨a, n, 1⟩ : Us)] ++ N.drop c6).length = c6 + 1 + 0 from by rw [← hin, hsz]]
                refine (RD.out.setCell ?_ _).mono fun k hk => .inr (hnew k hk)
                intro e
                have h1 := hnew _ (RD.out.2 _ e)
                have h2 := Hlt.out sb HT.out
                dsimp only at h1
                omega
              · exact (H3.out.fr hfs (fun k hk e => (H3.out.apart_blk HB.out (by decide)) (by rw [hk, e]))).mono fun k hk => .inl hk
          · rw [show sliced (some ⟨g, 0, none⟩) k M c6 4 = .slice (some ⟨g, k * 4, none⟩) (M - k) (c6 - k) from by simp [sliced, hck, Addr.add_lit]] at hV0
            have V3 := hid hV0.bd
            clear hV0
            refine wpU_take (i := 5) (v := ?_) rfl (by kernel_rfl) (by kernel_rfl) (fun _ _ _ h => h) _ _ _ _ (by kernel_rfl) (by kernel_rfl) (by kernel_rfl) (Or.inl ⟨by kernel_rfl, ?_⟩) hS ?_
            rotate_left
            · (intro w9 hS9; obtain ⟨s0, s1⟩ := hS9; go_simp); (try with_reducible rfl)
            try simp only [Act.put, List.getElem_toArray, List.getElem_cons_succ, List.getElem_cons_zero, List.setIfInBounds_toArray, List.set_cons_zero, List.set_cons_succ]
            refine wpU_take (i := 6) (v := ?_) rfl (by kernel_rfl) (by kernel_rfl) (fun _ _ _ h => h) _ _ _ _ (by kernel_rfl) (by kernel_rfl) (by kernel_rfl) (Or.inl ⟨by kernel_rfl, ?_⟩) hS ?_
            rotate_left
            · (intro w9 hS9; obtain ⟨s0, s1⟩ := hS9; go_simp); (try with_reducible rfl)
            try simp only [Act.put, List.getElem_toArray, List.getElem_cons_succ, List.getElem_cons_zero, List.setIfInBounds_toArray, List.set_cons_zero, List.set_cons_succ]
            refine wpU_take (i := 9) (v := ?_) rfl (by kernel_rfl) (by kernel_rfl) (fun _ _ _ h => h) _ _ _ _ (by kernel_rfl) (by kernel_rfl) (by kernel_rfl) (Or.inl ⟨by kernel_rfl, ?_⟩) hS ?_
            rotate_left
            · (intro w9 hS9; obtain ⟨s0, s1⟩ := hS9; go_simp); (try with_reducible rfl)
            try simp only [Act.put, List.getElem_toArray, List.getElem_cons_succ, List.getElem_cons_zero, List.setIfInBounds_toArray, List.set_cons_zero, List.set_cons_succ]
            refine wpU_take (i := 10) (v := ?_) rfl (by kernel_rfl) (by kernel_rfl) (fun _ _ _ h => h) _ _ _ _ (by kernel_rfl) (by kernel_rfl) (by kernel_rfl) (Or.inl ⟨by kernel_rfl, ?_⟩) hS ?_
            rotate_left
            · (intro w9 hS9; obtain ⟨s0, s1⟩ := hS9; go_simp); (try with_reducible rfl)
            try simp only [Act.put, List.getElem_toArray, List.getElem_cons_succ, List.getElem_cons_zero, List.setIfInBounds_toArray, List.set_cons_zero, List.set_cons_succ]
            refine wpU_take (i := 11) (v := ?_) rfl (by kernel_rfl) (by kernel_rfl) (fun _ _ _ h => h) _ _ _ _ (by kernel_rfl) (by kernel_rfl) (by kernel_rfl) (Or.inl ⟨by kernel_rfl, ?_⟩) hS ?_
            rotate_left
            · (intro w9 hS9; obtain ⟨s0, s1⟩ := hS9; go_simp); (try with_reducible rfl)
            try simp only [Act.put, List.getElem_toArray, List.getElem_cons_succ, List.getElem_cons_zero, List.setIfInBounds_toArray, List.set_cons_zero, List.set_cons_succ]
            refine wpU_two (i := 4) (j := 7) rfl rfl (by kernel_rfl) (fun K hK => ?_) (fun K hK => ?_)
            · skip
              refine step_app_view rfl _ _ 68 (by rfl) (.agg #[.int .i64 0, .int .i64 0, .int .i64 0, .bool false]) 32 Try.underlying68 info_use rfl (by decide) (Row.nil W9.drew Nil 72 4) (by rfl) (V1.out.fr (((Fr.refl Nil W9).drew)) fun _ _ _ h => h) (by rfl) (quad_cell _) (by have := Hk.out; omega) (by decide) ?_
              intro A1 c1 wA q1 q2
              rw [Nat.zero_add] at q1
              rw [Nat.zero_add]
              have fAA := hid (show Fr Nil W9.drew wA from q2.mono fun k hk => by simp [Value.ownBlock] at hk)
              have fA := hid (show Fr Nil W9 wA from (((Fr.refl Nil W9).drew)).then (q2.mono fun k hk => by simp [Value.ownBlock] at hk))
              have RA := hid (show Row wA (New W9) 72 4 (.slice A1 k c1) k (quad (N.take k)) from q1.mono fun k hk => hk.elim (fun h => by simp [Value.ownBlock] at h) (fun h => Nat.le_trans (show Fr Nil W9 W9.drew from ((Fr.refl Nil W9).drew)).size h))
              clear q1 q2
              have hS2 : (fun w' : World => w'.cell? ⟨xb, 0, none⟩ = some (.int .i64 (a : Nat)) ∧ w'.cell? ⟨xb, 1, none⟩ = some (.int .i64 (n : Nat))) wA := ⟨(HX9.out.fr (fA.out) fun h => h).cell 0, (HX9.out.fr (fA.out) fun h => h).cell 1⟩
              refine hK.out _ _ (fun _ => hS2) ?_
              clear hK K
              try simp only [Act.put, List.getElem_toArray, List.getElem_cons_succ, List.getElem_cons_zero, List.setIfInBounds_toArray, List.set_cons_zero, List.set_cons_succ]
              refine wpU_next (i := 7) rfl (by kernel_rfl) (fun K hK => ?_)
              go_simp
              obtain ⟨wB, hwB⟩ : ∃ wB, wB = (wA.alloc (.cells #[.int .i64 (a : Nat), .int .i64 (n : Nat), .int .i64 1, .bool false] 72)) := ⟨_, rfl⟩
              have fB := hid (show Fr Nil W9 wB from by rw [hwB]; exact ((fA.out).alloc _))
              have VB := hid (show View wB (New W9) 4 (.slice (some ⟨wA.heap.size, 0, none⟩) 1 1) 1 (qc ⟨a, n, 1⟩) from by
                rw [hwB]; exact (View.lit (s := 4) wA #[.int .i64 (a : Nat), .int .i64 (n : Nat), .int .i64 1, .bool false] 72 (0, 0) 1 rfl (by decide)).mono fun k hk => Nat.le_trans (show Fr Nil W9 wA from fA.out).size hk)
              rw [← hwB]
              have fBB := hid (show Fr Nil wA wB from by rw [hwB]; exact ((Fr.refl Nil wA).alloc _))
              clear hwB
              clear hS2
              have hS2 : (fun w' : World => w'.cell? ⟨xb, 0, none⟩ = some (.int .i64 (a : Nat)) ∧ w'.cell? ⟨xb, 1, none⟩ = some (.int .i64 (n : Nat))) wB := ⟨(HX9.out.fr (fB.out) fun h => h).cell 0, (HX9.out.fr (fB.out) fun h => h).cell 1⟩
              refine hK.out _ _ (fun _ => hS2) ?_
              clear hK K
              try simp only [Act.put, List.getElem_toArray, List.getElem_cons_succ, List.getElem_cons_zero, List.setIfInBounds_toArray, List.set_cons_zero, List.set_cons_succ]
              have RW := hid (RA.out.fr fBB.out fun _ _ h => h)
              have VW := VB
              refine wpU_next (i := 8) rfl (by kernel_rfl) (fun K hK => ?_)
              refine step_app_view rfl _ _ 68 (by rfl) (.agg #[.int .i64 0, .int .i64 0, .int .i64 0, .bool false]) 32 Try.underlying68 info_use rfl (by decide) RW.out (by rfl) VW.out (by rfl) (qc_cell _) (by have := Hk.out; omega) (by decide) ?_
              intro A2 c2 wC q1 q2
              have fC := hid (show Fr Nil W9 wC from (fB.out).trans q2 fun k hk => .inr (RW.out.2 k hk))
              have RC := hid (show Row wC (New W9) 72 4 (.slice A2 (k + 1) c2) (k + 1) (quad (N.take k ++ [⟨a, n, 1⟩])) from by rw [quad_append, quad_one]; exact q1.mono fun k hk => hk.elim (fun h => RW.out.2 k h) (fun h => Nat.le_trans (fB.out).size h))
              clear q1 q2
              have hS2 : (fun w' : World => w'.cell? ⟨xb, 0, none⟩ = some (.int .i64 (a : Nat)) ∧ w'.cell? ⟨xb, 1, none⟩ = some (.int .i64 (n : Nat))) wC := ⟨(HX9.out.fr (fC.out) fun h => h).cell 0, (HX9.out.fr (fC.out) fun h => h).cell 1⟩
              refine hK.out _ _ (fun _ => hS2) ?_
              clear hK K
              try simp only [Act.put, List.getElem_toArray, List.getElem_cons_succ, List.getElem_cons_zero, List.setIfInBounds_toArray, List.set_cons_zero, List.set_cons_succ]
              refine wpU_next (i := 12) rfl (by kernel_rfl) (fun K hK => ?_)
              refine step_app_view rfl _ _ 68 (by rfl) (.agg #[.int .i64 0, .int .i64 0, .int .i64 0, .bool false]) 32 Try.underlying68 info_use rfl (by decide) RC.out (by rfl) (V3.out.fr fC.out fun _ _ _ h => h) (by rfl) (quad_cell _) (by have := Hk.out; omega) (by decide) ?_
              intro A3 c3 wD q1 q2
              have fD := hid (show Fr Nil W9 wD from fC.out.trans q2 fun k hk => .inr (RC.out.2 k hk))
              have RD := hid (show Row wD (New W9) 72 4 (.slice A3 (k + 1 + (M - k)) c3) (k + 1 + (M - k)) (quad (N.take k ++ [⟨a, n, 1⟩] ++ N.drop k)) from by rw [quad_append]; exact q1.mono fun k hk => hk.elim (fun h => RC.out.2 k h) (fun h => Nat.le_trans fC.out.size h))
              clear q1 q2
              have hS2 : (fun w' : World => w'.cell? ⟨xb, 0, none⟩ = some (.int .i64 (a : Nat)) ∧ w'.cell? ⟨xb, 1, none⟩ = some (.int .i64 (n : Nat))) wD := ⟨(HX9.out.fr (fD.out) fun h => h).cell 0, (HX9.out.fr (fD.out) fun h => h).cell 1⟩
              refine hK.out _ _ (fun _ => hS2) ?_
              clear hK K
              try simp only [Act.put, List.getElem_toArray, List.getElem_cons_succ, List.getElem_cons_zero, List.setIfInBounds_toArray, List.set_cons_zero, List.set_cons_succ]
              refine wpU_next (i := 13) rfl (by kernel_rfl) (fun K hK => ?_)
              go_simp
              refine hK.out _ _ (fun _ => hS2) ?_
              clear hK K
              try simp only [Act.put, List.getElem_toArray, List.getElem_cons_succ, List.getElem_cons_zero, List.setIfInBounds_toArray, List.set_cons_zero, List.set_cons_succ]
              refine wpU_next (i := 14) rfl (by kernel_rfl) (fun K hK => ?_)
              go_simp
              refine hK.out _ _ (fun _ => hS2) ?_
              clear hK K
              try simp only [Act.put, List.getElem_toArray, List.getElem_cons_succ, List.getElem_cons_zero, List.setIfInBounds_toArray, List.set_cons_zero, List.set_cons_succ]
              have FD := hid (((F1.out.then F6.out).then F9.out).then fD.out)
              have HBD := hid (HB.out.fr FD.out fun h => h)
              have kc := HBD.out.cell 1
              have kz := HBD.out.frozen 1
              have klt := HBD.out.lt
              refine wpU_next (i := 15) rfl (by kernel_rfl) (fun K hK => ?_)
              go_simp
              refine hK.out _ _ (fun h => absurd rfl h.1) ?_
              refine wpU_done (by kernel_rfl) ?_ _
              clear hK K
              clear kc kz klt hS2 hS
              go_wp2
              go_ret
              have hsz : k + 1 + (M - k) = (insN N a n).length := by
                unfold insN
                rw [Hah.out]
                simp only [List.length_append, List.length_take, List.length_drop, List.length_cons, List.length_nil]
                have := HM.out; have := Hk.out
                omega
              have hin : insN N a n = N.take k ++ [⟨a, n, 1⟩] ++ N.drop k := by unfold insN; rw [Hah.out]
              have hfs : Fr (fun k => k = sb) w (wD.setCell ⟨sb, 1, none⟩ (.slice A3 (k + 1 + (M - k)) c3)) := (FD.out.nil (S := fun k => k = sb)).setCell (a := ⟨sb, 1, none⟩) (.inl rfl) _
              have hnew : ∀ k, New W9 k → w.heap.size ≤ k := fun k hk => Nat.le_trans ((F1.out.then F6.out).then F9.out).size hk
              refine ⟨rfl, Rz.of (v1 := .slice A3 (k + 1 + (M - k)) c3) (v2 := v2) hfs.size HT.out (Hlt.out sb HT.out) (HBD.out.set 1 _) ?_ ?_, hfs⟩
              · rw [hin, show (N.take k ++ [(⟨a, n, 1⟩ : Us)] ++ N.drop k).length = k + 1 + (M - k) from by rw [← hin, hsz]]
                refine (RD.out.setCell ?_ _).mono fun k hk => .inr (hnew k hk)
                intro e
                have h1 := hnew _ (RD.out.2 _ e)
                have h2 := Hlt.out sb HT.out
                dsimp only at h1
                omega
              · exact (H3.out.fr hfs (fun k hk e => (H3.out.apart_blk HB.out (by decide)) (by rw [hk, e]))).mono fun k hk => .inl hk
            · go_simp
              obtain ⟨wB, hwB⟩ : ∃ wB, wB = (W9.alloc (.cells #[.int .i64 (a : Nat), .int .i64 (n : Nat), .int .i64 1, .bool false] 72)).drew := ⟨_, rfl⟩
              have fB := hid (show Fr Nil W9 wB from by rw [hwB]; exact (((Fr.refl Nil W9)).alloc _).drew)
              have VB := hid (show View wB (New W9) 4 (.slice (some ⟨W9.heap.size, 0, none⟩) 1 1) 1 (qc ⟨a, n, 1⟩) from by
                rw [hwB]; exact (View.lit (s := 4) W9 #[.int .i64 (a : Nat), .int .i64 (n : Nat), .int .i64 1, .bool false] 72 (0, 0) 1 rfl (by decide)).drew.mono fun k hk => Nat.le_trans (show Fr Nil W9 W9 from (Fr.refl Nil W9)).size hk)
              rw [← hwB]
              have fBB := hid (show Fr Nil W9 wB from by rw [hwB]; exact ((Fr.refl Nil W9).alloc _).drew)
              clear hwB
              have hS2 : (fun w' : World => w'.cell? ⟨xb, 0, none⟩ = some (.int .i64 (a : Nat)) ∧ w'.cell? ⟨xb, 1, none⟩ = some (.int .i64 (n : Nat))) wB := ⟨(HX9.out.fr (fB.out) fun h => h).cell 0, (HX9.out.fr (fB.out) fun h => h).cell 1⟩
              refine hK.out _ _ (fun _ => hS2) ?_
              clear hK K
              try simp only [Act.put, List.getElem_toArray, List.getElem_cons_succ, List.getElem_cons_zero, List.setIfInBounds_toArray, List.set_cons_zero, List.set_cons_succ]
              refine wpU_next (i := 4) rfl (by kernel_rfl) (fun K hK => ?_)
              refine step_app_view rfl _ _ 68 (by rfl) (.agg #[.int .i64 0, .int .i64 0, .int .i64 0, .bool false]) 32 Try.underlying68 info_use rfl (by decide) (Row.nil wB Nil 72 4) (by rfl) (V1.out.fr (fB.out) fun _ _ _ h => h) (by rfl) (quad_cell _) (by have := Hk.out; omega) (by decide) ?_
              intro A1 c1 wA q1 q2
              rw [Nat.zero_add] at q1
              rw [Nat.zero_add]
              have fAA := hid (show Fr Nil wB wA from q2.mono fun k hk => by simp [Value.ownBlock] at hk)
              have fA := hid (show Fr Nil W9 wA from (fB.out).then (q2.mono fun k hk => by simp [Value.ownBlock] at hk))
              have RA := hid (show Row wA (New W9) 72 4 (.slice A1 k c1) k (quad (N.take k)) from q1.mono fun k hk => hk.elim (fun h => by simp [Value.ownBlock] at h) (fun h => Nat.le_trans (show Fr Nil W9 wB from fB.out).size h))
              clear q1 q2
              clear hS2
              have hS2 : (fun w' : World => w'.cell? ⟨xb, 0, none⟩ = some (.int .i64 (a : Nat)) ∧ w'.cell? ⟨xb, 1, none⟩ = some (.int .i64 (n : Nat))) wA := ⟨(HX9.out.fr (fA.out) fun h => h).cell 0, (HX9.out.fr (fA.out) fun h => h).cell 1⟩
              refine hK.out _ _ (fun _ => hS2) ?_
              clear hK K
              try simp only [Act.put, List.getElem_toArray, List.getElem_cons_succ, List.getElem_cons_zero, List.setIfInBounds_toArray, List.set_cons_zero, List.set_cons_succ]
              have RW := RA
              have VW := hid (VB.out.fr fAA.out fun _ _ _ h => h)
              refine wpU_next (i := 8) rfl (by kernel_rfl) (fun K hK => ?_)
              refine step_app_view rfl _ _ 68 (by rfl) (.agg #[.int .i64 0, .int .i64 0, .int .i64 0, .bool false]) 32 Try.underlying68 info_use rfl (by decide) RW.out (by rfl) VW.out (by rfl) (qc_cell _) (by have := Hk.out; omega) (by decide) ?_
              intro A2 c2 wC q1 q2
              have fC := hid (show Fr Nil W9 wC from (fA.out).trans q2 fun k hk => .inr (RW.out.2 k hk))
              have RC := hid (show Row wC (New W9) 72 4 (.slice A2 (k + 1) c2) (k + 1) (quad (N.take k ++ [⟨a, n, 1⟩])) from by rw [quad_append, quad_one]; exact q1.mono fun k hk => hk.elim (fun h => RW.out.2 k h) (fun h => Nat.le_trans (fA.out).size h))
              clear q1 q2
              have hS2 : (fun w' : World => w'.cell? ⟨xb, 0, none⟩ = some (.int .i64 (a : Nat)) ∧ w'.cell? ⟨xb, 1, none⟩ = some (.int .i64 (n : Nat))) wC := ⟨(HX9.out.fr (fC.out) fun h => h).cell 0, (HX9.out.fr (fC.out) fun h => h).cell 1⟩
              refine hK.out _ _ (fun _ => hS2) ?_
              clear hK K
              try simp only [Act.put, List.getElem_toArray, List.getElem_cons_succ, List.getElem_cons_zero, List.setIfInBounds_toArray, List.set_cons_zero, List.set_cons_succ]
              refine wpU_next (i := 12) rfl (by kernel_rfl) (fun K hK => ?_)
              refine step_app_view rfl _ _ 68 (by rfl) (.agg #[.int .i64 0, .int .i64 0, .int .i64 0, .bool false]) 32 Try.underlying68 info_use rfl (by decide) RC.out (by rfl) (V3.out.fr fC.out fun _ _ _ h => h) (by rfl) (quad_cell _) (by have := Hk.out; omega) (by decide) ?_
              intro A3 c3 wD q1 q2
              have fD := hid (show Fr Nil W9 wD from fC.out.trans q2 fun k hk => .inr (RC.out.2 k hk))
              have RD := hid (show Row wD (New W9) 72 4 (.slice A3 (k + 1 + (M - k)) c3) (k + 1 + (M - k)) (quad (N.take k ++ [⟨a, n, 1⟩] ++ N.drop k)) from by rw [quad_append]; exact q1.mono fun k hk => hk.elim (fun h => RC.out.2 k h) (fun h => Nat.le_trans fC.out.size h))
              clear q1 q2
              have hS2 : (fun w' : World => w'.cell? ⟨xb, 0, none⟩ = some (.int .i64 (a : Nat)) ∧ w'.cell? ⟨xb, 1, none⟩ = some (.int .i64 (n : Nat))) wD := ⟨(HX9.out.fr (fD.out) fun h => h).cell 0, (HX9.out.fr (fD.out) fun h => h).cell 1⟩
              refine hK.out _ _ (fun _ => hS2) ?_
              clear hK K
              try simp only [Act.put, List.getElem_toArray, List.getElem_cons_succ, List.getElem_cons_zero, List.setIfInBounds_toArray, List.set_cons_zero, List.set_cons_succ]
              refine wpU_next (i := 13) rfl (by kernel_rfl) (fun K hK => ?_)
              go_simp
              refine hK.out _ _ (fun _ => hS2) ?_
              clear hK K
              try simp only [Act.put, List.getElem_toArray, List.getElem_cons_succ, List.getElem_cons_zero, List.setIfInBounds_toArray, List.set_cons_zero, List.set_cons_succ]
              refine wpU_next (i := 14) rfl (by kernel_rfl) (fun K hK => ?_)
              go_simp
              refine hK.out _ _ (fun _ => hS2) ?_
              clear hK K
              try simp only [Act.put, List.getElem_toArray, List.getElem_cons_succ, List.getElem_cons_zero, List.setIfInBounds_toArray, List.set_cons_zero, List.set_cons_succ]
              have FD := hid (((F1.out.then F6.out).then F9.out).then fD.out)
              have HBD := hid (HB.out.fr FD.out fun h => h)
              have kc := HBD.out.cell 1
              have kz := HBD.out.frozen 1
              have klt := HBD.out.lt
              refine wpU_next (i := 15) rfl (by kernel_rfl) (fun K hK => ?_)
              go_simp
              refine hK.out _ _ (fun h => absurd rfl h.1) ?_
              refine wpU_done (by kernel_rfl) ?_ _
              clear hK K
              clear kc kz klt hS2 hS
              go_wp2
              go_ret
              have hsz : k + 1 + (M - k) = (insN N a n).length := by
                unfold insN
                rw [Hah.out]
                simp only [List.length_append, List.length_take, List.length_drop, List.length_cons, List.length_nil]
                have := HM.out; have := Hk.out
                omega
              have hin : insN N a n = N.take k ++ [⟨a, n, 1⟩] ++ N.drop k := by unfold insN; rw [Hah.out]
              have hfs : Fr (fun k => k = sb) w (wD.setCell ⟨sb, 1, none⟩ (.slice A3 (k + 1 + (M - k)) c3)) := (FD.out.nil (S := fun k => k = sb)).setCell (a := ⟨sb, 1, none⟩) (.inl rfl) _
              have hnew : ∀ k, New W9 k → w.heap.size ≤ k := fun k hk => Nat.le_trans ((F1.out.then F6.out).then F9.out).size hk
              refine ⟨rfl, Rz.of (v1 := .slice A3 (k + 1 + (M - k)) c3) (v2 := v2) hfs.size HT.out (Hlt.out sb HT.out) (HBD.out.set 1 _) ?_ ?_, hfs⟩
              · rw [hin, show (N.take k ++ [(⟨a, n, 1⟩ : Us)] ++ N.drop k).length = k + 1 + (M - k) from by rw [← hin, hsz]]
                refine (RD.out.setCell ?_ _).mono fun k hk => .inr (hnew k hk)
                intro e
                have h1 := hnew _ (RD.out.2 _ e)
                have h2 := Hlt.out sb HT.out
                dsimp only at h1
                omega
              · exact (H3.out.fr hfs (fun k hk e => (H3.out.apart_blk HB.out (by decide)) (by rw [hk, e]))).mono fun k hk => .inl hk
      · have Hah := hid (ahead_at (N := N) (a := a) (k := k) (by rw [← HM.out]; exact hk) hb.out fun h => by rw [← HM.out] at h; exact absurd h hkM)
        go_upto_region 5 with (fail)
        go_quiet (fail)
        go_upto_region 7 with (fail)
        clear hx0
        obtain ⟨W9, hW9⟩ : ∃ W9, W9 = wr.drewN nq := ⟨_, rfl⟩
        rw [← hW9]
        have f9 : Fr Nil w6 W9 := by rw [hW9]; exact hfw.drewN _
        have F9 := hid f9
        have HX9 := hid (HX6.out.fr f9 fun h => h)
        have HR9 := hid (HR.out.fr f9 fun _ _ h => h)
        have hS : (fun w' : World => w'.cell? ⟨xb, 0, none⟩ = some (.int .i64 (a : Nat)) ∧ w'.cell? ⟨xb, 1, none⟩ = some (.int .i64 (n : Nat))) W9.drew := ⟨HX9.out.drew.cell 0, HX9.out.drew.cell 1⟩
        clear hW9 f9 hfw
        have hk0 : (0 : Int) ≤ (k : Int) := by omega
        have hkM' : (k : Int) ≤ (M : Int) := by omega
        have hkc : (k : Int) ≤ (c6 : Int) := by omega
        have hMc' : (M : Int) ≤ (c6 : Int) := by omega
        refine wpU_region (k := 15) (S := (fun w' : World => w'.cell? ⟨xb, 0, none⟩ = some (.int .i64 (a : Nat)) ∧ w'.cell? ⟨xb, 1, none⟩ = some (.int .i64 (n : Nat)))) (by kernel_rfl) ?_
        have V1 := hid (show View W9 (New W1) 4 (.slice (some ⟨g, 0, none⟩) k c6) k (quad (N.take k)) from by rw [← quad_take]; exact HR9.out.view.pre hk)
        have hV0 := HR9.out.view.drop (l := k) hk
        rw [quad_drop] at hV0
        have Hk := hid hk
        have HMc := hid hMc
        refine wpU_take (i := 0) (v := ?_) rfl (by kernel_rfl) (by kernel_rfl) (fun _ _ _ h => h) _ _ _ _ (by kernel_rfl) (by kernel_rfl) (by kernel_rfl) (Or.inl ⟨by kernel_rfl, ?_⟩) hS ?_
        rotate_left
        · (intro w9 hS9; obtain ⟨s0, s1⟩ := hS9; go_simp); (try with_reducible rfl)
        try simp only [Act.put, List.getElem_toArray, List.getElem_cons_succ, List.getElem_cons_zero, List.setIfInBounds_toArray, List.set_cons_zero, List.set_cons_succ]
        refine wpU_take (i := 1) (v := ?_) rfl (by kernel_rfl) (by kernel_rfl) (fun _ _ _ h => h) _ _ _ _ (by kernel_rfl) (by kernel_rfl) (by kernel_rfl) (Or.inl ⟨by kernel_rfl, ?_⟩) hS ?_
        rotate_left
        · (intro w9 hS9; obtain ⟨s0, s1⟩ := hS9; go_simp); (try with_reducible rfl)
        try simp only [Act.put, List.getElem_toArray, List.getElem_cons_succ, List.getElem_cons_zero, List.setIfInBounds_toArray, List.set_cons_zero, List.set_cons_succ]
        refine wpU_take (i := 2) (v := ?_) rfl (by kernel_rfl) (by kernel_rfl) (fun _ _ _ h => h) _ _ _ _ (by kernel_rfl) (by kernel_rfl) (by kernel_rfl) (Or.inl ⟨by kernel_rfl, ?_⟩) hS ?_
        rotate_left
        · (intro w9 hS9; obtain ⟨s0, s1⟩ := hS9; go_simp); (try with_reducible rfl)
        try simp only [Act.put, List.getElem_toArray, List.getElem_cons_succ, List.getElem_cons_zero, List.setIfInBounds_toArray, List.set_cons_zero, List.set_cons_succ]
        refine wpU_take (i := 3) (v := ?_) rfl (by kernel_rfl) (by kernel_rfl) (fun _ _ _ h => h) _ _ _ _ (by kernel_rfl) (by kernel_rfl) (by kernel_rfl) (Or.inl ⟨by kernel_rfl, ?_⟩) hS ?_
        rotate_left
        · (intro w9 hS9; obtain ⟨s0, s1⟩ := hS9; go_simp); (try with_reducible rfl)
        try simp only [Act.put, List.getElem_toArray, List.getElem_cons_succ, List.getElem_cons_zero, List.setIfInBounds_toArray, List.set_cons_zero, List.set_cons_succ]
        by_cases hck : c6 = k
        · have hkM2 : M = k := by omega
          subst hkM2
          subst hck
          rw [show sliced (some ⟨g, 0, none⟩) c6 c6 c6 4 = .slice (some ⟨g, 0, none⟩) 0 0 from by simp [sliced], Nat.sub_self] at hV0
          have V3 := hid hV0.bd
          clear hV0
          refine wpU_take (i := 5) (v := ?_) rfl (by kernel_rfl) (by kernel_rfl) (fun _ _ _ h => h) _ _ _ _ (by kernel_rfl) (by kernel_rfl) (by kernel_rfl) (Or.inl ⟨by kernel_rfl, ?_⟩) hS ?_
          rotate_left
          · (intro w9 hS9; obtain ⟨s0, s1⟩ := hS9; go_simp); (try with_reducible rfl)
          try simp only [Act.put, List.getElem_toArray, List.getElem_cons_succ, List.getElem_cons_zero, List.setIfInBounds_toArray, List.set_cons_zero, List.set_cons_succ]
          refine wpU_take (i := 6) (v := ?_) rfl (by kernel_rfl) (by kernel_rfl) (fun _ _ _ h => h) _ _ _ _ (by kernel_rfl) (by kernel_rfl) (by kernel_rfl) (Or.inl ⟨by kernel_rfl, ?_⟩) hS ?_
          rotate_left
          · (intro w9 hS9; obtain ⟨s0, s1⟩ := hS9; go_simp); (try with_reducible rfl)
          try simp only [Act.put, List.getElem_toArray, List.getElem_cons_succ, List.getElem_cons_zero, List.setIfInBounds_toArray, List.set_cons_zero, List.set_cons_succ]
          refine wpU_take (i := 9) (v := ?_) rfl (by kernel_rfl) (by kernel_rfl) (fun _ _ _ h => h) _ _ _ _ (by kernel_rfl) (by kernel_rfl) (by kernel_rfl) (Or.inl ⟨by kernel_rfl, ?_⟩) hS ?_
          rotate_left
          · (intro w9 hS9; obtain ⟨s0, s1⟩ := hS9; go_simp); (try with_reducible rfl)
          try simp only [Act.put, List.getElem_toArray, List.getElem_cons_succ, List.getElem_cons_zero, List.setIfInBounds_toArray, List.set_cons_zero, List.set_cons_succ]
          refine wpU_take (i := 10) (v := ?_) rfl (by kernel_rfl) (by kernel_rfl) (fun _ _ _ h => h) _ _ _ _ (by kernel_rfl) (by kernel_rfl) (by kernel_rfl) (Or.inl ⟨by kernel_rfl, ?_⟩) hS ?_
          rotate_left
          · (intro w9 hS9; obtain ⟨s0, s1⟩ := hS9; go_simp); (try with_reducible rfl)
          try simp only [Act.put, List.getElem_toArray, List.getElem_cons_succ, List.getElem_cons_zero, List.setIfInBounds_toArray, List.set_cons_zero, List.set_cons_succ]
          refine wpU_take (i := 11) (v := ?_) rfl (by kernel_rfl) (by kernel_rfl) (fun _ _ _ h => h) _ _ _ _ (by kernel_rfl) (by kernel_rfl) (by kernel_rfl) (Or.inl ⟨by kernel_rfl, ?_⟩) hS ?_
          rotate_left
          · (intro w9 hS9; obtain ⟨s0, s1⟩ := hS9; go_simp); (try with_reducible rfl)
          try simp only [Act.put, List.getElem_toArray, List.getElem_cons_succ, List.getElem_cons_zero, List.setIfInBounds_toArray, List.set_cons_zero, List.set_cons_succ]
          refine wpU_two (i := 4) (j := 7) rfl rfl (by kernel_rfl) (fun K hK => ?_) (fun K hK => ?_)
          · skip
            refine step_app_view rfl _ _ 68 (by rfl) (.agg #[.int .i64 0, .int .i64 0, .int .i64 0, .bool false]) 32 Try.underlying68 info_use rfl (by decide) (Row.nil W9.drew Nil 72 4) (by rfl) (V1.out.fr (((Fr.refl Nil W9).drew)) fun _ _ _ h => h) (by rfl) (quad_cell _) (by have := Hk.out; omega) (by decide) ?_
            intro A1 c1 wA q1 q2
            rw [Nat.zero_add] at q1
            rw [Nat.zero_add]
            have fAA := hid (show Fr Nil W9.drew wA from q2.mono fun k hk => by simp [Value.ownBlock] at hk)
            have fA := hid (show Fr Nil W9 wA from (((Fr.refl Nil W9).drew)).then (q2.mono fun k hk => by simp [Value.ownBlock] at hk))
            have RA := hid (show Row wA (New W9) 72 4 (.slice A1 c6 c1) c6 (quad (N.take c6)) from q1.mono fun k hk => hk.elim (fun h => by simp [Value.ownBlock] at h) (fun h => Nat.le_trans (show Fr Nil W9 W9.drew from ((Fr.refl Nil W9).drew)).size h))
            clear q1 q2
            have hS2 : (fun w' : World => w'.cell? ⟨xb, 0, none⟩ = some (.int .i64 (a : Nat)) ∧ w'.cell? ⟨xb, 1, none⟩ = some (.int .i64 (n : Nat))) wA := ⟨(HX9.out.fr (fA.out) fun h => h).cell 0, (HX9.out.fr (fA.out) fun h => h).cell 1⟩
            refine hK.out _ _ (fun _ => hS2) ?_
            clear hK K
            try simp only [Act.put, List.getElem_toArray, List.getElem_cons_succ, List.getElem_cons_zero, List.setIfInBounds_toArray, List.set_cons_zero, List.set_cons_succ]
            refine wpU_next (i := 7) rfl (by kernel_rfl) (fun K hK => ?_)
            go_simp
            obtain ⟨wB, hwB⟩ : ∃ wB, wB = (wA.alloc (.cells #[.int .i64 (a : Nat), .int .i64 (n : Nat), .int .i64 1, .bool false] 72)) := ⟨_, rfl⟩
            have fB := hid (show Fr Nil W9 wB from by rw [hwB]; exact ((fA.out).alloc _))
            have VB := hid (show View wB (New W9) 4 (.slice (some ⟨wA.heap.size, 0, none⟩) 1 1) 1 (qc ⟨a, n, 1⟩) from by
              rw [hwB]; exact (View.lit (s := 4) wA #[.int .i64 (a : Nat), .int .i64 (n : Nat), .int .i64 1, .bool false] 72 (0, 0) 1 rfl (by decide)).mono fun k hk => Nat.le_trans (show Fr Nil W9 wA from fA.out).size hk)
            rw [← hwB]
            have fBB := hid (show Fr Nil wA wB from by rw [hwB]; exact ((Fr.refl Nil wA).alloc _))
            clear hwB
            clear hS2
            have hS2 : (fun w' : World => w'.cell? ⟨xb, 0, none⟩ = some (.int .i64 (a : Nat)) ∧ w'.cell? ⟨xb, 1, none⟩ = some (.int .i64 (n : Nat))) wB := ⟨(HX9.out.fr (fB.out) fun h => h).cell 0, (HX9.out.fr (fB.out) fun h => h).cell 1⟩
            refine hK.out _ _ (fun _ => hS2) ?_
            clear hK K
            try simp only [Act.put, List.getElem_toArray, List.getElem_cons_succ, List.getElem_cons_zero, List.setIfInBounds_toArray, List.set_cons_zero, List.set_cons_succ]
            have RW := hid (RA.out.fr fBB.out fun _ _ h => h)
            have VW := VB
            refine wpU_next (i := 8) rfl (by kernel_rfl) (fun K hK => ?_)
            refine step_app_view rfl _ _ 68 (by rfl) (.agg #[.int .i64 0, .int .i64 0, .int .i64 0, .bool false]) 32 Try.underlying68 info_use rfl (by decide) RW.out (by rfl) VW.out (by rfl) (qc_cell _) (by have := Hk.out; omega) (by decide) ?_
            intro A2 c2 wC q1 q2
            have fC := hid (show Fr Nil W9 wC from (fB.out).trans q2 fun k hk => .inr (RW.out.2 k hk))
            have RC := hid (show Row wC (New W9) 72 4 (.slice A2 (c6 + 1) c2) (c6 + 1) (quad (N.take c6 ++ [⟨a, n, 1⟩])) from by rw [quad_append, quad_one]; exact q1.mono fun k hk => hk.elim (fun h => RW.out.2 k h) (fun h => Nat.le_trans (fB.out).size h))
            clear q1 q2
            have hS2 : (fun w' : World => w'.cell? ⟨xb, 0, none⟩ = some (.int .i64 (a : Nat)) ∧ w'.cell? ⟨xb, 1, none⟩ = some (.int .i64 (n : Nat))) wC := ⟨(HX9.out.fr (fC.out) fun h => h).cell 0, (HX9.out.fr (fC.out) fun h => h).cell 1⟩
            refine hK.out _ _ (fun _ => hS2) ?_
            clear hK K
            try simp only [Act.put, List.getElem_toArray, List.getElem_cons_succ, List.getElem_cons_zero, List.setIfInBounds_toArray, List.set_cons_zero, List.set_cons_succ]
            refine wpU_next (i := 12) rfl (by kernel_rfl) (fun K hK => ?_)
            refine step_app_view rfl _ _ 68 (by rfl) (.agg #[.int .i64 0, .int .i64 0, .int .i64 0, .bool false]) 32 Try.underlying68 info_use rfl (by decide) RC.out (by rfl) (V3.out.fr fC.out fun _ _ _ h => h) (by rfl) (quad_cell _) (by have := Hk.out; omega) (by decide) ?_
            intro A3 c3 wD q1 q2
            have fD := hid (show Fr Nil W9 wD from fC.out.trans q2 fun k hk => .inr (RC.out.2 k hk))
            have RD := hid (show Row wD (New W9) 72 4 (.slice A3 (c6 + 1 + 0) c3) (c6 + 1 + 0) (quad (N.take c6 ++ [⟨a, n, 1⟩] ++ N.drop c6)) from by rw [quad_append]; exact q1.mono fun k hk => hk.elim (fun h => RC.out.2 k h) (fun h => Nat.le_trans fC.out.size h))
            clear q1 q2
            have hS2 : (fun w' : World => w'.cell? ⟨xb, 0, none⟩ = some (.int .i64 (a : Nat)) ∧ w'.cell? ⟨xb, 1, none⟩ = some (.int .i64 (n : Nat))) wD := ⟨(HX9.out.fr (fD.out) fun h => h).cell 0, (HX9.out.fr (fD.out) fun h => h).cell 1⟩
            refine hK.out _ _ (fun _ => hS2) ?_
            clear hK K
            try simp only [Act.put, List.getElem_toArray, List.getElem_cons_succ, List.getElem_cons_zero, List.setIfInBounds_toArray, List.set_cons_zero, List.set_cons_succ]
            refine wpU_next (i := 13) rfl (by kernel_rfl) (fun K hK => ?_)
            go_simp
            refine hK.out _ _ (fun _ => hS2) ?_
            clear hK K
            try simp only [Act.put, List.getElem_toArray, List.getElem_cons_succ, List.getElem_cons_zero, List.setIfInBounds_toArray, List.set_cons_zero, List.set_cons_succ]
            refine wpU_next (i := 14) rfl (by kernel_rfl) (fun K hK => ?_)
            go_simp
            refine hK.out _ _ (fun _ => hS2) ?_
            clear hK K
            try simp only [Act.put, List.getElem_toArray, List.getElem_cons_succ, List.getElem_cons_zero, List.setIfInBounds_toArray, List.set_cons_zero, List.set_cons_succ]
            have FD := hid (((F1.out.then F6.out).then F9.out).then fD.out)
            have HBD := hid (HB.out.fr FD.out fun h => h)
            have kc := HBD.out.cell 1
            have kz := HBD.out.frozen 1
            have klt := HBD.out.lt
            refine wpU_next (i := 15) rfl (by kernel_rfl) (fun K hK => ?_)
            go_simp
            refine hK.out _ _ (fun h => absurd rfl h.1) ?_
            refine wpU_done (by kernel_rfl) ?_ _
            clear hK K
            clear kc kz klt hS2 hS
            go_wp2
            go_ret
            have hsz : c6 + 1 + 0 = (insN N a n).length := by
              unfold insN
              rw [Hah.out]
              simp only [List.length_append, List.length_take, List.length_drop, List.length_cons, List.length_nil]
              have := HM.out; have := Hk.out
              omega
            have hin : insN N a n = N.take c6 ++ [⟨a, n, 1⟩] ++ N.drop c6 := by unfold insN; rw [Hah.out]
            have hfs : Fr (fun k => k = sb) w (wD.setCell ⟨sb, 1, none⟩ (.slice A3 (c6 + 1 + 0) c3)) := (FD.out.nil (S := fun k => k = sb)).setCell (a := ⟨sb, 1, none⟩) (.inl rfl) _
            have hnew : ∀ k, New W9 k → w.heap.size ≤ k := fun k hk => Nat.le_trans ((F1.out.then F6.out).then F9.out).size hk
            refine ⟨rfl, Rz.of (v1 := .slice A3 (c6 + 1 + 0) c3) (v2 := v2) hfs.size HT.out (Hlt.out sb HT.out) (HBD.out.set 1 _) ?_ ?_, hfs⟩
            · rw [hin, show (N.take c6 ++ [(⟨a, n, 1⟩ : Us)] ++ N.drop c6).length = c6 + 1 + 0 from by rw [← hin, hsz]]
              refine (RD.out.setCell ?_ _).mono fun k hk => .inr (hnew k hk)
              intro e
              have h1 := hnew _ (RD.out.2 _ e)
              have h2 := Hlt.out sb HT.out
              dsimp only at h1
              omega
            · exact (H3.out.fr hfs (fun k hk e => (H3.out.apart_blk HB.out (by decide)) (by rw [hk, e]))).mono fun k hk => .inl hk
          · go_simp
            obtain ⟨wB, hwB⟩ : ∃ wB, wB = (W9.alloc (.cells #[.int .i64 (a : Nat), .int .i64 (n : Nat), .int .i64 1, .bool false] 72)).drew := ⟨_, rfl⟩
            have fB := hid (show Fr Nil W9 wB from by rw [hwB]; exact (((Fr.refl Nil W9)).alloc _).drew)
            have VB := hid (show View wB (New W9) 4 (.slice (some ⟨W9.heap.size, 0, none⟩) 1 1) 1 (qc ⟨a, n, 1⟩) from by
              rw [hwB]; exact (View.lit (s := 4) W9 #[.int .i64 (a : Nat), .int .i64 (n : Nat), .int .i64 1, .bool false] 72 (0, 0) 1 rfl (by decide)).drew.mono fun k hk => Nat.le_trans (show Fr Nil W9 W9 from (Fr.refl Nil W9)).size hk)
            rw [← hwB]
            have fBB := hid (show Fr Nil W9 wB from by rw [hwB]; exact ((Fr.refl Nil W9).alloc _).drew)
            clear hwB
            have hS2 : (fun w' : World => w'.cell? ⟨xb, 0, none⟩ = some (.int .i64 (a : Nat)) ∧ w'.cell? ⟨xb, 1, none⟩ = some (.int .i64 (n : Nat))) wB := ⟨(HX9.out.fr (fB.out) fun h => h).cell 0, (HX9.out.fr (fB.out) fun h => h).cell 1⟩
            refine hK.out _ _ (fun _ => hS2) ?_
            clear hK K
            try simp only [Act.put, List.getElem_toArray, List.getElem_cons_succ, List.getElem_cons_zero, List.setIfInBounds_toArray, List.set_cons_zero, List.set_cons_succ]
            refine wpU_next (i := 4) rfl (by kernel_rfl) (fun K hK => ?_)
            refine step_app_view rfl _ _ 68 (by rfl) (.agg #[.int .i64 0, .int .i64 0, .int .i64 0, .bool false]) 32 Try.underlying68 info_use rfl (by decide) (Row.nil wB Nil 72 4) (by rfl) (V1.out.fr (fB.out) fun _ _ _ h => h) (by rfl) (quad_cell _) (by have := Hk.out; omega) (by decide) ?_
            intro A1 c1 wA q1 q2
            rw [Nat.zero_add] at q1
            rw [Nat.zero_add]
            have fAA := hid (show Fr Nil wB wA from q2.mono fun k hk => by simp [Value.ownBlock] at hk)
            have fA := hid (show Fr Nil W9 wA from (fB.out).then (q2.mono fun k hk => by simp [Value.ownBlock] at hk))
            have RA := hid (show Row wA (New W9) 72 4 (.slice A1 c6 c1) c6 (quad (N.take c6)) from q1.mono fun k hk => hk.elim (fun h => by simp [Value.ownBlock] at h) (fun h => Nat.le_trans (show Fr Nil W9 wB from fB.out).size h))
            clear q1 q2
            clear hS2
            have hS2 : (fun w' : World => w'.cell? ⟨xb, 0, none⟩ = some (.int .i64 (a : Nat)) ∧ w'.cell? ⟨xb, 1, none⟩ = some (.int .i64 (n : Nat))) wA := ⟨(HX9.out.fr (fA.out) fun h => h).cell 0, (HX9.out.fr (fA.out) fun h => h).cell 1⟩
            refine hK.out _ _ (fun _ => hS2) ?_
            clear hK K
            try simp only [Act.put, List.getElem_toArray, List.getElem_cons_succ, List.getElem_cons_zero, List.setIfInBounds_toArray, List.set_cons_zero, List.set_cons_succ]
            have RW := RA
            have VW := hid (VB.out.fr fAA.out fun _ _ _ h => h)
            refine wpU_next (i := 8) rfl (by kernel_rfl) (fun K hK => ?_)
            refine step_app_view rfl _ _ 68 (by rfl) (.agg #[.int .i64 0, .int .i64 0, .int .i64 0, .bool false]) 32 Try.underlying68 info_use rfl (by decide) RW.out (by rfl) VW.out (by rfl) (qc_cell _) (by have := Hk.out; omega) (by decide) ?_
            intro A2 c2 wC q1 q2
            have fC := hid (show Fr Nil W9 wC from (fA.out).trans q2 fun k hk => .inr (RW.out.2 k hk))
            have RC := hid (show Row wC (New W9) 72 4 (.slice A2 (c6 + 1) c2) (c6 + 1) (quad (N.take c6 ++ [⟨a, n, 1⟩])) from by rw [quad_append, quad_one]; exact q1.mono fun k hk => hk.elim (fun h => RW.out.2 k h) (fun h => Nat.le_trans (fA.out).size h))
            clear q1 q2
            have hS2 : (fun w' : World => w'.cell? ⟨xb, 0, none⟩ = some (.int .i64 (a : Nat)) ∧ w'.cell? ⟨xb, 1, none⟩ = some (.int .i64 (n : Nat))) wC := ⟨(HX9.out.fr (fC.out) fun h => h).cell 0, (HX9.out.fr (fC.out) fun h => h).cell 1⟩
            refine hK.out _ _ (fun _ => hS2) ?_
            clear hK K
            try simp only [Act.put, List.getElem_toArray, List.getElem_cons_succ, List.getElem_cons_zero, List.setIfInBounds_toArray, List.set_cons_zero, List.set_cons_succ]
            refine wpU_next (i := 12) rfl (by kernel_rfl) (fun K hK => ?_)
            refine step_app_view rfl _ _ 68 (by rfl) (.agg #[.int .i64 0, .int .i64 0, .int .i64 0, .bool false]) 32 Try.underlying68 info_use rfl (by decide) RC.out (by rfl) (V3.out.fr fC.out fun _ _ _ h => h) (by rfl) (quad_cell _) (by have := Hk.out; omega) (by decide) ?_
            intro A3 c3 wD q1 q2
            have fD := hid (show Fr Nil W9 wD from fC.out.trans q2 fun k hk => .inr (RC.out.2 k hk))
            have RD := hid (show Row wD (New W9) 72 4 (.slice A3 (c6 + 1 + 0) c3) (c6 + 1 + 0) (quad (N.take c6 ++ [⟨a, n, 1⟩] ++ N.drop c6)) from by rw [quad_append]; exact q1.mono fun k hk => hk.elim (fun h => RC.out.2 k h) (fun h => Nat.le_trans fC.out.size h))
            clear q1 q2
            have hS2 : (fun w' : World => w'.cell? ⟨xb, 0, none⟩ = some (.int .i64 (a : Nat)) ∧ w'.cell? ⟨xb, 1, none⟩ = some (.int .i64 (n : Nat))) wD := ⟨(HX9.out.fr (fD.out) fun h => h).cell 0, (HX9.out.fr (fD.out) fun h => h).cell 1⟩
            refine hK.out _ _ (fun _ => hS2) ?_
            clear hK K
            try simp only [Act.put, List.getElem_toArray, List.getElem_cons_succ, List.getElem_cons_zero, List.setIfInBounds_toArray, List.set_cons_zero, List.set_cons_succ]
            refine wpU_next (i := 13) rfl (by kernel_rfl) (fun K hK => ?_)
            go_simp
            refine hK.out _ _ (fun _ => hS2) ?_
            clear hK K
            try simp only [Act.put, List.getElem_toArray, List.getElem_cons_succ, List.getElem_cons_zero, List.setIfInBounds_toArray, List.set_cons_zero, List.set_cons_succ]
            refine wpU_next (i := 14) rfl (by kernel_rfl) (fun K hK => ?_)
            go_simp
            refine hK.out _ _ (fun _ => hS2) ?_
            clear hK K
            try simp only [Act.put, List.getElem_toArray, List.getElem_cons_succ, List.getElem_cons_zero, List.setIfInBounds_toArray, List.set_cons_zero, List.set_cons_succ]
            have FD := hid (((F1.out.then F6.out).then F9.out).then fD.out)
            have HBD := hid (HB.out.fr FD.out fun h => h)
            have kc := HBD.out.cell 1
            have kz := HBD.out.frozen 1
            have klt := HBD.out.lt
            refine wpU_next (i := 15) rfl (by kernel_rfl) (fun K hK => ?_)
            go_simp
            refine hK.out _ _ (fun h => absurd rfl h.1) ?_
            refine wpU_done (by kernel_rfl) ?_ _
            clear hK K
            clear kc kz klt hS2 hS
            go_wp2
            go_ret
            have hsz : c6 + 1 + 0 = (insN N a n).length := by
              unfold insN
              rw [Hah.out]
              simp only [List.length_append, List.length_take, List.length_drop, List.length_cons, List.length_nil]
              have := HM.out; have := Hk.out
              omega
            have hin : insN N a n = N.take c6 ++ [⟨a, n, 1⟩] ++ N.drop c6 := by unfold insN; rw [Hah.out]
            have hfs : Fr (fun k => k = sb) w (wD.setCell ⟨sb, 1, none⟩ (.slice A3 (c6 + 1 + 0) c3)) := (FD.out.nil (S := fun k => k = sb)).setCell (a := ⟨sb, 1, none⟩) (.inl rfl) _
            have hnew : ∀ k, New W9 k → w.heap.size ≤ k := fun k hk => Nat.le_trans ((F1.out.then F6.out).then F9.out).size hk
            refine ⟨rfl, Rz.of (v1 := .slice A3 (c6 + 1 + 0) c3) (v2 := v2) hfs.size HT.out (Hlt.out sb HT.out) (HBD.out.set 1 _) ?_ ?_, hfs⟩
            · rw [hin, show (N.take c6 ++ [(⟨a, n, 1⟩ : Us)] ++ N.drop c6).length = c6 + 1 + 0 from by rw [← hin, hsz]]
              refine (RD.out.setCell ?_ _).mono fun k hk => .inr (hnew k hk)
              intro e
              have h1 := hnew _ (RD.out.2 _ e)
              have h2 := Hlt.out sb HT.out
              dsimp only at h1
              omega
            · exact (H3.out.fr hfs (fun k hk e => (H3.out.apart_blk HB.out (by decide)) (by rw [hk, e]))).mono fun k hk => .inl hk
        · rw [show sliced (some ⟨g, 0, none⟩) k M c6 4 = .slice (some ⟨g, k * 4, none⟩) (M - k) (c6 - k) from by simp [sliced, hck, Addr.add_lit]] at hV0
          have V3 := hid hV0.bd
          clear hV0
          refine wpU_take (i := 5) (v := ?_) rfl (by kernel_rfl) (by kernel_rfl) (fun _ _ _ h => h) _ _ _ _ (by kernel_rfl) (by kernel_rfl) (by kernel_rfl) (Or.inl ⟨by kernel_rfl, ?_⟩) hS ?_
          rotate_left
          · (intro w9 hS9; obtain ⟨s0, s1⟩ := hS9; go_simp); (try with_reducible rfl)
          try simp only [Act.put, List.getElem_toArray, List.getElem_cons_succ, List.getElem_cons_zero, List.setIfInBounds_toArray, List.set_cons_zero, List.set_cons_succ]
          refine wpU_take (i := 6) (v := ?_) rfl (by kernel_rfl) (by kernel_rfl) (fun _ _ _ h => h) _ _ _ _ (by kernel_rfl) (by kernel_rfl) (by kernel_rfl) (Or.inl ⟨by kernel_rfl, ?_⟩) hS ?_
          rotate_left
          · (intro w9 hS9; obtain ⟨s0, s1⟩ := hS9; go_simp); (try with_reducible rfl)
          try simp only [Act.put, List.getElem_toArray, List.getElem_cons_succ, List.getElem_cons_zero, List.setIfInBounds_toArray, List.set_cons_zero, List.set_cons_succ]
          refine wpU_take (i := 9) (v := ?_) rfl (by kernel_rfl) (by kernel_rfl) (fun _ _ _ h => h) _ _ _ _ (by kernel_rfl) (by kernel_rfl) (by kernel_rfl) (Or.inl ⟨by kernel_rfl, ?_⟩) hS ?_
          rotate_left
          · (intro w9 hS9; obtain ⟨s0, s1⟩ := hS9; go_simp); (try with_reducible rfl)
          try simp only [Act.put, List.getElem_toArray, List.getElem_cons_succ, List.getElem_cons_zero, List.setIfInBounds_toArray, List.set_cons_zero, List.set_cons_succ]
          refine wpU_take (i := 10) (v := ?_) rfl (by kernel_rfl) (by kernel_rfl) (fun _ _ _ h => h) _ _ _ _ (by kernel_rfl) (by kernel_rfl) (by kernel_rfl) (Or.inl ⟨by kernel_rfl, ?_⟩) hS ?_
          rotate_left
          · (intro w9 hS9; obtain ⟨s0, s1⟩ := hS9; go_simp); (try with_reducible rfl)
          try simp only [Act.put, List.getElem_toArray, List.getElem_cons_succ, List.getElem_cons_zero, List.setIfInBounds_toArray, List.set_cons_zero, List.set_cons_succ]
          refine wpU_take (i := 11) (v := ?_) rfl (by kernel_rfl) (by kernel_rfl) (fun _ _ _ h => h) _ _ _ _ (by kernel_rfl) (by kernel_rfl) (by kernel_rfl) (Or.inl ⟨by kernel_rfl, ?_⟩) hS ?_
          rotate_left
          · (intro w9 hS9; obtain ⟨s0, s1⟩ := hS9; go_simp); (try with_reducible rfl)
          try simp only [Act.put, List.getElem_toArray, List.getElem_cons_succ, List.getElem_cons_zero, List.setIfInBounds_toArray, List.set_cons_zero, List.set_cons_succ]
          refine wpU_two (i := 4) (j := 7) rfl rfl (by kernel_rfl) (fun K hK => ?_) (fun K hK => ?_)
          · skip
            refine step_app_view rfl _ _ 68 (by rfl) (.agg #[.int .i64 0, .int .i64 0, .int .i64 0, .bool false]) 32 Try.underlying68 info_use rfl (by decide) (Row.nil W9.drew Nil 72 4) (by rfl) (V1.out.fr (((Fr.refl Nil W9).drew)) fun _ _ _ h => h) (by rfl) (quad_cell _) (by have := Hk.out; omega) (by decide) ?_
            intro A1 c1 wA q1 q2
            rw [Nat.zero_add] at q1
            rw [Nat.zero_add]
            have fAA := hid (show Fr Nil W9.drew wA from q2.mono fun k hk => by simp [Value.ownBlock] at hk)
            have fA := hid (show Fr Nil W9 wA from (((Fr.refl Nil W9).drew)).then (q2.mono fun k hk => by simp [Value.ownBlock] at hk))
            have RA := hid (show Row wA (New W9) 72 4 (.slice A1 k c1) k (quad (N.take k)) from q1.mono fun k hk => hk.elim (fun h => by simp [Value.ownBlock] at h) (fun h => Nat.le_trans (show Fr Nil W9 W9.drew from ((Fr.refl Nil W9).drew)).size h))
            clear q1 q2
            have hS2 : (fun w' : World => w'.cell? ⟨xb, 0, none⟩ = some (.int .i64 (a : Nat)) ∧ w'.cell? ⟨xb, 1, none⟩ = some (.int .i64 (n : Nat))) wA := ⟨(HX9.out.fr (fA.out) fun h => h).cell 0, (HX9.out.fr (fA.out) fun h => h).cell 1⟩
            refine hK.out _ _ (fun _ => hS2) ?_
            clear hK K
            try simp only [Act.put, List.getElem_toArray, List.getElem_cons_succ, List.getElem_cons_zero, List.setIfInBounds_toArray, List.set_cons_zero, List.set_cons_succ]
            refine wpU_next (i := 7) rfl (by kernel_rfl) (fun K hK => ?_)
            go_simp
            obtain ⟨wB, hwB⟩ : ∃ wB, wB = (wA.alloc (.cells #[.int .i64 (a : Nat), .int .i64 (n : Nat), .int .i64 1, .bool false] 72)) := ⟨_, rfl⟩
            have fB := hid (show Fr Nil W9 wB from by rw [hwB]; exact ((fA.out).alloc _))
            have VB := hid (show View wB (New W9) 4 (.slice (some ⟨wA.heap.size, 0, none⟩) 1 1) 1 (qc ⟨a, n, 1⟩) from by
              rw [hwB]; exact (View.lit (s := 4) wA #[.int .i64 (a : Nat), .int .i64 (n : Nat), .int .i64 1, .bool false] 72 (0, 0) 1 rfl (by decide)).mono fun k hk => Nat.le_trans (show Fr Nil W9 wA from fA.out).size hk)
            rw [← hwB]
            have fBB := hid (show Fr Nil wA wB from by rw [hwB]; exact ((Fr.refl Nil wA).alloc _))
            clear hwB
            clear hS2
            have hS2 : (fun w' : World => w'.cell? ⟨xb, 0, none⟩ = some (.int .i64 (a : Nat)) ∧ w'.cell? ⟨xb, 1, none⟩ = some (.int .i64 (n : Nat))) wB := ⟨(HX9.out.fr (fB.out) fun h => h).cell 0, (HX9.out.fr (fB.out) fun h => h).cell 1⟩
            refine hK.out _ _ (fun _ => hS2) ?_
            clear hK K
            try simp only [Act.put, List.getElem_toArray, List.getElem_cons_succ, List.getElem_cons_zero, List.setIfInBounds_toArray, List.set_cons_zero, List.set_cons_succ]
            have RW := hid (RA.out.fr fBB.out fun _ _ h => h)
            have VW := VB
            refine wpU_next (i := 8) rfl (by kernel_rfl) (fun K hK => ?_)
            refine step_app_view rfl _ _ 68 (by rfl) (.agg #[.int .i64 0, .int .i64 0, .int .i64 0, .bool false]) 32 Try.underlying68 info_use rfl (by decide) RW.out (by rfl) VW.out (by rfl) (qc_cell _) (by have := Hk.out; omega) (by decide) ?_
            intro A2 c2 wC q1 q2
            have fC := hid (show Fr Nil W9 wC from (fB.out).trans q2 fun k hk => .inr (RW.out.2 k hk))
            have RC := hid (show Row wC (New W9) 72 4 (.slice A2 (k + 1) c2) (k + 1) (quad (N.take k ++ [⟨a, n, 1⟩])) from by rw [quad_append, quad_one]; exact q1.mono fun k hk => hk.elim (fun h => RW.out.2 k h) (fun h => Nat.le_trans (fB.out).size h))
            clear q1 q2
            have hS2 : (fun w' : World => w'.cell? ⟨xb, 0, none⟩ = some (.int .i64 (a : Nat)) ∧ w'.cell? ⟨xb, 1, none⟩ = some (.int .i64 (n : Nat))) wC := ⟨(HX9.out.fr (fC.out) fun h => h).cell 0, (HX9.out.fr (fC.out) fun h => h).cell 1⟩
            refine hK.out _ _ (fun _ => hS2) ?_
            clear hK K
            try simp only [Act.put, List.getElem_toArray, List.getElem_cons_succ, List.getElem_cons_zero, List.setIfInBounds_toArray, List.set_cons_zero, List.set_cons_succ]
            refine wpU_next (i := 12) rfl (by kernel_rfl) (fun K hK => ?_)
            refine step_app_view rfl _ _ 68 (by rfl) (.agg #[.int .i64 0, .int .i64 0, .int .i64 0, .bool false]) 32 Try.underlying68 info_use rfl (by decide) RC.out (by rfl) (V3.out.fr fC.out fun _ _ _ h => h) (by rfl) (quad_cell _) (by have := Hk.out; omega) (by decide) ?_
            intro A3 c3 wD q1 q2
            have fD := hid (show Fr Nil W9 wD from fC.out.trans q2 fun k hk => .inr (RC.out.2 k hk))
            have RD := hid (show Row wD (New W9) 72 4 (.slice A3 (k + 1 + (M - k)) c3) (k + 1 + (M - k)) (quad (N.take k ++ [⟨a, n, 1⟩] ++ N.drop k)) from by rw [quad_append]; exact q1.mono fun k hk => hk.elim (fun h => RC.out.2 k h) (fun h => Nat.le_trans fC.out.size h))
            clear q1 q2
            have hS2 : (fun w' : World => w'.cell? ⟨xb, 0, none⟩ = some (.int .i64 (a : Nat)) ∧ w'.cell? ⟨xb, 1, none⟩ = some (.int .i64 (n : Nat))) wD := ⟨(HX9.out.fr (fD.out) fun h => h).cell 0, (HX9.out.fr (fD.out) fun h => h).cell 1⟩
            refine hK.out _ _ (fun _ => hS2) ?_
            clear hK K
            try simp only [Act.put, List.getElem_toArray, List.getElem_cons_succ, List.getElem_cons_zero, List.setIfInBounds_toArray, List.set_cons_zero, List.set_cons_succ]
            refine wpU_next (i := 13) rfl (by kernel_rfl) (fun K hK => ?_)
            go_simp
            refine hK.out _ _ (fun _ => hS2) ?_
            clear hK K
            try simp only [Act.put, List.getElem_toArray, List.getElem_cons_succ, List.getElem_cons_zero, List.setIfInBounds_toArray, List.set_cons_zero, List.set_cons_succ]
            refine wpU_next (i := 14) rfl (by kernel_rfl) (fun K hK => ?_)
            go_simp
            refine hK.out _ _ (fun _ => hS2) ?_
            clear hK K
            try simp only [Act.put, List.getElem_toArray, List.getElem_cons_succ, List.getElem_cons_zero, List.setIfInBounds_toArray, List.set_cons_zero, List.set_cons_succ]
            have FD := hid (((F1.out.then F6.out).then F9.out).then fD.out)
            have HBD := hid (HB.out.fr FD.out fun h => h)
            have kc := HBD.out.cell 1
            have kz := HBD.out.frozen 1
            have klt := HBD.out.lt
            refine wpU_next (i := 15) rfl (by kernel_rfl) (fun K hK => ?_)
            go_simp
            refine hK.out _ _ (fun h => absurd rfl h.1) ?_
            refine wpU_done (by kernel_rfl) ?_ _
            clear hK K
            clear kc kz klt hS2 hS
            go_wp2
            go_ret
            have hsz : k + 1 + (M - k) = (insN N a n).length := by
              unfold insN
              rw [Hah.out]
              simp only [List.length_append, List.length_take, List.length_drop, List.length_cons, List.length_nil]
              have := HM.out; have := Hk.out
              omega
            have hin : insN N a n = N.take k ++ [⟨a, n, 1⟩] ++ N.drop k := by unfold insN; rw [Hah.out]
            have hfs : Fr (fun k => k = sb) w (wD.setCell ⟨sb, 1, none⟩ (.slice A3 (k + 1 + (M - k)) c3)) := (FD.out.nil (S := fun k => k = sb)).setCell (a := ⟨sb, 1, none⟩) (.inl rfl) _
            have hnew : ∀ k, New W9 k → w.heap.size ≤ k := fun k hk => Nat.le_trans ((F1.out.then F6.out).then F9.out).size hk
            refine ⟨rfl, Rz.of (v1 := .slice A3 (k + 1 + (M - k)) c3) (v2 := v2) hfs.size HT.out (Hlt.out sb HT.out) (HBD.out.set 1 _) ?_ ?_, hfs⟩
            · rw [hin, show (N.take k ++ [(⟨a, n, 1⟩ : Us)] ++ N.drop k).length = k + 1 + (M - k) from by rw [← hin, hsz]]
              refine (RD.out.setCell ?_ _).mono fun k hk => .inr (hnew k hk)
              intro e
              have h1 := hnew _ (RD.out.2 _ e)
              have h2 := Hlt.out sb HT.out
              dsimp only at h1
              omega
            · exact (H3.out.fr hfs (fun k hk e => (H3.out.apart_blk HB.out (by decide)) (by rw [hk, e]))).mono fun k hk => .inl hk
          · go_simp
            obtain ⟨wB, hwB⟩ : ∃ wB, wB = (W9.alloc (.cells #[.int .i64 (a : Nat), .int .i64 (n : Nat), .int .i64 1, .bool false] 72)).drew := ⟨_, rfl⟩
            have fB := hid (show Fr Nil W9 wB from by rw [hwB]; exact (((Fr.refl Nil W9)).alloc _).drew)
            have VB := hid (show View wB (New W9) 4 (.slice (some ⟨W9.heap.size, 0, none⟩) 1 1) 1 (qc ⟨a, n, 1⟩) from by
              rw [hwB]; exact (View.lit (s := 4) W9 #[.int .i64 (a : Nat), .int .i64 (n : Nat), .int .i64 1, .bool false] 72 (0, 0) 1 rfl (by decide)).drew.mono fun k hk => Nat.le_trans (show Fr Nil W9 W9 from (Fr.refl Nil W9)).size hk)
            rw [← hwB]
            have fBB := hid (show Fr Nil W9 wB from by rw [hwB]; exact ((Fr.refl Nil W9).alloc _).drew)
            clear hwB
            have hS2 : (fun w' : World => w'.cell? ⟨xb, 0, none⟩ = some (.int .i64 (a : Nat)) ∧ w'.cell? ⟨xb, 1, none⟩ = some (.int .i64 (n : Nat))) wB := ⟨(HX9.out.fr (fB.out) fun h => h).cell 0, (HX9.out.fr (fB.out) fun h => h).cell 1⟩
            refine hK.out _ _ (fun _ => hS2) ?_
            clear hK K
            try simp only [Act.put, List.getElem_toArray, List.getElem_cons_succ, List.getElem_cons_zero, List.setIfInBounds_toArray, List.set_cons_zero, List.set_cons_succ]
            refine wpU_next (i := 4) rfl (by kernel_rfl) (fun K hK => ?_)
            refine step_app_view rfl _ _ 68 (by rfl) (.agg #[.int .i64 0, .int .i64 0, .int .i64 0, .bool false]) 32 Try.underlying68 info_use rfl (by decide) (Row.nil wB Nil 72 4) (by rfl) (V1.out.fr (fB.out) fun _ _ _ h => h) (by rfl) (quad_cell _) (by have := Hk.out; omega) (by decide) ?_
            intro A1 c1 wA q1 q2
            rw [Nat.zero_add] at q1
            rw [Nat.zero_add]
            have fAA := hid (show Fr Nil wB wA from q2.mono fun k hk => by simp [Value.ownBlock] at hk)
            have fA := hid (show Fr Nil W9 wA from (fB.out).then (q2.mono fun k hk => by simp [Value.ownBlock] at hk))
            have RA := hid (show Row wA (New W9) 72 4 (.slice A1 k c1) k (quad (N.take k)) from q1.mono fun k hk => hk.elim (fun h => by simp [Value.ownBlock] at h) (fun h => Nat.le_trans (show Fr Nil W9 wB from fB.out).size h))
            clear q1 q2
            clear hS2
            have hS2 : (fun w' : World => w'.cell? ⟨xb, 0, none⟩ = some (.int .i64 (a : Nat)) ∧ w'.cell? ⟨xb, 1, none⟩ = some (.int .i64 (n : Nat))) wA := ⟨(HX9.out.fr (fA.out) fun h => h).cell 0, (HX9.out.fr (fA.out) fun h => h).cell 1⟩
            refine hK.out _ _ (fun _ => hS2) ?_
            clear hK K
            try simp only [Act.put, List.getElem_toArray, List.getElem_cons_succ, List.getElem_cons_zero, List.setIfInBounds_toArray, List.set_cons_zero, List.set_cons_succ]
            have RW := RA
            have VW := hid (VB.out.fr fAA.out fun _ _ _ h => h)
            refine wpU_next (i := 8) rfl (by kernel_rfl) (fun K hK => ?_)
            refine step_app_view rfl _ _ 68 (by rfl) (.agg #[.int .i64 0, .int .i64 0, .int .i64 0, .bool false]) 32 Try.underlying68 info_use rfl (by decide) RW.out (by rfl) VW.out (by rfl) (qc_cell _) (by have := Hk.out; omega) (by decide) ?_
            intro A2 c2 wC q1 q2
            have fC := hid (show Fr Nil W9 wC from (fA.out).trans q2 fun k hk => .inr (RW.out.2 k hk))
            have RC := hid (show Row wC (New W9) 72 4 (.slice A2 (k + 1) c2) (k + 1) (quad (N.take k ++ [⟨a, n, 1⟩])) from by rw [quad_append, quad_one]; exact q1.mono fun k hk => hk.elim (fun h => RW.out.2 k h) (fun h => Nat.le_trans (fA.out).size h))
            clear q1 q2
            have hS2 : (fun w' : World => w'.cell? ⟨xb, 0, none⟩ = some (.int .i64 (a : Nat)) ∧ w'.cell? ⟨xb, 1, none⟩ = some (.int .i64 (n : Nat))) wC := ⟨(HX9.out.fr (fC.out) fun h => h).cell 0, (HX9.out.fr (fC.out) fun h => h).cell 1⟩
            refine hK.out _ _ (fun _ => hS2) ?_
            clear hK K
            try simp only [Act.put, List.getElem_toArray, List.getElem_cons_succ, List.getElem_cons_zero, List.setIfInBounds_toArray, List.set_cons_zero, List.set_cons_succ]
            refine wpU_next (i := 12) rfl (by kernel_rfl) (fun K hK => ?_)
            refine step_app_view rfl _ _ 68 (by rfl) (.agg #[.int .i64 0, .int .i64 0, .int .i64 0, .bool false]) 32 Try.underlying68 info_use rfl (by decide) RC.out (by rfl) (V3.out.fr fC.out fun _ _ _ h => h) (by rfl) (quad_cell _) (by have := Hk.out; omega) (by decide) ?_
            intro A3 c3 wD q1 q2
            have fD := hid (show Fr Nil W9 wD from fC.out.trans q2 fun k hk => .inr (RC.out.2 k hk))
            have RD := hid (show Row wD (New W9) 72 4 (.slice A3 (k + 1 + (M - k)) c3) (k + 1 + (M - k)) (quad (N.take k ++ [⟨a, n, 1⟩] ++ N.drop k)) from by rw [quad_append]; exact q1.mono fun k hk => hk.elim (fun h => RC.out.2 k h) (fun h => Nat.le_trans fC.out.size h))
            clear q1 q2
            have hS2 : (fun w' : World => w'.cell? ⟨xb, 0, none⟩ = some (.int .i64 (a : Nat)) ∧ w'.cell? ⟨xb, 1, none⟩ = some (.int .i64 (n : Nat))) wD := ⟨(HX9.out.fr (fD.out) fun h => h).cell 0, (HX9.out.fr (fD.out) fun h => h).cell 1⟩
            refine hK.out _ _ (fun _ => hS2) ?_
            clear hK K
            try simp only [Act.put, List.getElem_toArray, List.getElem_cons_succ, List.getElem_cons_zero, List.setIfInBounds_toArray, List.set_cons_zero, List.set_cons_succ]
            refine wpU_next (i := 13) rfl (by kernel_rfl) (fun K hK => ?_)
            go_simp
            refine hK.out _ _ (fun _ => hS2) ?_
            clear hK K
            try simp only [Act.put, List.getElem_toArray, List.getElem_cons_succ, List.getElem_cons_zero, List.setIfInBounds_toArray, List.set_cons_zero, List.set_cons_succ]
            refine wpU_next (i := 14) rfl (by kernel_rfl) (fun K hK => ?_)
            go_simp
            refine hK.out _ _ (fun _ => hS2) ?_
            clear hK K
            try simp only [Act.put, List.getElem_toArray, List.getElem_cons_succ, List.getElem_cons_zero, List.setIfInBounds_toArray, List.set_cons_zero, List.set_cons_succ]
            have FD := hid (((F1.out.then F6.out).then F9.out).then fD.out)
            have HBD := hid (HB.out.fr FD.out fun h => h)
            have kc := HBD.out.cell 1
            have kz := HBD.out.frozen 1
            have klt := HBD.out.lt
            refine wpU_next (i := 15) rfl (by kernel_rfl) (fun K hK => ?_)
            go_simp
            refine hK.out _ _ (fun h => absurd rfl h.1) ?_
            refine wpU_done (by kernel_rfl) ?_ _
            clear hK K
            clear kc kz klt hS2 hS
            go_wp2
            go_ret
            have hsz : k + 1 + (M - k) = (insN N a n).length := by
              unfold insN
              rw [Hah.out]
              simp only [List.length_append, List.length_take, List.length_drop, List.length_cons, List.length_nil]
              have := HM.out; have := Hk.out
              omega
            have hin : insN N a n = N.take k ++ [⟨a, n, 1⟩] ++ N.drop k := by unfold insN; rw [Hah.out]
            have hfs : Fr (fun k => k = sb) w (wD.setCell ⟨sb, 1, none⟩ (.slice A3 (k + 1 + (M - k)) c3)) := (FD.out.nil (S := fun k => k = sb)).setCell (a := ⟨sb, 1, none⟩) (.inl rfl) _
            have hnew : ∀ k, New W9 k → w.heap.size ≤ k := fun k hk => Nat.le_trans ((F1.out.then F6.out).then F9.out).size hk
            refine ⟨rfl, Rz.of (v1 := .slice A3 (k + 1 + (M - k)) c3) (v2 := v2) hfs.size HT.out (Hlt.out sb HT.out) (HBD.out.set 1 _) ?_ ?_, hfs⟩
            · rw [hin, show (N.take k ++ [(⟨a, n, 1⟩ : Us)] ++ N.drop k).length = k + 1 + (M - k) from by rw [← hin, hsz]]
              refine (RD.out.setCell ?_ _).mono fun k hk => .inr (hnew k hk)
              intro e
              have h1 := hnew _ (RD.out.2 _ e)
              have h2 := Hlt.out sb HT.out
              dsimp only at h1
              omega
            · exact (H3.out.fr hfs (fun k hk e => (H3.out.apart_blk HB.out (by decide)) (by rw [hk, e]))).mono fun k hk => .inl hk
  · obtain rfl : M = 0 := by omega
    have hA6 : A6 = none ∧ c6 = 0 := by
      have h1 := rn.2 ⟨rfl, rfl⟩
      subst h1
      rcases hr6.1.2 with ⟨h2, _⟩ | ⟨g, cap, cur, h2, _⟩
      · injection h2 with _ _ h2; exact ⟨rfl, h2⟩
      · injection h2 with h2 _ _; cases h2
    obtain ⟨rfl, rfl⟩ := hA6
    clear rn hr6 hM0
    go_wp2_with fail
    go_loopw [6] (fun v6 wx => v6 = .int .i64 0 ∧ Fr Nil w6 wx) (fun v6 _ => 0)
    case atStart => exact ⟨rfl, Fr.refl _ _⟩
    case round =>
      obtain ⟨rfl, hfw⟩ := hrel
      have hx0 : wr.cell? ⟨xb, 0, none⟩ = some (.int .i64 (a : Nat)) := (HX6.out.fr hfw fun h => h).cell 0
      have hN0 : N = [] := List.eq_nil_of_length_eq_zero HM.out.symm
      have HN0 := hid hN0
      clear hN0
      go_upto_region 5 with (fail)
      go_quiet (fail)
      go_upto_region 7 with (fail)
      clear hx0
      have Hah := hid (show ahead N a = 0 from by rw [HN0.out]; rfl)
      have Hk := hid (Nat.le_refl 0)
      obtain ⟨W9, hW9⟩ : ∃ W9, W9 = wr.drewN nq := ⟨_, rfl⟩
      rw [← hW9]
      have f9 : Fr Nil w6 W9 := by rw [hW9]; exact hfw.drewN _
      have F9 := hid f9
      have HX9 := hid (HX6.out.fr f9 fun h => h)
      have hS : (fun w' : World => w'.cell? ⟨xb, 0, none⟩ = some (.int .i64 (a : Nat)) ∧ w'.cell? ⟨xb, 1, none⟩ = some (.int .i64 (n : Nat))) W9.drew := ⟨HX9.out.drew.cell 0, HX9.out.drew.cell 1⟩
      have V1 := hid (show View W9 (New W1) 4 (.slice none 0 0) 0 (quad (N.take 0)) from by rw [HN0.out]; exact View.nil W9 (New W1) 4)
      have V3 := hid (show View W9 (fun k => New W1 k ∧ k < W9.heap.size) 4 (.slice none 0 0) 0 (quad (N.drop 0)) from by rw [HN0.out]; exact View.nil W9 _ 4)
      clear hW9 f9 hfw
      refine wpU_region (k := 15) (S := (fun w' : World => w'.cell? ⟨xb, 0, none⟩ = some (.int .i64 (a : Nat)) ∧ w'.cell? ⟨xb, 1, none⟩ = some (.int .i64 (n : Nat)))) (by kernel_rfl) ?_
      refine wpU_take (i := 0) (v := ?_) rfl (by kernel_rfl) (by kernel_rfl) (fun _ _ _ h => h) _ _ _ _ (by kernel_rfl) (by kernel_rfl) (by kernel_rfl) (Or.inl ⟨by kernel_rfl, ?_⟩) hS ?_
      rotate_left
      · (intro w9 hS9; obtain ⟨s0, s1⟩ := hS9; go_simp); (try with_reducible rfl)
      try simp only [Act.put, List.getElem_toArray, List.getElem_cons_succ, List.getElem_cons_zero, List.setIfInBounds_toArray, List.set_cons_zero, List.set_cons_succ]
      refine wpU_take (i := 1) (v := ?_) rfl (by kernel_rfl) (by kernel_rfl) (fun _ _ _ h => h) _ _ _ _ (by kernel_rfl) (by kernel_rfl) (by kernel_rfl) (Or.inl ⟨by kernel_rfl, ?_⟩) hS ?_
      rotate_left
      · (intro w9 hS9; obtain ⟨s0, s1⟩ := hS9; go_simp); (try with_reducible rfl)
      try simp only [Act.put, List.getElem_toArray, List.getElem_cons_succ, List.getElem_cons_zero, List.setIfInBounds_toArray, List.set_cons_zero, List.set_cons_succ]
      refine wpU_take (i := 2) (v := ?_) rfl (by kernel_rfl) (by kernel_rfl) (fun _ _ _ h => h) _ _ _ _ (by kernel_rfl) (by kernel_rfl) (by kernel_rfl) (Or.inl ⟨by kernel_rfl, ?_⟩) hS ?_
      rotate_left
      · (intro w9 hS9; obtain ⟨s0, s1⟩ := hS9; go_simp); (try with_reducible rfl)
      try simp only [Act.put, List.getElem_toArray, List.getElem_cons_succ, List.getElem_cons_zero, List.setIfInBounds_toArray, List.set_cons_zero, List.set_cons_succ]
      refine wpU_take (i := 3) (v := ?_) rfl (by kernel_rfl) (by kernel_rfl) (fun _ _ _ h => h) _ _ _ _ (by kernel_rfl) (by kernel_rfl) (by kernel_rfl) (Or.inl ⟨by kernel_rfl, ?_⟩) hS ?_
      rotate_left
      · (intro w9 hS9; obtain ⟨s0, s1⟩ := hS9; go_simp); (try with_reducible rfl)
      try simp only [Act.put, List.getElem_toArray, List.getElem_cons_succ, List.getElem_cons_zero, List.setIfInBounds_toArray, List.set_cons_zero, List.set_cons_succ]
      refine wpU_take (i := 5) (v := ?_) rfl (by kernel_rfl) (by kernel_rfl) (fun _ _ _ h => h) _ _ _ _ (by kernel_rfl) (by kernel_rfl) (by kernel_rfl) (Or.inl ⟨by kernel_rfl, ?_⟩) hS ?_
      rotate_left
      · (intro w9 hS9; obtain ⟨s0, s1⟩ := hS9; go_simp); (try with_reducible rfl)
      try simp only [Act.put, List.getElem_toArray, List.getElem_cons_succ, List.getElem_cons_zero, List.setIfInBounds_toArray, List.set_cons_zero, List.set_cons_succ]
      refine wpU_take (i := 6) (v := ?_) rfl (by kernel_rfl) (by kernel_rfl) (fun _ _ _ h => h) _ _ _ _ (by kernel_rfl) (by kernel_rfl) (by kernel_rfl) (Or.inl ⟨by kernel_rfl, ?_⟩) hS ?_
      rotate_left
      · (intro w9 hS9; obtain ⟨s0, s1⟩ := hS9; go_simp); (try with_reducible rfl)
      try simp only [Act.put, List.getElem_toArray, List.getElem_cons_succ, List.getElem_cons_zero, List.setIfInBounds_toArray, List.set_cons_zero, List.set_cons_succ]
      refine wpU_take (i := 9) (v := ?_) rfl (by kernel_rfl) (by kernel_rfl) (fun _ _ _ h => h) _ _ _ _ (by kernel_rfl) (by kernel_rfl) (by kernel_rfl) (Or.inl ⟨by kernel_rfl, ?_⟩) hS ?_
      rotate_left
      · (intro w9 hS9; obtain ⟨s0, s1⟩ := hS9; go_simp); (try with_reducible rfl)
      try simp only [Act.put, List.getElem_toArray, List.getElem_cons_succ, List.getElem_cons_zero, List.setIfInBounds_toArray, List.set_cons_zero, List.set_cons_succ]
      refine wpU_take (i := 10) (v := ?_) rfl (by kernel_rfl) (by kernel_rfl) (fun _ _ _ h => h) _ _ _ _ (by kernel_rfl) (by kernel_rfl) (by kernel_rfl) (Or.inl ⟨by kernel_rfl, ?_⟩) hS ?_
      rotate_left
      · (intro w9 hS9; obtain ⟨s0, s1⟩ := hS9; go_simp); (try with_reducible rfl)
      try simp only [Act.put, List.getElem_toArray, List.getElem_cons_succ, List.getElem_cons_zero, List.setIfInBounds_toArray, List.set_cons_zero, List.set_cons_succ]
      refine wpU_take (i := 11) (v := ?_) rfl (by kernel_rfl) (by kernel_rfl) (fun _ _ _ h => h) _ _ _ _ (by kernel_rfl) (by kernel_rfl) (by kernel_rfl) (Or.inl ⟨by kernel_rfl, ?_⟩) hS ?_
      rotate_left
      · (intro w9 hS9; obtain ⟨s0, s1⟩ := hS9; go_simp); (try with_reducible rfl)
      try simp only [Act.put, List.getElem_toArray, List.getElem_cons_succ, List.getElem_cons_zero, List.setIfInBounds_toArray, List.set_cons_zero, List.set_cons_succ]
      refine wpU_two (i := 4) (j := 7) rfl rfl (by kernel_rfl) (fun K hK => ?_) (fun K hK => ?_)
      · skip
        refine step_app_view rfl _ _ 68 (by rfl) (.agg #[.int .i64 0, .int .i64 0, .int .i64 0, .bool false]) 32 Try.underlying68 info_use rfl (by decide) (Row.nil W9.drew Nil 72 4) (by rfl) (V1.out.fr (((Fr.refl Nil W9).drew)) fun _ _ _ h => h) (by rfl) (quad_cell _) (by have := Hk.out; omega) (by decide) ?_
        intro A1 c1 wA q1 q2
        rw [Nat.zero_add] at q1
        rw [Nat.zero_add]
        have fAA := hid (show Fr Nil W9.drew wA from q2.mono fun k hk => by simp [Value.ownBlock] at hk)
        have fA := hid (show Fr Nil W9 wA from (((Fr.refl Nil W9).drew)).then (q2.mono fun k hk => by simp [Value.ownBlock] at hk))
        have RA := hid (show Row wA (New W9) 72 4 (.slice A1 0 c1) 0 (quad (N.take 0)) from q1.mono fun k hk => hk.elim (fun h => by simp [Value.ownBlock] at h) (fun h => Nat.le_trans (show Fr Nil W9 W9.drew from ((Fr.refl Nil W9).drew)).size h))
        clear q1 q2
        have hS2 : (fun w' : World => w'.cell? ⟨xb, 0, none⟩ = some (.int .i64 (a : Nat)) ∧ w'.cell? ⟨xb, 1, none⟩ = some (.int .i64 (n : Nat))) wA := ⟨(HX9.out.fr (fA.out) fun h => h).cell 0, (HX9.out.fr (fA.out) fun h => h).cell 1⟩
        refine hK.out _ _ (fun _ => hS2) ?_
        clear hK K
        try simp only [Act.put, List.getElem_toArray, List.getElem_cons_succ, List.getElem_cons_zero, List.setIfInBounds_toArray, List.set_cons_zero, List.set_cons_succ]
        refine wpU_next (i := 7) rfl (by kernel_rfl) (fun K hK => ?_)
        go_simp
        obtain ⟨wB, hwB⟩ : ∃ wB, wB = (wA.alloc (.cells #[.int .i64 (a : Nat), .int .i64 (n : Nat), .int .i64 1, .bool false] 72)) := ⟨_, rfl⟩
        have fB := hid (show Fr Nil W9 wB from by rw [hwB]; exact ((fA.out).alloc _))
        have VB := hid (show View wB (New W9) 4 (.slice (some ⟨wA.heap.size, 0, none⟩) 1 1) 1 (qc ⟨a, n, 1⟩) from by
          rw [hwB]; exact (View.lit (s := 4) wA #[.int .i64 (a : Nat), .int .i64 (n : Nat), .int .i64 1, .bool false] 72 (0, 0) 1 rfl (by decide)).mono fun k hk => Nat.le_trans (show Fr Nil W9 wA from fA.out).size hk)
        rw [← hwB]
        have fBB := hid (show Fr Nil wA wB from by rw [hwB]; exact ((Fr.refl Nil wA).alloc _))
        clear hwB
        clear hS2
        have hS2 : (fun w' : World => w'.cell? ⟨xb, 0, none⟩ = some (.int .i64 (a : Nat)) ∧ w'.cell? ⟨xb, 1, none⟩ = some (.int .i64 (n : Nat))) wB := ⟨(HX9.out.fr (fB.out) fun h => h).cell 0, (HX9.out.fr (fB.out) fun h => h).cell 1⟩
        refine hK.out _ _ (fun _ => hS2) ?_
        clear hK K
        try simp only [Act.put, List.getElem_toArray, List.getElem_cons_succ, List.getElem_cons_zero, List.setIfInBounds_toArray, List.set_cons_zero, List.set_cons_succ]
        have RW := hid (RA.out.fr fBB.out fun _ _ h => h)
        have VW := VB
        refine wpU_next (i := 8) rfl (by kernel_rfl) (fun K hK => ?_)
        refine step_app_view rfl _ _ 68 (by rfl) (.agg #[.int .i64 0, .int .i64 0, .int .i64 0, .bool false]) 32 Try.underlying68 info_use rfl (by decide) RW.out (by rfl) VW.out (by rfl) (qc_cell _) (by have := Hk.out; omega) (by decide) ?_
        intro A2 c2 wC q1 q2
        have fC := hid (show Fr Nil W9 wC from (fB.out).trans q2 fun k hk => .inr (RW.out.2 k hk))
        have RC := hid (show Row wC (New W9) 72 4 (.slice A2 (0 + 1) c2) (0 + 1) (quad (N.take 0 ++ [⟨a, n, 1⟩])) from by rw [quad_append, quad_one]; exact q1.mono fun k hk => hk.elim (fun h => RW.out.2 k h) (fun h => Nat.le_trans (fB.out).size h))
        clear q1 q2
        have hS2 : (fun w' : World => w'.cell? ⟨xb, 0, none⟩ = some (.int .i64 (a : Nat)) ∧ w'.cell? ⟨xb, 1, none⟩ = some (.int .i64 (n : Nat))) wC := ⟨(HX9.out.fr (fC.out) fun h => h).cell 0, (HX9.out.fr (fC.out) fun h => h).cell 1⟩
        refine hK.out _ _ (fun _ => hS2) ?_
        clear hK K
        try simp only [Act.put, List.getElem_toArray, List.getElem_cons_succ, List.getElem_cons_zero, List.setIfInBounds_toArray, List.set_cons_zero, List.set_cons_succ]
        refine wpU_next (i := 12) rfl (by kernel_rfl) (fun K hK => ?_)
        refine step_app_view rfl _ _ 68 (by rfl) (.agg #[.int .i64 0, .int .i64 0, .int .i64 0, .bool false]) 32 Try.underlying68 info_use rfl (by decide) RC.out (by rfl) (V3.out.fr fC.out fun _ _ _ h => h) (by rfl) (quad_cell _) (by have := Hk.out; omega) (by decide) ?_
        intro A3 c3 wD q1 q2
        have fD := hid (show Fr Nil W9 wD from fC.out.trans q2 fun k hk => .inr (RC.out.2 k hk))
        have RD := hid (show Row wD (New W9) 72 4 (.slice A3 (0 + 1 + 0) c3) (0 + 1 + 0) (quad (N.take 0 ++ [⟨a, n, 1⟩] ++ N.drop 0)) from by rw [quad_append]; exact q1.mono fun k hk => hk.elim (fun h => RC.out.2 k h) (fun h => Nat.le_trans fC.out.size h))
        clear q1 q2
        have hS2 : (fun w' : World => w'.cell? ⟨xb, 0, none⟩ = some (.int .i64 (a : Nat)) ∧ w'.cell? ⟨xb, 1, none⟩ = some (.int .i64 (n : Nat))) wD := ⟨(HX9.out.fr (fD.out) fun h => h).cell 0, (HX9.out.fr (fD.out) fun h => h).cell 1⟩
        refine hK.out _ _ (fun _ => hS2) ?_
        clear hK K
        try simp only [Act.put, List.getElem_toArray, List.getElem_cons_succ, List.getElem_cons_zero, List.setIfInBounds_toArray, List.set_cons_zero, List.set_cons_succ]
        refine wpU_next (i := 13) rfl (by kernel_rfl) (fun K hK => ?_)
        go_simp
        refine hK.out _ _ (fun _ => hS2) ?_
        clear hK K
        try simp only [Act.put, List.getElem_toArray, List.getElem_cons_succ, List.getElem_cons_zero, List.setIfInBounds_toArray, List.set_cons_zero, List.set_cons_succ]
        refine wpU_next (i := 14) rfl (by kernel_rfl) (fun K hK => ?_)
        go_simp
        refine hK.out _ _ (fun _ => hS2) ?_
        clear hK K
        try simp only [Act.put, List.getElem_toArray, List.getElem_cons_succ, List.getElem_cons_zero, List.setIfInBounds_toArray, List.set_cons_zero, List.set_cons_succ]
        have FD := hid (((F1.out.then F6.out).then F9.out).then fD.out)
        have HBD := hid (HB.out.fr FD.out fun h => h)
        have kc := HBD.out.cell 1
        have kz := HBD.out.frozen 1
        have klt := HBD.out.lt
        refine wpU_next (i := 15) rfl (by kernel_rfl) (fun K hK => ?_)
        go_simp
        refine hK.out _ _ (fun h => absurd rfl h.1) ?_
        refine wpU_done (by kernel_rfl) ?_ _
        clear hK K
        clear kc kz klt hS2 hS
        go_wp2
        go_ret
        have hsz : 0 + 1 + 0 = (insN N a n).length := by
          unfold insN
          rw [Hah.out]
          simp only [List.length_append, List.length_take, List.length_drop, List.length_cons, List.length_nil]
          have := HM.out; have := Hk.out
          omega
        have hin : insN N a n = N.take 0 ++ [⟨a, n, 1⟩] ++ N.drop 0 := by unfold insN; rw [Hah.out]
        have hfs : Fr (fun k => k = sb) w (wD.setCell ⟨sb, 1, none⟩ (.slice A3 (0 + 1 + 0) c3)) := (FD.out.nil (S := fun k => k = sb)).setCell (a := ⟨sb, 1, none⟩) (.inl rfl) _
        have hnew : ∀ k, New W9 k → w.heap.size ≤ k := fun k hk => Nat.le_trans ((F1.out.then F6.out).then F9.out).size hk
        refine ⟨rfl, Rz.of (v1 := .slice A3 (0 + 1 + 0) c3) (v2 := v2) hfs.size HT.out (Hlt.out sb HT.out) (HBD.out.set 1 _) ?_ ?_, hfs⟩
        · rw [hin, show (N.take 0 ++ [(⟨a, n, 1⟩ : Us)] ++ N.drop 0).length = 0 + 1 + 0 from by rw [← hin, hsz]]
          refine (RD.out.setCell ?_ _).mono fun k hk => .inr (hnew k hk)
          intro e
          have h1 := hnew _ (RD.out.2 _ e)
          have h2 := Hlt.out sb HT.out
          dsimp only at h1
          omega
        · exact (H3.out.fr hfs (fun k hk e => (H3.out.apart_blk HB.out (by decide)) (by rw [hk, e]))).mono fun k hk => .inl hk
      · go_simp
        obtain ⟨wB, hwB⟩ : ∃ wB, wB = (W9.alloc (.cells #[.int .i64 (a : Nat), .int .i64 (n : Nat), .int .i64 1, .bool false] 72)).drew := ⟨_, rfl⟩
        have fB := hid (show Fr Nil W9 wB from by rw [hwB]; exact (((Fr.refl Nil W9)).alloc _).drew)
        have VB := hid (show View wB (New W9) 4 (.slice (some ⟨W9.heap.size, 0, none⟩) 1 1) 1 (qc ⟨a, n, 1⟩) from by
          rw [hwB]; exact (View.lit (s := 4) W9 #[.int .i64 (a : Nat), .int .i64 (n : Nat), .int .i64 1, .bool false] 72 (0, 0) 1 rfl (by decide)).drew.mono fun k hk => Nat.le_trans (show Fr Nil W9 W9 from (Fr.refl Nil W9)).size hk)
        rw [← hwB]
        have fBB := hid (show Fr Nil W9 wB from by rw [hwB]; exact ((Fr.refl Nil W9).alloc _).drew)
        clear hwB
        have hS2 : (fun w' : World => w'.cell? ⟨xb, 0, none⟩ = some (.int .i64 (a : Nat)) ∧ w'.cell? ⟨xb, 1, none⟩ = some (.int .i64 (n : Nat))) wB := ⟨(HX9.out.fr (fB.out) fun h => h).cell 0, (HX9.out.fr (fB.out) fun h => h).cell 1⟩
        refine hK.out _ _ (fun _ => hS2) ?_
        clear hK K
        try simp only [Act.put, List.getElem_toArray, List.getElem_cons_succ, List.getElem_cons_zero, List.setIfInBounds_toArray, List.set_cons_zero, List.set_cons_succ]
        refine wpU_next (i := 4) rfl (by kernel_rfl) (fun K hK => ?_)
        refine step_app_view rfl _ _ 68 (by rfl) (.agg #[.int .i64 0, .int .i64 0, .int .i64 0, .bool false]) 32 Try.underlying68 info_use rfl (by decide) (Row.nil wB Nil 72 4) (by rfl) (V1.out.fr (fB.out) fun _ _ _ h => h) (by rfl) (quad_cell _) (by have := Hk.out; omega) (by decide) ?_
        intro A1 c1 wA q1 q2
        rw [Nat.zero_add] at q1
        rw [Nat.zero_add]
        have fAA := hid (show Fr Nil wB wA from q2.mono fun k hk => by simp [Value.ownBlock] at hk)
        have fA := hid (show Fr Nil W9 wA from (fB.out).then (q2.mono fun k hk => by simp [Value.ownBlock] at hk))
        have RA := hid (show Row wA (New W9) 72 4 (.slice A1 0 c1) 0 (quad (N.take 0)) from q1.mono fun k hk => hk.elim (fun h => by simp [Value.ownBlock] at h) (fun h => Nat.le_trans (show Fr Nil W9 wB from fB.out).size h))
        clear q1 q2
        clear hS2
        have hS2 : (fun w' : World => w'.cell? ⟨xb, 0, none⟩ = some (.int .i64 (a : Nat)) ∧ w'.cell? ⟨xb, 1, none⟩ = some (.int .i64 (n : Nat))) wA := ⟨(HX9.out.fr (fA.out) fun h => h).cell 0, (HX9.out.fr (fA.out) fun h => h).cell 1⟩
        refine hK.out _ _ (fun _ => hS2) ?_
        clear hK K
        try simp only [Act.put, List.getElem_toArray, List.getElem_cons_succ, List.getElem_cons_zero, List.setIfInBounds_toArray, List.set_cons_zero, List.set_cons_succ]
        have RW := RA
        have VW := hid (VB.out.fr fAA.out fun _ _ _ h => h)
        refine wpU_next (i := 8) rfl (by kernel_rfl) (fun K hK => ?_)
        refine step_app_view rfl _ _ 68 (by rfl) (.agg #[.int .i64 0, .int .i64 0, .int .i64 0, .bool false]) 32 Try.underlying68 info_use rfl (by decide) RW.out (by rfl) VW.out (by rfl) (qc_cell _) (by have := Hk.out; omega) (by decide) ?_
        intro A2 c2 wC q1 q2
        have fC := hid (show Fr Nil W9 wC from (fA.out).trans q2 fun k hk => .inr (RW.out.2 k hk))
        have RC := hid (show Row wC (New W9) 72 4 (.slice A2 (0 + 1) c2) (0 + 1) (quad (N.take 0 ++ [⟨a, n, 1⟩])) from by rw [quad_append, quad_one]; exact q1.mono fun k hk => hk.elim (fun h => RW.out.2 k h) (fun h => Nat.le_trans (fA.out).size h))
        clear q1 q2
        have hS2 : (fun w' : World => w'.cell? ⟨xb, 0, none⟩ = some (.int .i64 (a : Nat)) ∧ w'.cell? ⟨xb, 1, none⟩ = some (.int .i64 (n : Nat))) wC := ⟨(HX9.out.fr (fC.out) fun h => h).cell 0, (HX9.out.fr (fC.out) fun h => h).cell 1⟩
        refine hK.out _ _ (fun _ => hS2) ?_
        clear hK K
        try simp only [Act.put, List.getElem_toArray, List.getElem_cons_succ, List.getElem_cons_zero, List.setIfInBounds_toArray, List.set_cons_zero, List.set_cons_succ]
        refine wpU_next (i := 12) rfl (by kernel_rfl) (fun K hK => ?_)
        refine step_app_view rfl _ _ 68 (by rfl) (.agg #[.int .i64 0, .int .i64 0, .int .i64 0, .bool false]) 32 Try.underlying68 info_use rfl (by decide) RC.out (by rfl) (V3.out.fr fC.out fun _ _ _ h => h) (by rfl) (quad_cell _) (by have := Hk.out; omega) (by decide) ?_
        intro A3 c3 wD q1 q2
        have fD := hid (show Fr Nil W9 wD from fC.out.trans q2 fun k hk => .inr (RC.out.2 k hk))
        have RD := hid (show Row wD (New W9) 72 4 (.slice A3 (0 + 1 + 0) c3) (0 + 1 + 0) (quad (N.take 0 ++ [⟨a, n, 1⟩] ++ N.drop 0)) from by rw [quad_append]; exact q1.mono fun k hk => hk.elim (fun h => RC.out.2 k h) (fun h => Nat.le_trans fC.out.size h))
        clear q1 q2
        have hS2 : (fun w' : World => w'.cell? ⟨xb, 0, none⟩ = some (.int .i64 (a : Nat)) ∧ w'.cell? ⟨xb, 1, none⟩ = some (.int .i64 (n : Nat))) wD := ⟨(HX9.out.fr (fD.out) fun h => h).cell 0, (HX9.out.fr (fD.out) fun h => h).cell 1⟩
        refine hK.out _ _ (fun _ => hS2) ?_
        clear hK K
        try simp only [Act.put, List.getElem_toArray, List.getElem_cons_succ, List.getElem_cons_zero, List.setIfInBounds_toArray, List.set_cons_zero, List.set_cons_succ]
        refine wpU_next (i := 13) rfl (by kernel_rfl) (fun K hK => ?_)
        go_simp
        refine hK.out _ _ (fun _ => hS2) ?_
        clear hK K
        try simp only [Act.put, List.getElem_toArray, List.getElem_cons_succ, List.getElem_cons_zero, List.setIfInBounds_toArray, List.set_cons_zero, List.set_cons_succ]
        refine wpU_next (i := 14) rfl (by kernel_rfl) (fun K hK => ?_)
        go_simp
        refine hK.out _ _ (fun _ => hS2) ?_
        clear hK K
        try simp only [Act.put, List.getElem_toArray, List.getElem_cons_succ, List.getElem_cons_zero, List.setIfInBounds_toArray, List.set_cons_zero, List.set_cons_succ]
        have FD := hid (((F1.out.then F6.out).then F9.out).then fD.out)
        have HBD := hid (HB.out.fr FD.out fun h => h)
        have kc := HBD.out.cell 1
        have kz := HBD.out.frozen 1
        have klt := HBD.out.lt
        refine wpU_next (i := 15) rfl (by kernel_rfl) (fun K hK => ?_)
        go_simp
        refine hK.out _ _ (fun h => absurd rfl h.1) ?_
        refine wpU_done (by kernel_rfl) ?_ _
        clear hK K
        clear kc kz klt hS2 hS
        go_wp2
        go_ret
        have hsz : 0 + 1 + 0 = (insN N a n).length := by
          unfold insN
          rw [Hah.out]
          simp only [List.length_append, List.length_take, List.length_drop, List.length_cons, List.length_nil]
          have := HM.out; have := Hk.out
          omega
        have hin : insN N a n = N.take 0 ++ [⟨a, n, 1⟩] ++ N.drop 0 := by unfold insN; rw [Hah.out]
        have hfs : Fr (fun k => k = sb) w (wD.setCell ⟨sb, 1, none⟩ (.slice A3 (0 + 1 + 0) c3)) := (FD.out.nil (S := fun k => k = sb)).setCell (a := ⟨sb, 1, none⟩) (.inl rfl) _
        have hnew : ∀ k, New W9 k → w.heap.size ≤ k := fun k hk => Nat.le_trans ((F1.out.then F6.out).then F9.out).size hk
        refine ⟨rfl, Rz.of (v1 := .slice A3 (0 + 1 + 0) c3) (v2 := v2) hfs.size HT.out (Hlt.out sb HT.out) (HBD.out.set 1 _) ?_ ?_, hfs⟩
        · rw [hin, show (N.take 0 ++ [(⟨a, n, 1⟩ : Us)] ++ N.drop 0).length = 0 + 1 + 0 from by rw [← hin, hsz]]
          refine (RD.out.setCell ?_ _).mono fun k hk => .inr (hnew k hk)
          intro e
          have h1 := hnew _ (RD.out.2 _ e)
          have h2 := Hlt.out sb HT.out
          dsimp only at h1
          omega
        · exact (H3.out.fr hfs (fun k hk e => (H3.out.apart_blk HB.out (by decide)) (by rw [hk, e]))).mono fun k hk => .inl hk
end Go.Proofs.Ytjieckaeplkafaa

/- The reference's Shares: Settle. Conditions: the bounds of its lists. -/
import Derived.Test.YtjieckaeplkafaaRzB
import Derived.Test.YtjieckaeplkafaaSRpM
import Derived.Test.YtjieckaeplkafaaUntil
set_option linter.unusedSimpArgs false
set_option linter.unusedVariables false
namespace Go.Proofs.Ytjieckaeplkafaa
open Go.RowKit
def kpN (N : List Us) : List Us := N.filter (lateP false)
theorem kpN_take {N : List Us} {i : Nat} (h : i < N.length) : kpN (N.take (i + 1)) = kpN (N.take i) ++ if lateP false (us N i) = true then [us N i] else [] := by
  unfold kpN
  rw [List.take_succ_eq_append_getElem h, List.filter_append, us_eq h, List.filter_cons, List.filter_nil]
theorem kpN_le (N : List Us) (i : Nat) : (kpN (N.take i)).length ≤ i := Nat.le_trans (List.length_filter_le _ _) (by rw [List.length_take]; omega)
theorem sumN_snoc (l : List Rn) (r : Rn) : sumN (l ++ [r]) = sumN l + r.n := by rw [sumN_eq, sumN_eq]; simp
theorem givs_snoc (bl : Nat) (l rs : List Rn) (r : Rn) : givs bl l (rs ++ [r]) = giveL bl (givs bl l rs) (r.a : Nat) (r.n : Nat) := by unfold givs; rw [List.foldl_append]; rfl
theorem sumN_bd {rs : List Rn} (h : ∀ r ∈ rs, r.n ≤ 8192) : sumN rs ≤ rs.length * 8192 := by
  rw [sumN_eq]
  induction rs with
  | nil => simp
  | cons r rs ih =>
    have h1 := ih fun x hx => h x (List.mem_cons_of_mem _ hx)
    have h2 := h r List.mem_cons_self
    rw [List.map_cons, List.sum_cons, List.length_cons]; omega
set_option maxRecDepth 20000 in
set_option maxHeartbeats 1000000 in
theorem rz_settle (T : Nat → Prop) (sb mb fb bl : Nat) (N W : List Us) (l : List Rn) (F : List Bool) (w : World) (h : Rz w T sb mb N W) (hR : Rf w mb fb F) (hF : Fre bl l F) (hT : ∀ k, T k → k ≠ mb ∧ k ≠ fb) (hN : N.length ≤ 8192) (hb : ∀ u ∈ N, u.a ≤ 8192 ∧ u.n ≤ 8192) :
    Calls Try.prog 28 #[.pointer (some ⟨sb, 0, none⟩)] w fun e w' => e = .returned (.int .i64 (sumN (lsN N true) : Nat)) ∧
      (∃ T', Rz w' T' sb mb (kpN N) (kpN N) ∧ ∀ k, T' k → T k ∨ w.heap.size ≤ k) ∧ (∃ F', Rf w' mb fb F' ∧ Fre bl (givs bl l (lsN N true)) F') ∧ Fr (fun k => k = sb ∨ k = fb) w w' := by
  obtain ⟨⟨v1, v2, h1, h2, h3⟩, h4, h5⟩ := h
  obtain ⟨A, c, rfl⟩ := h2.slice
  have HB := hid h1
  have HV := hid (h2.view)
  have HT := hid hT
  have Hts := hid h4
  have Hlt := hid h5
  have HR := hid hR
  have HFr := hid hF
  have Hbd := hid hb
  obtain ⟨M, hM⟩ : ∃ M, M = N.length := ⟨_, rfl⟩
  rw [← hM] at HV HB hN
  have HM := hid hM
  clear h1 h2 h3 h4 h5 hR hF hT hb hM
  go_enter Try.func28, Try.ntmps28
  go_wp2_with fail
  go_loopw [3, 4, 5] (fun v3 v4 v5 wx => ∃ (i m s : Nat) (A3 : Option Addr) (c3 : Nat), v5 = .int .i64 i ∧ v4 = .slice A3 m c3 ∧ v3 = .int .i64 s ∧ i ≤ M ∧ m ≤ i ∧ s ≤ i * 8192 ∧ Hid (s = sumN (lsN (N.take i) true) ∧ m = (kpN (N.take i)).length) ∧ Fr (fun k => k = fb) w wx ∧ Row wx (New w) 72 4 (.slice A3 m c3) m (quad (kpN (N.take i))) ∧ Hid (∃ F', Rf wx mb fb F' ∧ Fre bl (givs bl l (lsN (N.take i) true)) F')) (fun _ _ v5 _ => M - (intOf v5).toNat)
  case atStart => exact ⟨0, 0, 0, none, 0, rfl, rfl, rfl, by omega, Nat.le_refl _, by omega, hid ⟨rfl, rfl⟩, Fr.refl _ _, Row.nil w (New w) 72 4, hid ⟨F, HR.out, HFr.out⟩⟩
  case round =>
    obtain ⟨i, m, s, A3, c3, rfl, rfl, rfl, hi, hmi, hsi, hms, hfw, hrow, hRF⟩ := hrel
    have hsf : ¬ sb = fb := (HT.out sb Hts.out).2
    have hBr := HB.out.fr hfw hsf
    have c1 : wr.cell? ⟨sb, 1, none⟩ = some (.slice A M c) := hBr.cell 1
    by_cases hlt : i < M
    · obtain ⟨b, o, rfl, -, hbl, q0, q1, q2, q3⟩ := uz_at (HV.out.fr hfw fun k hk _ => (HT.out k hk).2) hlt
      have hiN : i < N.length := by rw [← HM.out]; exact hlt
      have hst := hid (lsN_take hiN true)
      have hkt := hid (kpN_take hiN)
      have hbx := Hbd.out (us N i) (by rw [us_eq hiN]; exact List.getElem_mem hiN)
      obtain ⟨⟨xa, xn, xk⟩, hx⟩ : ∃ x, x = us N i := ⟨_, rfl⟩
      rw [← hx] at q0 q1 q2 q3 hst hkt hbx
      dsimp only at q0 q1 q2 q3 hbx
      have hxa : xa ≤ 8192 := hbx.1
      have hxn : xn ≤ 8192 := hbx.2
      have Hr := hid hrow
      have Hf := hid hfw
      have Hsf := hid hsf
      clear hx hrow hfw hiN hbx hsf
      obtain ⟨q, hq⟩ : ∃ q, q = decide (xk = 0) := ⟨_, rfl⟩
      rw [← hq] at q3
      have Hq := hid hq
      clear hq
      go_upto_region 7 with (fail)
      obtain ⟨W1, hW1⟩ : ∃ W1, W1 = wr.alloc (.cells #[.int .i64 (xa : Nat), .int .i64 (xn : Nat), .int .i64 (xk : Nat), .bool q] 72) := ⟨_, rfl⟩
      have f1 : Fr Nil wr W1 := by rw [hW1]; exact (Fr.refl _ _).alloc _
      have hX0 : Blk W1 wr.heap.size #[.int .i64 (xa : Nat), .int .i64 (xn : Nat), .int .i64 (xk : Nat), .bool q] 72 := by rw [hW1]; exact Blk.new _ _ _
      rw [← hW1]
      clear hW1
      obtain ⟨xb, hxb⟩ : ∃ xb, xb = wr.heap.size := ⟨_, rfl⟩
      rw [← hxb] at hX0 ⊢
      have HX := hid hX0
      have F1 := hid f1
      have Hxb := hid hxb
      have x2 : W1.cell? ⟨xb, 2 + 1, none⟩ = some (.bool q) := hX0.cell 3
      have x3 : W1.cell? ⟨xb, 3, none⟩ = some (.bool q) := hX0.cell 3
      have HB1 := hid (hBr.fr f1 fun h => h)
      clear hX0 f1 hxb hBr c1 q0 q1 q2 q3 hbl
      by_cases hk0 : xk = 0
      · obtain rfl : q = true := by rw [Hq.out]; simp [hk0]
        have Hk0 := hid hk0
        clear hk0
        go_upto_region 8 with (fail)
        clear x2 x3
        have hSK : (fun w' : World => w'.cell? ⟨sb, 0, none⟩ = some (.pointer (some ⟨mb, 0, none⟩)) ∧ w'.cell? ⟨xb, 0, none⟩ = some (.int .i64 (xa : Nat)) ∧ w'.cell? ⟨xb, 1, none⟩ = some (.int .i64 (xn : Nat))) W1.drew := ⟨HB1.out.drew.cell 0, HX.out.drew.cell 0, HX.out.drew.cell 1⟩
        refine wpU_region (k := 10) (S := (fun w' : World => w'.cell? ⟨sb, 0, none⟩ = some (.pointer (some ⟨mb, 0, none⟩)) ∧ w'.cell? ⟨xb, 0, none⟩ = some (.int .i64 (xa : Nat)) ∧ w'.cell? ⟨xb, 1, none⟩ = some (.int .i64 (xn : Nat)))) (by kernel_rfl) ?_
        refine wpU_take (i := 0) (v := ?_) rfl (by kernel_rfl) (by kernel_rfl) (fun _ _ _ h => h) _ _ _ _ (by kernel_rfl) (by kernel_rfl) (by kernel_rfl) (Or.inl ⟨by kernel_rfl, ?_⟩) hSK ?_
        rotate_left
        · (intro w9 hS9; obtain ⟨s0, s1, s2⟩ := hS9; go_simp); (try with_reducible rfl)
        try simp only [Act.put, List.getElem_toArray, List.getElem_cons_succ, List.getElem_cons_zero, List.setIfInBounds_toArray, List.set_cons_zero, List.set_cons_succ]
        refine wpU_take (i := 1) (v := ?_) rfl (by kernel_rfl) (by kernel_rfl) (fun _ _ _ h => h) _ _ _ _ (by kernel_rfl) (by kernel_rfl) (by kernel_rfl) (Or.inl ⟨by kernel_rfl, ?_⟩) hSK ?_
        rotate_left
        · (intro w9 hS9; obtain ⟨s0, s1, s2⟩ := hS9; go_simp); (try with_reducible rfl)
        try simp only [Act.put, List.getElem_toArray, List.getElem_cons_succ, List.getElem_cons_zero, List.setIfInBounds_toArray, List.set_cons_zero, List.set_cons_succ]
        refine wpU_take (i := 2) (v := ?_) rfl (by kernel_rfl) (by kernel_rfl) (fun _ _ _ h => h) _ _ _ _ (by kernel_rfl) (by kernel_rfl) (by kernel_rfl) (Or.inl ⟨by kernel_rfl, ?_⟩) hSK ?_
        rotate_left
        · (intro w9 hS9; obtain ⟨s0, s1, s2⟩ := hS9; go_simp); (try with_reducible rfl)
        try simp only [Act.put, List.getElem_toArray, List.getElem_cons_succ, List.getElem_cons_zero, List.setIfInBounds_toArray, List.set_cons_zero, List.set_cons_succ]
        refine wpU_take (i := 3) (v := ?_) rfl (by kernel_rfl) (by kernel_rfl) (fun _ _ _ h => h) _ _ _ _ (by kernel_rfl) (by kernel_rfl) (by kernel_rfl) (Or.inl ⟨by kernel_rfl, ?_⟩) hSK ?_
        rotate_left
        · (intro w9 hS9; obtain ⟨s0, s1, s2⟩ := hS9; go_simp); (try with_reducible rfl)
        try simp only [Act.put, List.getElem_toArray, List.getElem_cons_succ, List.getElem_cons_zero, List.setIfInBounds_toArray, List.set_cons_zero, List.set_cons_succ]
        refine wpU_take (i := 4) (v := ?_) rfl (by kernel_rfl) (by kernel_rfl) (fun _ _ _ h => h) _ _ _ _ (by kernel_rfl) (by kernel_rfl) (by kernel_rfl) (Or.inl ⟨by kernel_rfl, ?_⟩) hSK ?_
        rotate_left
        · (intro w9 hS9; obtain ⟨s0, s1, s2⟩ := hS9; go_simp); (try with_reducible rfl)
        try simp only [Act.put, List.getElem_toArray, List.getElem_cons_succ, List.getElem_cons_zero, List.setIfInBounds_toArray, List.set_cons_zero, List.set_cons_succ]
        refine wpU_take (i := 5) (v := ?_) rfl (by kernel_rfl) (by kernel_rfl) (fun _ _ _ h => h) _ _ _ _ (by kernel_rfl) (by kernel_rfl) (by kernel_rfl) (Or.inl ⟨by kernel_rfl, ?_⟩) hSK ?_
        rotate_left
        · (intro w9 hS9; obtain ⟨s0, s1, s2⟩ := hS9; go_simp); (try with_reducible rfl)
        try simp only [Act.put, List.getElem_toArray, List.getElem_cons_succ, List.getElem_cons_zero, List.setIfInBounds_toArray, List.set_cons_zero, List.set_cons_succ]
        refine wpU_take (i := 6) (v := ?_) rfl (by kernel_rfl) (by kernel_rfl) (fun _ _ _ h => h) _ _ _ _ (by kernel_rfl) (by kernel_rfl) (by kernel_rfl) (Or.inl ⟨by kernel_rfl, ?_⟩) hSK ?_
        rotate_left
        · (intro w9 hS9; obtain ⟨s0, s1, s2⟩ := hS9; go_simp); (try with_reducible rfl)
        try simp only [Act.put, List.getElem_toArray, List.getElem_cons_succ, List.getElem_cons_zero, List.setIfInBounds_toArray, List.set_cons_zero, List.set_cons_succ]
        refine wpU_take (i := 7) (v := ?_) rfl (by kernel_rfl) (by kernel_rfl) (fun _ _ _ h => h) _ _ _ _ (by kernel_rfl) (by kernel_rfl) (by kernel_rfl) (Or.inl ⟨by kernel_rfl, ?_⟩) hSK ?_
        rotate_left
        · (intro w9 hS9; obtain ⟨s0, s1, s2⟩ := hS9; go_simp); (try with_reducible rfl)
        try simp only [Act.put, List.getElem_toArray, List.getElem_cons_succ, List.getElem_cons_zero, List.setIfInBounds_toArray, List.set_cons_zero, List.set_cons_succ]
        refine wpU_take (i := 8) (v := ?_) rfl (by kernel_rfl) (by kernel_rfl) (fun _ _ _ h => h) _ _ _ _ (by kernel_rfl) (by kernel_rfl) (by kernel_rfl) (Or.inl ⟨by kernel_rfl, ?_⟩) hSK ?_
        rotate_left
        · (intro w9 hS9; obtain ⟨s0, s1, s2⟩ := hS9; go_simp); (try with_reducible rfl)
        try simp only [Act.put, List.getElem_toArray, List.getElem_cons_succ, List.getElem_cons_zero, List.setIfInBounds_toArray, List.set_cons_zero, List.set_cons_succ]
        refine wpU_take (i := 9) (v := ?_) rfl (by kernel_rfl) (by kernel_rfl) (fun _ _ _ h => h) _ _ _ _ (by kernel_rfl) (by kernel_rfl) (by kernel_rfl) (Or.inl ⟨by kernel_rfl, ?_⟩) hSK ?_
        rotate_left
        · (intro w9 hS9; obtain ⟨s0, s1, s2⟩ := hS9; go_simp); (try with_reducible rfl)
        try simp only [Act.put, List.getElem_toArray, List.getElem_cons_succ, List.getElem_cons_zero, List.setIfInBounds_toArray, List.set_cons_zero, List.set_cons_succ]
        clear hSK
        obtain ⟨F', hRF1, hRF2⟩ := hRF.out
        have HRF := hid (hRF1.nil (F1.out.then (Fr.refl Nil W1).drew))
        have HRF2 := hid hRF2
        have hfb := hRF1.2.lt
        have Hfb := hid hfb
        clear hRF1 hRF2 hfb
        refine wpU_next (i := 10) rfl (by kernel_rfl) (fun K hK => ?_)
        go_simp
        refine (ref_give mb fb bl (givs bl l (lsN (N.take i) true)) F' (xa : Nat) (xn : Nat) W1.drew HRF.out HRF2.out (by omega) (by omega)).mono ?_
        rintro e w3 ⟨rfl, hF3, hf3⟩
        have HX3 := hid (HX.out.drew.fr hf3 fun h => by have := Hfb.out; have := Hxb.out; omega)
        have F3 := hid ((Hf.out.then (F1.out.nil (S := fun k => k = fb))).then ((Fr.refl (fun k => k = fb) W1).drew.then hf3))
        have HF3 := hid hF3
        have HR3 := hid ((Hr.out.fr F1.out fun _ _ h => h).drew.fr hf3 fun k hk h => by have := Hr.out.2 k hk; have h9 : w.heap.size ≤ k := this; have := HR.out.2.lt; omega)
        refine hK.out _ _ (fun h => absurd rfl h.1) ?_
        refine wpU_done (by kernel_rfl) ?_ _
        clear hK K hF3 hf3
        have p1 : w3.cell? ⟨xb, 1, none⟩ = some (.int .i64 (xn : Nat)) := HX3.out.cell 1
        have hs9 : s ≤ 100000000 := by omega
        have Hsi := hid hsi
        clear hsi
        go_wp2
        go_roundw
        case rel =>
          have e1 := hst.out
          have e2 := hkt.out
          rw [if_pos (by unfold lateP; simp [Hk0.out])] at e1
          rw [if_neg (by unfold lateP; simp [Hk0.out]), List.append_nil] at e2
          refine ⟨i + 1, m, s + xn, A3, c3, by go_num, rfl, by go_num, by omega, by omega, by have := Hsi.out; omega, hid ⟨by rw [e1, sumN_snoc, ← hms.out.1]; rfl, by rw [e2]; exact hms.out.2⟩, F3.out, by rw [e2]; exact HR3.out, hid ?_⟩
          rw [e1, givs_snoc]
          exact HF3.out
        case measure => simp [intOf]; omega
      · obtain rfl : q = false := by rw [Hq.out]; simp [hk0]
        have Hk0 := hid hk0
        clear hk0
        have y0 : W1.cell? ⟨xb, 0, none⟩ = some (.int .i64 (xa : Nat)) := HX.out.cell 0
        have y1 : W1.cell? ⟨xb, 1, none⟩ = some (.int .i64 (xn : Nat)) := HX.out.cell 1
        have y2 : W1.cell? ⟨xb, 2, none⟩ = some (.int .i64 (xk : Nat)) := HX.out.cell 2
        go_wp2_with (at_builtin; refine wp_app_view rfl _ _ 68 rfl (.agg #[.int .i64 0, .int .i64 0, .int .i64 0, .bool false]) 32 Try.underlying68 info_use rfl (by decide) ((Hr.out.fr F1.out fun _ _ h => h).alloc _) rfl (View.lit (s := 4) W1 #[.int .i64 (xa : Nat), .int .i64 (xn : Nat), .int .i64 (xk : Nat), .bool false] 72 (0, 0) 1 rfl (by decide)) rfl (by simp [Value.oneCell']) (by omega) (by decide) ?_)
        rintro A6 c6 w6 r1 r2 -
        have hr0 := Hr.out
        have fal : Fr Nil W1 (W1.alloc (.cells #[.int .i64 (xa : Nat), .int .i64 (xn : Nat), .int .i64 (xk : Nat), .bool false] 72)) := (Fr.refl _ _).alloc _
        have f6 : Fr (fun k => k = fb) w w6 := ((Hf.out.then F1.out.nil).then fal.nil).trans r2 fun k hk => .inr (hr0.2 k hk)
        have hRF6 : ∃ F', Rf w6 mb fb F' ∧ Fre bl (givs bl l (lsN (N.take i) true)) F' := by
          obtain ⟨F', hRF1, hRF2⟩ := hRF.out
          have hn : ∀ k, k < w.heap.size → ¬ (Value.slice A3 m c3).ownBlock = some k := fun k hk h => by have h9 : w.heap.size ≤ k := hr0.2 k h; omega
          exact ⟨F', ((hRF1.nil F1.out).nil fal).fr r2 (hn mb HR.out.1.lt) (hn fb HR.out.2.lt), hRF2⟩
        have HRF6 := hid hRF6
        have F6 := hid f6
        have HR6 := hid (show Row w6 (New w) 72 4 (.slice A6 (m + 1) c6) (m + 1) (quad (kpN (N.take i)) ++ [.int .i64 (xa : Nat), .int .i64 (xn : Nat), .int .i64 (xk : Nat), .bool false]) from r1.mono fun k hk => hk.elim (fun h => hr0.2 k h) (fun h => Nat.le_trans (Nat.le_trans (Hf.out.size) (Nat.le_trans F1.out.size fal.size)) h))
        clear r1 r2 hr0 fal f6 hRF6 y0 y1 y2 x2 x3
        go_wp2
        go_roundw
        case rel =>
          have e1 := hst.out
          have e2 := hkt.out
          rw [if_neg (by unfold lateP; simp [Hk0.out]), List.append_nil] at e1
          rw [if_pos (by unfold lateP; simp [Hk0.out])] at e2
          refine ⟨i + 1, m + 1, s, A6, c6, by go_num, rfl, rfl, by omega, by omega, by omega, hid ⟨by rw [e1]; exact hms.out.1, by rw [e2, List.length_append, ← hms.out.2]; rfl⟩, F6.out, ?_, hid (by rw [e1]; exact HRF6.out)⟩
          rw [e2, quad_append, quad_one, show qc ⟨xa, xn, xk⟩ = [.int .i64 (xa : Nat), .int .i64 (xn : Nat), .int .i64 (xk : Nat), .bool false] from by simp [qc, Hk0.out]]
          exact HR6.out
        case measure => simp [intOf]; omega
    · have hE : i = M := by omega
      have e : N.take i = N := List.take_of_length_le (by rw [← HM.out]; omega)
      rw [e] at hrow hms hRF
      have Hr := hid hrow
      have Hf := hid hfw
      have HBr := hid hBr
      have Hsf := hid hsf
      clear hrow hfw hBr hsf e hsi
      go_wp2_with (at_builtin; refine wp_app_view rfl _ _ 68 rfl (.agg #[.int .i64 0, .int .i64 0, .int .i64 0, .bool false]) 32 Try.underlying68 info_use rfl (by decide) (Row.nil wr Nil 72 4) rfl Hr.out.view rfl (quad_cell _) (by omega) (by decide) ?_)
      rintro A6 c6 w6 r1 r2 -
      rw [Nat.zero_add] at r1
      rw [Nat.zero_add]
      have hf6 : Fr Nil wr w6 := r2.mono fun k hk => by simp [Value.ownBlock] at hk
      have HR6 := hid (show Row w6 (New w) 72 4 (.slice A6 m c6) m (quad (kpN N)) from r1.mono fun k hk => hk.elim (fun h => by simp [Value.ownBlock] at h) (fun h => Nat.le_trans Hf.out.size h))
      have HR5 := hid (Hr.out.fr hf6 fun _ _ h => h)
      have HB6 := hid (HBr.out.fr hf6 fun h => h)
      have F6 := hid (Hf.out.then hf6.nil)
      have F6n := hid hf6
      have d1 := HB6.out.cell 1
      have d2 := HB6.out.cell 2
      have z1 := HB6.out.frozen 1
      have z2 := HB6.out.frozen 2
      have hl6 := HB6.out.lt
      clear r1 r2 hf6 c1
      go_wp2
      go_ret
      have hfs : Fr (fun k => k = sb) w6 ((w6.setCell ⟨sb, 1, none⟩ (.slice A3 m c3)).setCell ⟨sb, 2, none⟩ (.slice A6 m c6)) := ((Fr.refl (fun k => k = sb) w6).setCell (a := ⟨sb, 1, none⟩) (.inl rfl) _).setCell (a := ⟨sb, 2, none⟩) (.inl rfl) _
      have hfa : Fr (fun k => k = sb ∨ k = fb) w ((w6.setCell ⟨sb, 1, none⟩ (.slice A3 m c3)).setCell ⟨sb, 2, none⟩ (.slice A6 m c6)) := (F6.out.mono fun k hk => .inr hk).then (hfs.mono fun k hk => .inl hk)
      have hne : ∀ {v : Value}, (∀ k, v.ownBlock = some k → w.heap.size ≤ k) → ∀ k, v.ownBlock = some k → ¬ k = sb := fun h k hk e => by
        have h1 := h k hk
        have := Hlt.out sb Hts.out
        omega
      refine ⟨by rw [← hms.out.1]; rfl, Rz.of (v1 := .slice A3 m c3) (v2 := .slice A6 m c6) hfa.size Hts.out (Hlt.out sb Hts.out) ((HB6.out.set 1 _).set 2 _) ?_ ?_, ?_, hfa⟩
      · rw [← hms.out.2]
        exact (HR5.out.fr hfs (hne HR5.out.2)).mono fun k hk => .inr hk
      · rw [← hms.out.2]
        exact (HR6.out.fr hfs (hne HR6.out.2)).mono fun k hk => .inr hk
      · obtain ⟨F', g1, g2⟩ := hRF.out
        exact ⟨F', (g1.nil F6n.out).fr hfs (fun h => (HT.out sb Hts.out).1 h.symm) (fun h => (HT.out sb Hts.out).2 h.symm), g2⟩
end Go.Proofs.Ytjieckaeplkafaa

/- NodeDecodes: its walk (chapter 13). -/
import Derived.Test.YtidpabcfcdiecaaNdA
set_option linter.unusedSimpArgs false
set_option linter.unusedVariables false
namespace Go.Proofs.Ytidpabcfcdiecaa
open Go.RowKit
theorem u8_bys : ∀ (l : List Int), (∀ z ∈ l, (Lit.int .u8 z).wf = true) → ints .u8 l = bys (l.map Int.toNat) ∧ Byt (l.map Int.toNat)
  | [], _ => ⟨rfl, fun c hc => by simp at hc⟩
  | z :: l, h => by
    obtain ⟨h1, h2⟩ := u8_bys l fun y hy => h y (List.mem_cons_of_mem _ hy)
    have hb := bounds_u8 (h z (List.mem_cons_self ..))
    refine ⟨?_, fun c hc => ?_⟩
    · simp only [ints, bys, List.map_cons] at h1 ⊢
      rw [h1, Int.toNat_of_nonneg hb.1]
    · rcases List.mem_cons.1 hc with rfl | hc
      · omega
      · exact h2 c hc
/-- The node and the error of an answer. -/
def ndOf : Sum Nd Int → Nd
  | .inl x => x
  | .inr _ => ⟨0, [], [], [], []⟩
def erOf : Sum Nd Int → Int
  | .inl _ => 0
  | .inr e => e
theorem dgen {w w' : World} {e : Ending} : ∀ (D : Sum Nd Int), DPost w e w' D → ∃ q, e = .returned (.tuple #[.agg (ncells (ndOf D) q), .int .i64 (erOf D)]) ∧ Vs w' (New w) q (ndOf D) ∧ Fr Nil w w'
  | .inl x, h => h
  | .inr er, h => ⟨⟨none, 0, none, 0, none, 0, none, 0⟩, h.1, ⟨View.nil _ _ _, View.nil _ _ _, View.nil _ _ _, View.nil _ _ _⟩, h.2⟩
theorem may_lens {x : Nd} (h : MayNd x) : x.ps.length ≤ 8 ∧ x.gs.length = x.ps.length ∧ x.ds.length ≤ 8 := by
  have h1 := h.2.1.1
  by_cases h0 : x.h = 0
  · obtain ⟨a, b, c, _⟩ := h.2.2.1 h0; omega
  · obtain ⟨_, a, b, c, _⟩ := h.2.2.2 h0; omega
theorem decd_may {xs : List Nat} {x : Nd} (h : decd xs = .inl x) : MayNd x := by
  unfold decd at h
  cases ho : outc xs with
  | bad e => rw [ho] at h; cases h
  | big r => rw [ho] at h; cases h
  | good y rest =>
    rw [ho] at h
    dsimp only at h
    split at h
    · cases h
    · split at h
      · injection h with h; subst h; assumption
      · cases h
theorem decd_nz {xs : List Nat} {e : Int} (h : decd xs = .inr e) : e ≠ 0 := by
  unfold decd at h
  cases ho : outc xs with
  | bad er => rw [ho] at h; cases h; exact bad_ne (outc_bad ho)
  | big r => rw [ho] at h; cases h; decide
  | good y rest =>
    rw [ho] at h
    dsimp only at h
    split at h
    · cases h; decide
    · split at h
      · cases h
      · cases h; decide
set_option maxRecDepth 100000 in
set_option maxHeartbeats 1600000 in
theorem decodes_ok (A : Option Addr) (n c : Nat) (zs : List Int) (w : World) (hr : IsRow .u8 w A n c zs) :
    Calls Try.prog 4 #[.slice A n c] w fun e w' => e = .returned (.bool true) ∧ Fr Nil w w' := by
  obtain ⟨hv, hlen, hwf⟩ := hr.view
  obtain ⟨he, hB⟩ := u8_bys _ hwf
  rw [he] at hv
  obtain ⟨xs, hxs⟩ : ∃ xs, xs = (zs.take n).map Int.toNat := ⟨_, rfl⟩
  rw [← hxs] at hv hB
  clear hxs he hwf hlen hr
  have hnle := hv.le
  go_enter Try.func4, Try.ntmps4
  go_wp2_with fail
  refine (ndawake_ok _).mono ?_
  rintro e w1 ⟨rfl, hf1⟩
  replace hv := hv.fr hf1 fun _ _ _ h => h
  by_cases hn : 1000 < n
  · go_wp2
    go_ret
    exact ⟨rfl, hf1⟩
  go_wp2_with fail
  refine (dec_ok _ _ n xs (by omega) hB w1 hv).mono ?_
  intro e w2 hp
  obtain ⟨q2, rfl, hV2, hf2⟩ := dgen _ hp
  clear hp
  have hD0 : erOf (decd xs) = 0 → MayNd (ndOf (decd xs)) ∧ encs (pre (ndOf (decd xs)) (ndOf (decd xs)).ks.length) = xs := by
    cases hd : decd xs with
    | inl x => exact fun _ => decd_inv hB hd
    | inr er => exact fun h => absurd h (decd_nz hd)
  have hL : (ndOf (decd xs)).ps.length ≤ 8 ∧ (ndOf (decd xs)).gs.length = (ndOf (decd xs)).ps.length ∧ (ndOf (decd xs)).ds.length ≤ 8 := by
    cases hd : decd xs with
    | inl x => exact may_lens (decd_may hd)
    | inr er => exact ⟨Nat.zero_le _, rfl, Nat.zero_le _⟩
  obtain ⟨D, hD⟩ : ∃ D, D = decd xs := ⟨_, rfl⟩
  rw [← hD] at hV2 hD0 hL ⊢
  have HD := hid hD; clear hD
  obtain ⟨x, hx⟩ : ∃ x, x = ndOf D := ⟨_, rfl⟩
  obtain ⟨er, her⟩ : ∃ x, x = erOf D := ⟨_, rfl⟩
  rw [← hx] at hV2 hD0 hL ⊢
  rw [← her] at hD0 ⊢
  have Hx := hid hx; have Her := hid her; clear hx her
  have hD9 := hid hD0; clear hD0
  have hL9 := hid hL; clear hL
  replace hv := hv.fr hf2 fun _ _ _ h => h
  replace hf1 := hf1.then hf2
  clear hf2
  unfold ncells
  go_wp2_with fail
  obtain ⟨W3, hW3⟩ : ∃ W3, W3 = w2.alloc (.cells (ncells x q2) 35) := ⟨_, rfl⟩
  have hx3 : Blk W3 w2.heap.size (ncells x q2) 35 := by rw [hW3]; exact Blk.new _ _ _
  have hf3 : Fr Nil w2 W3 := by rw [hW3]; exact (Fr.refl _ _).alloc _
  unfold ncells at hW3
  rw [← hW3]
  clear hW3
  obtain ⟨xb, hxb⟩ : ∃ xb, xb = w2.heap.size := ⟨_, rfl⟩
  rw [← hxb] at hx3 ⊢
  clear hxb
  replace hv := hv.fr hf3 fun _ _ _ h => h
  replace hV2 := hV2.nil hf3
  replace hf1 := hf1.then hf3
  clear hf3
  refine (refdec_ok _ _ n xs (by omega) hB W3 hv).mono ?_
  intro e w4 hp
  rw [← HD.out] at hp
  obtain ⟨q3, rfl, hV3, hf4⟩ := dgen _ hp
  clear hp
  rw [← Hx.out] at hV3 ⊢
  rw [← Her.out]
  replace hx3 := hx3.fr hf4 fun h => h
  replace hv := hv.fr hf4 fun _ _ _ h => h
  replace hV2 := hV2.nil hf4
  replace hf1 := hf1.then hf4
  clear hf4
  unfold ncells
  go_wp2_with fail
  obtain ⟨W5, hW5⟩ : ∃ W5, W5 = w4.alloc (.cells (ncells x q3) 26) := ⟨_, rfl⟩
  have hy5 : Blk W5 w4.heap.size (ncells x q3) 26 := by rw [hW5]; exact Blk.new _ _ _
  have hf5 : Fr Nil w4 W5.drew := by rw [hW5]; exact ((Fr.refl _ _).alloc _).drew
  unfold ncells at hW5
  rw [← hW5]
  clear hW5
  obtain ⟨yb, hyb⟩ : ∃ xb, xb = w4.heap.size := ⟨_, rfl⟩
  rw [← hyb] at hy5 ⊢
  clear hyb
  replace hx3 := hx3.fr hf5 fun h => h
  replace hy5 := hy5.drew
  replace hv := hv.fr hf5 fun _ _ _ h => h
  replace hV2 := hV2.nil hf5
  replace hV3 := hV3.nil hf5
  replace hf1 := hf1.then hf5
  clear hf5
  have hS : (fun w' : World => (w'.cell? ⟨xb, 0, none⟩ = some (.int .i64 x.h) ∧ w'.cell? ⟨xb, 1, none⟩ = some (.slice q2.A1 x.ks.length q2.c1) ∧ w'.cell? ⟨xb, 2, none⟩ = some (.slice q2.A2 x.ps.length q2.c2) ∧ w'.cell? ⟨xb, 3, none⟩ = some (.slice q2.A3 x.gs.length q2.c3) ∧ w'.cell? ⟨xb, 4, none⟩ = some (.slice q2.A4 x.ds.length q2.c4)) ∧ (w'.cell? ⟨yb, 0, none⟩ = some (.int .i64 x.h) ∧ w'.cell? ⟨yb, 1, none⟩ = some (.slice q3.A1 x.ks.length q3.c1) ∧ w'.cell? ⟨yb, 2, none⟩ = some (.slice q3.A2 x.ps.length q3.c2) ∧ w'.cell? ⟨yb, 3, none⟩ = some (.slice q3.A3 x.gs.length q3.c3) ∧ w'.cell? ⟨yb, 4, none⟩ = some (.slice q3.A4 x.ds.length q3.c4))) W5.drew := ⟨nd_cells hx3, nd_cells hy5⟩
  refine wpU_region (k := 9) (S := (fun w' : World => (w'.cell? ⟨xb, 0, none⟩ = some (.int .i64 x.h) ∧ w'.cell? ⟨xb, 1, none⟩ = some (.slice q2.A1 x.ks.length q2.c1) ∧ w'.cell? ⟨xb, 2, none⟩ = some (.slice q2.A2 x.ps.length q2.c2) ∧ w'.cell? ⟨xb, 3, none⟩ = some (.slice q2.A3 x.gs.length q2.c3) ∧ w'.cell? ⟨xb, 4, none⟩ = some (.slice q2.A4 x.ds.length q2.c4)) ∧ (w'.cell? ⟨yb, 0, none⟩ = some (.int .i64 x.h) ∧ w'.cell? ⟨yb, 1, none⟩ = some (.slice q3.A1 x.ks.length q3.c1) ∧ w'.cell? ⟨yb, 2, none⟩ = some (.slice q3.A2 x.ps.length q3.c2) ∧ w'.cell? ⟨yb, 3, none⟩ = some (.slice q3.A3 x.gs.length q3.c3) ∧ w'.cell? ⟨yb, 4, none⟩ = some (.slice q3.A4 x.ds.length q3.c4)))) (by kernel_rfl) ?_
  refine wpU_take (i := 0) (v := ?_) rfl (by kernel_rfl) (by kernel_rfl) (fun _ _ _ h => h) _ _ _ _ (by kernel_rfl) (by kernel_rfl) (by kernel_rfl) (Or.inl ⟨by kernel_rfl, ?_⟩) hS ?_
  rotate_left
  · (intro w9 hS9; obtain ⟨s0, s1⟩ := hS9; go_simp); (try with_reducible rfl)
  try simp only [Act.put, List.getElem_toArray, List.getElem_cons_succ, List.getElem_cons_zero, List.setIfInBounds_toArray, List.set_cons_zero, List.set_cons_succ]
  refine wpU_take (i := 1) (v := ?_) rfl (by kernel_rfl) (by kernel_rfl) (fun _ _ _ h => h) _ _ _ _ (by kernel_rfl) (by kernel_rfl) (by kernel_rfl) (Or.inl ⟨by kernel_rfl, ?_⟩) hS ?_
  rotate_left
  · (intro w9 hS9; obtain ⟨s0, s1⟩ := hS9; go_simp); (try with_reducible rfl)
  try simp only [Act.put, List.getElem_toArray, List.getElem_cons_succ, List.getElem_cons_zero, List.setIfInBounds_toArray, List.set_cons_zero, List.set_cons_succ]
  refine wpU_take (i := 2) (v := ?_) rfl (by kernel_rfl) (by kernel_rfl) (fun _ _ _ h => h) _ _ _ _ (by kernel_rfl) (by kernel_rfl) (by kernel_rfl) (Or.inl ⟨by kernel_rfl, ?_⟩) hS ?_
  rotate_left
  · (intro w9 hS9; obtain ⟨s0, s1⟩ := hS9; go_simp); (try with_reducible rfl)
  try simp only [Act.put, List.getElem_toArray, List.getElem_cons_succ, List.getElem_cons_zero, List.setIfInBounds_toArray, List.set_cons_zero, List.set_cons_succ]
  refine wpU_take (i := 3) (v := ?_) rfl (by kernel_rfl) (by kernel_rfl) (fun _ _ _ h => h) _ _ _ _ (by kernel_rfl) (by kernel_rfl) (by kernel_rfl) (Or.inl ⟨by kernel_rfl, ?_⟩) hS ?_
  rotate_left
  · (intro w9 hS9; obtain ⟨s0, s1⟩ := hS9; go_simp); (try with_reducible rfl)
  try simp only [Act.put, List.getElem_toArray, List.getElem_cons_succ, List.getElem_cons_zero, List.setIfInBounds_toArray, List.set_cons_zero, List.set_cons_succ]
  refine wpU_take (i := 4) (v := ?_) rfl (by kernel_rfl) (by kernel_rfl) (fun _ _ _ h => h) _ _ _ _ (by kernel_rfl) (by kernel_rfl) (by kernel_rfl) (Or.inl ⟨by kernel_rfl, ?_⟩) hS ?_
  rotate_left
  · (intro w9 hS9; obtain ⟨s0, s1⟩ := hS9; go_simp); (try with_reducible rfl)
  try simp only [Act.put, List.getElem_toArray, List.getElem_cons_succ, List.getElem_cons_zero, List.setIfInBounds_toArray, List.set_cons_zero, List.set_cons_succ]
  refine wpU_take (i := 6) (v := ?_) rfl (by kernel_rfl) (by kernel_rfl) (fun _ _ _ h => h) _ _ _ _ (by kernel_rfl) (by kernel_rfl) (by kernel_rfl) (Or.inl ⟨by kernel_rfl, ?_⟩) hS ?_
  rotate_left
  · (intro w9 hS9; obtain ⟨s0, s1⟩ := hS9; go_simp); (try with_reducible rfl)
  try simp only [Act.put, List.getElem_toArray, List.getElem_cons_succ, List.getElem_cons_zero, List.setIfInBounds_toArray, List.set_cons_zero, List.set_cons_succ]
  refine wpU_next (i := 5) rfl (by kernel_rfl) (fun K hK => ?_)
  go_simp
  refine (lawback_ok _ q2 x (by have := hL9.out.2.2; omega) W5.drew hV2).mono ?_
  rintro e w6 ⟨q6, rfl, hV6, hf6⟩
  replace hx3 := hx3.fr hf6 fun h => h
  replace hy5 := hy5.fr hf6 fun h => h
  replace hv := hv.fr hf6 fun _ _ _ h => h
  replace hV2 := hV2.nil hf6
  replace hV3 := hV3.nil hf6
  replace hf1 := hf1.then hf6
  clear hf6
  have hS6 : (fun w' : World => (w'.cell? ⟨xb, 0, none⟩ = some (.int .i64 x.h) ∧ w'.cell? ⟨xb, 1, none⟩ = some (.slice q2.A1 x.ks.length q2.c1) ∧ w'.cell? ⟨xb, 2, none⟩ = some (.slice q2.A2 x.ps.length q2.c2) ∧ w'.cell? ⟨xb, 3, none⟩ = some (.slice q2.A3 x.gs.length q2.c3) ∧ w'.cell? ⟨xb, 4, none⟩ = some (.slice q2.A4 x.ds.length q2.c4)) ∧ (w'.cell? ⟨yb, 0, none⟩ = some (.int .i64 x.h) ∧ w'.cell? ⟨yb, 1, none⟩ = some (.slice q3.A1 x.ks.length q3.c1) ∧ w'.cell? ⟨yb, 2, none⟩ = some (.slice q3.A2 x.ps.length q3.c2) ∧ w'.cell? ⟨yb, 3, none⟩ = some (.slice q3.A3 x.gs.length q3.c3) ∧ w'.cell? ⟨yb, 4, none⟩ = some (.slice q3.A4 x.ds.length q3.c4))) w6 := ⟨nd_cells hx3, nd_cells hy5⟩
  refine hK.out _ _ (fun _ => hS6) ?_
  clear hK K
  try simp only [Act.put, List.getElem_toArray, List.getElem_cons_succ, List.getElem_cons_zero, List.setIfInBounds_toArray, List.set_cons_zero, List.set_cons_succ]
  refine wpU_next (i := 7) rfl (by kernel_rfl) (fun K hK => ?_)
  go_simp
  refine (refsame_ok _ _ q6 q3 x hL9.out.2.1 w6 hV6 hV3).mono ?_
  rintro e w7 ⟨rfl, hf7⟩
  replace hx3 := hx3.fr hf7 fun h => h
  replace hy5 := hy5.fr hf7 fun h => h
  replace hv := hv.fr hf7 fun _ _ _ h => h
  replace hV2 := hV2.nil hf7
  replace hf1 := hf1.then hf7
  clear hf7 hV6 hV3
  have hS7 : (fun w' : World => (w'.cell? ⟨xb, 0, none⟩ = some (.int .i64 x.h) ∧ w'.cell? ⟨xb, 1, none⟩ = some (.slice q2.A1 x.ks.length q2.c1) ∧ w'.cell? ⟨xb, 2, none⟩ = some (.slice q2.A2 x.ps.length q2.c2) ∧ w'.cell? ⟨xb, 3, none⟩ = some (.slice q2.A3 x.gs.length q2.c3) ∧ w'.cell? ⟨xb, 4, none⟩ = some (.slice q2.A4 x.ds.length q2.c4)) ∧ (w'.cell? ⟨yb, 0, none⟩ = some (.int .i64 x.h) ∧ w'.cell? ⟨yb, 1, none⟩ = some (.slice q3.A1 x.ks.length q3.c1) ∧ w'.cell? ⟨yb, 2, none⟩ = some (.slice q3.A2 x.ps.length q3.c2) ∧ w'.cell? ⟨yb, 3, none⟩ = some (.slice q3.A3 x.gs.length q3.c3) ∧ w'.cell? ⟨yb, 4, none⟩ = some (.slice q3.A4 x.ds.length q3.c4))) w7 := ⟨nd_cells hx3, nd_cells hy5⟩
  refine hK.out _ _ (fun _ => hS7) ?_
  clear hK K
  try simp only [Act.put, List.getElem_toArray, List.getElem_cons_succ, List.getElem_cons_zero, List.setIfInBounds_toArray, List.set_cons_zero, List.set_cons_succ]
  refine wpU_take (i := 8) (v := ?_) rfl (by kernel_rfl) (by kernel_rfl) (fun _ _ _ h => h) _ _ _ _ (by kernel_rfl) (by kernel_rfl) (by kernel_rfl) (Or.inl ⟨by kernel_rfl, ?_⟩) hS7 ?_
  rotate_left
  · (intro w9 hS9; obtain ⟨s0, s1⟩ := hS9; go_simp); (try with_reducible rfl)
  try simp only [Act.put, List.getElem_toArray, List.getElem_cons_succ, List.getElem_cons_zero, List.setIfInBounds_toArray, List.set_cons_zero, List.set_cons_succ]
  refine wpU_next (i := 9) rfl (by kernel_rfl) (fun K hK => ?_)
  go_simp
  refine hK.out _ _ (fun h => absurd rfl h.1) ?_
  refine wpU_done (by kernel_rfl) ?_ _
  clear hK K
  clear hS hS6 hS7 hy5
  obtain ⟨c0, c1, c2, c3, c4⟩ := nd_cells hx3
  by_cases h0 : er = 0
  · subst h0
    obtain ⟨hm, henc⟩ := hD9.out rfl
    have Henc := hid henc; clear henc
    go_wp2_with fail
    refine (nodeenc_ok _ q2 x hm w7 hV2).mono ?_
    rintro e w8 ⟨A8, c8, rfl, r8, hf8⟩
    rw [Henc.out] at r8 ⊢
    have k1 := View.str (P := Try.prog) (src := 29) (dst := 9) r8.view Try.underlying29 Try.underlying5 Try.underlying9
    have k2 := View.str (P := Try.prog) (src := 29) (dst := 9) (hv.fr hf8 fun _ _ _ h => h) Try.underlying29 Try.underlying5 Try.underlying9
    clear c0 c1 c2 c3 c4 hm
    go_wp2
    go_ret
    exact ⟨rfl, hf1.then hf8⟩
  · have hb0 : (er == 0) = false := by simpa using h0
    have H0 := hid h0; clear h0
    go_wp2
    go_ret
    exact ⟨rfl, hf1⟩
end Go.Proofs.Ytidpabcfcdiecaa

/- NodeCuts: its walk (chapter 13). -/
import Derived.Test.YtidpabcfcdiecaaNdA
import Derived.Test.YtidpabcfcdiecaaNdO
import Derived.Test.YtidpabcfcdiecaaNdDecs
set_option linter.unusedSimpArgs false
set_option linter.unusedVariables false
namespace Go.Proofs.Ytidpabcfcdiecaa
open Go.RowKit
theorem pre_two {x : Nd} (h : MayNd x) : 2 ≤ (encs (pre x x.ks.length)).length := by
  obtain ⟨a, b, c, d⟩ := may_h h
  rw [pre_body, List.length_append, List.length_append]
  have h1 := (enc_len x.h.toNat a).2
  have h2 := (enc_len x.ks.length c).2
  omega
set_option maxRecDepth 100000 in
set_option maxHeartbeats 1600000 in
theorem cuts_ok (v : Value) (cut : Int) (hk : (Lit.int .u16 cut).wf = true) (W : World) (hv : NodeArg W v) :
    Calls Try.prog 6 #[v, .int .u16 cut] W fun e w' => e = .returned (.bool true) ∧ Fr Nil W w' := by
  have hk2 := bounds_u16 hk
  clear hk
  obtain ⟨q, x, rfl, hV⟩ := hv
  have hfr : Fr Nil W (W.alloc (.cells #[.int .i64 x.h, .slice q.A1 x.ks.length q.c1, .slice q.A2 x.ps.length q.c2, .slice q.A3 x.gs.length q.c3, .slice q.A4 x.ds.length q.c4] 26)) := (Fr.refl _ _).alloc _
  have hb : Blk (W.alloc (.cells #[.int .i64 x.h, .slice q.A1 x.ks.length q.c1, .slice q.A2 x.ps.length q.c2, .slice q.A3 x.gs.length q.c3, .slice q.A4 x.ds.length q.c4] 26)) W.heap.size (ncells x q) 26 := Blk.new _ _ _
  go_enter Try.func6, Try.ntmps6
  go_wp2_with fail
  refine (ndawake_ok _).mono ?_
  rintro e w2 ⟨rfl, hf2⟩
  replace hb := hb.fr hf2 fun h => h
  replace hV := (hV.nil hfr).nil hf2
  replace hfr := hfr.then hf2
  clear hf2
  obtain ⟨nb, hnb⟩ : ∃ nb, nb = W.heap.size := ⟨_, rfl⟩
  rw [← hnb] at hb ⊢
  clear hnb
  obtain ⟨c0, c1, c2, c3, c4⟩ := nd_cells hb
  by_cases hF : FewNd x
  rotate_left
  · have hd := hid (decide_eq_false hF)
    clear hF
    go_wp2_with fail
    refine (few_ok q x _ hd.out _).mono ?_
    rintro e w3 ⟨rfl, hf3⟩
    go_wp2
    go_ret
    exact ⟨rfl, hfr.then hf3⟩
  have hd := hid (decide_eq_true hF)
  have HF := hid hF
  clear hF
  go_wp2_with fail
  refine (few_ok q x _ hd.out _).mono ?_
  rintro e w3 ⟨rfl, hf3⟩
  replace hb := hb.fr hf3 fun h => h
  replace hV := hV.nil hf3
  replace hfr := hfr.then hf3
  clear hf3 c0 c1 c2 c3 c4
  obtain ⟨c0, c1, c2, c3, c4⟩ := nd_cells hb
  by_cases hm : MayNd x
  rotate_left
  · have hdm := hid (decide_eq_false hm)
    clear hm
    go_wp2_with fail
    refine (refmay_ok _ q x _ hdm.out _ hV).mono ?_
    rintro e w4 ⟨rfl, hf4⟩
    go_wp2
    go_ret
    exact ⟨rfl, hfr.then hf4⟩
  have hdm := hid (decide_eq_true hm)
  have HM := hid hm
  clear hm
  go_wp2_with fail
  refine (refmay_ok _ q x _ hdm.out _ hV).mono ?_
  rintro e w4 ⟨rfl, hf4⟩
  replace hb := hb.fr hf4 fun h => h
  replace hV := hV.nil hf4
  replace hfr := hfr.then hf4
  clear hf4 c0 c1 c2 c3 c4
  obtain ⟨c0, c1, c2, c3, c4⟩ := nd_cells hb
  have hb5 := pre_bytes x x.ks.length
  have hl5 := pre_lenle HM.out
  have ht5 := pre_two HM.out
  have hd5 := hid (fun k (hk : k < (encs (pre x x.ks.length)).length) => decd_cut HM.out hk)
  have hd6 := hid (decd_long HM.out)
  obtain ⟨bs, hbs⟩ : ∃ bs, bs = encs (pre x x.ks.length) := ⟨_, rfl⟩
  have Hbs := hid hbs
  rw [← hbs] at hb5 hl5 ht5 hd5 hd6
  clear hbs
  go_wp2_with fail
  refine (lawnode_ok _ q x HF.out _ hV).mono ?_
  rintro e w5 ⟨q5, rfl, hV5, hf5⟩
  replace hb := hb.fr hf5 fun h => h
  replace hV := hV.nil hf5
  replace hfr := hfr.then hf5
  clear hf5 c0 c1 c2 c3 c4
  obtain ⟨c0, c1, c2, c3, c4⟩ := nd_cells hb
  go_wp2_with fail
  refine (nodeenc_ok _ q5 x HM.out _ hV5).mono ?_
  rintro e w6 ⟨A6, c6, rfl, r6, hf6⟩
  rw [← Hbs.out] at r6 ⊢
  replace hb := hb.fr hf6 fun h => h
  replace hV := hV.nil hf6
  replace hfr := hfr.then hf6
  clear hf6 c0 c1 c2 c3 c4
  obtain ⟨c0, c1, c2, c3, c4⟩ := nd_cells hb
  clear hV5 hb hV c0 c1 c2 c3 c4
  obtain ⟨g, cap, heq, hgn, hgl⟩ := r6.form (by omega)
  rw [heq] at r6 ⊢
  clear heq
  generalize hL : bs.length = L at *
  have HL := hid hL; clear hL
  obtain ⟨k, rfl⟩ : ∃ k : Nat, cut = k := ⟨cut.toNat, by omega⟩
  obtain ⟨m, hm⟩ : ∃ m : Nat, (m : Int) = (k : Int) % (L : Int) := ⟨k % L, by simp⟩
  have hmL : m < L := by have := Int.emod_lt_of_pos (k : Int) (show (0 : Int) < (L : Int) by omega); omega
  have hrem : (k : Int) % (L : Int) = (m : Int) := hm.symm
  have hrem2 : (k : Int).tmod (L : Int) = (m : Int) := by rw [← hrem]; exact Int.tmod_eq_emod_of_nonneg (by omega)
  clear hm
  have hcap : L ≤ cap := by
    rcases r6.1.2 with ⟨h1, _⟩ | ⟨g', cap', cur, he, _, _, h1, _⟩
    · cases h1
    · injection he with _ _ he; rw [he]; exact h1
  have hcm : cap ≤ 9223372036854775807 := by
    rcases r6.1.2 with ⟨h1, _⟩ | ⟨g', cap', cur, he, _, _, h1, h2, _⟩
    · cases h1
    · injection he with _ _ he; simp only [maxLen] at h2; omega
  go_wp2_with fail
  have hvm := r6.view.pre (show m ≤ L by omega)
  rw [Nat.mul_one, bys_take] at hvm
  refine (dec_ok _ _ m (bs.take m) (by omega) (fun c hc => hb5 c (List.mem_of_mem_take hc)) w6 hvm).mono ?_
  intro e w7 hp
  rw [hd5.out m hmL] at hp
  obtain ⟨rfl, hf7⟩ := hp
  unfold nil5
  clear hvm hrem hrem2
  replace r6 := r6.fr hf7 fun _ _ h => h
  replace hfr := hfr.then hf7
  clear hf7
  have hf8 : Fr Nil w7 (w7.alloc (.cells #[.int .i64 0, .slice none 0 0, .slice none 0 0, .slice none 0 0, .slice none 0 0] 35)) := (Fr.refl _ _).alloc _
  have hR0 : Row ((w7.alloc (.cells #[.int .i64 0, .slice none 0 0, .slice none 0 0, .slice none 0 0, .slice none 0 0] 35)).alloc (.cells #[] 5)) (fun k => w7.heap.size ≤ k) 5 1 (.slice (some ⟨w7.heap.size + 1, 0, none⟩) 0 0) 0 [] := by
    have := Row.made (w7.alloc (.cells #[.int .i64 0, .slice none 0 0, .slice none 0 0, .slice none 0 0, .slice none 0 0] 35)) #[] 5 1 0 0 rfl (Nat.le_refl _) (by decide)
    rw [World.size_alloc] at this
    exact this.mono fun k hk => by unfold New at hk; rw [World.size_alloc] at hk; omega
  go_wp2_with (at_builtin; refine wp_app_view rfl _ _ 29 rfl (.int .u8 0) 1 Try.underlying29 info_u8 rfl (by decide) hR0 rfl ((r6.view.fr hf8 fun _ _ _ h => h).alloc _) rfl (bys_cell bs) (by omega) (by decide) ?_)
  intro A9 c9 w9 y1 y2 y3
  have hf9 : Fr Nil w7 w9 := ((hf8.alloc _).trans y2 (fun k hk => by simp [Value.ownBlock] at hk; exact .inr (by omega)))
  have hR9 : Row w9 (fun k => w7.heap.size ≤ k) 5 1 (.slice A9 bs.length c9) bs.length (bys bs) := by
    have := y1.mono (S' := fun k => w7.heap.size ≤ k) fun k hk => hk.elim (fun h => by simp [Value.ownBlock] at h; omega) (fun h => by simp at h; omega)
    rw [Nat.zero_add, ← HL.out] at this
    exact this
  have hR9v : Row w9 (fun k => w7.heap.size ≤ k) 5 1 (.slice A9 L c9) bs.length (bys bs) := by
    have h9 := hR9
    rw [show Value.slice A9 bs.length c9 = .slice A9 L c9 by rw [HL.out]] at h9
    exact h9
  rw [Nat.zero_add]
  clear y1 y2 y3 hf8 hR9
  go_wp2_with (at_builtin; refine app_u8 rfl _ _ rfl _ 0 rfl hR9v rfl rfl (by rw [HL.out]; omega) ?_)
  intro g2 cap2 w10 y1 y2 y3 y4
  have hf10 : Fr Nil w7 w10 := hf9.trans y3 (fun k hk => .inr (hR9v.2 k hk))
  clear y2 y3 y4 hR9v
  go_wp2_with fail
  refine (dec_ok _ _ (bs.length + 1) (bs ++ [0]) (by rw [HL.out]; omega) (hb5.append (fun c hc => by simp at hc; omega)) w10 y1.view).mono ?_
  intro e w11 hp
  rw [hd6.out] at hp
  obtain ⟨rfl, hf11⟩ := hp
  unfold nil5
  go_wp2
  go_ret
  exact ⟨rfl, (hfr.then hf10).then hf11 |>.alloc _⟩
end Go.Proofs.Ytidpabcfcdiecaa

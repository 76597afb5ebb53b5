/- NodeFinds: its walk (chapter 13). -/
import Derived.Test.YtidpabcfcdiecaaNdA
import Derived.Test.YtidpabcfcdiecaaNdO
set_option linter.unusedSimpArgs false
set_option linter.unusedVariables false
namespace Go.Proofs.Ytidpabcfcdiecaa
open Go.RowKit
set_option maxRecDepth 100000 in
theorem finds_ok (v : Value) (key : Int) (hk : (Lit.int .i64 key).wf = true) (W : World) (hv : NodeArg W v) :
    Calls Try.prog 5 #[v, .int .i64 key] W fun e w' => e = .returned (.bool true) ∧ Fr Nil W w' := by
  obtain ⟨q, x, rfl, hV⟩ := hv
  have hfr : Fr Nil W (W.alloc (.cells #[.int .i64 x.h, .slice q.A1 x.ks.length q.c1, .slice q.A2 x.ps.length q.c2, .slice q.A3 x.gs.length q.c3, .slice q.A4 x.ds.length q.c4] 26)) := (Fr.refl _ _).alloc _
  have hb : Blk (W.alloc (.cells #[.int .i64 x.h, .slice q.A1 x.ks.length q.c1, .slice q.A2 x.ps.length q.c2, .slice q.A3 x.gs.length q.c3, .slice q.A4 x.ds.length q.c4] 26)) W.heap.size (ncells x q) 26 := Blk.new _ _ _
  go_enter Try.func5, Try.ntmps5
  go_wp2_with fail
  refine (ndawake_ok _).mono ?_
  rintro e w2 ⟨rfl, hf2⟩
  replace hb := hb.fr hf2 fun h => h
  replace hV := (hV.nil hfr).nil hf2
  replace hfr := hfr.then hf2
  clear hf2
  obtain ⟨nb, hnb⟩ : ∃ nb, nb = W.heap.size := ⟨_, rfl⟩
  rw [← hnb] at hb ⊢
  clear hnb
  obtain ⟨c0, c1, c2, c3, c4⟩ := nd_cells hb
  by_cases hF : FewNd x
  rotate_left
  · have hd := hid (decide_eq_false hF)
    clear hF
    go_wp2_with fail
    refine (few_ok q x _ hd.out _).mono ?_
    rintro e w3 ⟨rfl, hf3⟩
    go_wp2
    go_ret
    exact ⟨rfl, hfr.then hf3⟩
  have hd := hid (decide_eq_true hF)
  have HF := hid hF
  clear hF
  go_wp2_with fail
  refine (few_ok q x _ hd.out _).mono ?_
  rintro e w3 ⟨rfl, hf3⟩
  replace hb := hb.fr hf3 fun h => h
  replace hV := hV.nil hf3
  replace hfr := hfr.then hf3
  clear hf3 c0 c1 c2 c3 c4
  obtain ⟨c0, c1, c2, c3, c4⟩ := nd_cells hb
  by_cases hm : MayNd x
  rotate_left
  · have hdm := hid (decide_eq_false hm)
    clear hm
    go_wp2_with fail
    refine (refmay_ok _ q x _ hdm.out _ hV).mono ?_
    rintro e w4 ⟨rfl, hf4⟩
    go_wp2
    go_ret
    exact ⟨rfl, hfr.then hf4⟩
  have hdm := hid (decide_eq_true hm)
  have HM := hid hm
  clear hm
  go_wp2_with fail
  refine (refmay_ok _ q x _ hdm.out _ hV).mono ?_
  rintro e w4 ⟨rfl, hf4⟩
  replace hb := hb.fr hf4 fun h => h
  replace hV := hV.nil hf4
  replace hfr := hfr.then hf4
  clear hf4 c0 c1 c2 c3 c4
  obtain ⟨c0, c1, c2, c3, c4⟩ := nd_cells hb
  go_wp2_with fail
  refine (lawnode_ok _ q x HF.out _ hV).mono ?_
  rintro e w5 ⟨q5, rfl, hV5, hf5⟩
  replace hb := hb.fr hf5 fun h => h
  replace hV := hV.nil hf5
  replace hfr := hfr.then hf5
  clear hf5 c0 c1 c2 c3 c4
  obtain ⟨c0, c1, c2, c3, c4⟩ := nd_cells hb
  go_wp2_with fail
  refine (find_ok _ q5 x key _ hV5).mono ?_
  rintro e w6 ⟨rfl, hf6⟩
  replace hb := hb.fr hf6 fun h => h
  replace hV := hV.nil hf6
  replace hfr := hfr.then hf6
  clear hf6 c0 c1 c2 c3 c4
  obtain ⟨c0, c1, c2, c3, c4⟩ := nd_cells hb
  unfold fndR
  go_wp2_with fail
  refine (reffind_ok _ q x key _ hV).mono ?_
  rintro e w7 ⟨rfl, hf7⟩
  replace hb := hb.fr hf7 fun h => h
  replace hV := hV.nil hf7
  replace hfr := hfr.then hf7
  clear hf7 c0 c1 c2 c3 c4
  obtain ⟨c0, c1, c2, c3, c4⟩ := nd_cells hb
  unfold fndR
  go_wp2
  go_ret
  exact ⟨rfl, hfr⟩
end Go.Proofs.Ytidpabcfcdiecaa

/- awake of chapter 19. Conditions: none. -/
import Derived.Test.YtahedenbchgglaaBuf
import Derived.Test.YtahedenbchgglaaMake
set_option linter.unusedSimpArgs false
set_option linter.unusedVariables false
namespace Go.Proofs.Ytahedenbchgglaa
open Go.RowKit

@[go_sem] theorem mk128 (w : World) : (Instr.makeSlice 25 (.int .i64 128) (.int .i64 128)).run Try.prog w = .ok (.slice (some ⟨w.heap.size, 0, none⟩) 128 128) (w.alloc (.cells (madeCells #[.int .u8 0] 128) 5)) := mk_u8 128 (by omega) w
set_option maxHeartbeats 1600000 in
theorem awake_ok (w : World) : Calls Try.prog 6 #[] w fun e w' => e = .returned (.bool true) ∧ Fr Nil w w' := by
  go_enter Try.func6, Try.ntmps6
  go_wp2_with fail
  refine (new_ok 3 (by omega) w).mono ?_
  rintro e w1 ⟨pb, mb, rfl, hb1, hf1⟩
  have hm1 : (min (max 3 0) 512 : Int).toNat = 3 := by decide
  rw [hm1] at hb1
  clear hm1
  go_wp2_with fail
  obtain ⟨W2, hW2⟩ : ∃ W2, W2 = w1.alloc (.cells (madeCells #[.int .u8 0] 128) 5) := ⟨_, rfl⟩
  have hx2 : Row W2 (New w1) 5 1 (.slice (some ⟨w1.heap.size, 0, none⟩) 128 128) 128 (bys (List.replicate 128 0)) := by rw [hW2]; exact zeros_row 128 (by omega) w1
  have hf2 : Fr Nil w1 W2 := by rw [hW2]; exact (Fr.refl _ _).alloc _
  rw [← hW2]
  clear hW2
  have hb2 := hb1.fr hf2 fun _ _ h => h
  refine (put_ok (New w) (New w1) pb mb 3 [] 5 _ _ (by omega) (by decide) (by decide) W2 hb2 hx2.view).mono ?_
  rintro e w3 ⟨rfl, u, hb3, hv3, hf3⟩
  go_wp2_with fail
  refine (get_some (New w) (New W2) pb mb 3 _ 5 u 128 _ (by omega) (by decide) w3 hb3 ((mget_put (l := []) (i := 5) (j := 5) (v := u) (by simp)).trans (if_pos rfl)) hv3).mono ?_
  rintro e w4 ⟨A4, c4, rfl, hR4, hf4⟩
  go_wp2_with fail
  have hb4 := hb3.fr hf4 fun _ _ h => h
  refine (trim_ok (New w) pb mb 3 _ 5 1 (by omega) w4 hb4 (by rw [mput_keys']; decide)).mono ?_
  rintro e w5 ⟨rfl, hb5, hf5⟩
  go_wp2_with fail
  have hg5 : mget (trimmed (mput [] 5 u) (secs 5 1)) 5 = some (.slice none 0 0) := (mget_put (l := mput [] 5 u) (i := 5) (v := .slice none 0 0) (mput_nodup (by simp))).trans (if_pos rfl)
  refine (get_some (New w) Nil pb mb 3 _ 5 _ 0 [] (by omega) (by decide) w5 hb5 hg5 (View.nil _ _ _)).mono ?_
  rintro e w6 ⟨A6, c6, rfl, hR6, hf6⟩
  have hb6 := hb5.fr hf6 fun _ _ h => h
  have hl6 : (trimmed (mput [] 5 u) (secs 5 1)).length = 1 := by
    have := congrArg List.length (trimmed_keys (mput [] 5 u) (secs 5 1))
    rw [mput_keys'] at this
    rw [List.length_map] at this
    rw [this]
    decide
  go_wp2_with fail
  refine (len_ok (New w) pb mb 3 _ w6 hb6).mono ?_
  rintro e w7 ⟨rfl, rfl⟩
  rw [hl6]
  go_wp2
  go_ret
  have hmb : w.heap.size ≤ mb := hb1.2.1
  refine ⟨rfl, ?_⟩
  have g1 : Fr Nil w W2 := hf1.then hf2
  have g2 : Fr Nil w w3 := g1.trans hf3 (fun k hk => .inr (by omega))
  have g3 : Fr Nil w w5 := (g2.then hf4).trans hf5 (fun k hk => .inr (by omega))
  exact g3.then hf6
end Go.Proofs.Ytahedenbchgglaa

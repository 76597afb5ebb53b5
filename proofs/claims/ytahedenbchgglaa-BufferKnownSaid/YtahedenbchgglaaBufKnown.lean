/- BufferKnown: buffers of no room, of more than may be; trims at the borders. -/
import Derived.Test.YtahedenbchgglaaBufFits
set_option linter.unusedSimpArgs false
set_option linter.unusedVariables false
namespace Go.Proofs.Ytahedenbchgglaa
open Go.RowKit

theorem trimmed_mem (ss : List Int) : ∀ (l : List (Int × Value)) (p : Int × Value), p ∈ trimmed l ss → p ∈ l ∨ p.2 = .slice none 0 0 := by
  induction ss with
  | nil => intro l p hp; exact .inl hp
  | cons s ss ih =>
    intro l p hp
    rcases ih (mput l s (.slice none 0 0)) p hp with h | h
    · rcases mput_mem h with rfl | h
      · exact .inr rfl
      · exact .inl h
    · exact .inr h

set_option maxRecDepth 100000 in
set_option maxHeartbeats 8000000 in
theorem known_law (w : World) :
    Calls Try.prog 4 #[] w fun e w' => e = .returned (.bool true) ∧ Fr Nil w w' := by
  go_enter Try.func4, Try.ntmps4
  go_wp2_with fail
  refine (awake_ok w).mono ?_
  rintro e w1 ⟨rfl, hf1⟩
  go_wp2_with fail
  refine (new_ok (-1) (by omega) w1).mono ?_
  rintro e w2 ⟨pa, ma, rfl, ha2, hf2⟩
  rw [show (min (max (-1) 0) 512 : Int).toNat = 0 by decide] at ha2
  go_wp2_with fail
  refine (new_ok 521 (by omega) w2).mono ?_
  rintro e w3 ⟨pb, mb, rfl, hb3, hf3⟩
  rw [show (min (max 521 0) 512 : Int).toNat = 512 by decide] at hb3
  have hpa1 : w1.heap.size ≤ pa := ha2.1
  have hma1 : w1.heap.size ≤ ma := ha2.2.1
  have hpa2 := ha2.2.2.1.lt
  have hma2 := ha2.2.2.2.1.lt
  have hpb1 : w2.heap.size ≤ pb := hb3.1
  have hmb1 : w2.heap.size ≤ mb := hb3.2.1
  have hpb2 := hb3.2.2.1.lt
  have hmb2 := hb3.2.2.2.1.lt
  have ha3 : IsB w3 (fun b => b = pa ∨ b = ma) pa ma 0 [] := ⟨.inl rfl, .inr rfl, (ha2.fr hf3 fun _ _ h => h).2.2⟩
  have hb3' : IsB w3 (fun b => b = pb ∨ b = mb) pb mb 512 [] := ⟨.inl rfl, .inr rfl, hb3.2.2⟩
  clear ha2 hb3
  go_wp2_with fail
  obtain ⟨W4, hW4⟩ : ∃ W4, W4 = w3.alloc (.cells (madeCells #[.int .u8 0] 128) 5) := ⟨_, rfl⟩
  have hx4 : Row W4 (New w3) 5 1 (.slice (some ⟨w3.heap.size, 0, none⟩) 128 128) 128 (bys (List.replicate 128 0)) := by rw [hW4]; exact zeros_row 128 (by omega) w3
  have hf4 : Fr Nil w3 W4 := by rw [hW4]; exact (Fr.refl _ _).alloc _
  rw [← hW4]
  clear hW4
  have ha4 := ha3.fr hf4 fun _ _ h => h
  have hb4 := hb3'.fr hf4 fun _ _ h => h
  clear ha3 hb3'
  have hF4 : Fr Nil w W4 := ((hf1.then hf2).then hf3).then hf4
  have hsz4 := hf4.size
  have hsz1 := hf1.size
  -- a: no room
  refine (put_full _ pa ma 0 [] 0 _ _ (by omega) (by decide) (by decide) W4 ha4).mono ?_
  rintro e w5 ⟨rfl, hf5⟩
  have ha5 := ha4.fr hf5 fun _ _ h => h
  go_wp2_with fail
  refine (trim_full _ pa ma 0 [] 0 1 (by omega) w5 ha5 (by decide)).mono ?_
  rintro e w6 ⟨rfl, hf6⟩
  have ha6 := ha5.fr hf6 fun _ _ h => h
  go_wp2_with fail
  refine (trim_ok _ pa ma 0 [] 0 0 (by omega) w6 ha6 (by decide)).mono ?_
  rintro e w7 ⟨rfl, ha7, hf7⟩
  go_wp2_with fail
  refine (fits_ok _ Nil pa ma 0 _ _ 0 [] w7 ha7 (View.nil _ _ _) (by simp) (by omega)).mono ?_
  rintro e w8 ⟨rfl, hf8⟩
  rw [show decide ((addAll ((trimmed ([] : List (Int × Value)) (secs 0 0)).map (·.1)) []).length ≤ 0) = true by decide]
  have ha8 := ha7.fr hf8 fun _ _ h => h
  go_wp2_with fail
  obtain ⟨W9, hW9⟩ : ∃ W9, W9 = w8.alloc (.cells #[.int .i64 1] 3) := ⟨_, rfl⟩
  have hs9 : View W9 (New w8) 1 (.slice (some ⟨w8.heap.size, 0, none⟩) 1 1) 1 (ints .i64 [1]) := by rw [hW9]; exact ints_one w8 1
  have hf9 : Fr Nil w8 W9 := by rw [hW9]; exact (Fr.refl _ _).alloc _
  rw [← hW9]
  clear hW9
  refine (fits_ok _ (New w8) pa ma 0 _ _ 1 [1] W9 (ha8.fr hf9 fun _ _ h => h) hs9 (by decide) (by omega)).mono ?_
  rintro e w10 ⟨rfl, hf10⟩
  rw [show decide ((addAll ((trimmed ([] : List (Int × Value)) (secs 0 0)).map (·.1)) [1]).length ≤ 0) = false by decide]
  have hfa : Fr (fun b => b = ma) W4 w10 := (((((hf5.then hf6).nil.then hf7).then hf8.nil).then hf9.nil).then hf10.nil)
  have hb10 := hb4.fr hfa (by rintro b (rfl | rfl) <;> omega)
  have hx10 := hx4.view.fr hfa (fun b hb _ (e : b = ma) => by have : w3.heap.size ≤ b := hb; omega)
  clear hx4 ha4 ha5 ha6 ha7 ha8 hb4
  -- b: all there is
  go_wp2_with fail
  have hk11 : (trimmed ([] : List (Int × Value)) (secs 0 512)).map (·.1) = secs 0 512 := by rw [trimmed_keys]; exact addAll_new [] 0 512 (by simp)
  have hl11 : (trimmed ([] : List (Int × Value)) (secs 0 512)).length = 512 := by rw [← List.length_map (f := (·.1)), hk11, secs_length]
  have hg11 : ∀ s : Int, 0 ≤ s → s < 512 → mget (trimmed ([] : List (Int × Value)) (secs 0 512)) s = some (.slice none 0 0) := fun s h1 h2 => by
    have h3 := mget_isSome (l := trimmed ([] : List (Int × Value)) (secs 0 512)) (i := s)
    rw [hk11, decide_eq_true ((secs_mem 0 512 s).2 (by omega))] at h3
    obtain ⟨v, hv⟩ := Option.isSome_iff_exists.1 h3
    rw [hv]
    rcases trimmed_mem _ _ _ (mget_mem hv) with h4 | h4
    · cases h4
    · exact congrArg some h4
  refine (trim_ok _ pb mb 512 [] 0 512 (by omega) w10 hb10 (by rw [show ([] : List (Int × Value)).map (·.1) = [] from rfl, addAll_new [] 0 512 (by simp), List.nil_append, secs_length]; omega)).mono ?_
  rintro e w11 ⟨rfl, hb11, hf11⟩
  generalize hT : trimmed ([] : List (Int × Value)) (secs 0 512) = l at *
  have HT := hid hT; have HK := hid hk11; have HL := hid hl11; have HG := hid hg11
  clear hT hk11 hl11 hg11
  have hx11 := hx10.fr hf11 (fun b hb _ (e : b = mb) => by have : w3.heap.size ≤ b := hb; omega)
  go_wp2_with fail
  refine (len_ok _ pb mb 512 l w11 hb11).mono ?_
  rintro e w12 ⟨rfl, rfl⟩
  rw [HL.out]
  go_wp2_with fail
  refine (trim_ok _ pb mb 512 l 512 0 (by omega) w11 hb11 (by show (l.map _).length ≤ _; rw [List.length_map, HL.out]; exact Nat.le_refl _)).mono ?_
  rintro e w13 ⟨rfl, hb13, hf13⟩
  have hb13' : IsB w13 (fun b => b = pb ∨ b = mb) pb mb 512 l := hb13
  clear hb13
  have hx13 := hx11.fr hf13 (fun b hb _ (e : b = mb) => by have : w3.heap.size ≤ b := hb; omega)
  go_wp2_with fail
  refine (trim_bad _ 512 1 (by decide) (by decide) (by decide) _).mono ?_
  rintro e w14 ⟨rfl, rfl⟩
  go_wp2_with fail
  refine (trim_bad _ 1 512 (by decide) (by decide) (by decide) _).mono ?_
  rintro e w14 ⟨rfl, rfl⟩
  go_wp2_with fail
  refine (put_full _ pb mb 512 l 9999 _ _ (by omega) (by decide) (by rw [HK.out, addKey_new (fun h => by have := (secs_mem 0 512 _).1 h; omega), List.length_append, secs_length]; decide) w13 hb13').mono ?_
  rintro e w15 ⟨rfl, hf15⟩
  have hb15 := hb13'.fr hf15 fun _ _ h => h
  have hx15 := hx13.fr hf15 fun _ _ _ h => h
  have hin : addKey (l.map (·.1)) 7 = secs 0 512 := by rw [HK.out, addKey_in ((secs_mem 0 512 _).2 (by omega))]
  go_wp2_with fail
  refine (put_ok _ _ pb mb 512 l 7 _ _ (by omega) (by decide) (by rw [hin, secs_length]; exact Nat.le_refl _) w15 hb15 hx15).mono ?_
  rintro e w16 ⟨rfl, u, hb16, hv16, hf16⟩
  have hnd : (l.map (·.1)).Nodup := hb15.2.2.2.1.nodup
  go_wp2_with fail
  refine (get_some _ _ pb mb 512 _ 7 u 128 _ (by omega) (by decide) w16 hb16 ((mget_put hnd).trans (if_pos rfl)) hv16).mono ?_
  rintro e w17 ⟨A17, c17, rfl, hR17, hf17⟩
  have hb17 := hb16.fr hf17 fun _ _ h => h
  go_wp2_with fail
  refine (get_some _ Nil pb mb 512 _ 8 _ 0 [] (by omega) (by decide) w17 hb17 ((mget_put hnd).trans ((if_neg (by decide)).trans (HG.out 8 (by omega) (by omega)))) (View.nil _ _ _)).mono ?_
  rintro e w18 ⟨A18, c18, rfl, hR18, hf18⟩
  have hb18 := hb17.fr hf18 fun _ _ h => h
  go_wp2_with fail
  refine (get_none _ pb mb 512 _ (-1) (by decide) w18 hb18 (by
    have := mget_isSome (l := mput l 7 u) (i := -1)
    rw [mput_keys', hin] at this
    cases h : mget (mput l 7 u) (-1) with
    | none => rfl
    | some v =>
      rw [h] at this
      have h2 := (secs_mem 0 512 (-1)).1 (of_decide_eq_true this.symm)
      omega)).mono ?_
  rintro e w19 ⟨rfl, hf19⟩
  have hb19 := hb18.fr hf19 fun _ _ h => h
  have hl19 : (mput l 7 u).length = 512 := by rw [← List.length_map (f := (·.1)), mput_keys', hin, secs_length]
  go_wp2_with fail
  refine (len_ok _ pb mb 512 _ w19 hb19).mono ?_
  rintro e w20 ⟨rfl, rfl⟩
  rw [hl19]
  go_wp2
  go_ret
  refine ⟨rfl, ?_⟩
  have g1 : Fr (fun b => b = mb) w10 w19 := (((((hf11.then hf13).then hf15.nil).then hf16).then hf17.nil).then hf18.nil).then hf19.nil
  have g2 : Fr Nil w w10 := hF4.trans hfa (fun b hb => .inr (by omega))
  exact g2.trans g1 (fun b hb => .inr (by have := hf2.size; omega))
end Go.Proofs.Ytahedenbchgglaa

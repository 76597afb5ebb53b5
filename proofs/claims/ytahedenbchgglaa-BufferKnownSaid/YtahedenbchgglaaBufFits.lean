/- BufferFits: a buffer takes as many sectors as it has room for. -/
import Derived.Test.YtahedenbchgglaaBufA
set_option linter.unusedSimpArgs false
set_option linter.unusedVariables false
namespace Go.Proofs.Ytahedenbchgglaa
open Go.RowKit

theorem wf_i64 {z : Int} (h : -9223372036854775808 ≤ z ∧ z < 9223372036854775808) : (Lit.int .i64 z).wf = true := by
  simp [Lit.wf, IntKind.min, IntKind.max, IntKind.signed, IntKind.bits]; omega
theorem secs_mem (a n : Nat) (s : Int) : s ∈ secs a n ↔ (a : Int) ≤ s ∧ s < a + n := by
  unfold secs
  simp only [List.mem_map, List.mem_range]
  constructor
  · rintro ⟨i, hi, rfl⟩; omega
  · intro h; exact ⟨(s - a).toNat, by omega, by omega⟩
theorem addAll_in (K ss : List Int) (h : ∀ s ∈ ss, s ∈ K) : addAll K ss = K := by
  induction ss with
  | nil => rfl
  | cons s ss ih =>
    show addAll (addKey K s) ss = K
    rw [addKey_in (h s (by simp))]
    exact ih fun x hx => h x (List.mem_cons_of_mem _ hx)
theorem addKey_new {K : List Int} {s : Int} (h : s ∉ K) : addKey K s = K ++ [s] := by simp [addKey, h]
theorem addAll_new (K : List Int) (a n : Nat) (h : ∀ s ∈ secs a n, s ∉ K) : addAll K (secs a n) = K ++ secs a n := by
  induction n with
  | zero => simp [secs, addAll]
  | succ n ih =>
    rw [secs_one, addAll_one, ih (fun s hs => h s (by rw [secs_one]; simp [hs])), addKey_new, List.append_assoc]
    simp only [List.mem_append, not_or]
    refine ⟨h _ (by rw [secs_one]; simp), fun h' => ?_⟩
    have := (secs_mem a n _).1 h'
    omega
theorem secs_snoc (i : Nat) : addKey (secs 0 i) (i : Int) = secs 0 (i + 1) := by
  rw [secs_one, addKey_new (fun h => by have := (secs_mem 0 i _).1 h; omega)]
  simp

theorem addAll_secs (K : List Int) (q a n : Nat) (hK : K = secs 0 q) (h : q ≤ a) : (addAll K (secs a n)).length = q + n := by
  subst hK
  rw [addAll_new _ _ _ (fun s hs hs2 => by have := (secs_mem a n s).1 hs; have := (secs_mem 0 q s).1 hs2; omega), List.length_append, secs_length, secs_length]
theorem two_ints (w : World) (s t : Int) : View (w.alloc (.cells #[.int .i64 s, .int .i64 t] 3)) (New w) 1 (.slice (some ⟨w.heap.size, 0, none⟩) 2 2) 2 (ints .i64 [s, t]) :=
  View.lit w #[.int .i64 s, .int .i64 t] 3 (0, 0) 2 rfl (by omega)

set_option maxRecDepth 100000 in
set_option maxHeartbeats 8000000 in
theorem fits_law (a0 : Int) (w0 : (Lit.int .u8 a0).wf = true) (a1 : Int) (w1 : (Lit.int .u8 a1).wf = true) (a2 : Int) (w2 : (Lit.int .u8 a2).wf = true) (w : World) :
    Calls Try.prog 3 #[.int .u8 a0, .int .u8 a1, .int .u8 a2] w fun e w' => e = .returned (.bool true) ∧ Fr Nil w w' := by
  have h0 := bounds_u8 w0
  have h1 := bounds_u8 w1
  have h2 := bounds_u8 w2
  obtain ⟨n0, rfl⟩ : ∃ k : Nat, a0 = k := ⟨a0.toNat, by omega⟩
  obtain ⟨n1, rfl⟩ : ∃ k : Nat, a1 = k := ⟨a1.toNat, by omega⟩
  obtain ⟨at', rfl⟩ : ∃ k : Nat, a2 = k := ⟨a2.toNat, by omega⟩
  clear w0 w1 w2
  have e0 : ((n0 : Int) % 40) = ((n0 % 40 : Nat) : Int) := by omega
  have e1 : ((n1 : Int) % 60) = ((n1 % 60 : Nat) : Int) := by omega
  go_enter Try.func3, Try.ntmps3
  go_wp2_with fail
  refine (awake_ok w).mono ?_
  rintro e w1 ⟨rfl, hf1⟩
  go_wp2_with fail
  rw [e0, e1]
  clear e0 e1
  have hk : n0 % 40 < 40 := Nat.mod_lt _ (by omega)
  have hm : n1 % 60 < 60 := Nat.mod_lt _ (by omega)
  generalize n0 % 40 = k at *
  generalize n1 % 60 = m at *
  go_wp2_with fail
  refine (new_ok (k : Int) (by omega) w1).mono ?_
  rintro e w2 ⟨pb, mb, rfl, hb2, hf2⟩
  have hmk : (min (max (k : Int) 0) 512).toNat = k := by omega
  rw [hmk] at hb2
  clear hmk
  have hpb1 : w1.heap.size ≤ pb := hb2.1
  have hmb1 : w1.heap.size ≤ mb := hb2.2.1
  have hpb2 := hb2.2.2.1.lt
  have hmb2 := hb2.2.2.2.1.lt
  have hb2' : IsB w2 (fun b => b = pb ∨ b = mb) pb mb k [] := ⟨.inl rfl, .inr rfl, hb2.2.2⟩
  clear hb2
  go_wp2_with fail
  obtain ⟨W3, hW3⟩ : ∃ W3, W3 = w2.alloc (.cells (madeCells #[.int .u8 0] 128) 5) := ⟨_, rfl⟩
  have hx3 : Row W3 (New w2) 5 1 (.slice (some ⟨w2.heap.size, 0, none⟩) 128 128) 128 (bys (List.replicate 128 0)) := by rw [hW3]; exact zeros_row 128 (by omega) w2
  have hf3 : Fr Nil w2 W3 := by rw [hW3]; exact (Fr.refl _ _).alloc _
  rw [← hW3]
  clear hW3
  have hb3 := hb2'.fr hf3 fun _ _ h => h
  clear hb2'
  have hfb : Fr Nil w W3 := (hf1.then hf2).then hf3
  go_loopw [11] (fun v11 wr => ∃ (i : Nat) (l : List (Int × Value)), v11 = .int .i64 i ∧ i ≤ m ∧ Fr (fun b => b = mb) W3 wr ∧ IsB wr (fun b => b = pb ∨ b = mb) pb mb k l ∧ l.map (·.1) = secs 0 (min i k)) (fun v11 _ => m - (intOf v11).toNat)
  case atStart => exact ⟨0, [], rfl, by omega, Fr.refl _ _, hb3, by simp [secs]⟩
  case round =>
    obtain ⟨i, l, rfl, hi, hfr, hbr, hkeys⟩ := hrel
    have hxr := hx3.view.fr hfr (fun b hb _ (e : b = mb) => by have : w2.heap.size ≤ b := hb; omega)
    have Hkeys := hid hkeys; clear hkeys
    by_cases hlt : i < m
    · go_wp2_with fail
      obtain ⟨W4, hW4⟩ : ∃ W4, W4 = wr.alloc (.cells #[.int .i64 i, .int .i64 i] 3) := ⟨_, rfl⟩
      have hs4 : View W4 (New wr) 1 (.slice (some ⟨wr.heap.size, 0, none⟩) 2 2) 2 (ints .i64 [(i : Int), (i : Int)]) := by rw [hW4]; exact two_ints wr _ _
      have hf4 : Fr Nil wr W4 := by rw [hW4]; exact (Fr.refl _ _).alloc _
      rw [← hW4]
      clear hW4
      have hwi : (Lit.int .i64 (i : Int)).wf = true := wf_i64 (by omega)
      refine (fits_ok _ _ pb mb k l _ 2 [(i : Int), (i : Int)] W4 (hbr.fr hf4 fun _ _ h => h) hs4 (by intro s hs; simp at hs; rw [hs]; exact hwi) (by omega)).mono ?_
      rintro e w5 ⟨rfl, hf5⟩
      have hb5 := (hbr.fr hf4 fun _ _ h => h).fr hf5 fun _ _ h => h
      have hx5 := (hxr.fr hf4 fun _ _ _ h => h).fr hf5 fun _ _ _ h => h
      have hf45 : Fr Nil wr w5 := hf4.then hf5
      by_cases hik : i < k
      · have hK : Hid (l.map (·.1) = secs 0 i) := hid (by rw [Hkeys.out, show min i k = i by omega])
        have hd : decide ((addAll (l.map (·.1)) [(i : Int), (i : Int)]).length ≤ k) = true := by
          have : addAll (l.map (·.1)) [(i : Int), (i : Int)] = secs 0 (i + 1) := by
            show addKey (addKey (l.map (·.1)) i) i = _
            rw [hK.out, secs_snoc, addKey_in ((secs_mem 0 (i + 1) _).2 (by omega))]
          rw [this, secs_length]; exact decide_eq_true hik
        rw [hd]
        have hd2 : decide ((i : Int) < (k : Int)) = true := by simpa using hik
        go_wp2_with fail
        refine (put_ok _ _ pb mb k l (i : Int) _ _ (by omega) hwi (by rw [hK.out, secs_snoc, secs_length]; omega) w5 hb5 hx5).mono ?_
        rintro e w6 ⟨rfl, u, hb6, -, hf6⟩
        go_wp2
        go_roundw
        case rel => exact ⟨i + 1, _, by go_num, by omega, hfr.then (hf45.nil.then hf6), hb6, by rw [mput_keys', hK.out, secs_snoc, show min (i + 1) k = i + 1 by omega]⟩
        case measure => simp [intOf]; omega
      · have hK : Hid (l.map (·.1) = secs 0 k) := hid (by rw [Hkeys.out, show min i k = k by omega])
        have hnew : addKey (secs 0 k) (i : Int) = secs 0 k ++ [(i : Int)] := addKey_new (fun h => by have := (secs_mem 0 k _).1 h; omega)
        have hd : decide ((addAll (l.map (·.1)) [(i : Int), (i : Int)]).length ≤ k) = false := by
          have : addAll (l.map (·.1)) [(i : Int), (i : Int)] = secs 0 k ++ [(i : Int)] := by
            show addKey (addKey (l.map (·.1)) i) i = _
            rw [hK.out, hnew, addKey_in (by simp)]
          rw [this]; simp [secs_length]
        rw [hd]
        have hd2 : decide ((i : Int) < (k : Int)) = false := by simpa using hik
        go_wp2_with fail
        refine (put_full _ pb mb k l (i : Int) _ _ (by omega) hwi (by rw [hK.out, hnew]; simp [secs_length]) w5 hb5).mono ?_
        rintro e w6 ⟨rfl, hf6⟩
        go_wp2
        go_roundw
        case rel => exact ⟨i + 1, l, by go_num, by omega, hfr.then ((hf45.then hf6).nil), hb5.fr hf6 fun _ _ h => h, by rw [hK.out, show min (i + 1) k = k by omega]⟩
        case measure => simp [intOf]; omega
    · have him : i = m := by omega
      obtain ⟨q, hq⟩ : ∃ q, (m < k ∧ q = m) ∨ (¬ m < k ∧ q = k) := ⟨min m k, by omega⟩
      have hK : Hid (l.map (·.1) = secs 0 q) := hid (by rw [Hkeys.out, show min i k = q by omega])
      have Him := hid him; clear him
      have hq1 : Hid (q ≤ k ∧ q ≤ m) := hid (by omega)
      rcases hq with ⟨hc, rfl⟩ | ⟨hc, rfl⟩
      all_goals
        go_wp2_with fail
        go_loopw [12] (fun v12 wq => ∃ (j : Nat) (l2 : List (Int × Value)), v12 = .int .i64 j ∧ j ≤ q ∧ Fr (fun b => b = mb) wr wq ∧ IsB wq (fun b => b = pb ∨ b = mb) pb mb _ l2 ∧ l2.map (·.1) = secs 0 q) (fun v12 _ => q - (intOf v12).toNat)
        case atStart => exact ⟨0, l, rfl, by omega, Fr.refl _ _, hbr, hK.out⟩
        case round =>
          obtain ⟨j, l2, rfl, hj, hfq, hbq, hkeys2⟩ := hrel
          have hxq := hxr.fr hfq (fun b hb _ (e : b = mb) => by have : w2.heap.size ≤ b := hb; omega)
          have Hk2 := hid hkeys2; clear hkeys2
          by_cases hjq : j < q
          · have hin : addKey (l2.map (·.1)) (j : Int) = secs 0 q := by rw [Hk2.out, addKey_in ((secs_mem 0 q _).2 (by omega))]
            go_wp2_with fail
            refine (put_ok _ _ pb mb _ l2 (j : Int) _ _ (by omega) (wf_i64 (by omega)) (by rw [hin, secs_length]; have := hq1.out; omega) _ hbq hxq).mono ?_
            rintro e w6 ⟨rfl, u, hb6, -, hf6⟩
            go_wp2
            go_roundw
            case rel => exact ⟨j + 1, _, by go_num, by omega, hfq.then hf6, hb6, by rw [mput_keys', hin]⟩
            case measure => simp [intOf]; omega
          · have hjq' := hid (show j = q by omega)
            go_wp2_with fail
            have hq2 := hq1.out
            have hl2 : Hid (l2.length = q) := hid (by have := congrArg List.length Hk2.out; rwa [List.length_map, secs_length] at this)
            first | rw [show (200 + (at' : Int)) = ((200 + at' : Nat) : Int) by simp] | skip
            first | rw [show ((k : Int) - (q : Int) + 1) = ((k - q + 1 : Nat) : Int) by omega] | skip
            first
            | refine (trim_full _ pb mb k l2 (200 + at') (k - q + 1) (by omega) _ hbq (by rw [addAll_secs _ q _ _ Hk2.out (by omega)]; omega)).mono ?_
            | refine (trim_full _ pb mb q l2 (200 + at') 1 (by omega) _ hbq (by rw [addAll_secs _ q _ _ Hk2.out (by omega)]; omega)).mono ?_
            rintro e w7 ⟨rfl, hf7⟩
            have hb7 := hbq.fr hf7 fun _ _ h => h
            have hx7 := hxq.fr hf7 fun _ _ _ h => h
            go_wp2_with fail
            refine (len_ok _ pb mb _ l2 w7 hb7).mono ?_
            rintro e w8 ⟨rfl, rfl⟩
            rw [hl2.out]
            go_wp2_with fail
            first | rw [show (200 + (at' : Int)) = ((200 + at' : Nat) : Int) by simp] | skip
            first | rw [show ((k : Int) - (q : Int)) = ((k - q : Nat) : Int) by omega] | skip
            first
            | refine (trim_ok _ pb mb k l2 (200 + at') (k - q) (by omega) _ hb7 (by rw [addAll_secs _ q _ _ Hk2.out (by omega)]; omega)).mono ?_
            | refine (trim_ok _ pb mb q l2 (200 + at') 0 (by omega) _ hb7 (by rw [addAll_secs _ q _ _ Hk2.out (by omega)]; omega)).mono ?_
            rintro e w9 ⟨rfl, hb9, hf9⟩
            have hx9 := hx7.fr hf9 (fun b hb _ (e : b = mb) => by have : w2.heap.size ≤ b := hb; omega)
            first
            | have hl9 : Hid ((trimmed l2 (secs (200 + at') (k - q))).length = k) := hid (by rw [← List.length_map (f := (·.1)), trimmed_keys, addAll_secs _ q _ _ Hk2.out (by omega)]; omega)
            | have hl9 : Hid ((trimmed l2 (secs (200 + at') 0)).length = q) := hid (by rw [← List.length_map (f := (·.1)), trimmed_keys, addAll_secs _ q _ _ Hk2.out (by omega)]; omega)
            go_wp2_with fail
            refine (len_ok _ pb mb _ _ w9 hb9).mono ?_
            rintro e w10 ⟨rfl, rfl⟩
            rw [hl9.out]
            go_wp2_with fail
            refine (put_bad _ (.bool true) (-1) _ _ _ (.inr (by decide)) _).mono ?_
            rintro e w11 ⟨rfl, rfl⟩
            go_wp2_with fail
            refine (put_bad _ (.bool true) 0 _ _ _ (.inl (by decide)) _).mono ?_
            rintro e w11 ⟨rfl, rfl⟩
            go_wp2_with fail
            refine (trim_bad _ (-1) 1 (by decide) (by decide) (by decide) _).mono ?_
            rintro e w11 ⟨rfl, rfl⟩
            go_wp2_with fail
            refine (trim_bad _ 0 (-1) (by decide) (by decide) (by decide) _).mono ?_
            rintro e w11 ⟨rfl, rfl⟩
            go_wp2_with fail
            refine (trim_bad _ 510 3 (by decide) (by decide) (by decide) _).mono ?_
            rintro e w11 ⟨rfl, rfl⟩
            go_wp2_with fail
            refine (trim_ok _ pb mb _ _ 9 0 (by omega) _ hb9 (by show (List.map _ _).length ≤ _; rw [List.length_map, hl9.out]; exact Nat.le_refl _)).mono ?_
            rintro e w11 ⟨rfl, hb11, hf11⟩
            go_wp2
            go_ret
            have g1 : Fr (fun b => b = mb) W3 w11 := (((hfr.then hfq).then hf7.nil).then hf9).then hf11
            exact ⟨rfl, hfb.trans g1 (fun b hb => .inr (by have := hf1.size; omega))⟩
end Go.Proofs.Ytahedenbchgglaa

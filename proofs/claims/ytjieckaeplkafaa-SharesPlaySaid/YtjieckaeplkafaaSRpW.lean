/- The reference's Runs: New, all, Mark, Give, Free. -/
import Derived.Test.YtjieckaeplkafaaSRpPL
import Derived.Deep.OwnRows
set_option linter.unusedSimpArgs false
set_option linter.unusedVariables false
namespace Go.Proofs.Ytjieckaeplkafaa
open Go.RowKit
/-- The reference's Runs: its struct, its array. -/
def Rf (w : World) (mb fb : Nat) (F : List Bool) : Prop := Blk w mb #[.slice (some ⟨fb, 0, none⟩) F.length F.length] 67 ∧ Blk w fb (bools F) 4
theorem Rf.ne {w : World} {mb fb : Nat} {F : List Bool} (h : Rf w mb fb F) : mb ≠ fb := by
  intro e
  have h1 := h.1
  have h2 := h.2
  unfold Blk at h1 h2
  rw [e, h2] at h1
  simp at h1
theorem Rf.fr {w w1 : World} {S : Nat → Prop} {mb fb : Nat} {F : List Bool} (h : Rf w mb fb F) (hf : Fr S w w1) (h1 : ¬ S mb) (h2 : ¬ S fb) : Rf w1 mb fb F := ⟨h.1.fr hf h1, h.2.fr hf h2⟩
theorem Rf.nil {w w1 : World} {mb fb : Nat} {F : List Bool} (h : Rf w mb fb F) (hf : Fr Nil w w1) : Rf w1 mb fb F := h.fr hf (fun h => h) fun h => h
theorem Rf.set {w : World} {mb fb : Nat} {F : List Bool} (h : Rf w mb fb F) (k : Nat) (v : Bool) : Rf (w.setCell ⟨fb, k, none⟩ (.bool v)) mb fb (F.set k v) := by
  refine ⟨?_, by rw [← bools_set]; exact h.2.set k _⟩
  rw [List.length_set]
  exact h.1.set_other (show mb ≠ fb from h.ne) _
theorem Rf.at {w : World} {mb fb : Nat} {F : List Bool} (h : Rf w mb fb F) {k : Nat} (hk : k < F.length) : w.cell? ⟨fb, k, none⟩ = some (.bool (F.getD k false)) := by
  rw [h.2.cell, bools_at hk]
theorem info_bool : (Try.prog.info? 4).map (fun i => (i.zero, i.size, i.bytes)) = some (some (.bool false), 1, 1) := by kernel_rfl
theorem mk_bool (n : Nat) (hn : n ≤ 1000000) (w : World) : (Instr.makeSlice 65 (.int .i64 (n : Int)) (.int .i64 (n : Int))).run Try.prog w = .ok (.slice (some ⟨w.heap.size, 0, none⟩) n n) (w.alloc (.cells (bools (List.replicate n false)) 4)) := by
  have h := run_make_row' 65 4 (.bool false) 1 Try.underlying65 info_bool rfl .i64 .i64 n (by omega) (by omega) w
  rw [h]
  have hl : (madeCells #[Value.bool false] n) = bools (List.replicate n false) := by
    apply Array.toList_inj.1
    simp only [madeCells, Array.toList_map, Array.toList_range, bools]
    refine List.ext_getElem? fun i => ?_
    by_cases hi : i < n <;> simp [hi, Nat.mod_one, List.getElem?_replicate]
  rw [← hl]
/-- So many are set. -/
theorem rep_set {N i : Nat} (h : i < N) : (List.replicate i true ++ List.replicate (N - i) false).set i true = List.replicate (i + 1) true ++ List.replicate (N - (i + 1)) false := by
  rw [List.set_append_right _ _ (by simp), List.length_replicate, Nat.sub_self, show N - i = (N - (i + 1)) + 1 by omega, List.replicate_succ, List.set_cons_zero, List.replicate_succ' (n := i), List.append_assoc]; rfl
theorem ref_new (b : Int) (w : World) : Calls Try.prog 22 #[.int .i64 b] w fun e w' => ∃ mb fb, e = .returned (.pointer (some ⟨mb, 0, none⟩)) ∧ Rf w' mb fb (List.replicate (newBl b) true) ∧ w.heap.size ≤ mb ∧ w.heap.size ≤ fb ∧ Fr Nil w w' := by
  obtain ⟨N, hN⟩ : ∃ N, N = newBl b := ⟨_, rfl⟩
  have hN8 : N ≤ 8192 := by rw [hN]; unfold newBl; split <;> omega
  rw [← hN]
  have hmk := mk_bool N (by omega) w
  go_enter Try.func22, Try.ntmps22
  go_upto_region 1 with (fail)
  go_cut [10] from 5 to 10 (fun v wx => v = .bool (decide (b < 0 ∨ 8192 < b)) ∧ wx = w)
  case first =>
    have Hn := hid hN
    clear hN
    by_cases h1 : b < 0
    · have e : decide (b < 0 ∨ 8192 < b) = true := decide_eq_true (.inl h1)
      have E := hid e
      clear e
      go_wp2_with fail
      go_meet
      case rel => exact ⟨by rw [E.out], rfl⟩
    · have e : decide (b < 0 ∨ 8192 < b) = decide (8192 < b) := decide_eq_decide.2 (by omega)
      have E := hid e
      clear e
      go_wp2_with fail
      go_meet
      case rel => exact ⟨by rw [E.out], rfl⟩
  case rest =>
    obtain ⟨rfl, rfl⟩ := hcut
    go_upto_if 10 with (fail)
    go_cut [0] from 10 to 10 (fun v wy => v = .int .i64 (N : Nat) ∧ wy = wc)
    case first =>
      by_cases h1 : b < 0 ∨ 8192 < b
      · have e : N = 0 := by rw [hN]; unfold newBl; rw [if_neg (by omega)]
        have E := hid e
        have hd : decide (b < 0 ∨ 8192 < b) = true := decide_eq_true h1
        clear hN e h1
        rw [hd]
        clear hd
        go_wp2_with fail
        go_meet
        case rel => exact ⟨by rw [E.out]; rfl, rfl⟩
      · have e : b = N := by rw [hN]; unfold newBl; split <;> omega
        have E := hid e
        have hd : decide (b < 0 ∨ 8192 < b) = false := decide_eq_false h1
        clear hN e h1
        rw [hd]
        clear hd
        go_wp2_with fail
        go_meet
        case rel => exact ⟨by rw [E.out], rfl⟩
    case rest =>
      obtain ⟨w0, hw0⟩ : ∃ w0, w0 = wc := ⟨_, rfl⟩
      obtain ⟨rfl, rfl⟩ := hcut
      have Hn := hid hN
      clear hN hw0
      go_wp2_with fail
      have hRf : Rf ((wc.alloc (.cells (bools (List.replicate N false)) 4)).alloc (.cells #[.slice (some ⟨wc.heap.size, 0, none⟩) N N] 67)) (wc.heap.size + 1) wc.heap.size (List.replicate N false) := by
        refine ⟨?_, (Blk.new _ _ _).alloc _⟩
        rw [List.length_replicate]
        have := Blk.new (wc.alloc (.cells (bools (List.replicate N false)) 4)) #[.slice (some ⟨wc.heap.size, 0, none⟩) N N] 67
        rwa [show (wc.alloc (.cells (bools (List.replicate N false)) 4)).heap.size = wc.heap.size + 1 by show (wc.heap.push _).size = _; simp] at this
      have f2 : Fr Nil wc ((wc.alloc (.cells (bools (List.replicate N false)) 4)).alloc (.cells #[.slice (some ⟨wc.heap.size, 0, none⟩) N N] 67)) := ((Fr.refl _ _).alloc _).alloc _
      obtain ⟨w2, hw2⟩ : ∃ w2, w2 = (wc.alloc (.cells (bools (List.replicate N false)) 4)).alloc (.cells #[.slice (some ⟨wc.heap.size, 0, none⟩) N N] 67) := ⟨_, rfl⟩
      rw [← hw2] at hRf f2 ⊢
      clear hw2
      obtain ⟨mb, hmb⟩ : ∃ mb, mb = wc.heap.size + 1 := ⟨_, rfl⟩
      obtain ⟨fb, hfb⟩ : ∃ fb, fb = wc.heap.size := ⟨_, rfl⟩
      rw [← hmb] at hRf ⊢
      rw [← hfb] at hRf ⊢
      have Hm := hid (show wc.heap.size ≤ mb by omega)
      have Hf := hid (show wc.heap.size ≤ fb by omega)
      have HR := hid hRf
      have F2 := hid f2
      clear hmb hfb hRf f2 hmk
      go_loopw [4] (fun v4 wr => ∃ i : Nat, v4 = .int .i64 i ∧ i ≤ N ∧ Hid (Rf wr mb fb (List.replicate i true ++ List.replicate (N - i) false)) ∧ Fr Nil wc wr) (fun v4 _ => N - (intOf v4).toNat)
      case atStart => exact ⟨0, rfl, by omega, hid (by simpa using HR.out), F2.out⟩
      case round =>
        obtain ⟨i, rfl, hi, hR, hfw⟩ := hrel
        by_cases hlt : i < N
        · have hl : (List.replicate i true ++ List.replicate (N - i) false).length = N := by simp; omega
          have c0 := hR.out.1.cell 0
          rw [hl] at c0
          have q0 := hR.out.at (k := i) (by rw [hl]; exact hlt)
          have z0 := hR.out.2.frozen i
          have HR2 := hid (hR.out.set i true)
          rw [rep_set hlt] at HR2
          clear hl
          go_wp2_with fail
          go_roundw
          case rel => exact ⟨i + 1, by go_num, by omega, HR2, hfw.setCell (a := ⟨fb, i, none⟩) (.inr Hf.out) _⟩
          case measure => simp [intOf]; omega
        · obtain rfl : i = N := by omega
          go_wp2
          go_ret
          refine ⟨mb, fb, rfl, ?_, Hm.out, Hf.out, hfw⟩
          have := hR.out
          rwa [Nat.sub_self, show List.replicate 0 false = [] from rfl, List.append_nil] at this
theorem allB_no {F : List Bool} {a n : Int} {v : Bool} (h : ¬ (0 ≤ a ∧ 1 ≤ n ∧ a < F.length ∧ n ≤ F.length - a)) : allB F a n v = false := by unfold allB; rw [decide_eq_false h, Bool.false_and]
theorem allB_at {F : List Bool} {X N i : Nat} {v : Bool} (hi : i < N) (h : F.getD (X + i) false ≠ v) : allB F (X : Nat) (N : Nat) v = false := by
  cases h2 : allB F (X : Nat) (N : Nat) v with
  | false => rfl
  | true => exact absurd ((all_iff.1 h2).2 (X + i) (by omega) (by omega)) h
theorem allB_yes {F : List Bool} {X N : Nat} {v : Bool} (h0 : 1 ≤ N) (h1 : X + N ≤ F.length) (h : ∀ j, j < N → F.getD (X + j) false = v) : allB F (X : Nat) (N : Nat) v = true :=
  all_iff.2 ⟨⟨h0, h1⟩, fun k k1 k2 => by have := h (k - X) (by omega); rwa [show X + (k - X) = k by omega] at this⟩
theorem ref_all (mb fb : Nat) (F : List Bool) (a n : Int) (v : Bool) (w : World) (hR : Rf w mb fb F) (hF : F.length ≤ 8192) (ha : -9223372036854775808 ≤ a ∧ a < 9223372036854775808) (hn : -9223372036854775808 ≤ n ∧ n < 9223372036854775808) :
    Calls Try.prog 54 #[.pointer (some ⟨mb, 0, none⟩), .int .i64 a, .int .i64 n, .bool v] w fun e w' => e = .returned (.bool (allB F a n v)) ∧ w = w' := by
  have c0 := hR.1.cell 0
  have HR := hid hR
  clear hR
  obtain ⟨B, hB⟩ : ∃ B, B = allB F a n v := ⟨_, rfl⟩
  rw [← hB]
  have HB := hid hB
  clear hB
  obtain ⟨L, hL⟩ : ∃ L, L = F.length := ⟨_, rfl⟩
  rw [← hL] at c0 hF
  have HL := hid hL
  clear hL
  go_enter Try.func54, Try.ntmps54
  by_cases h1 : a < 0
  · have E : Hid (B = false) := hid (by rw [HB.out]; exact allB_no (by rw [← HL.out]; omega))
    go_wp2
    go_ret
    exact ⟨by rw [E.out]; rfl, rfl⟩
  by_cases h2 : n < 1
  · have E : Hid (B = false) := hid (by rw [HB.out]; exact allB_no (by rw [← HL.out]; omega))
    go_wp2
    go_ret
    exact ⟨by rw [E.out]; rfl, rfl⟩
  obtain ⟨X, rfl⟩ : ∃ X : Nat, a = X := ⟨a.toNat, by omega⟩
  obtain ⟨N, rfl⟩ : ∃ N : Nat, n = N := ⟨n.toNat, by omega⟩
  clear h1
  have hN1 : 1 ≤ N := by omega
  clear h2
  by_cases h3 : L ≤ X
  · have E : Hid (B = false) := hid (by rw [HB.out]; exact allB_no (by rw [← HL.out]; omega))
    go_wp2
    go_ret
    exact ⟨by rw [E.out]; rfl, rfl⟩
  by_cases h4 : L - X < N
  · have E : Hid (B = false) := hid (by rw [HB.out]; exact allB_no (by rw [← HL.out]; omega))
    go_wp2
    go_ret
    exact ⟨by rw [E.out]; rfl, rfl⟩
  have hXN : X + N ≤ L := by omega
  clear h3 h4
  go_wp2_with fail
  go_loopw [9] (fun v9 wr => ∃ i : Nat, v9 = .int .i64 i ∧ i ≤ N ∧ Hid (∀ j, j < i → F.getD (X + j) false = v) ∧ w = wr) (fun v9 _ => N - (intOf v9).toNat)
  case atStart => exact ⟨0, rfl, by omega, hid fun j hj => absurd hj (Nat.not_lt_zero _), rfl⟩
  case round =>
    obtain ⟨i, rfl, hi, hA, rfl⟩ := hrel
    by_cases hlt : i < N
    · have q0 := HR.out.at (k := X + i) (by rw [← HL.out]; omega)
      by_cases hv : F.getD (X + i) false = v
      · rw [hv] at q0
        have HV := hid hv
        clear hv
        go_wp2_with fail
        go_roundw
        case rel => exact ⟨i + 1, by go_num, by omega, hid fun j hj => by
          by_cases h : j = i
          · subst h; exact HV.out
          · exact hA.out j (by omega), trivial⟩
        case measure => simp [intOf]; omega
      · have E : Hid (B = false) := hid (by rw [HB.out]; exact allB_at hlt hv)
        have hb : F.getD (X + i) false = !v := by
          cases h : F.getD (X + i) false <;> cases v <;> first | rfl | exact absurd h hv
        rw [hb] at q0
        clear hv hb
        cases v with
        | true =>
          go_wp2
          go_ret
          exact ⟨by rw [E.out]; rfl, rfl⟩
        | false =>
          go_wp2
          go_ret
          exact ⟨by rw [E.out]; rfl, rfl⟩
    · have E : Hid (B = true) := hid (by rw [HB.out]; exact allB_yes hN1 (by rw [← HL.out]; exact hXN) fun j hj => hA.out j (by omega))
      go_wp2
      go_ret
      exact ⟨by rw [E.out]; rfl, rfl⟩
end Go.Proofs.Ytjieckaeplkafaa

/- The texts VRnV, VRnI, VRnD of this proof, one behind the other. Conditions: those of each. -/
import Derived.Test.YtgoghmblfdlnbaaProg
import Derived.Test.YtgoghmblfdlnbaaGW2
section
/- Runs of blocks: their abstract shape (no program). -/
set_option linter.unusedSimpArgs false
set_option linter.unusedVariables false
namespace Go.Proofs.Ytgoghmblfdlnbaa
open Go.RowKit

/-- A run: its first block, how many. -/
structure Rn where
  a : Nat
  n : Nat
deriving DecidableEq
def rcells (r : Rn) : List Value := [.int .i64 (r.a : Nat), .int .i64 (r.n : Nat)]
def dbl (l : List Rn) : List Value := l.flatMap rcells
def rn (l : List Rn) (i : Nat) : Rn := l.getD i ⟨0, 0⟩
theorem dbl_length (l : List Rn) : (dbl l).length = l.length * 2 := by
  induction l with
  | nil => rfl
  | cons k l ih => simp [dbl, rcells] at ih ⊢; omega
theorem dbl_append (a b : List Rn) : dbl (a ++ b) = dbl a ++ dbl b := by simp [dbl]
theorem dbl_one (a : Rn) : dbl [a] = rcells a := by simp [dbl]
theorem dbl_cell (l : List Rn) : ∀ u ∈ dbl l, u.oneCell' = true := by
  intro u hu
  obtain ⟨r, _, hr⟩ := List.mem_flatMap.1 hu
  simp [rcells] at hr
  rcases hr with rfl | rfl <;> rfl
theorem rcells_cell (r : Rn) : ∀ u ∈ rcells r, u.oneCell' = true := by
  intro u hu
  simp [rcells] at hu
  rcases hu with rfl | rfl <;> rfl
theorem dbl_take : ∀ (l : List Rn) (i : Nat), (dbl l).take (i * 2) = dbl (l.take i)
  | [], i => by simp [dbl]
  | k :: l, 0 => by simp [dbl]
  | k :: l, i + 1 => by
    have := dbl_take l i
    show (rcells k ++ dbl l).take ((i + 1) * 2) = rcells k ++ dbl (l.take i)
    rw [List.take_append, show (i + 1) * 2 - (rcells k).length = i * 2 by simp [rcells]; omega, this, List.take_of_length_le (by simp [rcells]; omega)]
theorem dbl_drop : ∀ (l : List Rn) (i : Nat), (dbl l).drop (i * 2) = dbl (l.drop i)
  | [], i => by simp [dbl]
  | k :: l, 0 => by simp [dbl]
  | k :: l, i + 1 => by
    have := dbl_drop l i
    show (rcells k ++ dbl l).drop ((i + 1) * 2) = dbl (l.drop i)
    rw [List.drop_append, show (i + 1) * 2 - (rcells k).length = i * 2 by simp [rcells]; omega, this, List.drop_of_length_le (by simp [rcells]; omega), List.nil_append]
theorem rn_eq {l : List Rn} {i : Nat} (h : i < l.length) : rn l i = l[i] := by simp [rn, List.getElem?_eq_getElem h]
theorem dbl_get {l : List Rn} {i : Nat} (h : i < l.length) : (dbl l)[i * 2]? = some (.int .i64 ((rn l i).a : Nat)) ∧ (dbl l)[i * 2 + 1]? = some (.int .i64 ((rn l i).n : Nat)) := by
  have hd := dbl_drop l i
  rw [List.drop_eq_getElem_cons h, ← rn_eq h] at hd
  have h0 : ((dbl l).drop (i * 2))[0]? = some (.int .i64 ((rn l i).a : Nat)) := by rw [hd]; rfl
  have h1 : ((dbl l).drop (i * 2))[1]? = some (.int .i64 ((rn l i).n : Nat)) := by rw [hd]; rfl
  rw [List.getElem?_drop] at h0 h1
  exact ⟨h0, h1⟩
theorem take_snoc {α : Type} [Inhabited α] {l : List α} {i : Nat} (h : i < l.length) : l.take (i + 1) = l.take i ++ [l[i]] := List.take_succ_eq_append_getElem h

/-- An element is read. -/
theorem rn_at {w : World} {S : Nat → Prop} {A : Option Addr} {n c : Nat} {l : List Rn} (h : View w S 2 (.slice A n c) n (dbl l)) {i : Nat} (hi : i < n) :
    ∃ b o, A = some ⟨b, o, none⟩ ∧ S b ∧ b < w.heap.size ∧ w.cell? ⟨b, o + i * 2, none⟩ = some (.int .i64 ((rn l i).a : Nat)) ∧ w.cell? ⟨b, o + i * 2 + 1, none⟩ = some (.int .i64 ((rn l i).n : Nat)) := by
  obtain ⟨hl, A', c', e, _, _, _, _, h5⟩ := h
  injection e with ea _ ec
  subst ea; subst ec
  obtain ⟨b, o, hA, hS, hb, hc⟩ := h5 (by omega)
  obtain ⟨g0, g1⟩ := dbl_get (l := l) (i := i) (by rw [dbl_length] at hl; omega)
  exact ⟨b, o, hA, hS, hb, hc _ _ g0, hc _ _ g1⟩
theorem View.len2 {w : World} {S : Nat → Prop} {v : Value} {n : Nat} {l : List Rn} (h : View w S 2 v n (dbl l)) : l.length = n := by
  have := h.length; rw [dbl_length] at this; omega
/-- Those that have blocks. -/
def nz (r : Rn) : Bool := r.n != 0
def zi (l : List Rn) : Nat := (l.takeWhile nz).length
theorem zi_le (l : List Rn) : zi l ≤ l.length := (List.takeWhile_sublist nz).length_le
theorem zi_unique {l : List Rn} {i : Nat} (hi : i ≤ l.length) (h : ∀ j, j < i → nz (rn l j) = true) (h2 : i < l.length → nz (rn l i) = false) : zi l = i := by
  induction l generalizing i with
  | nil => simp at hi; subst hi; rfl
  | cons r l ih =>
    unfold zi
    cases i with
    | zero =>
      have : nz r = false := h2 (by simp)
      simp [List.takeWhile_cons, this]
    | succ i =>
      have h0 : nz r = true := h 0 (by omega)
      have := ih (i := i) (by simpa using hi) (fun j hj => h (j + 1) (by omega)) (fun hl => h2 (by simpa using hl))
      rw [List.takeWhile_cons, if_pos h0, List.length_cons]
      unfold zi at this
      omega
theorem zi_filter (l : List Rn) : (l.take (zi l)).filter nz = l.take (zi l) ∧ (zi l < l.length → nz (rn l (zi l)) = false) ∧ (∀ j, j < zi l → nz (rn l j) = true) := by
  induction l with
  | nil => exact ⟨rfl, fun h => absurd h (by simp [zi]), fun j hj => absurd hj (by simp [zi])⟩
  | cons r l ih =>
    unfold zi at ih ⊢
    by_cases h : nz r = true
    · rw [List.takeWhile_cons, if_pos h, List.length_cons]
      refine ⟨?_, fun hl => ih.2.1 (by simpa using hl), fun j hj => ?_⟩
      · rw [List.take_succ_cons, List.filter_cons, if_pos h, ih.1]
      · cases j with
        | zero => exact h
        | succ j => exact ih.2.2 j (by omega)
    · rw [List.takeWhile_cons, if_neg h]
      exact ⟨rfl, fun _ => (by show nz r = false; simpa using h), fun j hj => absurd hj (by simp)⟩
end Go.Proofs.Ytgoghmblfdlnbaa
end

section
/- slices.IndexFunc, slices.DeleteFunc and slices.Clone on runs. -/
set_option linter.unusedSimpArgs false
set_option linter.unusedVariables false
namespace Go.Proofs.Ytgoghmblfdlnbaa
open Go.RowKit
theorem info_run : (Try.prog.info? 33).map (fun i => (i.zero, i.size, i.bytes)) = some (some (.agg #[.int .i64 0, .int .i64 0]), 2, 16) := by kernel_rfl
theorem size_run : (Try.prog.info? 33).map (·.size) = some 2 := by kernel_rfl
theorem zero_run (w : World) : (zeroValue 33).run Try.prog w = .ok (.agg #[.int .i64 0, .int .i64 0]) w := by kernel_rfl
/-- The function that put hands on. -/
theorem none_ok (r : Rn) (b : Bool) (hb : nz r = b) (w : World) : Calls Try.prog 62 #[.agg #[.int .i64 (r.a : Nat), .int .i64 (r.n : Nat)]] w fun e w' => e = .returned (.bool (!b)) ∧ Fr Nil w w' := by
  obtain ⟨a, n⟩ := r
  have hf : Fr Nil w (w.alloc (.cells #[.int .i64 (a : Nat), .int .i64 (n : Nat)] 33)) := (Fr.refl _ _).alloc _
  unfold nz at hb
  dsimp only at hb ⊢
  by_cases h0 : n = 0
  · subst h0
    obtain rfl : b = false := by simpa using hb.symm
    clear hb
    go_enter Try.func62, Try.ntmps62
    go_wp2
    go_ret
    exact ⟨rfl, hf⟩
  · have hz : ((n : Int) == 0) = false := by simp; omega
    obtain rfl : b = true := by rw [← hb]; simpa using h0
    clear hb
    have H0 := hid h0; clear h0
    go_enter Try.func62, Try.ntmps62
    go_wp2
    go_ret
    exact ⟨rfl, hf⟩

/-- The first run without blocks. -/
def fzi (l : List Rn) : Int := if zi l < l.length then (zi l : Nat) else -1
set_option maxRecDepth 100000 in
theorem index_ok (S : Nat → Prop) (A : Option Addr) (n c : Nat) (l : List Rn) (w : World) (hv : View w S 2 (.slice A n c) n (dbl l)) :
    Calls Try.prog 77 #[.slice A n c, .func (.func 62) #[] #[]] w fun e w' => e = .returned (.int .i64 (fzi l)) ∧ Fr Nil w w' := by
  have hln := hv.len2
  have Hln := hid hln
  clear hln
  have hle : n ≤ 9223372036854775807 := hv.le
  go_enter Try.func77, Try.ntmps77
  go_wp2_with fail
  go_loopw [8] (fun v8 wr => ∃ i : Nat, v8 = .int .i64 i ∧ i ≤ n ∧ Fr Nil w wr ∧ Hid (∀ j, j < i → nz (rn l j) = true)) (fun v8 _ => n - (intOf v8).toNat)
  case atStart => exact ⟨0, rfl, by omega, Fr.refl _ _, hid fun j hj => absurd hj (by omega)⟩
  case round =>
    obtain ⟨i, rfl, hi, hfw, hok⟩ := hrel
    by_cases hlt : i < n
    · obtain ⟨b, o, rfl, -, hbl, k0, k1⟩ := rn_at (hv.fr hfw fun _ _ _ h => h) hlt
      cases hz : nz (rn l i) with
      | true =>
        have Hz := hid hz; clear hz
        go_wp2_with fail
        refine (none_ok (rn l i) _ Hz.out _).mono ?_
        rintro e w1 ⟨rfl, hf1⟩
        clear k0 k1
        go_wp2
        go_roundw
        case rel =>
          refine ⟨i + 1, by go_num, by omega, hfw.then hf1, hid fun j hj => ?_⟩
          rcases Nat.lt_or_ge j i with h | h
          · exact hok.out j h
          · obtain rfl : j = i := by omega
            exact Hz.out
        case measure => simp [intOf]; omega
      | false =>
        have Hz := hid hz; clear hz
        have hF : Hid (fzi l = (i : Nat)) := hid (by
          have := zi_unique (l := l) (i := i) (by rw [Hln.out]; omega) hok.out (fun _ => Hz.out)
          unfold fzi; rw [this, if_pos (by rw [Hln.out]; exact hlt)])
        go_wp2_with fail
        refine (none_ok (rn l i) _ Hz.out _).mono ?_
        rintro e w1 ⟨rfl, hf1⟩
        clear k0 k1
        go_wp2
        go_ret
        rw [hF.out]
        exact ⟨rfl, hfw.then hf1⟩
    · have hF : Hid (fzi l = -1) := hid (by
        have := zi_unique (l := l) (i := i) (by rw [Hln.out]; omega) hok.out (fun h => absurd h (by rw [Hln.out]; omega))
        unfold fzi; rw [this, if_neg (by rw [Hln.out]; omega)])
      go_wp2
      go_ret
      rw [hF.out]
      exact ⟨rfl, hfw⟩

/-- A copy of its own. -/
theorem clone_ok (S : Nat → Prop) (A : Option Addr) (n c : Nat) (l : List Rn) (hn : n < 1000000000) (w : World) (hv : View w S 2 (.slice A n c) n (dbl l)) :
    Calls Try.prog 45 #[.slice A n c] w fun e w' => ∃ A' c', e = .returned (.slice A' n c') ∧ Row w' (New w) 33 2 (.slice A' n c') n (dbl l) ∧ Fr Nil w w' := by
  have hv0 := hv
  obtain ⟨hl, A', c', e, e1, e2, e3, e4, e5⟩ := hv
  injection e with ea _ ec
  subst ea; subst ec
  cases A with
  | none =>
    obtain rfl := e3 rfl
    obtain rfl : n = 0 := by omega
    have hx : dbl l = [] := List.eq_nil_of_length_eq_zero (by simpa using hl)
    go_enter Try.func45, Try.ntmps45
    go_wp2
    go_ret
    exact ⟨none, 0, rfl, Row.nil _ _ _ _, Fr.refl _ _⟩
  | some ad =>
    go_enter Try.func45, Try.ntmps45
    go_wp2_with (at_builtin; refine wp_app_view rfl _ _ 31 rfl (.agg #[.int .i64 0, .int .i64 0]) 16 Try.underlying31 info_run rfl (by decide) (Row.made w #[] 33 2 0 0 rfl (Nat.le_refl _) (by decide)) rfl (hv0.alloc _) rfl (dbl_cell l) (by omega) (by decide) ?_)
    intro A cap w' r1 r2 r3
    have r4 : Row w' (New w) 33 2 (.slice A (0 + n) cap) (0 + n) (dbl l) := by
      refine Row.mono (by simpa using r1) fun k hk => ?_
      rcases hk with hk | hk
      · simp [Value.ownBlock] at hk
        unfold New; omega
      · unfold New; omega
    have r5 : Fr Nil w w' := ((Fr.refl Nil w).alloc _).trans r2 (fun k hk => by simp [Value.ownBlock] at hk; exact .inr (by omega))
    clear r1 r2 r3
    rw [Nat.zero_add] at r4 ⊢
    go_wp2
    go_ret
    exact ⟨A, cap, rfl, r4, r5⟩
end Go.Proofs.Ytgoghmblfdlnbaa
end

section
/- slices.DeleteFunc on runs: those without blocks go. -/
set_option linter.unusedSimpArgs false
set_option linter.unusedVariables false
namespace Go.Proofs.Ytgoghmblfdlnbaa
open Go.RowKit
theorem laid_two {cur : Array Value} {l1 : List Rn} {i : Nat} {r : Rn} (hi : i * 2 + 2 ≤ cur.size) (h : cur.toList.take (i * 2) = dbl l1) :
    (cur.setIfInBounds (i * 2) (.int .i64 (r.a : Nat)) |>.setIfInBounds (i * 2 + 1) (.int .i64 (r.n : Nat))).toList.take ((i + 1) * 2) = dbl (l1 ++ [r]) := by
  rw [dbl_append, dbl_one, ← h]
  apply List.ext_getElem?
  intro k
  simp only [Array.toList_setIfInBounds, List.getElem?_take, List.getElem?_set, List.getElem?_append, List.length_take, Array.length_toList, rcells]
  have hm : min (i * 2) cur.size = i * 2 := by omega
  rw [hm]
  by_cases h1 : k < i * 2
  · rw [if_pos (by omega), if_neg (by omega), if_neg (by omega), if_pos h1, if_pos h1]
  · by_cases h2 : k = i * 2
    · subst h2
      rw [if_pos (by omega), if_neg (by omega), if_pos rfl, if_pos (by omega), if_neg (by omega), Nat.sub_self]; rfl
    · by_cases h3 : k = i * 2 + 1
      · subst h3
        rw [if_pos (by omega), if_pos rfl, if_pos (by simp; omega), if_neg (by omega), show i * 2 + 1 - i * 2 = 1 by omega]; rfl
      · rw [if_neg (by omega), if_neg (by omega), show k - i * 2 = (k - i * 2 - 2) + 2 by omega]; rfl
theorem two_drop {cur : Array Value} {i j : Nat} {x y : Value} (h : i * 2 + 2 ≤ j * 2) : (cur.setIfInBounds (i * 2) x |>.setIfInBounds (i * 2 + 1) y).toList.drop (j * 2) = cur.toList.drop (j * 2) := by
  apply List.ext_getElem?
  intro k
  simp only [Array.toList_setIfInBounds, List.getElem?_drop, List.getElem?_set]
  rw [if_neg (by omega), if_neg (by omega)]
theorem drop_next {A A' D : List Value} {N j : Nat} (hA : A'.drop ((j + 1) * 2) = A.drop ((j + 1) * 2)) (h : (A.take N).drop (j * 2) = D.drop (j * 2)) : (A'.take N).drop ((j + 1) * 2) = D.drop ((j + 1) * 2) := by
  rw [List.drop_take, hA, ← List.drop_take, show (j + 1) * 2 = j * 2 + 2 by omega, ← List.drop_drop, h, List.drop_drop]
/-- What is kept of the first j. -/
def kept (l : List Rn) (j : Nat) : List Rn := (l.take j).filter nz
theorem kept_le (l : List Rn) (j : Nat) : (kept l j).length ≤ j := by
  unfold kept
  have h1 := List.length_filter_le nz (l.take j)
  have h2 := List.length_take_le j l
  omega
theorem kept_succ {l : List Rn} {j : Nat} (h : j < l.length) : kept l (j + 1) = if nz (rn l j) = true then kept l j ++ [rn l j] else kept l j := by
  unfold kept
  rw [List.take_succ_eq_append_getElem h, List.filter_append, ← rn_eq h, List.filter_cons, List.filter_nil]
  split
  · rfl
  · simp
set_option maxRecDepth 100000 in
set_option maxHeartbeats 800000 in
theorem delete_ok (S : Nat → Prop) (g cap n : Nat) (l : List Rn) (hn : n ≤ 1000) (w : World) (hr : Row w S 33 2 (.slice (some ⟨g, 0, none⟩) n cap) n (dbl l)) :
    Calls Try.prog 61 #[.slice (some ⟨g, 0, none⟩) n cap, .func (.func 62) #[] #[]] w fun e w' => e = .returned (.slice (some ⟨g, 0, none⟩) (l.filter nz).length cap) ∧ Row w' S 33 2 (.slice (some ⟨g, 0, none⟩) (l.filter nz).length cap) (l.filter nz).length (dbl (l.filter nz)) ∧ Fr (fun k => k = g) w w' := by
  have hln := hr.view.len2
  have Hln := hid hln
  clear hln
  have hzl := zi_le l
  rw [Hln.out] at hzl
  have hzf := zi_filter l
  have Hzf := hid hzf; clear hzf
  have hall : Hid (kept l n = l.filter nz) := hid (by unfold kept; rw [List.take_of_length_le (by rw [Hln.out]; omega)])
  go_enter Try.func61, Try.ntmps61
  go_wp2_with fail
  refine (index_ok S _ n cap l w hr.view).mono ?_
  rintro e w1 ⟨rfl, hf1⟩
  by_cases hlt : zi l < n
  · have hfz : fzi l = (zi l : Nat) := by unfold fzi; rw [if_pos (by rw [Hln.out]; exact hlt)]
    rw [hfz]
    clear hfz
    generalize hz0 : zi l = z at *
    have Hz0 := hid hz0; clear hz0
    obtain ⟨g', cap', cur, heq, hSg, hgb, hcn, hcm, hcs, hct⟩ := (hr.fr hf1 fun _ _ h => h).blk (by simp)
    injection heq with ha _ hc
    injection ha with ha
    injection ha with hg _ _
    subst hg; subst hc
    have hk0 : Hid (kept l z = l.take z) := hid (by unfold kept; exact Hzf.out.1)
    have hkn : Hid (kept l (z + 1) = l.take z) := hid (by
      rw [kept_succ (by rw [Hln.out]; exact hlt), hk0.out, if_neg (by have := Hzf.out.2.1 (by rw [Hln.out]; exact hlt); rw [this]; decide)])
    have hkl : Hid ((l.take z).length = z) := hid (by rw [List.length_take, Hln.out]; exact Nat.min_eq_left hzl)
    have hcap : cap * 2 = cur.size := hcs.symm
    have hcmx : cap ≤ 9223372036854775807 := by simp only [maxLen] at hcm; omega
    have hz9 : ((z : Int) == -1) = false := by simp
    clear hcs hcm
    go_wp2_with fail
    clear hz9
    go_loopw [5, 6] (fun v5 v6 wr => ∃ (i j : Nat) (cr : Array Value), v5 = .int .i64 i ∧ v6 = .int .i64 j ∧ i < j ∧ j ≤ n ∧ Blk wr g cr 33 ∧ cr.size = cur.size ∧ Fr (fun k => k = g) w1 wr ∧ Hid ((kept l j).length = i) ∧ Hid (cr.toList.take (i * 2) = dbl (kept l j)) ∧ Hid ((cr.toList.take (n * 2)).drop (j * 2) = (dbl l).drop (j * 2))) (fun _ v6 _ => n - (intOf v6).toNat)
    case atStart =>
      refine ⟨z, z + 1, cur, rfl, by go_num, by omega, by omega, hgb, rfl, Fr.refl _ _, hid (by rw [hkn.out]; exact hkl.out), hid ?_, hid (by rw [hct])⟩
      rw [hkn.out, ← dbl_take, ← hct, List.take_take, Nat.min_eq_left (by omega)]
    case round =>
      obtain ⟨i, j, cr, rfl, rfl, hij, hj, hgr, hsz, hfr, hki, hkt, hdr⟩ := hrel
      by_cases hjn : j < n
      · have hjl : j < l.length := by rw [Hln.out]; exact hjn
        have hcells : wr.cell? ⟨g, j * 2, none⟩ = some (.int .i64 ((rn l j).a : Nat)) ∧ wr.cell? ⟨g, j * 2 + 1, none⟩ = some (.int .i64 ((rn l j).n : Nat)) := by
          obtain ⟨g0, g1⟩ := dbl_get hjl
          have h0 : ((dbl l).drop (j * 2))[0]? = some (.int .i64 ((rn l j).a : Nat)) := by rw [List.getElem?_drop]; exact g0
          have h1 : ((dbl l).drop (j * 2))[1]? = some (.int .i64 ((rn l j).n : Nat)) := by rw [List.getElem?_drop]; exact g1
          rw [← hdr.out, List.getElem?_drop, List.getElem?_take] at h0 h1
          rw [if_pos (by omega)] at h0 h1
          rw [hgr.cell, hgr.cell, ← Array.getElem?_toList, ← Array.getElem?_toList]
          exact ⟨h0, h1⟩
        obtain ⟨k0, k1⟩ := hcells
        have k0' : wr.cell? ⟨g, 0 + j * 2, none⟩ = some (.int .i64 ((rn l j).a : Nat)) := by rw [Nat.zero_add]; exact k0
        have k1' : wr.cell? ⟨g, 0 + j * 2 + 1, none⟩ = some (.int .i64 ((rn l j).n : Nat)) := by rw [Nat.zero_add]; exact k1
        have hks := kept_succ hjl
        cases hz : nz (rn l j) with
        | true =>
          rw [hz, if_pos rfl] at hks
          have Hks := hid hks
          have Hz := hid hz
          clear hks hz
          go_wp2_with fail
          have hal : Fr Nil wr (wr.alloc (.cells #[.int .i64 ((rn l j).a : Nat), .int .i64 ((rn l j).n : Nat)] 33)) := (Fr.refl _ _).alloc _
          have hbv : Blk (wr.alloc (.cells #[.int .i64 ((rn l j).a : Nat), .int .i64 ((rn l j).n : Nat)] 33)) wr.heap.size #[.int .i64 ((rn l j).a : Nat), .int .i64 ((rn l j).n : Nat)] 33 := Blk.new _ _ _
          have hglt := hgr.lt
          refine (none_ok (rn l j) _ Hz.out _).mono ?_
          rintro e w2 ⟨rfl, hf2⟩
          have hb2 := (hgr.fr hal fun h => h).fr hf2 fun h => h
          have hv2 := hbv.fr hf2 fun h => h
          have hfr2 := (hfr.thenNil hal).thenNil hf2
          obtain ⟨vb, hvb⟩ : ∃ vb, vb = wr.heap.size := ⟨_, rfl⟩
          rw [← hvb] at hv2 hglt ⊢
          clear hvb k0 k1 k0' k1' hgr hbv hal hf2
          have v0 := hv2.cell 0
          have v1 := hv2.cell 1
          have hi2 : i * 2 + 2 ≤ cr.size := by omega
          have q0 : w2.cell? ⟨g, i * 2, none⟩ = some (cr[i * 2]'(by omega)) := by rw [hb2.cell]; exact Array.getElem?_eq_getElem _
          have q1 : w2.cell? ⟨g, i * 2 + 1, none⟩ = some (cr[i * 2 + 1]'(by omega)) := by rw [hb2.cell]; exact Array.getElem?_eq_getElem _
          have z0 := hb2.frozen (i * 2)
          have z1 := hb2.frozen (i * 2 + 1)
          have hglt2 := hb2.lt
          have hin : (i : Int) < (n : Int) := by omega
          go_wp2
          go_roundw
          case rel =>
            refine ⟨i + 1, j + 1, _, by go_num, by go_num, by omega, by omega, (hb2.set _ _).set _ _, by simpa using hsz, (hfr2.setCell (a := ⟨g, i * 2, none⟩) (.inl rfl) _).setCell (a := ⟨g, i * 2 + 1, none⟩) (.inl rfl) _, hid ?_, hid ?_, hid ?_⟩
            · rw [Hks.out, List.length_append, hki.out]; rfl
            · rw [Hks.out]; exact laid_two hi2 hkt.out
            · exact drop_next (two_drop (by omega)) hdr.out
          case measure => simp [intOf]; omega
        | false =>
          rw [hz, if_neg (by decide)] at hks
          have Hks := hid hks
          have Hz := hid hz
          clear hks hz
          go_wp2_with fail
          have hal : Fr Nil wr (wr.alloc (.cells #[.int .i64 ((rn l j).a : Nat), .int .i64 ((rn l j).n : Nat)] 33)) := (Fr.refl _ _).alloc _
          refine (none_ok (rn l j) _ Hz.out _).mono ?_
          rintro e w2 ⟨rfl, hf2⟩
          have hb2 := (hgr.fr hal fun h => h).fr hf2 fun h => h
          have hfr2 := (hfr.thenNil hal).thenNil hf2
          clear k0 k1 k0' k1' hgr hal hf2
          go_wp2
          go_roundw
          case rel =>
            refine ⟨i, j + 1, cr, rfl, by go_num, by omega, by omega, hb2, hsz, hfr2, hid ?_, hid ?_, hid ?_⟩
            · rw [Hks.out, hki.out]
            · rw [Hks.out]; exact hkt.out
            · exact drop_next rfl hdr.out
          case measure => simp [intOf]; omega
      · have hjn2 : j = n := by omega
        have hfin : Hid (kept l n = kept l j) := hid (by rw [hjn2])
        have hcs9 : i * 2 + (n - i) * 2 ≤ cr.size := by omega
        have hle : i ≤ n := by omega
        clear hjn2
        obtain ⟨w3, cr3, hrun, hg3, hs3, ht3, hf3⟩ := run_clear_wide (P := Try.prog) wr 31 0 33 2 (.agg #[.int .i64 0, .int .i64 0]) Try.underlying31 zero_run rfl (by decide) (by simp [Value.cells, Value.oneCell']) (some ⟨g, i * 2, none⟩) (n - i) (cap - i) g (i * 2) cr 33 hgr (fun _ => rfl) hcs9
        have hR : Row w3 S 33 2 (.slice (some ⟨g, 0, none⟩) i cap) i (dbl (l.filter nz)) := Row.of_blk hSg hg3 (by omega) (by unfold maxLen; omega) (by omega) (by rw [ht3, hkt.out, ← hfin.out, hall.out])
        have hli : Hid ((l.filter nz).length = i) := hid (by rw [← hall.out, hfin.out, hki.out])
        have hfr3 := (hf1.nil (S := fun k => k = g)).then (hfr.then hf3)
        clear hg3 hs3 ht3 hf3
        go_wp2
        go_ret
        rw [hli.out]
        exact ⟨rfl, hR, hfr3⟩
  · have hfz : fzi l = -1 := by unfold fzi; rw [if_neg (by rw [Hln.out]; exact hlt)]
    have hfi : l.filter nz = l := by
      have h1 := Hzf.out.1
      rwa [List.take_of_length_le (by rw [Hln.out]; omega)] at h1
    rw [hfz]
    have Hfi := hid hfi
    clear hfz hfi
    go_wp2
    go_ret
    rw [Hfi.out, Hln.out]
    exact ⟨rfl, hr.fr hf1 fun _ _ h => h, hf1.nil⟩
end Go.Proofs.Ytgoghmblfdlnbaa
end

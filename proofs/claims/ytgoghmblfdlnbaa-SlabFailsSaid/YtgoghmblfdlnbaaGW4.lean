/- The texts SlG, VClone of this proof, one behind the other. Conditions: those of each. -/
import Derived.Test.YtgoghmblfdlnbaaProg
import Derived.Test.YtgoghmblfdlnbaaGW1
import Derived.Test.YtgoghmblfdlnbaaGW3
section
/- leaf: sum, Make. Conditions: the bounds of the data. -/
set_option linter.unusedSimpArgs false
set_option linter.unusedVariables false
namespace Go.Proofs.Ytgoghmblfdlnbaa
open Go.RowKit
/-- cs over L from place o on. -/
def setL (L : List Nat) (o : Nat) (cs : List Nat) : List Nat := L.take o ++ cs ++ L.drop (o + cs.length)
def bysA (L : List Nat) : Array Value := (bys L).toArray
theorem bysA_size (L : List Nat) : (bysA L).size = L.length := by simp [bysA, bys]
theorem laid_bys (L : List Nat) (o : Nat) (cs : List Nat) : laid (bysA L) o (bys cs) = bysA (setL L o cs) := by
  apply Array.toList_inj.1
  rw [laid_toList]
  simp [bysA, bys, setL, List.map_take, List.map_drop]
theorem setL_pad (p cs : List Nat) (r d : Nat) (h : d + cs.length ≤ r) : setL (p ++ List.replicate r 0) (p.length + d) cs = (p ++ List.replicate d 0 ++ cs) ++ List.replicate (r - d - cs.length) 0 := by
  unfold setL
  rw [List.take_append, List.take_of_length_le (by omega), show p.length + d - p.length = d by omega, List.take_replicate, Nat.min_eq_left (by omega), List.drop_append, List.drop_of_length_le (by omega), List.nil_append, List.drop_replicate, show r - (p.length + d + cs.length - p.length) = r - d - cs.length by omega]
set_option maxRecDepth 20000 in
theorem lsum_ok (S S1 : Nat → Prop) (b : Addr) (n c : Nat) (hs xs : List Nat) (v : Value) (m : Nat) (hn : 12 ≤ n) (w : World) (h1 : View w S 1 (.slice (some b) n c) n (bys hs)) (h2 : View w S1 1 v m (bys xs)) :
    Calls Try.prog 54 #[.slice (some b) n c, v] w fun e w' => e = .returned (.int .u32 (moreF (moreF 0 (hs.take 12)) xs)) ∧ w = w' := by
  have hp := h1.pre hn
  rw [Nat.mul_one] at hp
  have HP := hid (show View w S 1 (.slice (some b) 12 c) 12 (bys (hs.take 12)) from by simpa [bys, List.map_take] using hp)
  have hnc : n ≤ c := by obtain ⟨_, _, _, e, h, _⟩ := h1; injection e with _ _ e; omega
  have h12 : (12 : Int) ≤ (c : Int) := by omega
  have H2 := hid h2
  clear h1 h2 hp
  go_enter Try.func54, Try.ntmps54
  go_wp2_with fail
  refine (tsum_ok S _ 12 (hs.take 12) w HP.out).mono ?_
  rintro e w1 ⟨rfl, rfl⟩
  go_wp2_with fail
  refine (tmore_ok S1 _ v m xs w H2.out).mono ?_
  rintro e w1 ⟨rfl, rfl⟩
  go_wp2
  go_ret
  exact ⟨rfl, rfl⟩
def head12 (k gen n : Nat) : List Nat := [197, 126, k, 0] ++ le4 gen ++ le4 n
def sumF (k gen : Nat) (xs : List Nat) : Nat := (moreF (moreF 0 (head12 k gen xs.length)) xs).toNat
def frameF (k gen : Nat) (xs : List Nat) : List Nat := head12 k gen xs.length ++ le4 (sumF k gen xs) ++ xs ++ List.replicate (64 * blkN xs.length - 16 - xs.length) 0
theorem frameF_length (k gen : Nat) (xs : List Nat) : (frameF k gen xs).length = 64 * blkN xs.length := by
  unfold frameF head12 le4 blkN
  simp
  omega
theorem made_bys (m : Nat) : madeCells #[Value.int .u8 0] m = bysA (List.replicate m 0) := by
  apply Array.toList_inj.1
  simp only [madeCells, Array.toList_map, Array.toList_range, bysA]
  refine List.ext_getElem? fun i => ?_
  by_cases hi : i < m <;> simp [bys, hi, Nat.mod_one, List.getElem?_replicate]
theorem size_u8 : (Try.prog.info? 5).map (·.size) = some 1 := by kernel_rfl
set_option maxRecDepth 20000 in
set_option maxHeartbeats 1000000 in
theorem lmake_ok (S : Nat → Prop) (k gen : Nat) (hk : k < 256) (hgen : gen ≤ 2147483647) (A : Option Addr) (c : Nat) (xs : List Nat) (n : Nat) (hn : n ≤ 4096) (w : World) (hv : View w S 1 (.slice A n c) n (bys xs)) :
    Calls Try.prog 36 #[.int .u8 (k : Nat), .int .i64 (gen : Nat), .slice A n c] w fun e w' => ∃ g m, e = .returned (.tuple #[.slice (some ⟨g, 0, none⟩) m m, .int .i64 0]) ∧ m = 64 * blkN n ∧ Row w' (New w) 5 1 (.slice (some ⟨g, 0, none⟩) m m) m (bys (frameF k gen xs)) ∧ Fr Nil w w' := by
  have hl := hv.lenb
  obtain ⟨m, hm⟩ : ∃ m, m = 64 * blkN n := ⟨_, rfl⟩
  have hm64 : 64 ≤ m ∧ 16 + n ≤ m ∧ m ≤ 5000 := by rw [hm]; unfold blkN; omega
  have HV := hid hv
  have Hl := hid hl
  have Hm := hid hm
  have hq : blkN n ≤ 70 := by unfold blkN; omega
  have hbq : 64 * ((blkN n : Nat) : Int) = (m : Int) := by omega
  obtain ⟨q, hq2⟩ : ∃ q, q = blkN n := ⟨_, rfl⟩
  have HB := hid (lblocks_ok n hn)
  rw [← hq2] at HB hq hbq
  have hmk := mk_u8 m (by omega) w
  have hgw : IntKind.u32.wrap (gen : Int) = (gen : Int) := by rw [IntKind.wrap_u32]; omega
  have hg2 : (gen : Int) % 4294967296 = (gen : Int) := by omega
  have hnw : (n : Int) % 4294967296 = (n : Int) := by omega
  have hm1 : (16 : Int) ≤ (m : Int) := by omega
  clear hv hl hm hq2
  go_enter Try.func36, Try.ntmps36
  go_wp2_with fail
  refine (HB.out w).mono ?_
  rintro e w1 ⟨rfl, rfl⟩
  go_upto_region 6 with (fail)
  clear hmk
  obtain ⟨W1, hW1⟩ : ∃ W1, W1 = w.alloc (.cells (madeCells #[.int .u8 0] m) 5) := ⟨_, rfl⟩
  obtain ⟨g, hg⟩ : ∃ g, g = w.heap.size := ⟨_, rfl⟩
  have f1 : Fr Nil w W1 := by rw [hW1]; exact (Fr.refl _ _).alloc _
  have hb1 : Blk W1 g (bysA (List.replicate m 0)) 5 := by rw [hW1, hg, ← made_bys]; exact Blk.new _ _ _
  rw [← hW1, ← hg]
  obtain ⟨r, hr⟩ : ∃ r, m = r + 3 := ⟨m - 3, by omega⟩
  have he : ∀ j, j < m → W1.cell? ⟨g, j, none⟩ = some (.int .u8 0) := fun j hj => by
    rw [hb1.cell]; simp [bysA, bys, hj, List.getElem?_replicate]
  have e0 := he 0 (by omega)
  have e1 := he 1 (by omega)
  have e2 := he 2 (by omega)
  have z0 := hb1.frozen 0
  have z1 := hb1.frozen 1
  have z2 := hb1.frozen 2
  have hl1 := hb1.lt
  have HB1 := hid hb1
  have F1 := hid f1
  have Hg := hid hg
  have Hr := hid hr
  clear hW1 hg hb1 f1 he hr
  go_upto_region 7 with (fail)
  obtain ⟨W2, hW2⟩ : ∃ W2, W2 = ((W1.setCell ⟨g, 0, none⟩ (.int .u8 197)).setCell ⟨g, 1, none⟩ (.int .u8 126)).setCell ⟨g, 2, none⟩ (.int .u8 (k : Nat)) := ⟨_, rfl⟩
  have hb2 : Blk W2 g (bysA ([197, 126, k] ++ List.replicate (m - 3) 0)) 5 := by
    have h1 := ((HB1.out.set 0 (.int .u8 197)).set 1 (.int .u8 126)).set 2 (.int .u8 (k : Nat))
    rw [hW2]
    have e : (((bysA (List.replicate m 0)).setIfInBounds 0 (.int .u8 197)).setIfInBounds 1 (.int .u8 126)).setIfInBounds 2 (.int .u8 (k : Nat)) = bysA ([197, 126, k] ++ List.replicate (m - 3) 0) := by
      rw [Hr.out, Nat.add_sub_cancel]
      simp [bysA, bys, List.replicate_succ]
    rw [← e]; exact h1
  have f2 : Fr (fun j => j = g) W1 W2 := by rw [hW2]; exact (((Fr.refl (fun j => j = g) W1).setCell (a := ⟨g, 0, none⟩) (.inl rfl) _).setCell (a := ⟨g, 1, none⟩) (.inl rfl) _).setCell (a := ⟨g, 2, none⟩) (.inl rfl) _
  rw [← hW2]
  have HB2 := hid hb2
  have F2 := hid f2
  clear hW2 hb2 f2 e0 e1 e2 z0 z1 z2 hl1
  have L3 : (bysA ([197, 126, k] ++ List.replicate (m - 3) 0)).size = m := by rw [bysA_size]; simp; omega
  go_wp2_with fail
  refine (lay_ok g 4 (m - 4) (m - 4) _ gen (by omega) (by omega) (by omega) W2 HB2.out).mono ?_
  rintro e w3 ⟨rfl, hb3, f3⟩
  rw [laid_bys, show setL ([197, 126, k] ++ List.replicate (m - 3) 0) 4 (le4 gen) = ([197, 126, k] ++ List.replicate 1 0 ++ le4 gen) ++ List.replicate (m - 3 - 1 - (le4 gen).length) 0 from setL_pad [197, 126, k] (le4 gen) (m - 3) 1 (by simp [le4]; omega), show m - 3 - 1 - (le4 gen).length = m - 8 from by simp [le4]; omega] at hb3
  obtain ⟨P2, hP2⟩ : ∃ P2, P2 = [197, 126, k] ++ List.replicate 1 0 ++ le4 gen := ⟨_, rfl⟩
  have lP2 : P2.length = 8 := by rw [hP2]; simp [le4]
  rw [← hP2] at hb3
  have HB3 := hid hb3
  have F3 := hid (F2.out.then f3)
  have HP2 := hid hP2
  have L4 : (bysA (P2 ++ List.replicate (m - 8) 0)).size = m := by rw [bysA_size]; simp; omega
  clear hb3 f3 HB2 hP2 L3 hg2 hgw
  go_wp2_with fail
  refine (lay_ok g 8 (m - 8) (m - 8) _ n (by omega) (by omega) (by omega) w3 HB3.out).mono ?_
  rintro e w4 ⟨rfl, hb4, f4⟩
  have hs4 := setL_pad P2 (le4 n) (m - 8) 0 (by simp [le4]; omega)
  rw [lP2, Nat.add_zero, show m - 8 - 0 - (le4 n).length = m - 12 from by simp [le4]; omega, List.replicate_zero, List.append_nil] at hs4
  rw [laid_bys, hs4] at hb4
  have hP3 : P2 ++ le4 n = head12 k gen n := by rw [HP2.out]; rfl
  rw [hP3] at hb4
  have HB4 := hid hb4
  have F4 := hid (F3.out.then f4)
  have lP3 : (head12 k gen n).length = 12 := by simp [head12, le4]
  have L5 : (bysA (head12 k gen n ++ List.replicate (m - 12) 0)).size = m := by rw [bysA_size]; simp; omega
  clear hb4 f4 HB3 hs4 hP3 lP2 L4 hnw
  go_wp2_with fail
  have hview : View w4.drew (fun j => j = g) 1 (.slice (some ⟨g, 0, none⟩) m m) m (bys (head12 k gen n ++ List.replicate (m - 12) 0)) := by
    have h := seg_view (s := 1) HB4.out 0 m m (bys (head12 k gen n ++ List.replicate (m - 12) 0)) (by
      simp only [Nat.zero_mul, List.drop_zero, Nat.mul_one, bysA]
      rw [List.take_of_length_le]
      simp [bys]; omega) (by omega) (Nat.le_refl _) (by unfold maxLen; omega)
    exact h
  have HVw := hid hview
  have hm12 : (12 : Int) ≤ (m : Int) := by omega
  have hS : (fun _ : World => True) w4.drew := trivial
  clear hview
  refine wpU_region (k := 5) (S := fun _ => True) (by kernel_rfl) ?_
  refine wpU_take (i := 0) (v := ?_) rfl (by kernel_rfl) (by kernel_rfl) (fun _ _ _ h => h) _ _ _ _ (by kernel_rfl) (by kernel_rfl) (by kernel_rfl) (Or.inl ⟨by kernel_rfl, ?_⟩) hS ?_
  rotate_left
  · (intro w9 hS9; obtain s0 := hS9; go_simp); (try with_reducible rfl)
  try simp only [Act.put, List.getElem_toArray, List.getElem_cons_succ, List.getElem_cons_zero, List.setIfInBounds_toArray, List.set_cons_zero, List.set_cons_succ]
  refine wpU_take (i := 1) (v := ?_) rfl (by kernel_rfl) (by kernel_rfl) (fun _ _ _ h => h) _ _ _ _ (by kernel_rfl) (by kernel_rfl) (by kernel_rfl) (Or.inl ⟨by kernel_rfl, ?_⟩) hS ?_
  rotate_left
  · (intro w9 hS9; obtain s0 := hS9; go_simp); (try with_reducible rfl)
  try simp only [Act.put, List.getElem_toArray, List.getElem_cons_succ, List.getElem_cons_zero, List.setIfInBounds_toArray, List.set_cons_zero, List.set_cons_succ]
  refine wpU_take (i := 2) (v := ?_) rfl (by kernel_rfl) (by kernel_rfl) (fun _ _ _ h => h) _ _ _ _ (by kernel_rfl) (by kernel_rfl) (by kernel_rfl) (Or.inl ⟨by kernel_rfl, ?_⟩) hS ?_
  rotate_left
  · (intro w9 hS9; obtain s0 := hS9; go_simp); (try with_reducible rfl)
  try simp only [Act.put, List.getElem_toArray, List.getElem_cons_succ, List.getElem_cons_zero, List.setIfInBounds_toArray, List.set_cons_zero, List.set_cons_succ]
  refine wpU_take (i := 3) (v := ?_) rfl (by kernel_rfl) (by kernel_rfl) (fun _ _ _ h => h) _ _ _ _ (by kernel_rfl) (by kernel_rfl) (by kernel_rfl) (Or.inl ⟨by kernel_rfl, ?_⟩) hS ?_
  rotate_left
  · (intro w9 hS9; obtain s0 := hS9; go_simp); (try with_reducible rfl)
  try simp only [Act.put, List.getElem_toArray, List.getElem_cons_succ, List.getElem_cons_zero, List.setIfInBounds_toArray, List.set_cons_zero, List.set_cons_succ]
  refine wpU_next (i := 4) rfl (by kernel_rfl) (fun K hK => ?_)
  go_simp
  refine (lsum_ok _ S ⟨g, 0, none⟩ m m _ xs (.slice A n c) n (by omega) w4.drew HVw.out (HV.out.fr (((F1.out.nil (S := fun j => j = g)).then F4.out).drew) (fun j _ hj h => by have := Hg.out; omega))).mono ?_
  rintro e w5 ⟨rfl, rfl⟩
  refine hK.out _ _ (fun _ => hS) ?_
  clear hK K
  try simp only [Act.put, List.getElem_toArray, List.getElem_cons_succ, List.getElem_cons_zero, List.setIfInBounds_toArray, List.set_cons_zero, List.set_cons_succ]
  refine wpU_next (i := 5) rfl (by kernel_rfl) (fun K hK => ?_)
  go_simp
  rw [if_neg (show m ≠ 12 by omega), show moreF (moreF 0 (head12 k gen n)) xs = ((sumF k gen xs : Nat) : Int) from by
    have h := moreF_wf (moreF 0 (head12 k gen n)) xs
    unfold sumF; rw [Hl.out]; omega]
  refine (lay_ok g 12 (m - 12) (m - 12) _ (sumF k gen xs) (by
    have h := moreF_wf (moreF 0 (head12 k gen xs.length)) xs
    unfold sumF; omega) (by omega) (by omega) w4.drew HB4.out.drew).mono ?_
  rintro e w5 ⟨rfl, hb5, f5⟩
  have hs5 := setL_pad (head12 k gen n) (le4 (sumF k gen xs)) (m - 12) 0 (by simp [le4]; omega)
  rw [lP3, Nat.add_zero, show m - 12 - 0 - (le4 (sumF k gen xs)).length = m - 16 from by simp [le4]; omega, List.replicate_zero, List.append_nil] at hs5
  rw [laid_bys, hs5] at hb5
  have HB5 := hid hb5
  have F5 := hid (F4.out.drew.then f5)
  refine hK.out _ _ (fun h => absurd rfl h.1) ?_
  refine wpU_done (by kernel_rfl) ?_ _
  clear hK K hb5 f5 HB4 hs5 hS HVw
  obtain ⟨P4, hP4⟩ : ∃ P4, P4 = head12 k gen n ++ le4 (sumF k gen xs) := ⟨_, rfl⟩
  have lP4 : P4.length = 16 := by rw [hP4, List.length_append, lP3]; simp [le4]
  rw [← hP4] at HB5
  have HP4 := hid hP4
  have L6 : (bysA (P4 ++ List.replicate (m - 16) 0)).size = m := by rw [bysA_size]; simp; omega
  have hvd := HV.out.fr ((F1.out.nil (S := fun j => j = g)).then F5.out) (fun j _ hj h => by have := Hg.out; omega)
  have hxl : (bys xs).take (n * 1) = bys xs := by rw [Nat.mul_one, List.take_of_length_le (by unfold bys; rw [List.length_map]; have := Hl.out; omega)]
  obtain ⟨w6, hr6, hb6, f6⟩ := run_copy_row (P := Try.prog) w5 22 3 5 1 Try.underlying22 size_u8 (some ⟨g, 16, none⟩) (m - 16) (m - 16) (.slice A n c) n (bys xs) hvd n g 16 _ 5 (by omega) HB5.out (fun _ => rfl) (by rw [L6]; omega) (fun u hu => bys_cell xs u (List.mem_of_mem_take hu))
  have hs6 := setL_pad P4 xs (m - 16) 0 (by have := Hl.out; omega)
  rw [lP4, Nat.add_zero, Nat.sub_zero, List.replicate_zero, List.append_nil] at hs6
  rw [hxl, laid_bys, hs6] at hb6
  have HB6 := hid hb6
  have F6 := hid (F1.out.trans (F5.out.then f6) fun j hj => .inr (by have := Hg.out; omega))
  clear hP4 hvd hxl hb6 f6 hs6 L5 L6 lP3 lP4 HB5 hm12
  have hne16 : ¬ m = 16 := by omega
  go_wp2
  go_ret2
  have hfr : P4 ++ xs ++ List.replicate (m - 16 - xs.length) 0 = frameF k gen xs := by
    unfold frameF
    rw [HP4.out, Hl.out, Hm.out]
  refine ⟨g, m, rfl, Hm.out, ?_, F6.out⟩
  have hb := HB6.out
  rw [hfr] at hb
  refine Row.of_blk (show w.heap.size ≤ g by have := Hg.out; omega) hb (Nat.le_refl _) (by unfold maxLen; omega) ?_ ?_
  · rw [bysA_size, frameF_length, Hl.out, Hm.out, Nat.mul_one]
  · show (bys (frameF k gen xs)).take (m * 1) = _
    rw [List.take_of_length_le]
    unfold bys
    rw [List.length_map, frameF_length, Hl.out, Hm.out]; omega
end Go.Proofs.Ytgoghmblfdlnbaa
end

section
/- bytes.Clone: a copy of its own. Conditions: the slice can be read. -/
set_option linter.unusedSimpArgs false
set_option linter.unusedVariables false
namespace Go.Proofs.Ytgoghmblfdlnbaa
open Go.RowKit

theorem info_u8 : (Try.prog.info? 5).map (fun i => (i.zero, i.size, i.bytes)) = some (some (.int .u8 0), 1, 1) := by kernel_rfl

/-- bytes.Clone: a copy of its own; nil stays nil. -/
theorem bclone_ok (S : Nat → Prop) (v : Value) (n : Nat) (xs : List Nat) (hn : n < 1000000000) (w : World) (hv : View w S 1 v n (bys xs)) :
    Calls Try.prog 44 #[v] w fun e w' => ∃ A c, e = .returned (.slice A n c) ∧ Row w' (New w) 5 1 (.slice A n c) n (bys xs) ∧ Fr Nil w w' ∧ (A = none ↔ v = .slice none 0 0) := by
  have hv0 := hv
  obtain ⟨hl, A, c, rfl, e1, e2, e3, e4, e5⟩ := hv
  cases A with
  | none =>
    obtain rfl := e3 rfl
    obtain rfl : n = 0 := by omega
    have hx : bys xs = [] := List.eq_nil_of_length_eq_zero (by simpa using hl)
    go_enter Try.func44, Try.ntmps44
    go_wp2
    go_ret
    exact ⟨none, 0, rfl, Row.nil _ _ _ _, Fr.refl _ _, by simp⟩
  | some ad =>
    go_enter Try.func44, Try.ntmps44
    go_wp2_with (at_builtin; refine wp_app_view rfl _ _ 22 rfl (.int .u8 0) 1 Try.underlying22 info_u8 rfl (by decide) (Row.made w #[] 5 1 0 0 rfl (Nat.le_refl _) (by decide)) rfl (hv0.alloc _) rfl (bys_cell _) (by omega) (by decide) ?_)
    intro A cap w' r1 r2 r3
    have r4 : Row w' (New w) 5 1 (.slice A (0 + n) cap) (0 + n) (bys xs) := by
      refine Row.mono (by simpa using r1) fun k hk => ?_
      rcases hk with hk | hk
      · simp [Value.ownBlock] at hk
        unfold New; omega
      · unfold New; omega
    have r5 : Fr Nil w w' := ((Fr.refl Nil w).alloc _).trans r2 (fun k hk => by simp [Value.ownBlock] at hk; exact .inr (by omega))
    have r6 : A = none ↔ Value.slice (some ad) n c = .slice none 0 0 := by
      constructor
      · intro hA; exact absurd (r3.1 hA).1 (by simp)
      · intro hA; simp at hA
    clear r1 r2 r3
    rw [Nat.zero_add] at r4 ⊢
    have R6 := hid r6; clear r6
    go_wp2
    go_ret
    exact ⟨A, cap, rfl, r4, r5, R6.out⟩
end Go.Proofs.Ytgoghmblfdlnbaa
end

/- The texts SlG, VClone, SlH of this proof, one behind the other. Conditions: those of each. -/
import Derived.Test.YtgoghmblfdlnbaaGreatProg
import Derived.Test.YtgoghmblfdlnbaaGreatGR1
import Derived.Test.YtgoghmblfdlnbaaGreatGR3
section
/- leaf: sum, Make. Conditions: the bounds of the data. -/
set_option linter.unusedSimpArgs false
set_option linter.unusedVariables false
namespace Go.Proofs.YtgoghmblfdlnbaaGreat
open Go.RowKit
/-- cs over L from place o on. -/
def setL (L : List Nat) (o : Nat) (cs : List Nat) : List Nat := L.take o ++ cs ++ L.drop (o + cs.length)
def bysA (L : List Nat) : Array Value := (bys L).toArray
theorem bysA_size (L : List Nat) : (bysA L).size = L.length := by simp [bysA, bys]
theorem laid_bys (L : List Nat) (o : Nat) (cs : List Nat) : laid (bysA L) o (bys cs) = bysA (setL L o cs) := by
  apply Array.toList_inj.1
  rw [laid_toList]
  simp [bysA, bys, setL, List.map_take, List.map_drop]
theorem setL_pad (p cs : List Nat) (r d : Nat) (h : d + cs.length ≤ r) : setL (p ++ List.replicate r 0) (p.length + d) cs = (p ++ List.replicate d 0 ++ cs) ++ List.replicate (r - d - cs.length) 0 := by
  unfold setL
  rw [List.take_append, List.take_of_length_le (by omega), show p.length + d - p.length = d by omega, List.take_replicate, Nat.min_eq_left (by omega), List.drop_append, List.drop_of_length_le (by omega), List.nil_append, List.drop_replicate, show r - (p.length + d + cs.length - p.length) = r - d - cs.length by omega]
set_option maxRecDepth 20000 in
theorem lsum_ok (S S1 : Nat → Prop) (b : Addr) (n c : Nat) (hs xs : List Nat) (v : Value) (m : Nat) (hn : 12 ≤ n) (w : World) (h1 : View w S 1 (.slice (some b) n c) n (bys hs)) (h2 : View w S1 1 v m (bys xs)) :
    Calls Tryz.prog 72 #[.slice (some b) n c, v] w fun e w' => e = .returned (.int .u32 (moreF (moreF 0 (hs.take 12)) xs)) ∧ w = w' := by
  have hp := h1.pre hn
  rw [Nat.mul_one] at hp
  have HP := hid (show View w S 1 (.slice (some b) 12 c) 12 (bys (hs.take 12)) from by simpa [bys, List.map_take] using hp)
  have hnc : n ≤ c := by obtain ⟨_, _, _, e, h, _⟩ := h1; injection e with _ _ e; omega
  have h12 : (12 : Int) ≤ (c : Int) := by omega
  have H2 := hid h2
  clear h1 h2 hp
  go_enter Tryz.func72, Tryz.ntmps72
  go_wp2_with fail
  refine (tsum_ok S _ 12 (hs.take 12) w HP.out).mono ?_
  rintro e w1 ⟨rfl, rfl⟩
  go_wp2_with fail
  refine (tmore_ok S1 _ v m xs w H2.out).mono ?_
  rintro e w1 ⟨rfl, rfl⟩
  go_wp2
  go_ret
  exact ⟨rfl, rfl⟩
def head12 (k gen n : Nat) : List Nat := [197, 126, k, 0] ++ le4 gen ++ le4 n
def sumF (k gen : Nat) (xs : List Nat) : Nat := (moreF (moreF 0 (head12 k gen xs.length)) xs).toNat
def frameF (k gen : Nat) (xs : List Nat) : List Nat := head12 k gen xs.length ++ le4 (sumF k gen xs) ++ xs ++ List.replicate (64 * blkN xs.length - 16 - xs.length) 0
theorem frameF_length (k gen : Nat) (xs : List Nat) : (frameF k gen xs).length = 64 * blkN xs.length := by
  unfold frameF head12 le4 blkN
  simp
  omega
theorem made_bys (m : Nat) : madeCells #[Value.int .u8 0] m = bysA (List.replicate m 0) := by
  apply Array.toList_inj.1
  simp only [madeCells, Array.toList_map, Array.toList_range, bysA]
  refine List.ext_getElem? fun i => ?_
  by_cases hi : i < m <;> simp [bys, hi, Nat.mod_one, List.getElem?_replicate]
theorem size_u8 : (Tryz.prog.info? 5).map (·.size) = some 1 := by kernel_rfl
set_option maxRecDepth 20000 in
set_option maxHeartbeats 1000000 in
theorem lmake_ok (S : Nat → Prop) (k gen : Nat) (hk : k < 256) (hgen : gen ≤ 2147483647) (A : Option Addr) (c : Nat) (xs : List Nat) (n : Nat) (hn : n ≤ 4096) (w : World) (hv : View w S 1 (.slice A n c) n (bys xs)) :
    Calls Tryz.prog 42 #[.int .u8 (k : Nat), .int .i64 (gen : Nat), .slice A n c] w fun e w' => ∃ g m, e = .returned (.tuple #[.slice (some ⟨g, 0, none⟩) m m, .int .i64 0]) ∧ m = 64 * blkN n ∧ Row w' (New w) 5 1 (.slice (some ⟨g, 0, none⟩) m m) m (bys (frameF k gen xs)) ∧ Fr Nil w w' := by
  have hl := hv.lenb
  obtain ⟨m, hm⟩ : ∃ m, m = 64 * blkN n := ⟨_, rfl⟩
  have hm64 : 64 ≤ m ∧ 16 + n ≤ m ∧ m ≤ 5000 := by rw [hm]; unfold blkN; omega
  have HV := hid hv
  have Hl := hid hl
  have Hm := hid hm
  have hq : blkN n ≤ 70 := by unfold blkN; omega
  have hbq : 64 * ((blkN n : Nat) : Int) = (m : Int) := by omega
  obtain ⟨q, hq2⟩ : ∃ q, q = blkN n := ⟨_, rfl⟩
  have HB := hid (lblocks_ok n hn)
  rw [← hq2] at HB hq hbq
  have hmk := mk_u8 m (by omega) w
  have hgw : IntKind.u32.wrap (gen : Int) = (gen : Int) := by rw [IntKind.wrap_u32]; omega
  have hg2 : (gen : Int) % 4294967296 = (gen : Int) := by omega
  have hnw : (n : Int) % 4294967296 = (n : Int) := by omega
  have hm1 : (16 : Int) ≤ (m : Int) := by omega
  clear hv hl hm hq2
  go_enter Tryz.func42, Tryz.ntmps42
  go_wp2_with fail
  refine (HB.out w).mono ?_
  rintro e w1 ⟨rfl, rfl⟩
  go_upto_region 6 with (fail)
  clear hmk
  obtain ⟨W1, hW1⟩ : ∃ W1, W1 = w.alloc (.cells (madeCells #[.int .u8 0] m) 5) := ⟨_, rfl⟩
  obtain ⟨g, hg⟩ : ∃ g, g = w.heap.size := ⟨_, rfl⟩
  have f1 : Fr Nil w W1 := by rw [hW1]; exact (Fr.refl _ _).alloc _
  have hb1 : Blk W1 g (bysA (List.replicate m 0)) 5 := by rw [hW1, hg, ← made_bys]; exact Blk.new _ _ _
  rw [← hW1, ← hg]
  obtain ⟨r, hr⟩ : ∃ r, m = r + 3 := ⟨m - 3, by omega⟩
  have he : ∀ j, j < m → W1.cell? ⟨g, j, none⟩ = some (.int .u8 0) := fun j hj => by
    rw [hb1.cell]; simp [bysA, bys, hj, List.getElem?_replicate]
  have e0 := he 0 (by omega)
  have e1 := he 1 (by omega)
  have e2 := he 2 (by omega)
  have z0 := hb1.frozen 0
  have z1 := hb1.frozen 1
  have z2 := hb1.frozen 2
  have hl1 := hb1.lt
  have HB1 := hid hb1
  have F1 := hid f1
  have Hg := hid hg
  have Hr := hid hr
  clear hW1 hg hb1 f1 he hr
  go_upto_region 7 with (fail)
  obtain ⟨W2, hW2⟩ : ∃ W2, W2 = ((W1.setCell ⟨g, 0, none⟩ (.int .u8 197)).setCell ⟨g, 1, none⟩ (.int .u8 126)).setCell ⟨g, 2, none⟩ (.int .u8 (k : Nat)) := ⟨_, rfl⟩
  have hb2 : Blk W2 g (bysA ([197, 126, k] ++ List.replicate (m - 3) 0)) 5 := by
    have h1 := ((HB1.out.set 0 (.int .u8 197)).set 1 (.int .u8 126)).set 2 (.int .u8 (k : Nat))
    rw [hW2]
    have e : (((bysA (List.replicate m 0)).setIfInBounds 0 (.int .u8 197)).setIfInBounds 1 (.int .u8 126)).setIfInBounds 2 (.int .u8 (k : Nat)) = bysA ([197, 126, k] ++ List.replicate (m - 3) 0) := by
      rw [Hr.out, Nat.add_sub_cancel]
      simp [bysA, bys, List.replicate_succ]
    rw [← e]; exact h1
  have f2 : Fr (fun j => j = g) W1 W2 := by rw [hW2]; exact (((Fr.refl (fun j => j = g) W1).setCell (a := ⟨g, 0, none⟩) (.inl rfl) _).setCell (a := ⟨g, 1, none⟩) (.inl rfl) _).setCell (a := ⟨g, 2, none⟩) (.inl rfl) _
  rw [← hW2]
  have HB2 := hid hb2
  have F2 := hid f2
  clear hW2 hb2 f2 e0 e1 e2 z0 z1 z2 hl1
  have L3 : (bysA ([197, 126, k] ++ List.replicate (m - 3) 0)).size = m := by rw [bysA_size]; simp; omega
  go_wp2_with fail
  refine (lay_ok g 4 (m - 4) (m - 4) _ gen (by omega) (by omega) (by omega) W2 HB2.out).mono ?_
  rintro e w3 ⟨rfl, hb3, f3⟩
  rw [laid_bys, show setL ([197, 126, k] ++ List.replicate (m - 3) 0) 4 (le4 gen) = ([197, 126, k] ++ List.replicate 1 0 ++ le4 gen) ++ List.replicate (m - 3 - 1 - (le4 gen).length) 0 from setL_pad [197, 126, k] (le4 gen) (m - 3) 1 (by simp [le4]; omega), show m - 3 - 1 - (le4 gen).length = m - 8 from by simp [le4]; omega] at hb3
  obtain ⟨P2, hP2⟩ : ∃ P2, P2 = [197, 126, k] ++ List.replicate 1 0 ++ le4 gen := ⟨_, rfl⟩
  have lP2 : P2.length = 8 := by rw [hP2]; simp [le4]
  rw [← hP2] at hb3
  have HB3 := hid hb3
  have F3 := hid (F2.out.then f3)
  have HP2 := hid hP2
  have L4 : (bysA (P2 ++ List.replicate (m - 8) 0)).size = m := by rw [bysA_size]; simp; omega
  clear hb3 f3 HB2 hP2 L3 hg2 hgw
  go_wp2_with fail
  refine (lay_ok g 8 (m - 8) (m - 8) _ n (by omega) (by omega) (by omega) w3 HB3.out).mono ?_
  rintro e w4 ⟨rfl, hb4, f4⟩
  have hs4 := setL_pad P2 (le4 n) (m - 8) 0 (by simp [le4]; omega)
  rw [lP2, Nat.add_zero, show m - 8 - 0 - (le4 n).length = m - 12 from by simp [le4]; omega, List.replicate_zero, List.append_nil] at hs4
  rw [laid_bys, hs4] at hb4
  have hP3 : P2 ++ le4 n = head12 k gen n := by rw [HP2.out]; rfl
  rw [hP3] at hb4
  have HB4 := hid hb4
  have F4 := hid (F3.out.then f4)
  have lP3 : (head12 k gen n).length = 12 := by simp [head12, le4]
  have L5 : (bysA (head12 k gen n ++ List.replicate (m - 12) 0)).size = m := by rw [bysA_size]; simp; omega
  clear hb4 f4 HB3 hs4 hP3 lP2 L4 hnw
  go_wp2_with fail
  have hview : View w4.drew (fun j => j = g) 1 (.slice (some ⟨g, 0, none⟩) m m) m (bys (head12 k gen n ++ List.replicate (m - 12) 0)) := by
    have h := seg_view (s := 1) HB4.out 0 m m (bys (head12 k gen n ++ List.replicate (m - 12) 0)) (by
      simp only [Nat.zero_mul, List.drop_zero, Nat.mul_one, bysA]
      rw [List.take_of_length_le]
      simp [bys]; omega) (by omega) (Nat.le_refl _) (by unfold maxLen; omega)
    exact h
  have HVw := hid hview
  have hm12 : (12 : Int) ≤ (m : Int) := by omega
  have hS : (fun _ : World => True) w4.drew := trivial
  clear hview
  refine wpU_region (k := 5) (S := fun _ => True) (by kernel_rfl) ?_
  refine wpU_take (i := 0) (v := ?_) rfl (by kernel_rfl) (by kernel_rfl) (fun _ _ _ h => h) _ _ _ _ (by kernel_rfl) (by kernel_rfl) (by kernel_rfl) (Or.inl ⟨by kernel_rfl, ?_⟩) hS ?_
  rotate_left
  · (intro w9 hS9; obtain s0 := hS9; go_simp); (try with_reducible rfl)
  try simp only [Act.put, List.getElem_toArray, List.getElem_cons_succ, List.getElem_cons_zero, List.setIfInBounds_toArray, List.set_cons_zero, List.set_cons_succ]
  refine wpU_take (i := 1) (v := ?_) rfl (by kernel_rfl) (by kernel_rfl) (fun _ _ _ h => h) _ _ _ _ (by kernel_rfl) (by kernel_rfl) (by kernel_rfl) (Or.inl ⟨by kernel_rfl, ?_⟩) hS ?_
  rotate_left
  · (intro w9 hS9; obtain s0 := hS9; go_simp); (try with_reducible rfl)
  try simp only [Act.put, List.getElem_toArray, List.getElem_cons_succ, List.getElem_cons_zero, List.setIfInBounds_toArray, List.set_cons_zero, List.set_cons_succ]
  refine wpU_take (i := 2) (v := ?_) rfl (by kernel_rfl) (by kernel_rfl) (fun _ _ _ h => h) _ _ _ _ (by kernel_rfl) (by kernel_rfl) (by kernel_rfl) (Or.inl ⟨by kernel_rfl, ?_⟩) hS ?_
  rotate_left
  · (intro w9 hS9; obtain s0 := hS9; go_simp); (try with_reducible rfl)
  try simp only [Act.put, List.getElem_toArray, List.getElem_cons_succ, List.getElem_cons_zero, List.setIfInBounds_toArray, List.set_cons_zero, List.set_cons_succ]
  refine wpU_take (i := 3) (v := ?_) rfl (by kernel_rfl) (by kernel_rfl) (fun _ _ _ h => h) _ _ _ _ (by kernel_rfl) (by kernel_rfl) (by kernel_rfl) (Or.inl ⟨by kernel_rfl, ?_⟩) hS ?_
  rotate_left
  · (intro w9 hS9; obtain s0 := hS9; go_simp); (try with_reducible rfl)
  try simp only [Act.put, List.getElem_toArray, List.getElem_cons_succ, List.getElem_cons_zero, List.setIfInBounds_toArray, List.set_cons_zero, List.set_cons_succ]
  refine wpU_next (i := 4) rfl (by kernel_rfl) (fun K hK => ?_)
  go_simp
  refine (lsum_ok _ S ⟨g, 0, none⟩ m m _ xs (.slice A n c) n (by omega) w4.drew HVw.out (HV.out.fr (((F1.out.nil (S := fun j => j = g)).then F4.out).drew) (fun j _ hj h => by have := Hg.out; omega))).mono ?_
  rintro e w5 ⟨rfl, rfl⟩
  refine hK.out _ _ (fun _ => hS) ?_
  clear hK K
  try simp only [Act.put, List.getElem_toArray, List.getElem_cons_succ, List.getElem_cons_zero, List.setIfInBounds_toArray, List.set_cons_zero, List.set_cons_succ]
  refine wpU_next (i := 5) rfl (by kernel_rfl) (fun K hK => ?_)
  go_simp
  rw [if_neg (show m ≠ 12 by omega), show moreF (moreF 0 (head12 k gen n)) xs = ((sumF k gen xs : Nat) : Int) from by
    have h := moreF_wf (moreF 0 (head12 k gen n)) xs
    unfold sumF; rw [Hl.out]; omega]
  refine (lay_ok g 12 (m - 12) (m - 12) _ (sumF k gen xs) (by
    have h := moreF_wf (moreF 0 (head12 k gen xs.length)) xs
    unfold sumF; omega) (by omega) (by omega) w4.drew HB4.out.drew).mono ?_
  rintro e w5 ⟨rfl, hb5, f5⟩
  have hs5 := setL_pad (head12 k gen n) (le4 (sumF k gen xs)) (m - 12) 0 (by simp [le4]; omega)
  rw [lP3, Nat.add_zero, show m - 12 - 0 - (le4 (sumF k gen xs)).length = m - 16 from by simp [le4]; omega, List.replicate_zero, List.append_nil] at hs5
  rw [laid_bys, hs5] at hb5
  have HB5 := hid hb5
  have F5 := hid (F4.out.drew.then f5)
  refine hK.out _ _ (fun h => absurd rfl h.1) ?_
  refine wpU_done (by kernel_rfl) ?_ _
  clear hK K hb5 f5 HB4 hs5 hS HVw
  obtain ⟨P4, hP4⟩ : ∃ P4, P4 = head12 k gen n ++ le4 (sumF k gen xs) := ⟨_, rfl⟩
  have lP4 : P4.length = 16 := by rw [hP4, List.length_append, lP3]; simp [le4]
  rw [← hP4] at HB5
  have HP4 := hid hP4
  have L6 : (bysA (P4 ++ List.replicate (m - 16) 0)).size = m := by rw [bysA_size]; simp; omega
  have hvd := HV.out.fr ((F1.out.nil (S := fun j => j = g)).then F5.out) (fun j _ hj h => by have := Hg.out; omega)
  have hxl : (bys xs).take (n * 1) = bys xs := by rw [Nat.mul_one, List.take_of_length_le (by unfold bys; rw [List.length_map]; have := Hl.out; omega)]
  obtain ⟨w6, hr6, hb6, f6⟩ := run_copy_row (P := Tryz.prog) w5 30 3 5 1 Tryz.underlying30 size_u8 (some ⟨g, 16, none⟩) (m - 16) (m - 16) (.slice A n c) n (bys xs) hvd n g 16 _ 5 (by omega) HB5.out (fun _ => rfl) (by rw [L6]; omega) (fun u hu => bys_cell xs u (List.mem_of_mem_take hu))
  have hs6 := setL_pad P4 xs (m - 16) 0 (by have := Hl.out; omega)
  rw [lP4, Nat.add_zero, Nat.sub_zero, List.replicate_zero, List.append_nil] at hs6
  rw [hxl, laid_bys, hs6] at hb6
  have HB6 := hid hb6
  have F6 := hid (F1.out.trans (F5.out.then f6) fun j hj => .inr (by have := Hg.out; omega))
  clear hP4 hvd hxl hb6 f6 hs6 L5 L6 lP3 lP4 HB5 hm12
  have hne16 : ¬ m = 16 := by omega
  go_wp2
  go_ret2
  have hfr : P4 ++ xs ++ List.replicate (m - 16 - xs.length) 0 = frameF k gen xs := by
    unfold frameF
    rw [HP4.out, Hl.out, Hm.out]
  refine ⟨g, m, rfl, Hm.out, ?_, F6.out⟩
  have hb := HB6.out
  rw [hfr] at hb
  refine Row.of_blk (show w.heap.size ≤ g by have := Hg.out; omega) hb (Nat.le_refl _) (by unfold maxLen; omega) ?_ ?_
  · rw [bysA_size, frameF_length, Hl.out, Hm.out, Nat.mul_one]
  · show (bys (frameF k gen xs)).take (m * 1) = _
    rw [List.take_of_length_le]
    unfold bys
    rw [List.length_map, frameF_length, Hl.out, Hm.out]; omega
end Go.Proofs.YtgoghmblfdlnbaaGreat
end

section
/- bytes.Clone: a copy of its own. Conditions: the slice can be read. -/
set_option linter.unusedSimpArgs false
set_option linter.unusedVariables false
namespace Go.Proofs.YtgoghmblfdlnbaaGreat
open Go.RowKit

theorem info_u8 : (Tryz.prog.info? 5).map (fun i => (i.zero, i.size, i.bytes)) = some (some (.int .u8 0), 1, 1) := by kernel_rfl

/-- bytes.Clone: a copy of its own; nil stays nil. -/
theorem bclone_ok (S : Nat → Prop) (v : Value) (n : Nat) (xs : List Nat) (hn : n < 1000000000) (w : World) (hv : View w S 1 v n (bys xs)) :
    Calls Tryz.prog 55 #[v] w fun e w' => ∃ A c, e = .returned (.slice A n c) ∧ Row w' (New w) 5 1 (.slice A n c) n (bys xs) ∧ Fr Nil w w' ∧ (A = none ↔ v = .slice none 0 0) := by
  have hv0 := hv
  obtain ⟨hl, A, c, rfl, e1, e2, e3, e4, e5⟩ := hv
  cases A with
  | none =>
    obtain rfl := e3 rfl
    obtain rfl : n = 0 := by omega
    have hx : bys xs = [] := List.eq_nil_of_length_eq_zero (by simpa using hl)
    go_enter Tryz.func55, Tryz.ntmps55
    go_wp2
    go_ret
    exact ⟨none, 0, rfl, Row.nil _ _ _ _, Fr.refl _ _, by simp⟩
  | some ad =>
    go_enter Tryz.func55, Tryz.ntmps55
    go_wp2_with (at_builtin; refine wp_app_view rfl _ _ 30 rfl (.int .u8 0) 1 Tryz.underlying30 info_u8 rfl (by decide) (Row.made w #[] 5 1 0 0 rfl (Nat.le_refl _) (by decide)) rfl (hv0.alloc _) rfl (bys_cell _) (by omega) (by decide) ?_)
    intro A cap w' r1 r2 r3
    have r4 : Row w' (New w) 5 1 (.slice A (0 + n) cap) (0 + n) (bys xs) := by
      refine Row.mono (by simpa using r1) fun k hk => ?_
      rcases hk with hk | hk
      · simp [Value.ownBlock] at hk
        unfold New; omega
      · unfold New; omega
    have r5 : Fr Nil w w' := ((Fr.refl Nil w).alloc _).trans r2 (fun k hk => by simp [Value.ownBlock] at hk; exact .inr (by omega))
    have r6 : A = none ↔ Value.slice (some ad) n c = .slice none 0 0 := by
      constructor
      · intro hA; exact absurd (r3.1 hA).1 (by simp)
      · intro hA; simp at hA
    clear r1 r2 r3
    rw [Nat.zero_add] at r4 ⊢
    have R6 := hid r6; clear r6
    go_wp2
    go_ret
    exact ⟨A, cap, rfl, r4, r5, R6.out⟩
end Go.Proofs.YtgoghmblfdlnbaaGreat
end

section
/- leaf: head of a frame. Conditions: the frame is whole. -/
set_option linter.unusedSimpArgs false
set_option linter.unusedVariables false
namespace Go.Proofs.YtgoghmblfdlnbaaGreat
open Go.RowKit
theorem Byt.drop {xs : List Nat} (h : Byt xs) (n : Nat) : Byt (xs.drop n) := fun x hx => h x (List.mem_of_mem_drop hx)
theorem Byt.take {xs : List Nat} (h : Byt xs) (n : Nat) : Byt (xs.take n) := fun x hx => h x (List.mem_of_mem_take hx)
/-- A slice's end is read. -/
theorem tail_view {w : World} {S : Nat → Prop} {b o m c : Nat} {xs : List Nat} (h : View w S 1 (.slice (some ⟨b, o, none⟩) m c) m (bys xs)) {l : Nat} (hl : l ≤ m) (hc : c ≠ l) : View w S 1 (.slice (some ⟨b, o + l, none⟩) (m - l) (c - l)) (m - l) (bys (xs.drop l)) := by
  have h1 := h.drop hl
  rw [show sliced (some ⟨b, o, none⟩) l m c 1 = .slice (some ⟨b, o + l, none⟩) (m - l) (c - l) from by simp [sliced, hc, Addr.add_lit]] at h1
  simpa [bys, List.map_drop] using h1
set_option maxRecDepth 20000 in
theorem head_ok (S : Nat → Prop) (b o m c : Nat) (xs : List Nat) (hm : 16 ≤ m) (hmx : m ≤ 100000) (w : World) (hv : View w S 1 (.slice (some ⟨b, o, none⟩) m c) m (bys xs)) (hB : Byt xs)
    (h0 : xs.getD 0 0 = 197) (h1 : xs.getD 1 0 = 126) (h3 : xs.getD 3 0 = 0) (hn : num4 (xs.drop 8) ≤ 4096) (hg : num4 (xs.drop 4) ≤ 2147483647) :
    Calls Tryz.prog 73 #[.slice (some ⟨b, o, none⟩) m c] w fun e w' => e = .returned (.tuple #[.int .i64 (num4 (xs.drop 8) : Nat), .int .i64 0]) ∧ Fr Nil w w' := by
  have hmc : m ≤ c := by obtain ⟨_, _, _, e, h, _⟩ := hv; injection e with _ _ e; omega
  have H8 := hid (fun w' (hf : Fr Nil w w') => number_ok S _ (m - 8) (xs.drop 8) (by omega) w' ((tail_view hv (l := 8) (by omega) (by omega)).fr hf fun _ _ _ h => h) (hB.drop 8))
  have H4 := hid (fun w' (hf : Fr Nil w w') => number_ok S _ (m - 4) (xs.drop 4) (by omega) w' ((tail_view hv (l := 4) (by omega) (by omega)).fr hf fun _ _ _ h => h) (hB.drop 4))
  obtain ⟨b, o, e0, -, hbl, q0⟩ := by_at hv (i := 0) (by omega)
  obtain ⟨b1, o1, e1, -, -, q1⟩ := by_at hv (i := 1) (by omega)
  obtain ⟨b3, o3, e3, -, -, q3⟩ := by_at hv (i := 3) (by omega)
  injection e0 with e0; injection e0 with e0 f0; subst e0; subst f0
  injection e1 with e1; injection e1 with e1 f1; subst e1; subst f1
  injection e3 with e3; injection e3 with e3 f3; subst e3; subst f3
  rw [h0] at q0; rw [h1] at q1; rw [h3] at q3
  generalize num4 (xs.drop 8) = n at *
  generalize num4 (xs.drop 4) = g at *
  have Q0 := hid q0; have Q1 := hid q1; have Q3 := hid q3
  have hc8 : c ≠ 8 := by omega
  have hc4 : c ≠ 4 := by omega
  have h8m : (8 : Int) ≤ (m : Int) := by omega
  have h4m : (4 : Int) ≤ (m : Int) := by omega
  have hmc2 : (m : Int) ≤ (c : Int) := by omega
  have i0 : (0 : Int) < (m : Int) := by omega
  have i1 : (1 : Int) < (m : Int) := by omega
  have i3 : (3 : Int) < (m : Int) := by omega
  have hnw : IntKind.i64.wrap (n : Int) = (n : Int) := by rw [IntKind.wrap_i64]; omega
  clear hv hB h0 h1 h3 q0 q1 q3
  go_enter Tryz.func73, Tryz.ntmps73
  go_wp2_with fail
  refine (H8.out w (Fr.refl _ _)).mono ?_
  rintro e w1 ⟨rfl, f1⟩
  have F1 := hid f1
  have p0 : w1.cell? ⟨b, o, none⟩ = some (.int .u8 197) := f1.cell (by simpa using Q0.out) fun h => h
  have p1 : w1.cell? ⟨b, o + 1, none⟩ = some (.int .u8 126) := f1.cell Q1.out fun h => h
  have p3 : w1.cell? ⟨b, o + 3, none⟩ = some (.int .u8 0) := f1.cell Q3.out fun h => h
  have hbl1 := Nat.lt_of_lt_of_le hbl f1.size
  clear f1
  go_wp2_with fail
  refine (H4.out w1 F1.out).mono ?_
  rintro e w2 ⟨rfl, f2⟩
  have F2 := hid (F1.out.then f2)
  clear f2 p0 p1 p3
  go_wp2
  go_ret2
  exact ⟨rfl, F2.out⟩
/-- Two slices of the same bytes are equal. -/
theorem bequal_ok (S S1 : Nat → Prop) (v u : Value) (n : Nat) (xs : List Nat) (w : World) (h1 : View w S 1 v n (bys xs)) (h2 : View w S1 1 u n (bys xs)) :
    Calls Tryz.prog 75 #[v, u] w fun e w' => e = .returned (.bool true) ∧ Fr Nil w w' := by
  have c1 := View.str (P := Tryz.prog) (src := 30) (dst := 9) (xs := xs) h1 Tryz.underlying30 Tryz.underlying5 Tryz.underlying9
  have c2 := View.str (P := Tryz.prog) (src := 30) (dst := 9) (xs := xs) h2 Tryz.underlying30 Tryz.underlying5 Tryz.underlying9
  clear h1 h2
  go_enter Tryz.func75, Tryz.ntmps75
  go_wp2
  go_ret
  exact ⟨rfl, Fr.refl _ _⟩
theorem num4_le4 (x : Nat) (h : x < 4294967296) (t : List Nat) : num4 (le4 x ++ t) = x := by
  unfold num4 le4
  simp
  omega
section
variable (k gen : Nat) (xs : List Nat)
theorem fr_drop4 : (frameF k gen xs).drop 4 = le4 gen ++ (le4 xs.length ++ (le4 (sumF k gen xs) ++ (xs ++ List.replicate (64 * blkN xs.length - 16 - xs.length) 0))) := by
  unfold frameF head12 le4; simp
theorem fr_drop8 : (frameF k gen xs).drop 8 = le4 xs.length ++ (le4 (sumF k gen xs) ++ (xs ++ List.replicate (64 * blkN xs.length - 16 - xs.length) 0)) := by
  unfold frameF head12 le4; simp
theorem fr_drop12 : (frameF k gen xs).drop 12 = le4 (sumF k gen xs) ++ (xs ++ List.replicate (64 * blkN xs.length - 16 - xs.length) 0) := by
  unfold frameF head12 le4; simp
theorem fr_drop16 : (frameF k gen xs).drop 16 = xs ++ List.replicate (64 * blkN xs.length - 16 - xs.length) 0 := by
  unfold frameF head12 le4; simp
theorem fr_take12 : (frameF k gen xs).take 12 = head12 k gen xs.length := by
  unfold frameF head12 le4; simp
theorem fr_rest : (frameF k gen xs).drop (16 + xs.length) = List.replicate (64 * blkN xs.length - 16 - xs.length) 0 := by
  rw [← List.drop_drop, fr_drop16, List.drop_left]
theorem fr_0 : (frameF k gen xs).getD 0 0 = 197 ∧ (frameF k gen xs).getD 1 0 = 126 ∧ (frameF k gen xs).getD 2 0 = k ∧ (frameF k gen xs).getD 3 0 = 0 := by
  unfold frameF head12 le4; simp
theorem sumF_lt : sumF k gen xs < 4294967296 := by
  have h := moreF_wf (moreF 0 (head12 k gen xs.length)) xs
  unfold sumF; omega
theorem fr_byt (hk : k < 256) (hB : Byt xs) : Byt (frameF k gen xs) := by
  have ha : ∀ {a b : List Nat}, Byt a → Byt b → Byt (a ++ b) := fun h1 h2 x hx => (List.mem_append.1 hx).elim (h1 x) (h2 x)
  have hl : ∀ x, Byt (le4 x) := fun x y hy => by
    simp only [le4, List.mem_cons, List.not_mem_nil, or_false] at hy
    rcases hy with h | h | h | h <;> (rw [h]; omega)
  have hr : ∀ n, Byt (List.replicate n 0) := fun n y hy => by rw [List.eq_of_mem_replicate hy]; decide
  have h4 : Byt [197, 126, k, 0] := fun y hy => by
    simp only [List.mem_cons, List.not_mem_nil, or_false] at hy
    rcases hy with h | h | h | h <;> omega
  exact ha (ha (ha (ha (ha h4 (hl _)) (hl _)) (hl _)) hB) (hr _)
end
set_option maxRecDepth 20000 in
set_option maxHeartbeats 1000000 in
/-- A whole frame is opened. -/
theorem lopen_ok (S : Nat → Prop) (k gen : Nat) (hk : k < 256) (hgen : gen ≤ 2147483647) (b o m c : Nat) (xs : List Nat) (n : Nat) (hn : n = xs.length) (hn4 : n ≤ 4096) (hm : m = 64 * blkN n) (hne : c ≠ 16 + n) (w : World) (hv : View w S 1 (.slice (some ⟨b, o, none⟩) m c) m (bys (frameF k gen xs))) (hB : Byt xs) :
    Calls Tryz.prog 43 #[.slice (some ⟨b, o, none⟩) m c, .int .u8 (k : Nat)] w fun e w' => ∃ A' c', e = .returned (.tuple #[.int .i64 (gen : Nat), .slice A' n c', .int .i64 0]) ∧ Row w' (New w) 5 1 (.slice A' n c') n (bys xs) ∧ Fr Nil w w' := by
  have hmb : 64 ≤ m ∧ 16 + n ≤ m ∧ m ≤ 5000 := by rw [hm]; unfold blkN; omega
  have hmc : m ≤ c := by obtain ⟨_, _, _, e, h, _⟩ := hv; injection e with _ _ e; omega
  have hBf := fr_byt k gen xs hk hB
  have e4 : num4 ((frameF k gen xs).drop 4) = gen := by rw [fr_drop4, num4_le4 gen (by omega)]
  have e8 : num4 ((frameF k gen xs).drop 8) = n := by rw [fr_drop8, num4_le4 _ (by omega), hn]
  have e12 : num4 ((frameF k gen xs).drop 12) = sumF k gen xs := by rw [fr_drop12, num4_le4 _ (sumF_lt k gen xs)]
  obtain ⟨g0, g1, g2, g3⟩ := fr_0 k gen xs
  have Hh := hid (head_ok S b o m c _ (by omega) (by omega) w hv hBf g0 g1 g3 (by rw [e8]; exact hn4) (by rw [e4]; exact hgen))
  rw [e8] at Hh
  have V12 := hid (tail_view hv (l := 12) (by omega) (by omega))
  have V4 := hid (tail_view hv (l := 4) (by omega) (by omega))
  have V16 := tail_view hv (l := 16) (by omega) (by omega)
  have VD := hid (show View w S 1 (.slice (some ⟨b, o + 16, none⟩) n (c - 16)) n (bys xs) from by
    have h := V16.pre (m := n) (by omega)
    rw [fr_drop16] at h
    have e : (bys (xs ++ List.replicate (64 * blkN xs.length - 16 - xs.length) 0)).take (n * 1) = bys xs := by
      rw [Nat.mul_one, hn]; unfold bys; rw [List.map_append, List.take_left' (by rw [List.length_map])]
    rwa [e] at h)
  have VR := hid (show View w S 1 (.slice (some ⟨b, o + (16 + n), none⟩) (m - (16 + n)) (c - (16 + n))) (m - (16 + n)) (bys (List.replicate (m - (16 + n)) 0)) from by
    have h := tail_view hv (l := 16 + n) (by omega) hne
    rw [hn, fr_rest] at h
    rw [hn, hm, show 64 * blkN n - (16 + xs.length) = 64 * blkN xs.length - 16 - xs.length from by rw [hn]; omega]
    rw [hm, hn] at h
    rw [show 64 * blkN xs.length - (16 + xs.length) = 64 * blkN xs.length - 16 - xs.length from by omega] at h
    exact h)
  obtain ⟨b2, o2, e2, -, hbl, q2⟩ := by_at hv (i := 2) (by omega)
  injection e2 with e2; injection e2 with e2 f2; subst e2; subst f2
  rw [g2] at q2
  have HS := hid (fun w' (hf : Fr Nil w w') => lsum_ok S S ⟨b, o, none⟩ m c _ xs (.slice (some ⟨b, o + 16, none⟩) n (c - 16)) n (by omega) w' (hv.fr hf fun _ _ _ h => h) (VD.out.fr hf fun _ _ _ h => h))
  rw [fr_take12] at HS
  have hsum : moreF (moreF 0 (head12 k gen xs.length)) xs = ((sumF k gen xs : Nat) : Int) := by
    have h := moreF_wf (moreF 0 (head12 k gen xs.length)) xs
    unfold sumF; omega
  rw [hsum] at HS
  have hslt := sumF_lt k gen xs
  have N12 := hid (fun w' (hf : Fr Nil w w') => number_ok S _ (m - 12) _ (by omega) w' (V12.out.fr hf fun _ _ _ h => h) (hBf.drop 12))
  have N4 := hid (fun w' (hf : Fr Nil w w') => number_ok S _ (m - 4) _ (by omega) w' (V4.out.fr hf fun _ _ _ h => h) (hBf.drop 4))
  rw [e12] at N12
  rw [e4] at N4
  obtain ⟨s, hs⟩ : ∃ s, s = sumF k gen xs := ⟨_, rfl⟩
  rw [← hs] at N12 HS hslt
  have HBl := hid (fun w' => lblocks_ok n hn4 w')
  obtain ⟨q, hq⟩ : ∃ q, q = blkN n := ⟨_, rfl⟩
  rw [← hq] at HBl
  have hq70 : q ≤ 70 := by rw [hq]; unfold blkN; omega
  have hbq : 64 * (q : Int) = (m : Int) := by rw [hq, hm]; omega
  have hmk := fun w' => mk_u8 (m - (16 + n)) (by omega) w'
  have Q2 := hid q2
  have Hn := hid hn
  obtain ⟨hm64, hmn, hm5⟩ := hmb
  clear hv V16 hBf g0 g1 g2 g3 hs hq e4 e8 e12 hsum q2 hm hn hB
  go_enter Tryz.func43, Tryz.ntmps43
  go_wp2_with fail
  refine Hh.out.mono ?_
  rintro e w1 ⟨rfl, f1⟩
  have F1 := hid f1
  clear f1
  go_wp2_with fail
  refine (HBl.out w1).mono ?_
  rintro e w2 ⟨rfl, rfl⟩
  go_upto_region 9 with (fail)
  have hc16 : ¬ c = 16 := by omega
  have h16m : (16 : Int) + (n : Int) ≤ (m : Int) := by omega
  have hmc2 : (m : Int) ≤ (c : Int) := by omega
  have hw1 : IntKind.i64.wrap (16 + (n : Int)) = 16 + (n : Int) := by rw [IntKind.wrap_i64]; omega
  go_quiet (fail)
  rw [show 16 + n - 16 = n from by omega]
  obtain ⟨w2, hw2⟩ : ∃ w2, w2 = w1.drewN nq := ⟨_, rfl⟩
  rw [← hw2]
  have F2 := hid (show Fr Nil w w2 from by rw [hw2]; exact F1.out.drewN _)
  have hc12 : ¬ c = 12 := by omega
  have hc4 : ¬ c = 4 := by omega
  have h12m : (12 : Int) ≤ (m : Int) := by omega
  have h4m : (4 : Int) ≤ (m : Int) := by omega
  clear hw2 hw1 h16m
  go_wp2_with fail
  refine (N12.out w2 F2.out).mono ?_
  rintro e w3 ⟨rfl, f3⟩
  have F3 := hid (F2.out.then f3)
  clear f3
  go_wp2_with fail
  refine (HS.out w3 F3.out).mono ?_
  rintro e w4 ⟨rfl, rfl⟩
  have hmk2 := hmk w3
  obtain ⟨R, hR⟩ : ∃ R, R = m - (16 + n) := ⟨_, rfl⟩
  rw [← hR] at hmk2 VR
  have hR0 : R ≤ 5000 := by omega
  rw [← hR]
  go_wp2_with fail
  rw [← hR]
  obtain ⟨W5, hW5⟩ : ∃ W5, W5 = w3.alloc (.cells (madeCells #[.int .u8 0] R) 5) := ⟨_, rfl⟩
  have hz := zeros_row R (by omega) w3
  rw [← hW5] at hz ⊢
  have F5 := hid (show Fr Nil w W5 from by rw [hW5]; exact F3.out.alloc _)
  have HZ := hid hz
  clear hW5 hz hmk2
  refine (bequal_ok S (New w3) _ _ R (List.replicate R 0) W5 (VR.out.fr F5.out fun _ _ _ h => h) HZ.out.view).mono ?_
  rintro e w6 ⟨rfl, f6⟩
  have F6 := hid (F5.out.then f6)
  have hl6 := Nat.lt_of_lt_of_le hbl F6.out.size
  have p2 : w6.cell? ⟨b, o + 2, none⟩ = some (.int .u8 (k : Nat)) := F6.out.cell Q2.out fun h => h
  clear f6
  go_wp2_with fail
  refine (N4.out w6 F6.out).mono ?_
  rintro e w7 ⟨rfl, f7⟩
  have F7 := hid (F6.out.then f7)
  clear f7 p2
  go_wp2_with fail
  refine (bclone_ok S _ n xs (by omega) w7 (VD.out.fr F7.out fun _ _ _ h => h)).mono ?_
  rintro e w8 ⟨A8, c8, rfl, r8, f8, -⟩
  have F8 := hid (F7.out.then f8)
  have R8 := hid (r8.mono (S' := New w) fun j hj => Nat.le_trans F7.out.size hj)
  clear r8 f8
  go_wp2
  go_ret3
  exact ⟨A8, c8, rfl, R8.out, F8.out⟩
end Go.Proofs.YtgoghmblfdlnbaaGreat
end

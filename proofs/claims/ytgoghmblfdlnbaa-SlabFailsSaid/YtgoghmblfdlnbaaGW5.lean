/- The texts SlH, VMap of this proof, one behind the other. Conditions: those of each. -/
import Derived.Maps.Keyed
import Derived.Maps.OwnSet
import Derived.MapViews
import Derived.Test.YtgoghmblfdlnbaaGW1
import Derived.Test.YtgoghmblfdlnbaaGW4
section
/- leaf: head of a frame. Conditions: the frame is whole. -/
set_option linter.unusedSimpArgs false
set_option linter.unusedVariables false
namespace Go.Proofs.Ytgoghmblfdlnbaa
open Go.RowKit
theorem Byt.drop {xs : List Nat} (h : Byt xs) (n : Nat) : Byt (xs.drop n) := fun x hx => h x (List.mem_of_mem_drop hx)
theorem Byt.take {xs : List Nat} (h : Byt xs) (n : Nat) : Byt (xs.take n) := fun x hx => h x (List.mem_of_mem_take hx)
/-- A slice's end is read. -/
theorem tail_view {w : World} {S : Nat → Prop} {b o m c : Nat} {xs : List Nat} (h : View w S 1 (.slice (some ⟨b, o, none⟩) m c) m (bys xs)) {l : Nat} (hl : l ≤ m) (hc : c ≠ l) : View w S 1 (.slice (some ⟨b, o + l, none⟩) (m - l) (c - l)) (m - l) (bys (xs.drop l)) := by
  have h1 := h.drop hl
  rw [show sliced (some ⟨b, o, none⟩) l m c 1 = .slice (some ⟨b, o + l, none⟩) (m - l) (c - l) from by simp [sliced, hc, Addr.add_lit]] at h1
  simpa [bys, List.map_drop] using h1
set_option maxRecDepth 20000 in
theorem head_ok (S : Nat → Prop) (b o m c : Nat) (xs : List Nat) (hm : 16 ≤ m) (hmx : m ≤ 100000) (w : World) (hv : View w S 1 (.slice (some ⟨b, o, none⟩) m c) m (bys xs)) (hB : Byt xs)
    (h0 : xs.getD 0 0 = 197) (h1 : xs.getD 1 0 = 126) (h3 : xs.getD 3 0 = 0) (hn : num4 (xs.drop 8) ≤ 4096) (hg : num4 (xs.drop 4) ≤ 2147483647) :
    Calls Try.prog 55 #[.slice (some ⟨b, o, none⟩) m c] w fun e w' => e = .returned (.tuple #[.int .i64 (num4 (xs.drop 8) : Nat), .int .i64 0]) ∧ Fr Nil w w' := by
  have hmc : m ≤ c := by obtain ⟨_, _, _, e, h, _⟩ := hv; injection e with _ _ e; omega
  have H8 := hid (fun w' (hf : Fr Nil w w') => number_ok S _ (m - 8) (xs.drop 8) (by omega) w' ((tail_view hv (l := 8) (by omega) (by omega)).fr hf fun _ _ _ h => h) (hB.drop 8))
  have H4 := hid (fun w' (hf : Fr Nil w w') => number_ok S _ (m - 4) (xs.drop 4) (by omega) w' ((tail_view hv (l := 4) (by omega) (by omega)).fr hf fun _ _ _ h => h) (hB.drop 4))
  obtain ⟨b, o, e0, -, hbl, q0⟩ := by_at hv (i := 0) (by omega)
  obtain ⟨b1, o1, e1, -, -, q1⟩ := by_at hv (i := 1) (by omega)
  obtain ⟨b3, o3, e3, -, -, q3⟩ := by_at hv (i := 3) (by omega)
  injection e0 with e0; injection e0 with e0 f0; subst e0; subst f0
  injection e1 with e1; injection e1 with e1 f1; subst e1; subst f1
  injection e3 with e3; injection e3 with e3 f3; subst e3; subst f3
  rw [h0] at q0; rw [h1] at q1; rw [h3] at q3
  generalize num4 (xs.drop 8) = n at *
  generalize num4 (xs.drop 4) = g at *
  have Q0 := hid q0; have Q1 := hid q1; have Q3 := hid q3
  have hc8 : c ≠ 8 := by omega
  have hc4 : c ≠ 4 := by omega
  have h8m : (8 : Int) ≤ (m : Int) := by omega
  have h4m : (4 : Int) ≤ (m : Int) := by omega
  have hmc2 : (m : Int) ≤ (c : Int) := by omega
  have i0 : (0 : Int) < (m : Int) := by omega
  have i1 : (1 : Int) < (m : Int) := by omega
  have i3 : (3 : Int) < (m : Int) := by omega
  have hnw : IntKind.i64.wrap (n : Int) = (n : Int) := by rw [IntKind.wrap_i64]; omega
  clear hv hB h0 h1 h3 q0 q1 q3
  go_enter Try.func55, Try.ntmps55
  go_wp2_with fail
  refine (H8.out w (Fr.refl _ _)).mono ?_
  rintro e w1 ⟨rfl, f1⟩
  have F1 := hid f1
  have p0 : w1.cell? ⟨b, o, none⟩ = some (.int .u8 197) := f1.cell (by simpa using Q0.out) fun h => h
  have p1 : w1.cell? ⟨b, o + 1, none⟩ = some (.int .u8 126) := f1.cell Q1.out fun h => h
  have p3 : w1.cell? ⟨b, o + 3, none⟩ = some (.int .u8 0) := f1.cell Q3.out fun h => h
  have hbl1 := Nat.lt_of_lt_of_le hbl f1.size
  clear f1
  go_wp2_with fail
  refine (H4.out w1 F1.out).mono ?_
  rintro e w2 ⟨rfl, f2⟩
  have F2 := hid (F1.out.then f2)
  clear f2 p0 p1 p3
  go_wp2
  go_ret2
  exact ⟨rfl, F2.out⟩
/-- Two slices of the same bytes are equal. -/
theorem bequal_ok (S S1 : Nat → Prop) (v u : Value) (n : Nat) (xs : List Nat) (w : World) (h1 : View w S 1 v n (bys xs)) (h2 : View w S1 1 u n (bys xs)) :
    Calls Try.prog 57 #[v, u] w fun e w' => e = .returned (.bool true) ∧ Fr Nil w w' := by
  have c1 := View.str (P := Try.prog) (src := 22) (dst := 9) (xs := xs) h1 Try.underlying22 Try.underlying5 Try.underlying9
  have c2 := View.str (P := Try.prog) (src := 22) (dst := 9) (xs := xs) h2 Try.underlying22 Try.underlying5 Try.underlying9
  clear h1 h2
  go_enter Try.func57, Try.ntmps57
  go_wp2
  go_ret
  exact ⟨rfl, Fr.refl _ _⟩
theorem num4_le4 (x : Nat) (h : x < 4294967296) (t : List Nat) : num4 (le4 x ++ t) = x := by
  unfold num4 le4
  simp
  omega
section
variable (k gen : Nat) (xs : List Nat)
theorem fr_drop4 : (frameF k gen xs).drop 4 = le4 gen ++ (le4 xs.length ++ (le4 (sumF k gen xs) ++ (xs ++ List.replicate (64 * blkN xs.length - 16 - xs.length) 0))) := by
  unfold frameF head12 le4; simp
theorem fr_drop8 : (frameF k gen xs).drop 8 = le4 xs.length ++ (le4 (sumF k gen xs) ++ (xs ++ List.replicate (64 * blkN xs.length - 16 - xs.length) 0)) := by
  unfold frameF head12 le4; simp
theorem fr_drop12 : (frameF k gen xs).drop 12 = le4 (sumF k gen xs) ++ (xs ++ List.replicate (64 * blkN xs.length - 16 - xs.length) 0) := by
  unfold frameF head12 le4; simp
theorem fr_drop16 : (frameF k gen xs).drop 16 = xs ++ List.replicate (64 * blkN xs.length - 16 - xs.length) 0 := by
  unfold frameF head12 le4; simp
theorem fr_take12 : (frameF k gen xs).take 12 = head12 k gen xs.length := by
  unfold frameF head12 le4; simp
theorem fr_rest : (frameF k gen xs).drop (16 + xs.length) = List.replicate (64 * blkN xs.length - 16 - xs.length) 0 := by
  rw [← List.drop_drop, fr_drop16, List.drop_left]
theorem fr_0 : (frameF k gen xs).getD 0 0 = 197 ∧ (frameF k gen xs).getD 1 0 = 126 ∧ (frameF k gen xs).getD 2 0 = k ∧ (frameF k gen xs).getD 3 0 = 0 := by
  unfold frameF head12 le4; simp
theorem sumF_lt : sumF k gen xs < 4294967296 := by
  have h := moreF_wf (moreF 0 (head12 k gen xs.length)) xs
  unfold sumF; omega
theorem fr_byt (hk : k < 256) (hB : Byt xs) : Byt (frameF k gen xs) := by
  have ha : ∀ {a b : List Nat}, Byt a → Byt b → Byt (a ++ b) := fun h1 h2 x hx => (List.mem_append.1 hx).elim (h1 x) (h2 x)
  have hl : ∀ x, Byt (le4 x) := fun x y hy => by
    simp only [le4, List.mem_cons, List.not_mem_nil, or_false] at hy
    rcases hy with h | h | h | h <;> (rw [h]; omega)
  have hr : ∀ n, Byt (List.replicate n 0) := fun n y hy => by rw [List.eq_of_mem_replicate hy]; decide
  have h4 : Byt [197, 126, k, 0] := fun y hy => by
    simp only [List.mem_cons, List.not_mem_nil, or_false] at hy
    rcases hy with h | h | h | h <;> omega
  exact ha (ha (ha (ha (ha h4 (hl _)) (hl _)) (hl _)) hB) (hr _)
end
set_option maxRecDepth 20000 in
set_option maxHeartbeats 1000000 in
/-- A whole frame is opened. -/
theorem lopen_ok (S : Nat → Prop) (k gen : Nat) (hk : k < 256) (hgen : gen ≤ 2147483647) (b o m c : Nat) (xs : List Nat) (n : Nat) (hn : n = xs.length) (hn4 : n ≤ 4096) (hm : m = 64 * blkN n) (hne : c ≠ 16 + n) (w : World) (hv : View w S 1 (.slice (some ⟨b, o, none⟩) m c) m (bys (frameF k gen xs))) (hB : Byt xs) :
    Calls Try.prog 37 #[.slice (some ⟨b, o, none⟩) m c, .int .u8 (k : Nat)] w fun e w' => ∃ A' c', e = .returned (.tuple #[.int .i64 (gen : Nat), .slice A' n c', .int .i64 0]) ∧ Row w' (New w) 5 1 (.slice A' n c') n (bys xs) ∧ Fr Nil w w' := by
  have hmb : 64 ≤ m ∧ 16 + n ≤ m ∧ m ≤ 5000 := by rw [hm]; unfold blkN; omega
  have hmc : m ≤ c := by obtain ⟨_, _, _, e, h, _⟩ := hv; injection e with _ _ e; omega
  have hBf := fr_byt k gen xs hk hB
  have e4 : num4 ((frameF k gen xs).drop 4) = gen := by rw [fr_drop4, num4_le4 gen (by omega)]
  have e8 : num4 ((frameF k gen xs).drop 8) = n := by rw [fr_drop8, num4_le4 _ (by omega), hn]
  have e12 : num4 ((frameF k gen xs).drop 12) = sumF k gen xs := by rw [fr_drop12, num4_le4 _ (sumF_lt k gen xs)]
  obtain ⟨g0, g1, g2, g3⟩ := fr_0 k gen xs
  have Hh := hid (head_ok S b o m c _ (by omega) (by omega) w hv hBf g0 g1 g3 (by rw [e8]; exact hn4) (by rw [e4]; exact hgen))
  rw [e8] at Hh
  have V12 := hid (tail_view hv (l := 12) (by omega) (by omega))
  have V4 := hid (tail_view hv (l := 4) (by omega) (by omega))
  have V16 := tail_view hv (l := 16) (by omega) (by omega)
  have VD := hid (show View w S 1 (.slice (some ⟨b, o + 16, none⟩) n (c - 16)) n (bys xs) from by
    have h := V16.pre (m := n) (by omega)
    rw [fr_drop16] at h
    have e : (bys (xs ++ List.replicate (64 * blkN xs.length - 16 - xs.length) 0)).take (n * 1) = bys xs := by
      rw [Nat.mul_one, hn]; unfold bys; rw [List.map_append, List.take_left' (by rw [List.length_map])]
    rwa [e] at h)
  have VR := hid (show View w S 1 (.slice (some ⟨b, o + (16 + n), none⟩) (m - (16 + n)) (c - (16 + n))) (m - (16 + n)) (bys (List.replicate (m - (16 + n)) 0)) from by
    have h := tail_view hv (l := 16 + n) (by omega) hne
    rw [hn, fr_rest] at h
    rw [hn, hm, show 64 * blkN n - (16 + xs.length) = 64 * blkN xs.length - 16 - xs.length from by rw [hn]; omega]
    rw [hm, hn] at h
    rw [show 64 * blkN xs.length - (16 + xs.length) = 64 * blkN xs.length - 16 - xs.length from by omega] at h
    exact h)
  obtain ⟨b2, o2, e2, -, hbl, q2⟩ := by_at hv (i := 2) (by omega)
  injection e2 with e2; injection e2 with e2 f2; subst e2; subst f2
  rw [g2] at q2
  have HS := hid (fun w' (hf : Fr Nil w w') => lsum_ok S S ⟨b, o, none⟩ m c _ xs (.slice (some ⟨b, o + 16, none⟩) n (c - 16)) n (by omega) w' (hv.fr hf fun _ _ _ h => h) (VD.out.fr hf fun _ _ _ h => h))
  rw [fr_take12] at HS
  have hsum : moreF (moreF 0 (head12 k gen xs.length)) xs = ((sumF k gen xs : Nat) : Int) := by
    have h := moreF_wf (moreF 0 (head12 k gen xs.length)) xs
    unfold sumF; omega
  rw [hsum] at HS
  have hslt := sumF_lt k gen xs
  have N12 := hid (fun w' (hf : Fr Nil w w') => number_ok S _ (m - 12) _ (by omega) w' (V12.out.fr hf fun _ _ _ h => h) (hBf.drop 12))
  have N4 := hid (fun w' (hf : Fr Nil w w') => number_ok S _ (m - 4) _ (by omega) w' (V4.out.fr hf fun _ _ _ h => h) (hBf.drop 4))
  rw [e12] at N12
  rw [e4] at N4
  obtain ⟨s, hs⟩ : ∃ s, s = sumF k gen xs := ⟨_, rfl⟩
  rw [← hs] at N12 HS hslt
  have HBl := hid (fun w' => lblocks_ok n hn4 w')
  obtain ⟨q, hq⟩ : ∃ q, q = blkN n := ⟨_, rfl⟩
  rw [← hq] at HBl
  have hq70 : q ≤ 70 := by rw [hq]; unfold blkN; omega
  have hbq : 64 * (q : Int) = (m : Int) := by rw [hq, hm]; omega
  have hmk := fun w' => mk_u8 (m - (16 + n)) (by omega) w'
  have Q2 := hid q2
  have Hn := hid hn
  obtain ⟨hm64, hmn, hm5⟩ := hmb
  clear hv V16 hBf g0 g1 g2 g3 hs hq e4 e8 e12 hsum q2 hm hn hB
  go_enter Try.func37, Try.ntmps37
  go_wp2_with fail
  refine Hh.out.mono ?_
  rintro e w1 ⟨rfl, f1⟩
  have F1 := hid f1
  clear f1
  go_wp2_with fail
  refine (HBl.out w1).mono ?_
  rintro e w2 ⟨rfl, rfl⟩
  go_upto_region 9 with (fail)
  have hc16 : ¬ c = 16 := by omega
  have h16m : (16 : Int) + (n : Int) ≤ (m : Int) := by omega
  have hmc2 : (m : Int) ≤ (c : Int) := by omega
  have hw1 : IntKind.i64.wrap (16 + (n : Int)) = 16 + (n : Int) := by rw [IntKind.wrap_i64]; omega
  go_quiet (fail)
  rw [show 16 + n - 16 = n from by omega]
  obtain ⟨w2, hw2⟩ : ∃ w2, w2 = w1.drewN nq := ⟨_, rfl⟩
  rw [← hw2]
  have F2 := hid (show Fr Nil w w2 from by rw [hw2]; exact F1.out.drewN _)
  have hc12 : ¬ c = 12 := by omega
  have hc4 : ¬ c = 4 := by omega
  have h12m : (12 : Int) ≤ (m : Int) := by omega
  have h4m : (4 : Int) ≤ (m : Int) := by omega
  clear hw2 hw1 h16m
  go_wp2_with fail
  refine (N12.out w2 F2.out).mono ?_
  rintro e w3 ⟨rfl, f3⟩
  have F3 := hid (F2.out.then f3)
  clear f3
  go_wp2_with fail
  refine (HS.out w3 F3.out).mono ?_
  rintro e w4 ⟨rfl, rfl⟩
  have hmk2 := hmk w3
  obtain ⟨R, hR⟩ : ∃ R, R = m - (16 + n) := ⟨_, rfl⟩
  rw [← hR] at hmk2 VR
  have hR0 : R ≤ 5000 := by omega
  rw [← hR]
  go_wp2_with fail
  rw [← hR]
  obtain ⟨W5, hW5⟩ : ∃ W5, W5 = w3.alloc (.cells (madeCells #[.int .u8 0] R) 5) := ⟨_, rfl⟩
  have hz := zeros_row R (by omega) w3
  rw [← hW5] at hz ⊢
  have F5 := hid (show Fr Nil w W5 from by rw [hW5]; exact F3.out.alloc _)
  have HZ := hid hz
  clear hW5 hz hmk2
  refine (bequal_ok S (New w3) _ _ R (List.replicate R 0) W5 (VR.out.fr F5.out fun _ _ _ h => h) HZ.out.view).mono ?_
  rintro e w6 ⟨rfl, f6⟩
  have F6 := hid (F5.out.then f6)
  have hl6 := Nat.lt_of_lt_of_le hbl F6.out.size
  have p2 : w6.cell? ⟨b, o + 2, none⟩ = some (.int .u8 (k : Nat)) := F6.out.cell Q2.out fun h => h
  clear f6
  go_wp2_with fail
  refine (N4.out w6 F6.out).mono ?_
  rintro e w7 ⟨rfl, f7⟩
  have F7 := hid (F6.out.then f7)
  clear f7 p2
  go_wp2_with fail
  refine (bclone_ok S _ n xs (by omega) w7 (VD.out.fr F7.out fun _ _ _ h => h)).mono ?_
  rintro e w8 ⟨A8, c8, rfl, r8, f8, -⟩
  have F8 := hid (F7.out.then f8)
  have R8 := hid (r8.mono (S' := New w) fun j hj => Nat.le_trans F7.out.size hj)
  clear r8 f8
  go_wp2
  go_ret3
  exact ⟨A8, c8, rfl, R8.out, F8.out⟩
end Go.Proofs.Ytgoghmblfdlnbaa
end

section
/- Maps with integer keys: a map's block read as the list of its entries in the order in which they came; the walk's laws over it. Conditions: none; plain lemmas over any program. -/
set_option linter.unusedSimpArgs false
set_option linter.unusedVariables false
namespace Go.Proofs.Ytgoghmblfdlnbaa
open Go.RowKit Go.ChangeMaps Go.MapKept
open Go.WideElems (Fit rd rg pl)
open Go.Maps (Keyed)

/-! ### lists of entries -/
section
variable {α : Type}
def mget (l : List (Int × α)) (i : Int) : Option α := (l.find? (fun p => p.1 == i)).map (·.2)
def mput (l : List (Int × α)) (i : Int) (v : α) : List (Int × α) := if (mget l i).isSome then l.map (fun p => if p.1 == i then (i, v) else p) else l ++ [(i, v)]
theorem mget_none {l : List (Int × α)} {i : Int} (h : ∀ p ∈ l, p.1 ≠ i) : mget l i = none := by
  unfold mget
  rw [List.find?_eq_none.2 (fun p hp => by simpa using h p hp)]
  rfl
theorem mget_some {l : List (Int × α)} {i : Int} {v : α} (hn : (l.map (·.1)).Nodup) (h : (i, v) ∈ l) : mget l i = some v := by
  induction l with
  | nil => simp at h
  | cons p l ih =>
    rw [List.map_cons, List.nodup_cons] at hn
    unfold mget at ih ⊢
    rw [List.find?_cons]
    by_cases hp : p.1 = i
    · rcases List.mem_cons.1 h with rfl | h
      · simp
      · exact absurd (List.mem_map.2 ⟨_, h, hp.symm⟩) hn.1
    · rw [show (p.1 == i) = false by simpa using hp]
      rcases List.mem_cons.1 h with rfl | h
      · exact absurd rfl hp
      · exact ih hn.2 h
theorem mget_mem {l : List (Int × α)} {i : Int} {v : α} (h : mget l i = some v) : (i, v) ∈ l := by
  unfold mget at h
  rw [Option.map_eq_some_iff] at h
  obtain ⟨p, hp, rfl⟩ := h
  have h1 := List.mem_of_find?_eq_some hp
  have h2 := List.find?_some hp
  simp at h2
  subst h2
  exact h1
theorem mget_isSome {l : List (Int × α)} {i : Int} : (mget l i).isSome = decide (i ∈ l.map (·.1)) := by
  cases h : mget l i with
  | none =>
    have : i ∉ l.map (·.1) := by
      intro hi
      obtain ⟨p, hp, rfl⟩ := List.mem_map.1 hi
      unfold mget at h
      rw [Option.map_eq_none_iff, List.find?_eq_none] at h
      exact h p hp (by simp)
    simp [this]
  | some v =>
    have : i ∈ l.map (·.1) := List.mem_map.2 ⟨_, mget_mem h, rfl⟩
    simp [this]
theorem mput_keys {l : List (Int × α)} {i : Int} {v : α} : (mput l i v).map (·.1) = if i ∈ l.map (·.1) then l.map (·.1) else l.map (·.1) ++ [i] := by
  unfold mput
  rw [mget_isSome]
  by_cases h : i ∈ l.map (·.1)
  · rw [if_pos (by simpa using h), if_pos h, List.map_map]
    refine List.map_congr_left fun p _ => ?_
    by_cases hp : p.1 = i <;> simp [hp]
  · rw [if_neg (by simpa using h), if_neg h]
    simp
theorem mput_nodup {l : List (Int × α)} {i : Int} {v : α} (hn : (l.map (·.1)).Nodup) : ((mput l i v).map (·.1)).Nodup := by
  rw [mput_keys]
  split
  · exact hn
  · rename_i h
    rw [List.nodup_append]
    exact ⟨hn, by simp, fun a ha b hb e => by simp at hb; subst hb; subst e; exact h ha⟩
theorem mput_length {l : List (Int × α)} {i : Int} {v : α} : (mput l i v).length = if i ∈ l.map (·.1) then l.length else l.length + 1 := by
  have := congrArg List.length (mput_keys (l := l) (i := i) (v := v))
  rw [List.length_map] at this
  rw [this]
  split <;> simp
theorem mget_put {l : List (Int × α)} {i j : Int} {v : α} (hn : (l.map (·.1)).Nodup) : mget (mput l i v) j = if j = i then some v else mget l j := by
  have hn' := mput_nodup (v := v) (i := i) hn
  by_cases h : j = i
  · subst h
    rw [if_pos rfl]
    refine mget_some hn' ?_
    unfold mput
    split
    · rename_i h
      rw [mget_isSome] at h
      simp only [decide_eq_true_eq, List.mem_map] at h
      obtain ⟨p, hp, h⟩ := h
      exact List.mem_map.2 ⟨p, hp, by simp [h]⟩
    · simp
  · rw [if_neg h]
    cases hg : mget l j with
    | none =>
      refine mget_none fun p hp e => ?_
      have h1 : j ∈ (mput l i v).map (·.1) := List.mem_map.2 ⟨p, hp, e⟩
      have h2 : j ∉ l.map (·.1) := by
        have := mget_isSome (l := l) (i := j)
        rw [hg] at this
        simpa using this
      rw [mput_keys] at h1
      split at h1
      · exact h2 h1
      · simp only [List.mem_append, List.mem_singleton] at h1
        exact h1.elim h2 h
    | some u =>
      refine mget_some hn' ?_
      have := mget_mem hg
      unfold mput
      split
      · exact List.mem_map.2 ⟨_, this, by simp [h]⟩
      · simp [this]
theorem mput_mem {l : List (Int × α)} {i : Int} {v : α} {p : Int × α} (h : p ∈ mput l i v) : p = (i, v) ∨ (p ∈ l) := by
  unfold mput at h
  split at h
  · obtain ⟨q, hq, rfl⟩ := List.mem_map.1 h
    by_cases hqi : q.1 = i <;> simp [hqi, hq]
  · simp only [List.mem_append, List.mem_singleton] at h
    exact h.symm
end

/-! ### a map's block -/
@[go_sem] theorem go_makeMap {P : Program} (t : TypeId) (w : World) : (Instr.makeMap t none).run P w = .ok (.map (some w.heap.size)) (w.alloc (.map #[] 0)) := rfl
/-- Block b is a map whose entries are l, in the order in which they came. -/
def KV (w : World) (b : Nat) (l : List (Int × Value)) : Prop :=
  ∃ es clock, w.heap[b]? = some (.map es clock) ∧ Stamped es clock ∧ es.toList.map (fun e => (e.key, e.val)) = l.map (fun p => (Value.int .i64 p.1, p.2)) ∧ l.length ≤ 1000000 ∧ ∀ p ∈ l, (Lit.int .i64 p.1).wf = true

section
variable {P : Program} {k t e : TypeId} {w w1 : World} {b : Nat} {l : List (Int × Value)}
theorem KV.lt (h : KV w b l) : b < w.heap.size := by
  obtain ⟨es, clock, hb, _⟩ := h
  exact (Array.getElem?_eq_some_iff.1 hb).1
theorem KV.fr {S : Nat → Prop} (h : KV w b l) (hf : Fr S w w1) (hn : ¬ S b) : KV w1 b l := by
  have hlt := h.lt
  obtain ⟨es, clock, hb, r⟩ := h
  exact ⟨es, clock, (hf.block b hlt hn).trans hb, r⟩
theorem KV.drew (h : KV w b l) : KV w.drew b l := h
theorem KV.alloc (h : KV w b l) (o : Obj) : KV (w.alloc o) b l := h.fr ((Fr.refl Nil w).alloc o) id
theorem KV.made (w : World) : KV (w.alloc (.map #[] 0)) w.heap.size [] := ⟨#[], 0, (MapKept.heap_alloc w _).1, stamped_empty 0, rfl, by simp, by simp⟩
theorem KV.nodup (h : KV w b l) : (l.map (·.1)).Nodup := by
  obtain ⟨es, clock, hb, hst, he, _, _⟩ := h
  have h3 := ((stamped_iff es clock).1 hst).2.2
  have h4 : (es.toList.map (fun x => x.key)).Nodup := by rw [List.Nodup, List.pairwise_map]; exact h3
  have h5 : es.toList.map (fun x => x.key) = l.map (fun p => Value.int .i64 p.1) := by
    have := congrArg (List.map Prod.fst) he
    simpa [List.map_map, Function.comp_def] using this
  rw [h5, List.Nodup, List.pairwise_map] at h4
  rw [List.Nodup, List.pairwise_map]
  exact h4.imp (fun h e => h (by rw [e]))
theorem KV.parts (h : KV w b l) (hk : P.underlying k = some (.int .i64)) : ∃ es clock, w.heap[b]? = some (.map es clock) ∧ Fit (H := Unit) P k (fun _ => some (.nil, [])) es clock ∧ es.size = l.length ∧ es.toList.map (fun e => (e.key, e.val)) = l.map (fun p => (Value.int .i64 p.1, p.2)) := by
  obtain ⟨es, clock, hb, hst, he, hl, hw⟩ := h
  have hs : es.size = l.length := by have := congrArg List.length he; simpa using this
  refine ⟨es, clock, hb, ⟨by rw [hs]; unfold maxLen; omega, hst, fun x hx => ?_⟩, hs, he⟩
  have : (x.key, x.val) ∈ l.map (fun p => (Value.int .i64 p.1, p.2)) := by rw [← he]; exact List.mem_map.2 ⟨x, hx, rfl⟩
  obtain ⟨p, hp, h1⟩ := List.mem_map.1 this
  injection h1 with h1 h2
  exact ⟨(.int .i64 p.1, .nil), by simp [Go.WideElems.rd, ← h1, Maps.keyOf_int_mk hk (hw p hp)]⟩
theorem KV.heap (h : KV w b l) : ∃ es clock, w.heap[b]? = some (.map es clock) ∧ es.size = l.length := by
  obtain ⟨es, clock, hb, hst, he, hl, hw⟩ := h
  exact ⟨es, clock, hb, by have := congrArg List.length he; simpa using this⟩

/-- v, ok := m[i] (c = true); m[i] (c = false) -/
theorem KV.look (h : KV w b l) (hk : P.underlying k = some (.int .i64)) (ht : P.underlying t = some (.map k e)) {z : Value} (hz : (zeroValue e).run P w = .ok z w) (c : Bool) {i : Int} (hi : (Lit.int .i64 i).wf = true) :
    (Instr.lookup t (.map (some b)) (.int .i64 i) c).run P w = .ok (if c then .tuple #[(mget l i).getD z, .bool (mget l i).isSome] else (mget l i).getD z) w := by
  have hnd := h.nodup
  obtain ⟨es, clock, hb, F, hs, he⟩ := h.parts hk
  rcases Maps.fit_look c (Maps.int_keyed hk) ht hz hb F (Maps.keyOf_int_mk hk hi) with ⟨hrun, hno, _⟩ | ⟨e0, y, hm, hkey, hrun, _⟩
  · have : mget l i = none := mget_none fun p hp e1 => by
      have : (Value.int .i64 p.1, p.2) ∈ es.toList.map (fun e => (e.key, e.val)) := by rw [he]; exact List.mem_map.2 ⟨p, hp, rfl⟩
      obtain ⟨x, hx, h1⟩ := List.mem_map.1 this
      injection h1 with h1 h2
      exact hno x hx (by rw [h1, e1])
    rw [this, hrun]
    rfl
  · have : (e0.key, e0.val) ∈ l.map (fun p => (Value.int .i64 p.1, p.2)) := by rw [← he]; exact List.mem_map.2 ⟨e0, hm, rfl⟩
    obtain ⟨p, hp, h1⟩ := List.mem_map.1 this
    injection h1 with h1 h2
    rw [hkey] at h1
    injection h1 with _ h1
    have hg : mget l i = some e0.val := mget_some hnd (by rw [← h1, ← h2]; exact hp)
    rw [hg, hrun]
    rfl

/-- m[i] = v -/
theorem KV.store (h : KV w b l) (hk : P.underlying k = some (.int .i64)) (ht : P.underlying t = some (.map k e)) {i : Int} {v : Value} (hi : (Lit.int .i64 i).wf = true) (hl : (mput l i v).length ≤ 1000000) :
    ∃ w', (Instr.mapUpdate t (.map (some b)) (.int .i64 i) v).run P w = .ok () w' ∧ KV w' b (mput l i v) ∧ Fr (fun k => k = b) w w' := by
  have hwf : ∀ p ∈ mput l i v, (Lit.int .i64 p.1).wf = true := by
    obtain ⟨_, _, _, _, _, _, hw⟩ := h
    intro p hp
    rcases mput_mem hp with rfl | hp
    · exact hi
    · exact hw p hp
  have hnd := h.nodup
  obtain ⟨es, clock, hb, F, hs, he⟩ := h.parts hk
  have K := Maps.int_keyed (P := P) hk
  have hkey := Maps.keyOf_int_mk (P := P) hk hi
  have fr : ∀ es' clock', Fr (fun k => k = b) w (setBlock w b (.map es' clock')) := fun es' clock' =>
    ⟨rfl, rfl, rfl, by simp [setBlock], fun k _ hn => heap_setBlock_other hb _ hn⟩
  have hst := F.stamped
  rcases K.find w hkey es.toList F.keys with ⟨h1, h2⟩ | ⟨j, e0, h1, h2, h3⟩
  · have hn : mget l i = none := mget_none fun p hp e1 => by
      have : (Value.int .i64 p.1, p.2) ∈ es.toList.map (fun e => (e.key, e.val)) := by rw [he]; exact List.mem_map.2 ⟨p, hp, rfl⟩
      obtain ⟨x, hx, h1⟩ := List.mem_map.1 this
      injection h1 with h1 h2'
      exact h2 x hx (by rw [h1, e1])
    have hm : mput l i v = l ++ [(i, v)] := by simp [mput, hn]
    refine ⟨setBlock w b (.map (es.push ⟨.int .i64 i, v, clock⟩) (clock + 1)), ?_, ⟨_, _, heap_setBlock_same hb _, stamped_push F.stamped h2, ?_, hl, hwf⟩, fr _ _⟩
    · simp [Instr.mapUpdate, run_underlying ht, MapKept.run_getObj_map hb, K.check w false hkey, h1, MapKept.run_setObj_map _ hb, Result.andThen, setBlock]
    · rw [hm, Array.toList_push, List.map_append, he, List.map_append]
      rfl
  · have hj : es[j]? = some e0 := by simpa using h2
    have hjl : j < es.toList.length := (List.getElem?_eq_some_iff.1 h2).1
    have hkeyf : ∀ e', es[j]? = some e' → ({ e' with key := Value.int .i64 i, val := v } : MapEntry).key = e'.key := fun e' he' => by rw [hj] at he'; cases he'; exact h3.symm
    have hlist : (es.modify j (fun e' => { e' with key := Value.int .i64 i, val := v })).toList = es.toList.set j { e0 with key := Value.int .i64 i, val := v } := by rw [Array.toList_modify, modify_eq_set _ _ _ _ h2]
    have hlj : l[j]? = some (i, e0.val) := by
      have := congrArg (fun x => x[j]?) he
      simp only [List.getElem?_map, h2, Option.map_some] at this
      cases hlj : l[j]? with
      | none => rw [hlj] at this; cases this
      | some p =>
        rw [hlj] at this
        simp only [Option.map_some, Option.some.injEq, Prod.mk.injEq] at this
        obtain ⟨t1, t2⟩ := this
        rw [h3] at t1
        injection t1 with _ t1
        exact congrArg some (Prod.ext t1.symm t2.symm)
    have hmem : i ∈ l.map (·.1) := List.mem_map.2 ⟨_, List.mem_of_getElem? hlj, rfl⟩
    have hm : mput l i v = l.set j (i, v) := by
      unfold mput
      rw [mget_isSome, if_pos (by simpa using hmem)]
      refine List.ext_getElem? fun n => ?_
      rw [List.getElem?_map, List.getElem?_set]
      by_cases hnj : j = n
      · subst hnj
        rw [hlj]
        simp [(List.getElem?_eq_some_iff.1 hlj).1]
      · rw [if_neg hnj]
        cases hln : l[n]? with
        | none => rfl
        | some p =>
          have : p.1 ≠ i := by
            intro hp
            have e1 : (l.map (·.1))[n]? = some i := by rw [List.getElem?_map, hln]; simp [hp]
            have e2 : (l.map (·.1))[j]? = some i := by rw [List.getElem?_map, hlj]; rfl
            have hn1 := (List.getElem?_eq_some_iff.1 e2).1
            exact hnj ((List.getElem?_inj hn1 hnd).1 (by rw [e1, e2]))
          simp [this]
    refine ⟨setBlock w b (.map (es.modify j (fun e' => { e' with key := Value.int .i64 i, val := v })) clock), ?_, ⟨_, _, heap_setBlock_same hb _, stamped_modify F.stamped _ _ (fun _ _ => rfl) (fun e' _ he' => hkeyf e' he'), ?_, hl, hwf⟩, fr _ _⟩
    · simp [Instr.mapUpdate, run_underlying ht, MapKept.run_getObj_map hb, K.check w false hkey, h1, hj, h3, K.stays w hkey, MapKept.run_setObj_map _ hb, Result.andThen, setBlock]
    · rw [hlist, hm, List.map_set, List.map_set, he]

/-- len(m) -/
theorem KV.len (h : KV w b l) (hk : P.underlying t = some (.map (P.mapKeyOf t) (P.mapElemOf t))) (ty : TypeId) : (Builtin.len_ #[t] ty #[.map (some b)]).run P w = .ok (.int .i64 (l.length : Int)) w := by
  obtain ⟨es, clock, hb, hs⟩ := h.heap
  rw [run_len_map w t ty b es clock hk hb, hs]
  rfl

/-- clear(m) -/
theorem KV.clear (h : KV w b l) (ht : P.underlying t = some (.map k e)) (ty : TypeId) : ∃ w', (Builtin.clear_ #[t] ty #[.map (some b)]).run P w = .ok (.tuple #[]) w' ∧ KV w' b [] ∧ Fr (fun k => k = b) w w' := by
  obtain ⟨es, clock, hb, _⟩ := h
  refine ⟨setBlock w b (.map #[] clock), ?_, ⟨#[], clock, heap_setBlock_same hb _, stamped_empty _, rfl, by simp, by simp⟩, ⟨rfl, rfl, rfl, by simp [setBlock], fun k _ hn => heap_setBlock_other hb _ hn⟩⟩
  simp [Builtin.clear_, run_underlying ht, MapKept.run_getObj_map hb, MapKept.run_setObj_map _ hb, Result.andThen, setBlock]

/-- m[i] = v AT THE OPERATION. -/
theorem wp_mapput {ops : Array Oper} {rest : List Oper} {o : Oper} {a : Act} {Q : Exit → Act → World → Prop}
    (hg : o.guard = none) (m x y : Operand) (hop : o.op = Op.mapUpdate t m x y) (hk : P.underlying k = some (.int .i64)) (ht : P.underlying t = some (.map k e))
    (h : KV w b l) (hm : a.eval m = .map (some b)) {i : Int} {v : Value} (hx : a.eval x = .int .i64 i) (hv : a.eval y = v) (hi : (Lit.int .i64 i).wf = true) (hl : (mput l i v).length ≤ 1000000)
    (hK : Stop (∀ w', KV w' b (mput l i v) → Fr (fun k => k = b) w w' → wpList P ops Q rest (a.put o.dst undef) w') .mk) : wpList P ops Q (o :: rest) a w := by
  refine wpList_plain hg fun K' hK' => ?_
  obtain ⟨w', hrun, r1, r2⟩ := h.store hk ht hi hl (v := v)
  unfold Oper.wp
  simp [execOp, hop, hm, hx, hv, hrun, Result.andThen]
  exact hK' _ _ (hK w' r1 r2)
end
end Go.Proofs.Ytgoghmblfdlnbaa
end

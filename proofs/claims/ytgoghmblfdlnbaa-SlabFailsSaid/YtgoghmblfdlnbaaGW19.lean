/- The texts VPlatW, VPlatO, VPlatS of this proof, one behind the other. Conditions: those of each. -/
import Derived.Test.YtgoghmblfdlnbaaGW3
import Derived.Test.YtgoghmblfdlnbaaGW13
import Derived.Test.YtgoghmblfdlnbaaGW18
section
/- platter's Write. Conditions: the platter is a block of the program's own; the bytes can be read. -/
set_option linter.unusedSimpArgs false
set_option linter.unusedVariables false
namespace Go.Proofs.Ytgoghmblfdlnbaa
open Go.RowKit

/-- append of elements that lie at an address, as an equation. -/
theorem app_run {P : Program} {e : TypeId} {s n : Nat} {v : Value} {xs : List Value} {w : World} {T : Nat → Prop} (t : TypeId) (z : Value) (bytes : Nat) (ht : P.underlying t = some (.slice e)) (hi : (P.info? e).map (fun i => (i.zero, i.size, i.bytes)) = some (some z, s, bytes))
    (hzs : z.cells.size = s) (hsz : 0 < s) (hrow : Row w T e s v n xs) (ad : Addr) (m c : Nat) (news : List Value) (hm : 0 < m) (hl : news.length = m * s) (hnews : ∀ j u, news[j]? = some u → w.cell? (ad.add j) = some u) (h1 : ∀ u ∈ news, u.oneCell' = true)
    (hbytes : (n + m) * bytes ≤ 140737488355328) (hb0 : 0 < bytes) :
    ∃ g cap w', (Builtin.append_ #[t, t] t #[v, .slice (some ad) m c]).run P w = .ok (.slice (some ⟨g, 0, none⟩) (n + m) cap) w' ∧ Row w' (fun k => k = g) e s (.slice (some ⟨g, 0, none⟩) (n + m) cap) (n + m) (xs ++ news) ∧ (v.ownBlock = some g ∨ w.heap.size ≤ g) ∧ Fr (fun k => v.ownBlock = some k) w w' := by
  obtain ⟨i, hi1, hi2, hi3, hi4⟩ := info_parts hi
  have hle : n + m ≤ 140737488355328 := Nat.le_trans (Nat.le_mul_of_pos_right _ hb0) hbytes
  obtain ⟨v', w', hr, hown, hg, hnil, hat⟩ := run_append_own_at (P := P) w 0 t t e i z s bytes ht hi1 hi2 hi3 hi4 hzs hsz v n xs hrow.1 ad m c news hl hnews h1 (by unfold maxLen; omega) hbytes (Nat.zero_le _)
  rcases hown.2 with ⟨h0, h00⟩ | ⟨g, cap, cur, rfl, hb, hh, hnc, r⟩
  · omega
  · refine ⟨g, cap, w', hr, ⟨hown, fun k hk => by simpa [Value.ownBlock] using hk.symm⟩, ?_, Fr.of_grown hg⟩
    simp only [Value.ownBlock] at hat
    rcases hat with hat | hat
    · exact .inl hat.symm
    · injection hat with hat
      exact .inr (by omega)

theorem info_write : (Try.prog.info? 107).map (fun i => (i.zero, i.size, i.bytes)) = some (some (.agg #[.int .i64 0, .slice none 0 0]), 2, 32) := by kernel_rfl

def Pl.put (p : Pl) (n : Nat) (xs : List Nat) : Pl := { p with ca := p.ca ++ [(n, xs)] }

theorem two_at (w : World) (x y : Value) (t : TypeId) : ∀ j u, [x, y][j]? = some u → (w.alloc (.cells #[x, y] t)).cell? ((⟨w.heap.size, 0, none⟩ : Addr).add j) = some u := by
  intro j u hj
  rw [Addr.add_lit, Nat.zero_add, cell_of_row _ w.heap.size j #[x, y] t (0, 0) (heap_alloc_new w _), ← Array.getElem?_toList]
  exact hj

theorem write1_bad (T S1 : Nat → Prop) (pb : Nat) (p : Pl) (n : Int) (m : Nat) (A : Option Addr) (c : Nat) (px nx bx : Nat) (w : World) (h : IsP w T pb p) (h1 : Blk w px #[.pointer (some ⟨pb, 0, none⟩)] 25) (h2 : Blk w nx #[.int .i64 n] 3) (h3 : Blk w bx #[.slice A m c] 22)
    (hbad : ¬ (0 ≤ n ∧ n < p.bl.length) ∨ m ≠ 64) :
    Calls Try.prog 42 #[.pointer (some ⟨px, 0, none⟩), .pointer (some ⟨nx, 0, none⟩), .pointer (some ⟨bx, 0, none⟩)] w fun e w' => e = .returned (.int .i64 1) ∧ w = w' := by
  have c1 : w.cell? ⟨px, 0, none⟩ = some (.pointer (some ⟨pb, 0, none⟩)) := h1.cell 0
  have c2 : w.cell? ⟨nx, 0, none⟩ = some (.int .i64 n) := h2.cell 0
  have c3 : w.cell? ⟨bx, 0, none⟩ = some (.slice A m c) := h3.cell 0
  go_enter Try.func42, Try.ntmps42
  go_wp2_with fail
  refine (there_ok T pb p n w h).mono ?_
  rintro e w2 ⟨rfl, rfl⟩
  by_cases ht : 0 ≤ n ∧ n < p.bl.length
  · have hm : m ≠ 64 := hbad.elim (fun h => absurd ht h) id
    have hm2 : ((m : Int) == 64) = false := by rw [beq_eq_false_iff_ne]; omega
    have hm3 : ((m : Int) != 64) = true := by rw [bne, hm2]; rfl
    rw [decide_eq_true ht]
    have Hm := hid hm; clear hm hbad ht
    go_wp2
    go_ret
    exact ⟨rfl, rfl⟩
  · rw [decide_eq_false ht]
    clear ht hbad
    go_wp2
    go_ret
    exact ⟨rfl, rfl⟩

set_option maxHeartbeats 1600000 in
theorem write1_ok (T S1 : Nat → Prop) (pb : Nat) (p : Pl) (n : Nat) (xs : List Nat) (v : Value) (px nx bx : Nat) (w : World) (h : IsP w T pb p) (h1 : Blk w px #[.pointer (some ⟨pb, 0, none⟩)] 25) (h2 : Blk w nx #[.int .i64 (n : Int)] 3) (h3 : Blk w bx #[v] 22)
    (hn : n < p.bl.length) (hv : View w S1 1 v 64 (bys xs)) (hB : Byt xs) (hca : p.ca.length ≤ 1000000) :
    Calls Try.prog 42 #[.pointer (some ⟨px, 0, none⟩), .pointer (some ⟨nx, 0, none⟩), .pointer (some ⟨bx, 0, none⟩)] w fun e w' => e = .returned (.int .i64 0) ∧ IsP w' (Grow w T) pb (p.put n xs) ∧ Fr T w w' := by
  have hx64 : xs.length = 64 := by have := hv.length; rwa [bys_length, Nat.mul_one] at this
  obtain ⟨A, c, rfl⟩ : ∃ A c, v = .slice A 64 c := let ⟨_, A, c, e, _⟩ := hv; ⟨A, c, e⟩
  have c1 : w.cell? ⟨px, 0, none⟩ = some (.pointer (some ⟨pb, 0, none⟩)) := h1.cell 0
  have c2 : w.cell? ⟨nx, 0, none⟩ = some (.int .i64 (n : Int)) := h2.cell 0
  have c3 : w.cell? ⟨bx, 0, none⟩ = some (.slice A 64 c) := h3.cell 0
  go_enter Try.func42, Try.ntmps42
  go_wp2_with fail
  refine (there_ok T pb p n w h).mono ?_
  rintro e w2 ⟨rfl, rfl⟩
  rw [decide_eq_true (show (0 : Int) ≤ (n : Int) ∧ (n : Int) < (p.bl.length : Int) by omega)]
  obtain ⟨g0, vb, vc, vf, g1, g2, ⟨cv, g3, g3'⟩, g4⟩ := h
  have hc1 : w.cell? ⟨pb, 1, none⟩ = some vc := g1.cell 1
  obtain ⟨Ac, cc, rfl⟩ := g3.slice
  go_wp2_with fail
  have hne : (Value.slice Ac p.ca.length cc).ownBlock ≠ some pb := g3.apart_blk g1 (by decide)
  have hn1 : (Value.slice Ac p.ca.length cc).ownBlock ≠ some px := g3.apart_blk h1 (by decide)
  have hn2 : (Value.slice Ac p.ca.length cc).ownBlock ≠ some nx := g3.apart_blk h2 (by decide)
  have hn3 : (Value.slice Ac p.ca.length cc).ownBlock ≠ some bx := g3.apart_blk h3 (by decide)
  have hS : w.drew.cell? ⟨px, 0, none⟩ = some (.pointer (some ⟨pb, 0, none⟩)) ∧ w.drew.cell? ⟨nx, 0, none⟩ = some (.int .i64 (n : Int)) ∧ w.drew.cell? ⟨bx, 0, none⟩ = some (.slice A 64 c) ∧ w.drew.cell? ⟨pb, 1, none⟩ = some (.slice Ac p.ca.length cc) := ⟨c1, c2, c3, hc1⟩
  refine wpU_region (k := 13) (S := fun w' => w'.cell? ⟨px, 0, none⟩ = some (.pointer (some ⟨pb, 0, none⟩)) ∧ w'.cell? ⟨nx, 0, none⟩ = some (.int .i64 (n : Int)) ∧ w'.cell? ⟨bx, 0, none⟩ = some (.slice A 64 c) ∧ w'.cell? ⟨pb, 1, none⟩ = some (.slice Ac p.ca.length cc)) (by kernel_rfl) ?_
  refine wpU_take (i := 0) (v := ?_) rfl (by kernel_rfl) (by kernel_rfl) (fun _ _ _ h => h) _ _ _ _ (by kernel_rfl) (by kernel_rfl) (by kernel_rfl) (Or.inl ⟨by rfl, ?_⟩) hS ?_
  rotate_left
  · (intro w9 hS9; obtain ⟨s0, s1, s2, s3⟩ := hS9; go_simp); (try with_reducible rfl)
  try simp only [Act.put, List.setIfInBounds_toArray, List.set_cons_zero, List.set_cons_succ]
  refine wpU_take (i := 1) (v := ?_) rfl (by kernel_rfl) (by kernel_rfl) (fun _ _ _ h => h) _ _ _ _ (by kernel_rfl) (by kernel_rfl) (by kernel_rfl) (Or.inl ⟨by rfl, ?_⟩) hS ?_
  rotate_left
  · (intro w9 hS9; obtain ⟨s0, s1, s2, s3⟩ := hS9; go_simp); (try with_reducible rfl)
  try simp only [Act.put, List.setIfInBounds_toArray, List.set_cons_zero, List.set_cons_succ]
  refine wpU_take (i := 2) (v := ?_) rfl (by kernel_rfl) (by kernel_rfl) (fun _ _ _ h => h) _ _ _ _ (by kernel_rfl) (by kernel_rfl) (by kernel_rfl) (Or.inl ⟨by rfl, ?_⟩) hS ?_
  rotate_left
  · (intro w9 hS9; obtain ⟨s0, s1, s2, s3⟩ := hS9; go_simp); (try with_reducible rfl)
  try simp only [Act.put, List.setIfInBounds_toArray, List.set_cons_zero, List.set_cons_succ]
  refine wpU_take (i := 3) (v := ?_) rfl (by kernel_rfl) (by kernel_rfl) (fun _ _ _ h => h) _ _ _ _ (by kernel_rfl) (by kernel_rfl) (by kernel_rfl) (Or.inl ⟨by rfl, ?_⟩) hS ?_
  rotate_left
  · (intro w9 hS9; obtain ⟨s0, s1, s2, s3⟩ := hS9; go_simp); (try with_reducible rfl)
  try simp only [Act.put, List.setIfInBounds_toArray, List.set_cons_zero, List.set_cons_succ]
  refine wpU_take (i := 4) (v := ?_) rfl (by kernel_rfl) (by kernel_rfl) (fun _ _ _ h => h) _ _ _ _ (by kernel_rfl) (by kernel_rfl) (by kernel_rfl) (Or.inl ⟨by rfl, ?_⟩) hS ?_
  rotate_left
  · (intro w9 hS9; obtain ⟨s0, s1, s2, s3⟩ := hS9; go_simp); (try with_reducible rfl)
  try simp only [Act.put, List.setIfInBounds_toArray, List.set_cons_zero, List.set_cons_succ]
  refine wpU_take (i := 5) (v := ?_) rfl (by kernel_rfl) (by kernel_rfl) (fun _ _ _ h => h) _ _ _ _ (by kernel_rfl) (by kernel_rfl) (by kernel_rfl) (Or.inl ⟨by rfl, ?_⟩) hS ?_
  rotate_left
  · (intro w9 hS9; obtain ⟨s0, s1, s2, s3⟩ := hS9; go_simp); (try with_reducible rfl)
  try simp only [Act.put, List.setIfInBounds_toArray, List.set_cons_zero, List.set_cons_succ]
  refine wpU_take (i := 6) (v := ?_) rfl (by kernel_rfl) (by kernel_rfl) (fun _ _ _ h => h) _ _ _ _ (by kernel_rfl) (by kernel_rfl) (by kernel_rfl) (Or.inl ⟨by rfl, ?_⟩) hS ?_
  rotate_left
  · (intro w9 hS9; obtain ⟨s0, s1, s2, s3⟩ := hS9; go_simp); (try with_reducible rfl)
  try simp only [Act.put, List.setIfInBounds_toArray, List.set_cons_zero, List.set_cons_succ]
  refine wpU_next (i := 7) rfl (by kernel_rfl) (fun K hK => ?_)
  go_simp
  refine (bclone_ok S1 (.slice A 64 c) 64 xs (by omega) w.drew hv.drew).mono ?_
  rintro e w4 ⟨A3, k3, rfl, hR3, hf4, -⟩
  have hS4 : w4.cell? ⟨px, 0, none⟩ = some (.pointer (some ⟨pb, 0, none⟩)) ∧ w4.cell? ⟨nx, 0, none⟩ = some (.int .i64 (n : Int)) ∧ w4.cell? ⟨bx, 0, none⟩ = some (.slice A 64 c) ∧ w4.cell? ⟨pb, 1, none⟩ = some (.slice Ac p.ca.length cc) := ⟨hf4.cell (w := w.drew) c1 id, hf4.cell (w := w.drew) c2 id, hf4.cell (w := w.drew) c3 id, hf4.cell (w := w.drew) hc1 id⟩
  refine hK.out _ _ (fun _ => hS4) ?_
  clear hK K
  try simp only [Act.put, List.setIfInBounds_toArray, List.set_cons_zero, List.set_cons_succ]
  refine wpU_take (i := 8) (v := ?_) rfl (by kernel_rfl) (by kernel_rfl) (fun _ _ _ h => h) _ _ _ _ (by kernel_rfl) (by kernel_rfl) (by kernel_rfl) (Or.inl ⟨by rfl, ?_⟩) hS4 ?_
  rotate_left
  · (intro w9 hS9; obtain ⟨s0, s1, s2, s3⟩ := hS9; go_simp); (try with_reducible rfl)
  try simp only [Act.put, List.setIfInBounds_toArray, List.set_cons_zero, List.set_cons_succ]
  refine wpU_next (i := 9) rfl (by kernel_rfl) (fun K hK => ?_)
  go_simp
  obtain ⟨W5, hW5⟩ : ∃ W5, W5 = w4.alloc (.cells #[.int .i64 (n : Int), .slice A3 64 k3] 107) := ⟨_, rfl⟩
  have hv5 : View W5 (New w4) 2 (.slice (some ⟨w4.heap.size, 0, none⟩) 1 1) 1 [.int .i64 (n : Int), .slice A3 64 k3] := by rw [hW5]; exact View.lit w4 #[.int .i64 (n : Int), .slice A3 64 k3] 107 (0, 0) 1 rfl (by omega)
  have hfA : Fr Nil w W5 := by rw [hW5]; exact (((Fr.refl Nil w).drew).then hf4).alloc _
  have hf45 : Fr Nil w4 W5 := by rw [hW5]; exact (Fr.refl _ _).alloc _
  have hS5 : W5.cell? ⟨px, 0, none⟩ = some (.pointer (some ⟨pb, 0, none⟩)) ∧ W5.cell? ⟨nx, 0, none⟩ = some (.int .i64 (n : Int)) ∧ W5.cell? ⟨bx, 0, none⟩ = some (.slice A 64 c) ∧ W5.cell? ⟨pb, 1, none⟩ = some (.slice Ac p.ca.length cc) := ⟨hfA.cell c1 id, hfA.cell c2 id, hfA.cell c3 id, hfA.cell hc1 id⟩
  refine hK.out _ _ (fun _ => by rw [← hW5]; exact hS5) ?_
  rw [← hW5]
  clear hW5
  clear hK K
  try simp only [Act.put, List.setIfInBounds_toArray, List.set_cons_zero, List.set_cons_succ]
  refine wpU_next (i := 10) rfl (by kernel_rfl) (fun K hK => ?_)
  refine step_app_view (by rfl) _ _ 86 (by rfl) (.agg #[.int .i64 0, .slice none 0 0]) 32 Try.underlying86 info_write (by rfl) (by decide) (g3.frS hfA fun _ _ h => h) (by rfl) hv5 (by rfl) (by simp [Value.oneCell']) (by omega) (by decide) ?_
  intro A6 cap6 w6 hrow6 hf6
  have hS6 : w6.cell? ⟨px, 0, none⟩ = some (.pointer (some ⟨pb, 0, none⟩)) ∧ w6.cell? ⟨nx, 0, none⟩ = some (.int .i64 (n : Int)) ∧ w6.cell? ⟨bx, 0, none⟩ = some (.slice A 64 c) ∧ w6.cell? ⟨pb, 1, none⟩ = some (.slice Ac p.ca.length cc) := ⟨hf6.cell hS5.1 hn1, hf6.cell hS5.2.1 hn2, hf6.cell hS5.2.2.1 hn3, hf6.cell hS5.2.2.2 hne⟩
  refine hK.out _ _ (fun _ => hS6) ?_
  clear hK K
  try simp only [Act.put, List.setIfInBounds_toArray, List.set_cons_zero, List.set_cons_succ]
  refine wpU_take (i := 11) (v := ?_) rfl (by kernel_rfl) (by kernel_rfl) (fun _ _ _ h => h) _ _ _ _ (by kernel_rfl) (by kernel_rfl) (by kernel_rfl) (Or.inl ⟨by rfl, ?_⟩) hS6 ?_
  rotate_left
  · (intro w9 hS9; obtain ⟨s0, s1, s2, s3⟩ := hS9; go_simp); (try with_reducible rfl)
  try simp only [Act.put, List.setIfInBounds_toArray, List.set_cons_zero, List.set_cons_succ]
  refine wpU_take (i := 12) (v := ?_) rfl (by kernel_rfl) (by kernel_rfl) (fun _ _ _ h => h) _ _ _ _ (by kernel_rfl) (by kernel_rfl) (by kernel_rfl) (Or.inl ⟨by rfl, ?_⟩) hS6 ?_
  rotate_left
  · (intro w9 hS9; obtain ⟨s0, s1, s2, s3⟩ := hS9; go_simp); (try with_reducible rfl)
  try simp only [Act.put, List.setIfInBounds_toArray, List.set_cons_zero, List.set_cons_succ]
  have g6 := (g1.fr hfA (fun h => h)).fr hf6 hne
  have hc6 : w6.cell? ⟨pb, 1, none⟩ = some (.slice Ac p.ca.length cc) := g6.cell 1
  have hz6 : w6.frozen? ⟨pb, 1, none⟩ = false := g6.frozen 1
  refine wpU_next (i := 13) rfl (by kernel_rfl) (fun K hK => ?_)
  go_simp
  refine hK.out _ _ (fun h => absurd rfl h.1) ?_
  refine wpU_done (by kernel_rfl) ?_ _
  clear hK K
  have hsz4 : w.heap.size ≤ w4.heap.size := (Fr.then ((Fr.refl Nil w).drew) hf4).size
  have hszA := hfA.size
  have hsz45 := hf45.size
  go_wp2
  go_ret
  have hdat : Dat w6 (Grow w T) (.slice A3 64 k3) xs := by
    have h1 : VT w4 (Grow w T) 5 1 (.slice A3 64 k3) 64 (bys xs) := hR3.vt.mono fun k hk => .inr hk
    have h2 : VT W5 (Grow w T) 5 1 (.slice A3 64 k3) 64 (bys xs) := VT.fr (Y := 4) h1 hf45 (fun _ _ _ h => h.elim) (by decide)
    have h3 : VT w6 (Grow w T) 5 1 (.slice A3 64 k3) 64 (bys xs) := VT.fr (Y := 107) h2 hf6 (fun k _ _ hk => (g3.own_typ hk).fr hfA id) (by decide)
    exact ⟨hx64, hB, h3⟩
  have hY : ∀ k, T k → k < w.heap.size → (Value.slice Ac p.ca.length cc).ownBlock = some k → Typ w k 107 := fun k _ _ hk => g3.own_typ hk
  have hf06 : Fr (fun k => (Value.slice Ac p.ca.length cc).ownBlock = some k) w w6 := hfA.nil.then hf6
  have hB6 : BlksOk w6 T vb p.bl := g2.fr hf06 hY (by decide) (by decide)
  have hF6 : FauOk w6 T vf p.fa := VT.fr g4 hf06 hY (by decide)
  have hC6 : CacOk w6 (Grow w T) (.slice A6 (p.ca.length + 1) cap6) (p.ca ++ [(n, xs)]) := by
    refine ⟨cv ++ [(n, .slice A3 64 k3)], ?_, ?_⟩
    · have : flatW (cv ++ [(n, .slice A3 64 k3)]) = flatW cv ++ [.int .i64 (n : Int), .slice A3 64 k3] := by simp [flatW]
      rw [this, List.length_append, List.length_singleton]
      refine hrow6.mono fun k hk => hk.elim (fun h => .inl (g3.2 k h)) (fun h => .inr (by omega))
    · intro i m x hi
      have hcl : cv.length = p.ca.length := by have := g3.length; rw [flatW_length] at this; omega
      by_cases hlt : i < p.ca.length
      · rw [List.getElem?_append_left hlt] at hi
        obtain ⟨u, hu, hd⟩ := g3' i m x hi
        exact ⟨u, by rw [List.getElem?_append_left (by omega)]; exact hu, (Dat.fr hd hf06 hY (by decide)).mono fun k hk => .inl hk⟩
      · rw [List.getElem?_append_right (by omega)] at hi
        have h0 : i - p.ca.length = 0 := by
          have := (List.getElem?_eq_some_iff.1 hi).1
          simpa using this
        rw [h0] at hi
        simp only [List.getElem?_cons_zero, Option.some.injEq, Prod.mk.injEq] at hi
        obtain ⟨rfl, rfl⟩ := hi
        exact ⟨_, by rw [List.getElem?_append_right (by omega), hcl, h0]; rfl, hdat⟩
  have hf7 : Fr (fun k => k = pb) w6 (w6.setCell ⟨pb, 1, none⟩ (.slice A6 (p.ca.length + 1) cap6)) := (Fr.refl (fun k => k = pb) w6).setCell (a := ⟨pb, 1, none⟩) (.inl rfl) _
  refine ⟨rfl, IsP.own (p := p.put n xs) (.inl g0) g6 hf7 (g6.set 1 _) (hB6.mono fun k hk => .inl hk) ?_ (hF6.mono fun k hk => .inl hk), ?_⟩
  · show CacOk w6 (Grow w T) (.slice A6 (p.ca.length + 1) cap6) (p.ca ++ [(n, xs)])
    exact hC6
  · exact (hf06.mono fun k hk => g3.2 k hk).setCell (a := ⟨pb, 1, none⟩) (.inl g0) _
end Go.Proofs.Ytgoghmblfdlnbaa
end

section
/- platter's Write as a whole. Conditions: the platter is a block of the program's own; the bytes can be read and are none of its own. -/
set_option linter.unusedSimpArgs false
set_option linter.unusedVariables false
namespace Go.Proofs.Ytgoghmblfdlnbaa
open Go.RowKit

theorem call_write1 (args : Array Value) (w : World) : (callFunc 42 args).run Try.prog w = .ok (.enter 42 args) w := by kernel_rfl

/-- Few operations, few faults, blocks there, and what waits is for blocks that are there. -/
def Pl.ok (p : Pl) : Prop := (∀ op, p.co op ≤ 1000000 ∧ p.si op ≤ 1000000) ∧ p.fa.length ≤ 1000000 ∧ 0 < p.bl.length ∧ p.ca.length ≤ 1000000 ∧ ∀ q ∈ p.ca, q.1 < p.bl.length
def Pl.bad (p : Pl) (op : Nat) : Prop := ((op : Int), ((p.si op + 1 : Nat) : Int)) ∈ p.fa

/-- The boxes of a call's arguments. -/
theorem box3 (w : World) (a b c : Value) (ta tb tc : TypeId) (W : World) (hW : W = ((w.alloc (.cells #[a] ta)).alloc (.cells #[b] tb)).alloc (.cells #[c] tc)) :
    Fr Nil w W ∧ W.heap.size = w.heap.size + 3 ∧ Blk W w.heap.size #[a] ta ∧ Blk W (w.heap.size + 1) #[b] tb ∧ Blk W (w.heap.size + 2) #[c] tc := by
  subst hW
  refine ⟨(((Fr.refl _ _).alloc _).alloc _).alloc _, by simp, ((Blk.new _ _ _).alloc _).alloc _, ?_, ?_⟩
  · rw [show w.heap.size + 1 = (w.alloc (.cells #[a] ta)).heap.size by simp]; exact (Blk.new _ _ _).alloc _
  · rw [show w.heap.size + 2 = ((w.alloc (.cells #[a] ta)).alloc (.cells #[b] tb)).heap.size by simp]; exact Blk.new _ _ _

theorem write_fault (T : Nat → Prop) (pb : Nat) (p : Pl) (n : Int) (m c : Nat) (A : Option Addr) (w : World) (h : IsP w T pb p) (hok : p.ok) (hbad : p.bad 2) :
    Calls Try.prog 28 #[.pointer (some ⟨pb, 0, none⟩), .int .i64 n, .slice A m c] w fun e w' => e = .returned (.int .i64 6) ∧ IsP w' T pb (p.ask 2) ∧ Fr (fun k => k = pb) w w' := by
  have HOK := hid hok; clear hok
  have HB := hid hbad; clear hbad
  go_enter Try.func28, Try.ntmps28
  go_wp2_with fail
  obtain ⟨W1, hW1⟩ : ∃ W1, W1 = ((w.alloc (.cells #[.pointer (some ⟨pb, 0, none⟩)] 25)).alloc (.cells #[.int .i64 n] 3)).alloc (.cells #[.slice A m c] 22) := ⟨_, rfl⟩
  obtain ⟨hf1, hs1, b1, b2, b3⟩ := box3 w _ _ _ _ _ _ W1 hW1
  rw [← hW1]
  clear hW1
  refine (tried_fault 42 _ (fun k => T k ∧ k < w.heap.size) pb p 2 (.inr (.inl rfl)) ⟨(HOK.out.1 2).1, (HOK.out.1 2).2, HOK.out.2.1, HOK.out.2.2.1⟩ W1 (h.bd.fr hf1 fun _ _ h => h) (fun k hk => by omega) HB.out).mono ?_
  rintro e w2 ⟨rfl, hP2, hf2⟩
  go_wp2
  go_ret
  exact ⟨rfl, hP2.mono fun k hk => hk.1, hf1.nil.then hf2⟩

theorem write_bad (T : Nat → Prop) (pb : Nat) (p : Pl) (n : Int) (m c : Nat) (A : Option Addr) (w : World) (h : IsP w T pb p) (hok : p.ok) (hno : ¬ p.bad 2) (hb : ¬ (0 ≤ n ∧ n < p.bl.length) ∨ m ≠ 64) :
    Calls Try.prog 28 #[.pointer (some ⟨pb, 0, none⟩), .int .i64 n, .slice A m c] w fun e w' => e = .returned (.int .i64 1) ∧ IsP w' T pb (p.ask 2) ∧ Fr T w w' := by
  have HOK := hid hok; clear hok
  have HNO := hid hno; clear hno
  have HB := hid hb; clear hb
  go_enter Try.func28, Try.ntmps28
  go_wp2_with fail
  obtain ⟨W1, hW1⟩ : ∃ W1, W1 = ((w.alloc (.cells #[.pointer (some ⟨pb, 0, none⟩)] 25)).alloc (.cells #[.int .i64 n] 3)).alloc (.cells #[.slice A m c] 22) := ⟨_, rfl⟩
  obtain ⟨hf1, hs1, b1, b2, b3⟩ := box3 w _ _ _ _ _ _ W1 hW1
  rw [← hW1]
  clear hW1
  refine (tried_ok 42 _ (fun k => T k ∧ k < w.heap.size) pb p 2 (.inr (.inl rfl)) ⟨(HOK.out.1 2).1, (HOK.out.1 2).2, HOK.out.2.1, HOK.out.2.2.1⟩ W1 (h.bd.fr hf1 fun _ _ h => h) (fun k hk => by omega) HNO.out call_write1
    (fun r w3 => r = 1 ∧ IsP w3 (fun k => T k ∧ k < w.heap.size) pb (p.ask 2)) ?_).mono ?_
  · intro w2 hf2 hs2 hP2
    refine (write1_bad (fun k => T k ∧ k < w.heap.size) Nil pb (p.ask 2) n m A c _ _ _ w2 hP2 (b1.fr hf2 fun h => by omega) (b2.fr hf2 fun h => by omega) (b3.fr hf2 fun h => by omega) HB.out).mono ?_
    rintro e w3 ⟨rfl, rfl⟩
    exact ⟨1, rfl, ⟨rfl, hP2⟩, Fr.refl _ _⟩
  rintro e w4 ⟨r, w3, rfl, ⟨rfl, hP3⟩, hf4, hf3⟩
  go_wp2
  go_ret
  refine ⟨rfl, (hP3.fr hf4 (fun k hk (e : k = W1.heap.size) => by omega)).mono fun k hk => hk.1, ?_⟩
  exact (hf1.nil.then (hf3.mono fun k hk => hk.1)).trans hf4 (fun k hk => .inr (by omega))

theorem write_ok (T S1 : Nat → Prop) (pb : Nat) (p : Pl) (n : Nat) (xs : List Nat) (v : Value) (w : World) (h : IsP w T pb p) (hok : p.ok) (hno : ¬ p.bad 2) (hn : n < p.bl.length) (hv : View w S1 1 v 64 (bys xs)) (hB : Byt xs) (hS : ∀ k, S1 k → ¬ T k) :
    Calls Try.prog 28 #[.pointer (some ⟨pb, 0, none⟩), .int .i64 n, v] w fun e w' => e = .returned (.int .i64 0) ∧ IsP w' (Grow w T) pb ((p.ask 2).put n xs) ∧ Fr T w w' := by
  obtain ⟨A, c, rfl⟩ : ∃ A c, v = .slice A 64 c := let ⟨_, A, c, e, _⟩ := hv; ⟨A, c, e⟩
  have HOK := hid hok; clear hok
  have HNO := hid hno; clear hno
  have HN := hid hn; clear hn
  go_enter Try.func28, Try.ntmps28
  go_wp2_with fail
  obtain ⟨W1, hW1⟩ : ∃ W1, W1 = ((w.alloc (.cells #[.pointer (some ⟨pb, 0, none⟩)] 25)).alloc (.cells #[.int .i64 (n : Int)] 3)).alloc (.cells #[.slice A 64 c] 22) := ⟨_, rfl⟩
  obtain ⟨hf1, hs1, b1, b2, b3⟩ := box3 w _ _ _ _ _ _ W1 hW1
  rw [← hW1]
  clear hW1
  refine (tried_ok 42 _ (fun k => T k ∧ k < w.heap.size) pb p 2 (.inr (.inl rfl)) ⟨(HOK.out.1 2).1, (HOK.out.1 2).2, HOK.out.2.1, HOK.out.2.2.1⟩ W1 (h.bd.fr hf1 fun _ _ h => h) (fun k hk => by omega) HNO.out call_write1
    (fun r w3 => r = 0 ∧ ∃ s, W1.heap.size < s ∧ IsP w3 (fun k => (T k ∧ k < w.heap.size) ∨ s ≤ k) pb ((p.ask 2).put n xs)) ?_).mono ?_
  · intro w2 hf2 hs2 hP2
    refine (write1_ok (fun k => T k ∧ k < w.heap.size) S1 pb (p.ask 2) n xs _ _ _ _ w2 hP2 (b1.fr hf2 fun h => by omega) (b2.fr hf2 fun h => by omega) (b3.fr hf2 fun h => by omega) HN.out ((hv.fr hf1 fun _ _ _ h => h).fr hf2 fun k hk _ h => hS k hk h.1) hB HOK.out.2.2.2.1).mono ?_
    rintro e w3 ⟨rfl, hP3, hf3⟩
    exact ⟨0, rfl, ⟨rfl, _, hs2, hP3⟩, hf3⟩
  rintro e w4 ⟨r, w3, rfl, ⟨rfl, s, hs, hP3⟩, hf4, hf3⟩
  go_wp2
  go_ret
  refine ⟨rfl, (hP3.fr hf4 (fun k hk (e : k = W1.heap.size) => by omega)).mono fun k hk => hk.elim (fun h => .inl h.1) (fun h => .inr (by omega)), ?_⟩
  exact (hf1.nil.then (hf3.mono fun k hk => hk.1)).trans hf4 (fun k hk => .inr (by omega))
end Go.Proofs.Ytgoghmblfdlnbaa
end

section
/- platter's settle, Sync, Crash. Conditions: the platter is a block of the program's own. -/
set_option linter.unusedSimpArgs false
set_option linter.unusedVariables false
namespace Go.Proofs.Ytgoghmblfdlnbaa
open Go.RowKit

/-- What is brought to the platter. -/
def stepB (ca : List (Nat × List Nat)) (kept : Nat → Bool) (bl : List (List Nat)) (j : Nat) : List (List Nat) :=
  match ca[j]? with
  | some q => if kept j then bl.set q.1 q.2 else bl
  | none => bl
def setB (ca : List (Nat × List Nat)) (kept : Nat → Bool) (bl : List (List Nat)) (i : Nat) : List (List Nat) := (List.range i).foldl (stepB ca kept) bl
theorem setB_succ (ca : List (Nat × List Nat)) (kept : Nat → Bool) (bl : List (List Nat)) (i : Nat) : setB ca kept bl (i + 1) = stepB ca kept (setB ca kept bl i) i := by simp [setB, List.range_succ]
theorem stepB_len (ca : List (Nat × List Nat)) (kept : Nat → Bool) (bl : List (List Nat)) (j : Nat) : (stepB ca kept bl j).length = bl.length := by
  unfold stepB
  split
  · split <;> simp
  · rfl
theorem setB_len (ca : List (Nat × List Nat)) (kept : Nat → Bool) (bl : List (List Nat)) (i : Nat) : (setB ca kept bl i).length = bl.length := by
  induction i with
  | zero => rfl
  | succ i ih => rw [setB_succ, stepB_len, ih]
def Pl.settle (p : Pl) (kept : Nat → Bool) : Pl := { p with bl := setB p.ca kept p.bl p.ca.length, ca := [] }






/-- Which writes a crash keeps. -/
def keptOf (keep : List Bool) (i : Nat) : Bool := keep.getD i false
def pbools (l : List Bool) : List Value := l.map Value.bool


def Pl.crash (p : Pl) (keep : List Bool) : Pl := { p.settle (keptOf keep) with fa := [] }

end Go.Proofs.Ytgoghmblfdlnbaa
end

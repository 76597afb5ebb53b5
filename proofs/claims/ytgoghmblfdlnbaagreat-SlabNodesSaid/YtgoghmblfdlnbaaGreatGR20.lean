/- The texts VPlatN, VPlatR of this proof, one behind the other. Conditions: those of each. -/
import Derived.Test.YtgoghmblfdlnbaaGreatGR19
section
/- platter's New. Conditions: none. -/
set_option linter.unusedSimpArgs false
set_option linter.unusedVariables false
namespace Go.Proofs.YtgoghmblfdlnbaaGreat
open Go.RowKit

def fresh (n : Nat) : Pl := ⟨List.replicate n (List.replicate 64 0), [], [], fun _ => 0, fun _ => 0⟩
theorem info_bytes : (Tryz.prog.info? 30).map (fun i => (i.zero, i.size, i.bytes)) = some (some (.slice none 0 0), 1, 24) := by kernel_rfl

theorem pnew_bad (n : Int) (hn : n < 64 ∨ 8192 < n) (w : World) :
    Calls Tryz.prog 26 #[.int .i64 n] w fun e w' => e = .returned (.tuple #[.pointer none, .int .i64 1]) ∧ w = w' := by
  by_cases h1 : n < 64
  · go_enter Tryz.func26, Tryz.ntmps26
    go_wp2
    go_ret2
    exact ⟨rfl, rfl⟩
  · have h2 : 8192 < n := by omega
    go_enter Tryz.func26, Tryz.ntmps26
    go_wp2
    go_ret2
    exact ⟨rfl, rfl⟩

set_option maxHeartbeats 3200000 in
theorem pnew_ok (n : Nat) (h1 : 64 ≤ n) (h2 : n ≤ 8192) (w : World) :
    Calls Tryz.prog 26 #[.int .i64 (n : Int)] w fun e w' => ∃ pb, e = .returned (.tuple #[.pointer (some ⟨pb, 0, none⟩), .int .i64 0]) ∧ IsP w' (New w) pb (fresh n) ∧ Fr Nil w w' := by
  have d1 : ¬ (n : Int) < 64 := by omega
  have d2 : ¬ (8192 : Int) < n := by omega
  go_enter Tryz.func26, Tryz.ntmps26
  go_wp2_with fail
  obtain ⟨W1, hW1⟩ : ∃ W1, W1 = w.alloc (.cells #[.slice none 0 0, .slice none 0 0, .slice none 0 0, .int .i64 0, .int .i64 0, .int .i64 0, .int .i64 0, .int .i64 0, .int .i64 0, .int .i64 0, .int .i64 0] 114) := ⟨_, rfl⟩
  have hb1 : Blk W1 w.heap.size (pcs (.slice none 0 0) (.slice none 0 0) (.slice none 0 0) (fun _ => 0) (fun _ => 0)) 114 := by rw [hW1]; exact Blk.new _ _ _
  have hf1 : Fr Nil w W1 := by rw [hW1]; exact (Fr.refl _ _).alloc _
  rw [← hW1]
  clear hW1
  have hP1 : IsP W1 (New w) w.heap.size (fresh 0) := ⟨Nat.le_refl _, _, _, _, hb1, ⟨[], Row.nil _ _ _ _, fun i x h => by simp [fresh] at h⟩, CacOk.nil _ _, VT.nil _ _ _ _⟩
  clear hb1
  go_loopw [14] (fun v14 wr => ∃ i : Nat, v14 = .int .i64 i ∧ i ≤ n ∧ Fr Nil w wr ∧ IsP wr (New w) w.heap.size (fresh i)) (fun v14 _ => n - (intOf v14).toNat)
  case atStart => exact ⟨0, rfl, by omega, hf1, hP1⟩
  case round =>
    obtain ⟨i, rfl, hi, hfr, g0, vb, vc, vf, g1, ⟨bs, g2, g2'⟩, g3, g4⟩ := hrel
    have hbi : (fresh i).bl.length = i := by simp [fresh]
    rw [hbi] at g2
    by_cases hlt : i < n
    · have hc0 : wr.cell? ⟨w.heap.size, 0, none⟩ = some vb := g1.cell 0
      obtain ⟨Ab, kb, rfl⟩ := g2.slice
      have hne : (Value.slice Ab i kb).ownBlock ≠ some w.heap.size := g2.apart_blk g1 (by decide)
      have hS : wr.drew.cell? ⟨w.heap.size, 0, none⟩ = some (.slice Ab i kb) := hc0
      go_wp2_with fail
      refine wpU_region (k := 10) (S := fun w' => w'.cell? ⟨w.heap.size, 0, none⟩ = some (.slice Ab i kb)) (by kernel_rfl) ?_
      refine wpU_take (i := 0) (v := ?_) rfl (by kernel_rfl) (by kernel_rfl) (fun _ _ _ h => h) _ _ _ _ (by kernel_rfl) (by kernel_rfl) (by kernel_rfl) (Or.inl ⟨by rfl, ?_⟩) hS ?_
      rotate_left
      · (intro w9 hS9; obtain s0 := hS9; go_simp); (try with_reducible rfl)
      try simp only [Act.put, List.setIfInBounds_toArray, List.set_cons_zero, List.set_cons_succ]
      refine wpU_take (i := 1) (v := ?_) rfl (by kernel_rfl) (by kernel_rfl) (fun _ _ _ h => h) _ _ _ _ (by kernel_rfl) (by kernel_rfl) (by kernel_rfl) (Or.inl ⟨by rfl, ?_⟩) hS ?_
      rotate_left
      · (intro w9 hS9; obtain s0 := hS9; go_simp); (try with_reducible rfl)
      try simp only [Act.put, List.setIfInBounds_toArray, List.set_cons_zero, List.set_cons_succ]
      refine wpU_take (i := 2) (v := ?_) rfl (by kernel_rfl) (by kernel_rfl) (fun _ _ _ h => h) _ _ _ _ (by kernel_rfl) (by kernel_rfl) (by kernel_rfl) (Or.inl ⟨by rfl, ?_⟩) hS ?_
      rotate_left
      · (intro w9 hS9; obtain s0 := hS9; go_simp); (try with_reducible rfl)
      try simp only [Act.put, List.setIfInBounds_toArray, List.set_cons_zero, List.set_cons_succ]
      refine wpU_take (i := 3) (v := ?_) rfl (by kernel_rfl) (by kernel_rfl) (fun _ _ _ h => h) _ _ _ _ (by kernel_rfl) (by kernel_rfl) (by kernel_rfl) (Or.inl ⟨by rfl, ?_⟩) hS ?_
      rotate_left
      · (intro w9 hS9; obtain s0 := hS9; go_simp); (try with_reducible rfl)
      try simp only [Act.put, List.setIfInBounds_toArray, List.set_cons_zero, List.set_cons_succ]
      refine wpU_take (i := 4) (v := ?_) rfl (by kernel_rfl) (by kernel_rfl) (fun _ _ _ h => h) _ _ _ _ (by kernel_rfl) (by kernel_rfl) (by kernel_rfl) (Or.inl ⟨by rfl, ?_⟩) hS ?_
      rotate_left
      · (intro w9 hS9; obtain s0 := hS9; go_simp); (try with_reducible rfl)
      try simp only [Act.put, List.setIfInBounds_toArray, List.set_cons_zero, List.set_cons_succ]
      refine wpU_next (i := 5) rfl (by kernel_rfl) (fun K hK => ?_)
      go_simp
      obtain ⟨W5, hW5⟩ : ∃ W5, W5 = wr.drew.alloc (.cells (madeCells #[.int .u8 0] 64) 5) := ⟨_, rfl⟩
      have hr5 : Row W5 (New w) 5 1 (.slice (some ⟨wr.heap.size, 0, none⟩) 64 64) 64 (bys (List.replicate 64 0)) := by rw [hW5]; exact (zeros_row 64 (by omega) wr.drew).mono fun k hk => by have := hfr.size; have : wr.heap.size ≤ k := hk; unfold New; omega
      have hf5 : Fr Nil wr W5 := by rw [hW5]; exact ((Fr.refl _ _).drew).alloc _
      have hs5 : W5.heap.size = wr.heap.size + 1 := by rw [hW5]; simp
      refine hK.out _ _ (fun _ => by show World.cell? (wr.drew.alloc _) _ = _; rw [← hW5]; exact hf5.cell hc0 id) ?_
      show wpU _ _ _ _ _ _ _ _ _ (wr.drew.alloc _)
      rw [← hW5]
      clear hW5
      clear hK K
      try simp only [Act.put, List.setIfInBounds_toArray, List.set_cons_zero, List.set_cons_succ]
      refine wpU_next (i := 6) rfl (by kernel_rfl) (fun K hK => ?_)
      go_simp
      obtain ⟨W6, hW6⟩ : ∃ W6, W6 = W5.alloc (.cells #[.slice (some ⟨wr.heap.size, 0, none⟩) 64 64] 30) := ⟨_, rfl⟩
      have hv6 : View W6 (New W5) 1 (.slice (some ⟨W5.heap.size, 0, none⟩) 1 1) 1 [.slice (some ⟨wr.heap.size, 0, none⟩) 64 64] := by rw [hW6]; exact View.lit W5 #[.slice (some ⟨wr.heap.size, 0, none⟩) 64 64] 30 (0, 0) 1 rfl (by omega)
      rw [hs5] at hv6
      have hf6 : Fr Nil wr W6 := by rw [hW6]; exact hf5.alloc _
      have hf56 : Fr Nil W5 W6 := by rw [hW6]; exact (Fr.refl _ _).alloc _
      refine hK.out _ _ (fun _ => by rw [← hW6]; exact hf6.cell hc0 id) ?_
      rw [← hW6]
      clear hW6
      clear hK K
      try simp only [Act.put, List.setIfInBounds_toArray, List.set_cons_zero, List.set_cons_succ]
      refine wpU_next (i := 7) rfl (by kernel_rfl) (fun K hK => ?_)
      refine step_app_view (by rfl) _ _ 71 (by rfl) (.slice none 0 0) 24 Tryz.underlying71 info_bytes (by rfl) (by decide) (g2.frS hf6 fun _ _ h => h) (by rfl) hv6 (by rfl) (by simp [Value.oneCell']) (by omega) (by decide) ?_
      intro A7 cap7 w7 hrow7 hf7
      have hS7 : w7.cell? ⟨w.heap.size, 0, none⟩ = some (.slice Ab i kb) := hf7.cell (hf6.cell hc0 id) hne
      refine hK.out _ _ (fun _ => hS7) ?_
      clear hK K
      try simp only [Act.put, List.setIfInBounds_toArray, List.set_cons_zero, List.set_cons_succ]
      refine wpU_take (i := 8) (v := ?_) rfl (by kernel_rfl) (by kernel_rfl) (fun _ _ _ h => h) _ _ _ _ (by kernel_rfl) (by kernel_rfl) (by kernel_rfl) (Or.inl ⟨by rfl, ?_⟩) hS7 ?_
      rotate_left
      · (intro w9 hS9; obtain s0 := hS9; go_simp); (try with_reducible rfl)
      try simp only [Act.put, List.setIfInBounds_toArray, List.set_cons_zero, List.set_cons_succ]
      refine wpU_take (i := 9) (v := ?_) rfl (by kernel_rfl) (by kernel_rfl) (fun _ _ _ h => h) _ _ _ _ (by kernel_rfl) (by kernel_rfl) (by kernel_rfl) (Or.inl ⟨by rfl, ?_⟩) hS7 ?_
      rotate_left
      · (intro w9 hS9; obtain s0 := hS9; go_simp); (try with_reducible rfl)
      try simp only [Act.put, List.setIfInBounds_toArray, List.set_cons_zero, List.set_cons_succ]
      have g7 := (g1.fr hf6 (fun h => h)).fr hf7 hne
      have hz7 : w7.frozen? ⟨w.heap.size, 0, none⟩ = false := g7.frozen 0
      refine wpU_next (i := 10) rfl (by kernel_rfl) (fun K hK => ?_)
      go_simp
      refine hK.out _ _ (fun h => absurd rfl h.1) ?_
      refine wpU_done (by kernel_rfl) ?_ _
      clear hK K
      have hszr := hfr.size
      have hsz6 := hf6.size
      go_wp2
      go_roundw
      case rel =>
        have hf07 : Fr (fun k => (Value.slice Ab i kb).ownBlock = some k) wr w7 := hf6.nil.then hf7
        have hY : ∀ k, New w k → k < wr.heap.size → (Value.slice Ab i kb).ownBlock = some k → Typ wr k 30 := fun k _ _ hk => g2.own_typ hk
        have hfp : Fr (fun k => k = w.heap.size) w7 (w7.setCell ⟨w.heap.size, 0, none⟩ (.slice A7 (i + 1) cap7)) := (Fr.refl (fun k => k = w.heap.size) w7).setCell (a := ⟨w.heap.size, 0, none⟩) (.inl rfl) _
        refine ⟨i + 1, by go_num, by omega, (hfr.trans hf07 (fun k hk => .inr (g2.2 k hk))).setCell (a := ⟨w.heap.size, 0, none⟩) (.inr (Nat.le_refl _)) _, IsP.own (p := fresh (i + 1)) (Nat.le_refl _) g7 hfp (g7.set 0 _) ?_ (CacOk.fr g3 hf07 hY (by decide) (by decide)) (VT.fr g4 hf07 hY (by decide))⟩
        have hbl : (fresh (i + 1)).bl = (fresh i).bl ++ [List.replicate 64 0] := by simp [fresh, List.replicate_succ']
        rw [hbl]
        have hlen : bs.length = i := by have := g2.length; omega
        refine ⟨bs ++ [.slice (some ⟨wr.heap.size, 0, none⟩) 64 64], ?_, ?_⟩
        · rw [List.length_append, hbi, List.length_singleton]
          exact hrow7.mono fun k hk => hk.elim (fun h => g2.2 k h) (fun h => by unfold New; omega)
        · intro j x hj
          by_cases hji : j < i
          · rw [List.getElem?_append_left (by omega)] at hj
            obtain ⟨u, hu, hd⟩ := g2' j x hj
            exact ⟨u, by rw [List.getElem?_append_left (by omega)]; exact hu, Dat.fr hd hf07 hY (by decide)⟩
          · rw [List.getElem?_append_right (by omega), hbi] at hj
            have h0 : j - i = 0 := by
              have := (List.getElem?_eq_some_iff.1 hj).1
              simpa using this
            rw [h0] at hj
            simp only [List.getElem?_cons_zero, Option.some.injEq] at hj
            subst hj
            refine ⟨_, by rw [List.getElem?_append_right (by omega), hlen, h0]; rfl, by simp, by intro c hc; simp at hc; omega, ?_⟩
            have h5 : VT W6 (New w) 5 1 (.slice (some ⟨wr.heap.size, 0, none⟩) 64 64) 64 (bys (List.replicate 64 0)) := VT.fr (Y := 4) hr5.vt hf56 (fun _ _ _ h => h.elim) (by decide)
            exact VT.fr (Y := 30) h5 hf7 (fun k _ _ hk => (g2.own_typ hk).fr hf6 id) (by decide)
      case measure => simp [intOf]; omega
    · have hin : i = n := by omega
      subst hin
      go_wp2
      go_ret2
      exact ⟨w.heap.size, rfl, ⟨g0, vb, vc, vf, g1, ⟨bs, by rw [hbi]; exact g2, g2'⟩, g3, g4⟩, hfr⟩
end Go.Proofs.YtgoghmblfdlnbaaGreat
end

section
/- platter's Read. Conditions: the platter is a block of the program's own. -/
set_option linter.unusedSimpArgs false
set_option linter.unusedVariables false
namespace Go.Proofs.YtgoghmblfdlnbaaGreat
open Go.RowKit

/-- The last that waits for a block, or what lies there. -/
def lastC (ca : List (Nat × List Nat)) (n : Nat) (x : List Nat) : List Nat := ca.foldl (fun x q => if q.1 = n then q.2 else x) x
def Pl.get (p : Pl) (n : Nat) : List Nat := lastC p.ca n (p.bl.getD n [])

theorem call_read1 (args : Array Value) (w : World) : (callFunc 66 args).run Tryz.prog w = .ok (.enter 66 args) w := by kernel_rfl

theorem read1_bad (T : Nat → Prop) (pb : Nat) (p : Pl) (n : Int) (px nx rx : Nat) (w : World) (h : IsP w T pb p) (h1 : Blk w px #[.pointer (some ⟨pb, 0, none⟩)] 32) (h2 : Blk w nx #[.int .i64 n] 3)
    (hbad : ¬ (0 ≤ n ∧ n < p.bl.length)) :
    Calls Tryz.prog 66 #[.pointer (some ⟨px, 0, none⟩), .pointer (some ⟨nx, 0, none⟩), .pointer (some ⟨rx, 0, none⟩)] w fun e w' => e = .returned (.int .i64 1) ∧ w = w' := by
  have c1 : w.cell? ⟨px, 0, none⟩ = some (.pointer (some ⟨pb, 0, none⟩)) := h1.cell 0
  have c2 : w.cell? ⟨nx, 0, none⟩ = some (.int .i64 n) := h2.cell 0
  go_enter Tryz.func66, Tryz.ntmps66
  go_wp2_with fail
  refine (there_ok T pb p n w h).mono ?_
  rintro e w2 ⟨rfl, rfl⟩
  rw [decide_eq_false hbad]
  clear hbad
  go_wp2
  go_ret
  exact ⟨rfl, rfl⟩

set_option maxHeartbeats 3200000 in
theorem read1_ok (T : Nat → Prop) (pb : Nat) (p : Pl) (n : Nat) (v0 : Value) (px nx rx : Nat) (w : World) (h : IsP w T pb p) (h1 : Blk w px #[.pointer (some ⟨pb, 0, none⟩)] 32) (h2 : Blk w nx #[.int .i64 (n : Int)] 3) (h3 : Blk w rx #[v0] 30)
    (hn : n < p.bl.length) (hca : p.ca.length ≤ 1000000) (hT : ∀ k, T k → k ≠ px ∧ k ≠ nx ∧ k ≠ rx) (hx : px ≠ rx ∧ nx ≠ rx) :
    Calls Tryz.prog 66 #[.pointer (some ⟨px, 0, none⟩), .pointer (some ⟨nx, 0, none⟩), .pointer (some ⟨rx, 0, none⟩)] w fun e w' => e = .returned (.int .i64 0) ∧ (∃ A c, Blk w' rx #[.slice A 64 c] 30 ∧ Row w' (New w) 5 1 (.slice A 64 c) 64 (bys (p.get n)) ∧ Byt (p.get n) ∧ (p.get n).length = 64) ∧ Fr (fun k => k = rx) w w' := by
  have hP := h
  have c1 : w.cell? ⟨px, 0, none⟩ = some (.pointer (some ⟨pb, 0, none⟩)) := h1.cell 0
  have c2 : w.cell? ⟨nx, 0, none⟩ = some (.int .i64 (n : Int)) := h2.cell 0
  have c3 : w.cell? ⟨rx, 0, none⟩ = some v0 := h3.cell 0
  have z3 : w.frozen? ⟨rx, 0, none⟩ = false := h3.frozen 0
  have HT := hid hT; clear hT
  go_enter Tryz.func66, Tryz.ntmps66
  go_wp2_with fail
  refine (there_ok T pb p n w h).mono ?_
  rintro e w2 ⟨rfl, rfl⟩
  rw [decide_eq_true (show (0 : Int) ≤ (n : Int) ∧ (n : Int) < (p.bl.length : Int) by omega)]
  obtain ⟨g0, vb, vc, vf, g1, ⟨bs, g2, g2'⟩, ⟨cv, g3, g3'⟩, g4⟩ := h
  obtain ⟨gb, kb, rfl, hTb, hltb⟩ := g2.form (by omega)
  obtain ⟨Ac, kc, rfl⟩ := g3.slice
  have hbl : bs.length = p.bl.length := by have := g2.length; rwa [Nat.mul_one] at this
  have hcl : cv.length = p.ca.length := by have := g3.length; rw [flatW_length] at this; omega
  have hc0 : w.cell? ⟨pb, 0, none⟩ = some (.slice (some ⟨gb, 0, none⟩) p.bl.length kb) := g1.cell 0
  have hc1 : w.cell? ⟨pb, 1, none⟩ = some (.slice Ac p.ca.length kc) := g1.cell 1
  have hpn : p.bl[n]? = some p.bl[n] := List.getElem?_eq_getElem hn
  have hx0 : p.bl.getD n [] = p.bl[n] := by simp [List.getD, hpn]
  obtain ⟨u, hu, hdu⟩ := g2' n _ hpn
  have hcu : w.cell? ⟨gb, n, none⟩ = some u := g2.cell hu
  have hb0 : ((n : Int)) < ((p.bl.length : Int)) := by omega
  have hb1 : (0 : Int) ≤ (n : Int) := by omega
  have hget : Hid (∀ i, lastC (p.ca.take i) n p.bl[n] = lastC (p.ca.take i) n (p.bl.getD n [])) := hid (fun i => by rw [hx0])
  generalize p.bl[n] = x0 at *
  obtain ⟨Au, ku, rfl⟩ : ∃ A c, u = .slice A 64 c := let ⟨_, A, c, e, _⟩ := hdu.2.2; ⟨A, c, e⟩
  go_wp2_with fail
  go_region
  obtain ⟨W3, hW3⟩ : ∃ W3, W3 = (w.setCell ⟨rx, 0, none⟩ (.slice Au 64 ku)).drew := ⟨_, rfl⟩
  have hf3 : Fr (fun k => k = rx) w W3 := by rw [hW3]; exact ((Fr.refl (fun k => k = rx) w).setCell (a := ⟨rx, 0, none⟩) (.inl rfl) _).drew
  have hb3 : Blk W3 rx #[.slice Au 64 ku] 30 := by rw [hW3]; exact (h3.set 0 _).drew
  rw [← hW3]
  clear hW3
  have e1 : W3.cell? ⟨px, 0, none⟩ = some (.pointer (some ⟨pb, 0, none⟩)) := hf3.cell c1 hx.1
  have e2 : W3.cell? ⟨pb, 1, none⟩ = some (.slice Ac p.ca.length kc) := hf3.cell hc1 (HT.out _ g0).2.2
  have Hx := hid hx; clear hx
  go_wp2_with fail
  go_loopw [22] (fun v22 wr => ∃ (i : Nat) (A : Option Addr) (c : Nat), v22 = .int .i64 i ∧ i ≤ p.ca.length ∧ Fr (fun k => k = rx) w wr ∧ Blk wr rx #[.slice A 64 c] 30 ∧ Dat w T (.slice A 64 c) (lastC (p.ca.take i) n x0)) (fun v22 _ => p.ca.length - (intOf v22).toNat)
  case atStart => exact ⟨0, Au, ku, rfl, by omega, hf3, hb3, hdu⟩
  case round =>
    obtain ⟨i, A, c, rfl, hi, hfr, hbr, hD⟩ := hrel
    have HD := hid hD; clear hD
    have e1r : wr.cell? ⟨px, 0, none⟩ = some (.pointer (some ⟨pb, 0, none⟩)) := hfr.cell c1 Hx.out.1
    have e2r : wr.cell? ⟨nx, 0, none⟩ = some (.int .i64 (n : Int)) := hfr.cell c2 Hx.out.2
    have e3r : wr.cell? ⟨rx, 0, none⟩ = some (.slice A 64 c) := hbr.cell 0
    have z3r : wr.frozen? ⟨rx, 0, none⟩ = false := hbr.frozen 0
    by_cases hlt : i < p.ca.length
    · obtain ⟨gc, capc, hgc, hTc, hltc⟩ := g3.form (by omega)
      injection hgc with hgc1 _ hgc2
      subst hgc1; subst hgc2
      have hpi : p.ca[i]? = some p.ca[i] := List.getElem?_eq_getElem hlt
      have htk : Hid (p.ca.take (i + 1) = p.ca.take i ++ [p.ca[i]]) := hid (List.take_succ_eq_append_getElem hlt)
      generalize p.ca[i] = q at *
      obtain ⟨m, x⟩ := q
      obtain ⟨v, hcv, hdat⟩ := g3' i m x hpi
      obtain ⟨f1, f2⟩ := flatW_at cv i m v hcv
      obtain ⟨Av, kv, rfl⟩ : ∃ A c, v = .slice A 64 c := let ⟨_, A, c, e, _⟩ := hdat.2.2; ⟨A, c, e⟩
      have hd0 : wr.cell? ⟨gc, i * 2, none⟩ = some (.int .i64 (m : Int)) := by rw [Nat.mul_comm]; exact hfr.cell (g3.cell f1) (HT.out _ hTc).2.2
      have hd1 : wr.cell? ⟨gc, i * 2 + 1, none⟩ = some (.slice Av 64 kv) := by rw [Nat.mul_comm]; exact hfr.cell (g3.cell f2) (HT.out _ hTc).2.2
      have hfold : Hid (lastC (p.ca.take (i + 1)) n x0 = if m = n then x else lastC (p.ca.take i) n x0) := hid (by rw [htk.out]; simp [lastC])
      clear hpi f1 f2 hcv
      have hltx := hbr.lt
      have hnx : wr.heap.size ≠ rx := by omega
      have hbr2 := hbr.alloc (.cells #[.int .i64 (m : Int), .slice Av 64 kv] 124)
      have e2n : (wr.alloc (.cells #[.int .i64 (m : Int), .slice Av 64 kv] 124)).cell? ⟨nx, 0, none⟩ = some (.int .i64 (n : Int)) := ((Fr.refl Nil wr).alloc _).cell e2r id
      have e3n : (wr.alloc (.cells #[.int .i64 (m : Int), .slice Av 64 kv] 124)).cell? ⟨rx, 0, none⟩ = some (.slice A 64 c) := hbr2.cell 0
      have z3n : (wr.alloc (.cells #[.int .i64 (m : Int), .slice Av 64 kv] 124)).frozen? ⟨rx, 0, none⟩ = false := hbr2.frozen 0
      by_cases hmn : m = n
      · subst hmn
        go_wp2
        go_roundw
        case rel =>
          refine ⟨i + 1, Av, kv, by go_num, by omega, (hfr.setCell (a := ⟨rx, 0, none⟩) (.inl rfl) _).alloc _, (hbr.set 0 _).alloc _, ?_⟩
          rw [hfold.out, if_pos rfl]
          exact hdat
        case measure => simp [intOf]; omega
      · have hd : ((m : Int) == (n : Int)) = false := by rw [beq_eq_false_iff_ne]; omega
        have hd' : (m == n) = false := by rw [beq_eq_false_iff_ne]; exact hmn
        have Hmn := hid hmn; clear hmn
        go_wp2
        go_roundw
        case rel =>
          refine ⟨i + 1, A, c, by go_num, by omega, hfr.alloc _, hbr2, ?_⟩
          rw [hfold.out, if_neg Hmn.out]
          exact HD.out
        case measure => simp [intOf]; omega
    · have hall : p.ca.take i = p.ca := List.take_of_length_le (by omega)
      have hg : Hid (lastC (p.ca.take i) n x0 = p.get n) := hid (by rw [hget.out, hall]; rfl)
      clear hall
      have hdw : Dat wr T (.slice A 64 c) (lastC (p.ca.take i) n x0) := Dat.fr (X := 4) HD.out hfr (fun k hk _ e => absurd e (HT.out k hk).2.2) (by decide)
      go_wp2_with fail
      refine (bclone_ok _ (.slice A 64 c) 64 _ (by omega) wr hdw.2.2).mono ?_
      rintro e w4 ⟨A4, k4, rfl, hR4, hf4, -⟩
      have hb4 := hbr.fr hf4 fun h => h
      have e4 : w4.cell? ⟨rx, 0, none⟩ = some (.slice A 64 c) := hb4.cell 0
      have z4 : w4.frozen? ⟨rx, 0, none⟩ = false := hb4.frozen 0
      have hszr := hfr.size
      have hltx := hbr.lt
      go_wp2
      go_ret
      refine ⟨rfl, ⟨A4, k4, hb4.set 0 _, ?_, ?_, ?_⟩, (hfr.then hf4.nil).setCell (a := ⟨rx, 0, none⟩) (.inl rfl) _⟩
      · rw [← hg.out]
        have : Row w4 (New w) 5 1 (.slice A4 64 k4) 64 (bys (lastC (p.ca.take i) n x0)) := hR4.mono fun k hk => Nat.le_trans hszr hk
        exact this.setCell (fun e => by
          have h5 := hR4.2 rx e
          have h6 : wr.heap.size ≤ rx := h5
          omega) _
      · rw [← hg.out]; exact hdw.2.1
      · rw [← hg.out]; exact hdw.1

theorem read_fault (T : Nat → Prop) (pb : Nat) (p : Pl) (n : Int) (w : World) (h : IsP w T pb p) (hok : p.ok) (hbad : p.bad 1) :
    Calls Tryz.prog 40 #[.pointer (some ⟨pb, 0, none⟩), .int .i64 n] w fun e w' => e = .returned (.tuple #[.slice none 0 0, .int .i64 6]) ∧ IsP w' T pb (p.ask 1) ∧ Fr T w w' := by
  have HOK := hid hok; clear hok
  have HB := hid hbad; clear hbad
  go_enter Tryz.func40, Tryz.ntmps40
  go_wp2_with fail
  obtain ⟨W1, hW1⟩ : ∃ W1, W1 = ((w.alloc (.cells #[.pointer (some ⟨pb, 0, none⟩)] 32)).alloc (.cells #[.int .i64 n] 3)).alloc (.cells #[.slice none 0 0] 30) := ⟨_, rfl⟩
  obtain ⟨hf1, hs1, b1, b2, b3⟩ := box3 w _ _ _ _ _ _ W1 hW1
  rw [← hW1]
  clear hW1
  refine (tried_fault 66 _ (fun k => T k ∧ k < w.heap.size) pb p 1 (.inl rfl) ⟨(HOK.out.1 1).1, (HOK.out.1 1).2, HOK.out.2.1, HOK.out.2.2.1⟩ W1 (h.bd.fr hf1 fun _ _ h => h) (fun k hk => by omega) HB.out).mono ?_
  rintro e w2 ⟨rfl, hP2, hf2⟩
  have hpb := h.lt
  have b4 := b3.fr hf2 (fun e => by omega)
  have e4 : w2.cell? ⟨w.heap.size + 2, 0, none⟩ = some (.slice none 0 0) := b4.cell 0
  have z4 : w2.frozen? ⟨w.heap.size + 2, 0, none⟩ = false := b4.frozen 0
  go_wp2
  have hcell : (w2.setCell ⟨w.heap.size + 1 + 1, 0, none⟩ (.slice none 0 0)).cell? ⟨w.heap.size + 1 + 1, 0, none⟩ = some (.slice none 0 0) := (b4.set 0 _).cell 0
  have hfx : Fr (fun k => k = w.heap.size + 2) w2 (w2.setCell ⟨w.heap.size + 1 + 1, 0, none⟩ (.slice none 0 0)) := (Fr.refl (fun k => k = w.heap.size + 2) w2).setCell (a := ⟨w.heap.size + 1 + 1, 0, none⟩) (.inl rfl) _
  have hP4 := (hP2.fr hfx (fun k hk (e : k = w.heap.size + 2) => by omega)).mono (T1 := T) fun k hk => hk.1
  have hf5 : Fr T w (w2.setCell ⟨w.heap.size + 1 + 1, 0, none⟩ (.slice none 0 0)) := (hf1.nil.then (hf2.mono fun k hk => by rw [hk]; exact h.1)).trans hfx (fun k hk => .inr (by omega))
  simp [bodyPost, results, Tryz.results40, go_sem, hcell]
  exact ⟨hP4, hf5⟩

theorem read_bad (T : Nat → Prop) (pb : Nat) (p : Pl) (n : Int) (w : World) (h : IsP w T pb p) (hok : p.ok) (hno : ¬ p.bad 1) (hb : ¬ (0 ≤ n ∧ n < p.bl.length)) :
    Calls Tryz.prog 40 #[.pointer (some ⟨pb, 0, none⟩), .int .i64 n] w fun e w' => e = .returned (.tuple #[.slice none 0 0, .int .i64 1]) ∧ IsP w' T pb (p.ask 1) ∧ Fr T w w' := by
  have HOK := hid hok; clear hok
  have HNO := hid hno; clear hno
  have HB := hid hb; clear hb
  go_enter Tryz.func40, Tryz.ntmps40
  go_wp2_with fail
  obtain ⟨W1, hW1⟩ : ∃ W1, W1 = ((w.alloc (.cells #[.pointer (some ⟨pb, 0, none⟩)] 32)).alloc (.cells #[.int .i64 n] 3)).alloc (.cells #[.slice none 0 0] 30) := ⟨_, rfl⟩
  obtain ⟨hf1, hs1, b1, b2, b3⟩ := box3 w _ _ _ _ _ _ W1 hW1
  rw [← hW1]
  clear hW1
  refine (tried_ok 66 _ (fun k => T k ∧ k < w.heap.size) pb p 1 (.inl rfl) ⟨(HOK.out.1 1).1, (HOK.out.1 1).2, HOK.out.2.1, HOK.out.2.2.1⟩ W1 (h.bd.fr hf1 fun _ _ h => h) (fun k hk => by omega) HNO.out call_read1
    (fun r w3 => r = 1 ∧ IsP w3 (fun k => T k ∧ k < w.heap.size) pb (p.ask 1) ∧ Blk w3 (w.heap.size + 2) #[.slice none 0 0] 30) ?_).mono ?_
  · intro w2 hf2 hs2 hP2
    refine (read1_bad (fun k => T k ∧ k < w.heap.size) pb (p.ask 1) n _ _ _ w2 hP2 (b1.fr hf2 fun h => by omega) (b2.fr hf2 fun h => by omega) HB.out).mono ?_
    rintro e w3 ⟨rfl, rfl⟩
    exact ⟨1, rfl, ⟨rfl, hP2, b3.fr hf2 fun h => by omega⟩, Fr.refl _ _⟩
  rintro e w2 ⟨r, w3, rfl, ⟨rfl, hP3, b3'⟩, hf4, hf3⟩
  have b4 := b3'.fr hf4 (fun e => by omega)
  have e4 : w2.cell? ⟨w.heap.size + 2, 0, none⟩ = some (.slice none 0 0) := b4.cell 0
  have z4 : w2.frozen? ⟨w.heap.size + 2, 0, none⟩ = false := b4.frozen 0
  have hP2 := hP3.fr hf4 (fun k hk (e : k = W1.heap.size) => by omega)
  go_wp2
  have hcell : (w2.setCell ⟨w.heap.size + 1 + 1, 0, none⟩ (.slice none 0 0)).cell? ⟨w.heap.size + 1 + 1, 0, none⟩ = some (.slice none 0 0) := (b4.set 0 _).cell 0
  have hfx : Fr (fun k => k = w.heap.size + 2) w2 (w2.setCell ⟨w.heap.size + 1 + 1, 0, none⟩ (.slice none 0 0)) := (Fr.refl (fun k => k = w.heap.size + 2) w2).setCell (a := ⟨w.heap.size + 1 + 1, 0, none⟩) (.inl rfl) _
  have hP4 := (hP2.fr hfx (fun k hk (e : k = w.heap.size + 2) => by omega)).mono (T1 := T) fun k hk => hk.1
  have hf5 : Fr T w (w2.setCell ⟨w.heap.size + 1 + 1, 0, none⟩ (.slice none 0 0)) := ((hf1.nil.then (hf3.mono fun k hk => hk.1)).trans hf4 (fun k hk => .inr (by omega))).trans hfx (fun k hk => .inr (by omega))
  simp [bodyPost, results, Tryz.results40, go_sem, hcell]
  exact ⟨hP4, hf5⟩

theorem read_ok (T : Nat → Prop) (pb : Nat) (p : Pl) (n : Nat) (w : World) (h : IsP w T pb p) (hok : p.ok) (hno : ¬ p.bad 1) (hn : n < p.bl.length) :
    Calls Tryz.prog 40 #[.pointer (some ⟨pb, 0, none⟩), .int .i64 (n : Int)] w fun e w' => ∃ A c, e = .returned (.tuple #[.slice A 64 c, .int .i64 0]) ∧ Row w' (New w) 5 1 (.slice A 64 c) 64 (bys (p.get n)) ∧ Byt (p.get n) ∧ (p.get n).length = 64 ∧ IsP w' T pb (p.ask 1) ∧ Fr T w w' := by
  have HOK := hid hok; clear hok
  have HNO := hid hno; clear hno
  have HN := hid hn; clear hn
  go_enter Tryz.func40, Tryz.ntmps40
  go_wp2_with fail
  obtain ⟨W1, hW1⟩ : ∃ W1, W1 = ((w.alloc (.cells #[.pointer (some ⟨pb, 0, none⟩)] 32)).alloc (.cells #[.int .i64 (n : Int)] 3)).alloc (.cells #[.slice none 0 0] 30) := ⟨_, rfl⟩
  obtain ⟨hf1, hs1, b1, b2, b3⟩ := box3 w _ _ _ _ _ _ W1 hW1
  rw [← hW1]
  clear hW1
  refine (tried_gen 66 _ (fun k => T k ∧ k < w.heap.size) (fun k => k = w.heap.size + 2) pb p 1 (.inl rfl) ⟨(HOK.out.1 1).1, (HOK.out.1 1).2, HOK.out.2.1, HOK.out.2.2.1⟩ W1 (h.bd.fr hf1 fun _ _ h => h) (fun k hk => by omega) (fun k hk => by omega) HNO.out call_read1
    (fun r w3 => r = 0 ∧ IsP w3 (fun k => T k ∧ k < w.heap.size) pb (p.ask 1) ∧ ∃ A c, Blk w3 (w.heap.size + 2) #[.slice A 64 c] 30 ∧ Row w3 (fun k => W1.heap.size < k) 5 1 (.slice A 64 c) 64 (bys (p.get n)) ∧ Byt (p.get n) ∧ (p.get n).length = 64) ?_).mono ?_
  · intro w2 hf2 hs2 hP2
    refine (read1_ok (fun k => T k ∧ k < w.heap.size) pb (p.ask 1) n _ _ _ _ w2 hP2 (b1.fr hf2 fun h => by omega) (b2.fr hf2 fun h => by omega) (b3.fr hf2 fun h => by omega) HN.out HOK.out.2.2.2.1 (fun k hk => ⟨by omega, by omega, by omega⟩) ⟨by omega, by omega⟩).mono ?_
    rintro e w3 ⟨rfl, ⟨A, c, q1, q2, q3, q4⟩, hf3⟩
    exact ⟨0, rfl, ⟨rfl, hP2.fr hf3 (fun k hk (e : k = w.heap.size + 1 + 1) => by omega), A, c, q1, q2.mono fun k hk => by have : w2.heap.size ≤ k := hk; omega, q3, q4⟩, hf3.mono fun k hk => .inr hk⟩
  rintro e w2 ⟨r, w3, rfl, ⟨rfl, hP3, A, c, b3', q2, q3, q4⟩, hf4, hf3⟩
  have b4 := b3'.fr hf4 (fun e => by omega)
  have e4 : w2.cell? ⟨w.heap.size + 2, 0, none⟩ = some (.slice A 64 c) := b4.cell 0
  have z4 : w2.frozen? ⟨w.heap.size + 2, 0, none⟩ = false := b4.frozen 0
  have hP2 := hP3.fr hf4 (fun k hk (e : k = W1.heap.size) => by omega)
  have q5 := q2.frS hf4 (fun k hk (e : k = W1.heap.size) => by omega)
  go_wp2
  have hcell : (w2.setCell ⟨w.heap.size + 1 + 1, 0, none⟩ (.slice A 64 c)).cell? ⟨w.heap.size + 1 + 1, 0, none⟩ = some (.slice A 64 c) := (b4.set 0 _).cell 0
  have hfx : Fr (fun k => k = w.heap.size + 2) w2 (w2.setCell ⟨w.heap.size + 1 + 1, 0, none⟩ (.slice A 64 c)) := (Fr.refl (fun k => k = w.heap.size + 2) w2).setCell (a := ⟨w.heap.size + 1 + 1, 0, none⟩) (.inl rfl) _
  have hP4 := (hP2.fr hfx (fun k hk (e : k = w.heap.size + 2) => by omega)).mono (T1 := T) fun k hk => hk.1
  have q6 := (q5.frS hfx (fun k hk (e : k = w.heap.size + 2) => by omega)).mono (S' := New w) (fun k hk => by unfold New; omega)
  have hf5 : Fr T w (w2.setCell ⟨w.heap.size + 1 + 1, 0, none⟩ (.slice A 64 c)) := ((Fr.trans (S := T) hf1.nil hf3 (fun k hk => hk.elim (fun h => .inl h.1) (fun h => .inr (by omega)))).trans hf4 (fun k hk => .inr (by omega))).trans hfx (fun k hk => .inr (by omega))
  simp [bodyPost, results, Tryz.results40, go_sem, hcell]
  exact ⟨A, c, ⟨rfl, rfl⟩, q6, q3, q4, hP4, hf5⟩
end Go.Proofs.YtgoghmblfdlnbaaGreat
end

/- platter's Read. Conditions: the platter is a block of the program's own. -/
import Derived.Test.YtidjmjfoheagmaaQPlatN
set_option linter.unusedSimpArgs false
set_option linter.unusedVariables false
namespace Go.Proofs.Ytidjmjfoheagmaa
open Go.RowKit

/-- The last that waits for a block, or what lies there. -/
def lastC (ca : List (Nat × List Nat)) (n : Nat) (x : List Nat) : List Nat := ca.foldl (fun x q => if q.1 = n then q.2 else x) x
def Pl.get (p : Pl) (n : Nat) : List Nat := lastC p.ca n (p.bl.getD n [])

theorem call_read1 (args : Array Value) (w : World) : (callFunc 30 args).run Try.prog w = .ok (.enter 30 args) w := by kernel_rfl

theorem read1_bad (T : Nat → Prop) (pb : Nat) (p : Pl) (n : Int) (px nx rx : Nat) (w : World) (h : IsP w T pb p) (h1 : Blk w px #[.pointer (some ⟨pb, 0, none⟩)] 25) (h2 : Blk w nx #[.int .i64 n] 3)
    (hbad : ¬ (0 ≤ n ∧ n < p.bl.length)) :
    Calls Try.prog 30 #[.pointer (some ⟨px, 0, none⟩), .pointer (some ⟨nx, 0, none⟩), .pointer (some ⟨rx, 0, none⟩)] w fun e w' => e = .returned (.int .i64 1) ∧ w = w' := by
  have c1 : w.cell? ⟨px, 0, none⟩ = some (.pointer (some ⟨pb, 0, none⟩)) := h1.cell 0
  have c2 : w.cell? ⟨nx, 0, none⟩ = some (.int .i64 n) := h2.cell 0
  go_enter Try.func30, Try.ntmps30
  go_wp2_with fail
  refine (there_ok T pb p n w h).mono ?_
  rintro e w2 ⟨rfl, rfl⟩
  rw [decide_eq_false hbad]
  clear hbad
  go_wp2
  go_ret
  exact ⟨rfl, rfl⟩

set_option maxHeartbeats 3200000 in
theorem read1_ok (T : Nat → Prop) (pb : Nat) (p : Pl) (n : Nat) (v0 : Value) (px nx rx : Nat) (w : World) (h : IsP w T pb p) (h1 : Blk w px #[.pointer (some ⟨pb, 0, none⟩)] 25) (h2 : Blk w nx #[.int .i64 (n : Int)] 3) (h3 : Blk w rx #[v0] 22)
    (hn : n < p.bl.length) (hca : p.ca.length ≤ 1000000) (hT : ∀ k, T k → k ≠ px ∧ k ≠ nx ∧ k ≠ rx) (hx : px ≠ rx ∧ nx ≠ rx) :
    Calls Try.prog 30 #[.pointer (some ⟨px, 0, none⟩), .pointer (some ⟨nx, 0, none⟩), .pointer (some ⟨rx, 0, none⟩)] w fun e w' => e = .returned (.int .i64 0) ∧ (∃ A c, Blk w' rx #[.slice A 64 c] 22 ∧ Row w' (New w) 5 1 (.slice A 64 c) 64 (bys (p.get n)) ∧ Byt (p.get n) ∧ (p.get n).length = 64) ∧ Fr (fun k => k = rx) w w' := by
  have hP := h
  have c1 : w.cell? ⟨px, 0, none⟩ = some (.pointer (some ⟨pb, 0, none⟩)) := h1.cell 0
  have c2 : w.cell? ⟨nx, 0, none⟩ = some (.int .i64 (n : Int)) := h2.cell 0
  have c3 : w.cell? ⟨rx, 0, none⟩ = some v0 := h3.cell 0
  have z3 : w.frozen? ⟨rx, 0, none⟩ = false := h3.frozen 0
  have HT := hid hT; clear hT
  go_enter Try.func30, Try.ntmps30
  go_wp2_with fail
  refine (there_ok T pb p n w h).mono ?_
  rintro e w2 ⟨rfl, rfl⟩
  rw [decide_eq_true (show (0 : Int) ≤ (n : Int) ∧ (n : Int) < (p.bl.length : Int) by omega)]
  obtain ⟨g0, vb, vc, vf, g1, ⟨bs, g2, g2'⟩, ⟨cv, g3, g3'⟩, g4⟩ := h
  obtain ⟨gb, kb, rfl, hTb, hltb⟩ := g2.form (by omega)
  obtain ⟨Ac, kc, rfl⟩ := g3.slice
  have hbl : bs.length = p.bl.length := by have := g2.length; rwa [Nat.mul_one] at this
  have hcl : cv.length = p.ca.length := by have := g3.length; rw [flatW_length] at this; omega
  have hc0 : w.cell? ⟨pb, 0, none⟩ = some (.slice (some ⟨gb, 0, none⟩) p.bl.length kb) := g1.cell 0
  have hc1 : w.cell? ⟨pb, 1, none⟩ = some (.slice Ac p.ca.length kc) := g1.cell 1
  have hpn : p.bl[n]? = some p.bl[n] := List.getElem?_eq_getElem hn
  have hx0 : p.bl.getD n [] = p.bl[n] := by simp [List.getD, hpn]
  obtain ⟨u, hu, hdu⟩ := g2' n _ hpn
  have hcu : w.cell? ⟨gb, n, none⟩ = some u := g2.cell hu
  have hb0 : ((n : Int)) < ((p.bl.length : Int)) := by omega
  have hb1 : (0 : Int) ≤ (n : Int) := by omega
  have hget : Hid (∀ i, lastC (p.ca.take i) n p.bl[n] = lastC (p.ca.take i) n (p.bl.getD n [])) := hid (fun i => by rw [hx0])
  generalize p.bl[n] = x0 at *
  obtain ⟨Au, ku, rfl⟩ : ∃ A c, u = .slice A 64 c := let ⟨_, A, c, e, _⟩ := hdu.2.2; ⟨A, c, e⟩
  go_wp2_with fail
  go_region
  obtain ⟨W3, hW3⟩ : ∃ W3, W3 = (w.setCell ⟨rx, 0, none⟩ (.slice Au 64 ku)).drew := ⟨_, rfl⟩
  have hf3 : Fr (fun k => k = rx) w W3 := by rw [hW3]; exact ((Fr.refl (fun k => k = rx) w).setCell (a := ⟨rx, 0, none⟩) (.inl rfl) _).drew
  have hb3 : Blk W3 rx #[.slice Au 64 ku] 22 := by rw [hW3]; exact (h3.set 0 _).drew
  rw [← hW3]
  clear hW3
  have e1 : W3.cell? ⟨px, 0, none⟩ = some (.pointer (some ⟨pb, 0, none⟩)) := hf3.cell c1 hx.1
  have e2 : W3.cell? ⟨pb, 1, none⟩ = some (.slice Ac p.ca.length kc) := hf3.cell hc1 (HT.out _ g0).2.2
  have Hx := hid hx; clear hx
  go_wp2_with fail
  go_loopw [22] (fun v22 wr => ∃ (i : Nat) (A : Option Addr) (c : Nat), v22 = .int .i64 i ∧ i ≤ p.ca.length ∧ Fr (fun k => k = rx) w wr ∧ Blk wr rx #[.slice A 64 c] 22 ∧ Dat w T (.slice A 64 c) (lastC (p.ca.take i) n x0)) (fun v22 _ => p.ca.length - (intOf v22).toNat)
  case atStart => exact ⟨0, Au, ku, rfl, by omega, hf3, hb3, hdu⟩
  case round =>
    obtain ⟨i, A, c, rfl, hi, hfr, hbr, hD⟩ := hrel
    have HD := hid hD; clear hD
    have e1r : wr.cell? ⟨px, 0, none⟩ = some (.pointer (some ⟨pb, 0, none⟩)) := hfr.cell c1 Hx.out.1
    have e2r : wr.cell? ⟨nx, 0, none⟩ = some (.int .i64 (n : Int)) := hfr.cell c2 Hx.out.2
    have e3r : wr.cell? ⟨rx, 0, none⟩ = some (.slice A 64 c) := hbr.cell 0
    have z3r : wr.frozen? ⟨rx, 0, none⟩ = false := hbr.frozen 0
    by_cases hlt : i < p.ca.length
    · obtain ⟨gc, capc, hgc, hTc, hltc⟩ := g3.form (by omega)
      injection hgc with hgc1 _ hgc2
      subst hgc1; subst hgc2
      have hpi : p.ca[i]? = some p.ca[i] := List.getElem?_eq_getElem hlt
      have htk : Hid (p.ca.take (i + 1) = p.ca.take i ++ [p.ca[i]]) := hid (List.take_succ_eq_append_getElem hlt)
      generalize p.ca[i] = q at *
      obtain ⟨m, x⟩ := q
      obtain ⟨v, hcv, hdat⟩ := g3' i m x hpi
      obtain ⟨f1, f2⟩ := flatW_at cv i m v hcv
      obtain ⟨Av, kv, rfl⟩ : ∃ A c, v = .slice A 64 c := let ⟨_, A, c, e, _⟩ := hdat.2.2; ⟨A, c, e⟩
      have hd0 : wr.cell? ⟨gc, i * 2, none⟩ = some (.int .i64 (m : Int)) := by rw [Nat.mul_comm]; exact hfr.cell (g3.cell f1) (HT.out _ hTc).2.2
      have hd1 : wr.cell? ⟨gc, i * 2 + 1, none⟩ = some (.slice Av 64 kv) := by rw [Nat.mul_comm]; exact hfr.cell (g3.cell f2) (HT.out _ hTc).2.2
      have hfold : Hid (lastC (p.ca.take (i + 1)) n x0 = if m = n then x else lastC (p.ca.take i) n x0) := hid (by rw [htk.out]; simp [lastC])
      clear hpi f1 f2 hcv
      have hltx := hbr.lt
      have hnx : wr.heap.size ≠ rx := by omega
      have hbr2 := hbr.alloc (.cells #[.int .i64 (m : Int), .slice Av 64 kv] 74)
      have e2n : (wr.alloc (.cells #[.int .i64 (m : Int), .slice Av 64 kv] 74)).cell? ⟨nx, 0, none⟩ = some (.int .i64 (n : Int)) := ((Fr.refl Nil wr).alloc _).cell e2r id
      have e3n : (wr.alloc (.cells #[.int .i64 (m : Int), .slice Av 64 kv] 74)).cell? ⟨rx, 0, none⟩ = some (.slice A 64 c) := hbr2.cell 0
      have z3n : (wr.alloc (.cells #[.int .i64 (m : Int), .slice Av 64 kv] 74)).frozen? ⟨rx, 0, none⟩ = false := hbr2.frozen 0
      by_cases hmn : m = n
      · subst hmn
        go_wp2
        go_roundw
        case rel =>
          refine ⟨i + 1, Av, kv, by go_num, by omega, (hfr.setCell (a := ⟨rx, 0, none⟩) (.inl rfl) _).alloc _, (hbr.set 0 _).alloc _, ?_⟩
          rw [hfold.out, if_pos rfl]
          exact hdat
        case measure => simp [intOf]; omega
      · have hd : ((m : Int) == (n : Int)) = false := by rw [beq_eq_false_iff_ne]; omega
        have hd' : (m == n) = false := by rw [beq_eq_false_iff_ne]; exact hmn
        have Hmn := hid hmn; clear hmn
        go_wp2
        go_roundw
        case rel =>
          refine ⟨i + 1, A, c, by go_num, by omega, hfr.alloc _, hbr2, ?_⟩
          rw [hfold.out, if_neg Hmn.out]
          exact HD.out
        case measure => simp [intOf]; omega
    · have hall : p.ca.take i = p.ca := List.take_of_length_le (by omega)
      have hg : Hid (lastC (p.ca.take i) n x0 = p.get n) := hid (by rw [hget.out, hall]; rfl)
      clear hall
      have hdw : Dat wr T (.slice A 64 c) (lastC (p.ca.take i) n x0) := Dat.fr (X := 22) HD.out hfr (fun k _ _ e => by rw [show k = rx from e]; exact h3.typ) (by decide)
      go_wp2_with fail
      refine (clone_ok _ (.slice A 64 c) 64 _ (by omega) wr hdw.2.2).mono ?_
      rintro e w4 ⟨A4, k4, rfl, hR4, hf4, -⟩
      have hb4 := hbr.fr hf4 fun h => h
      have e4 : w4.cell? ⟨rx, 0, none⟩ = some (.slice A 64 c) := hb4.cell 0
      have z4 : w4.frozen? ⟨rx, 0, none⟩ = false := hb4.frozen 0
      have hszr := hfr.size
      have hltx := hbr.lt
      go_wp2
      go_ret
      refine ⟨rfl, ⟨A4, k4, hb4.set 0 _, ?_, ?_, ?_⟩, (hfr.then hf4.nil).setCell (a := ⟨rx, 0, none⟩) (.inl rfl) _⟩
      · rw [← hg.out]
        have : Row w4 (New w) 5 1 (.slice A4 64 k4) 64 (bys (lastC (p.ca.take i) n x0)) := hR4.mono fun k hk => Nat.le_trans hszr hk
        exact this.setCell (fun e => by
          have h5 := hR4.2 rx e
          have h6 : wr.heap.size ≤ rx := h5
          omega) _
      · rw [← hg.out]; exact hdw.2.1
      · rw [← hg.out]; exact hdw.1

theorem read_fault (T : Nat → Prop) (pb : Nat) (p : Pl) (n : Int) (w : World) (h : IsP w T pb p) (hok : p.ok) (hbad : p.bad 1) :
    Calls Try.prog 13 #[.pointer (some ⟨pb, 0, none⟩), .int .i64 n] w fun e w' => e = .returned (.tuple #[.slice none 0 0, .int .i64 6]) ∧ IsP w' T pb (p.ask 1) ∧ Fr T w w' := by
  have HOK := hid hok; clear hok
  have HB := hid hbad; clear hbad
  go_enter Try.func13, Try.ntmps13
  go_wp2_with fail
  obtain ⟨W1, hW1⟩ : ∃ W1, W1 = ((w.alloc (.cells #[.pointer (some ⟨pb, 0, none⟩)] 25)).alloc (.cells #[.int .i64 n] 3)).alloc (.cells #[.slice none 0 0] 22) := ⟨_, rfl⟩
  obtain ⟨hf1, hs1, b1, b2, b3⟩ := box3 w _ _ _ _ _ _ W1 hW1
  rw [← hW1]
  clear hW1
  refine (tried_fault 30 _ (fun k => T k ∧ k < w.heap.size) pb p 1 (.inl rfl) ⟨(HOK.out.1 1).1, (HOK.out.1 1).2, HOK.out.2.1, HOK.out.2.2.1⟩ W1 (h.bd.fr hf1 fun _ _ h => h) (fun k hk => by omega) HB.out).mono ?_
  rintro e w2 ⟨rfl, hP2, hf2⟩
  have hpb := h.lt
  have b4 := b3.fr hf2 (fun e => by omega)
  have e4 : w2.cell? ⟨w.heap.size + 2, 0, none⟩ = some (.slice none 0 0) := b4.cell 0
  have z4 : w2.frozen? ⟨w.heap.size + 2, 0, none⟩ = false := b4.frozen 0
  go_wp2
  have hcell : (w2.setCell ⟨w.heap.size + 1 + 1, 0, none⟩ (.slice none 0 0)).cell? ⟨w.heap.size + 1 + 1, 0, none⟩ = some (.slice none 0 0) := (b4.set 0 _).cell 0
  have hfx : Fr (fun k => k = w.heap.size + 2) w2 (w2.setCell ⟨w.heap.size + 1 + 1, 0, none⟩ (.slice none 0 0)) := (Fr.refl (fun k => k = w.heap.size + 2) w2).setCell (a := ⟨w.heap.size + 1 + 1, 0, none⟩) (.inl rfl) _
  have hP4 := (hP2.fr hfx (fun k hk (e : k = w.heap.size + 2) => by omega)).mono (T1 := T) fun k hk => hk.1
  have hf5 : Fr T w (w2.setCell ⟨w.heap.size + 1 + 1, 0, none⟩ (.slice none 0 0)) := (hf1.nil.then (hf2.mono fun k hk => by rw [hk]; exact h.1)).trans hfx (fun k hk => .inr (by omega))
  simp [bodyPost, results, Try.results13, go_sem, hcell]
  exact ⟨hP4, hf5⟩

theorem read_bad (T : Nat → Prop) (pb : Nat) (p : Pl) (n : Int) (w : World) (h : IsP w T pb p) (hok : p.ok) (hno : ¬ p.bad 1) (hb : ¬ (0 ≤ n ∧ n < p.bl.length)) :
    Calls Try.prog 13 #[.pointer (some ⟨pb, 0, none⟩), .int .i64 n] w fun e w' => e = .returned (.tuple #[.slice none 0 0, .int .i64 1]) ∧ IsP w' T pb (p.ask 1) ∧ Fr T w w' := by
  have HOK := hid hok; clear hok
  have HNO := hid hno; clear hno
  have HB := hid hb; clear hb
  go_enter Try.func13, Try.ntmps13
  go_wp2_with fail
  obtain ⟨W1, hW1⟩ : ∃ W1, W1 = ((w.alloc (.cells #[.pointer (some ⟨pb, 0, none⟩)] 25)).alloc (.cells #[.int .i64 n] 3)).alloc (.cells #[.slice none 0 0] 22) := ⟨_, rfl⟩
  obtain ⟨hf1, hs1, b1, b2, b3⟩ := box3 w _ _ _ _ _ _ W1 hW1
  rw [← hW1]
  clear hW1
  refine (tried_ok 30 _ (fun k => T k ∧ k < w.heap.size) pb p 1 (.inl rfl) ⟨(HOK.out.1 1).1, (HOK.out.1 1).2, HOK.out.2.1, HOK.out.2.2.1⟩ W1 (h.bd.fr hf1 fun _ _ h => h) (fun k hk => by omega) HNO.out call_read1
    (fun r w3 => r = 1 ∧ IsP w3 (fun k => T k ∧ k < w.heap.size) pb (p.ask 1) ∧ Blk w3 (w.heap.size + 2) #[.slice none 0 0] 22) ?_).mono ?_
  · intro w2 hf2 hs2 hP2
    refine (read1_bad (fun k => T k ∧ k < w.heap.size) pb (p.ask 1) n _ _ _ w2 hP2 (b1.fr hf2 fun h => by omega) (b2.fr hf2 fun h => by omega) HB.out).mono ?_
    rintro e w3 ⟨rfl, rfl⟩
    exact ⟨1, rfl, ⟨rfl, hP2, b3.fr hf2 fun h => by omega⟩, Fr.refl _ _⟩
  rintro e w2 ⟨r, w3, rfl, ⟨rfl, hP3, b3'⟩, hf4, hf3, hty⟩
  have b4 := b3'.fr hf4 (fun e => by omega)
  have e4 : w2.cell? ⟨w.heap.size + 2, 0, none⟩ = some (.slice none 0 0) := b4.cell 0
  have z4 : w2.frozen? ⟨w.heap.size + 2, 0, none⟩ = false := b4.frozen 0
  have hP2 := hP3.fr hf4 (fun k hk (e : k = W1.heap.size) => by omega) (fun k (hk : k = W1.heap.size) _ => by rw [hk]; exact ⟨fun h => absurd (hty.one h) (by decide), fun h => absurd (hty.one h) (by decide)⟩)
  go_wp2
  have hcell : (w2.setCell ⟨w.heap.size + 1 + 1, 0, none⟩ (.slice none 0 0)).cell? ⟨w.heap.size + 1 + 1, 0, none⟩ = some (.slice none 0 0) := (b4.set 0 _).cell 0
  have hfx : Fr (fun k => k = w.heap.size + 2) w2 (w2.setCell ⟨w.heap.size + 1 + 1, 0, none⟩ (.slice none 0 0)) := (Fr.refl (fun k => k = w.heap.size + 2) w2).setCell (a := ⟨w.heap.size + 1 + 1, 0, none⟩) (.inl rfl) _
  have hP4 := (hP2.fr hfx (fun k hk (e : k = w.heap.size + 2) => by omega)).mono (T1 := T) fun k hk => hk.1
  have hf5 : Fr T w (w2.setCell ⟨w.heap.size + 1 + 1, 0, none⟩ (.slice none 0 0)) := ((hf1.nil.then (hf3.mono fun k hk => hk.1)).trans hf4 (fun k hk => .inr (by omega))).trans hfx (fun k hk => .inr (by omega))
  simp [bodyPost, results, Try.results13, go_sem, hcell]
  exact ⟨hP4, hf5⟩

theorem read_ok (T : Nat → Prop) (pb : Nat) (p : Pl) (n : Nat) (w : World) (h : IsP w T pb p) (hok : p.ok) (hno : ¬ p.bad 1) (hn : n < p.bl.length) :
    Calls Try.prog 13 #[.pointer (some ⟨pb, 0, none⟩), .int .i64 (n : Int)] w fun e w' => ∃ A c, e = .returned (.tuple #[.slice A 64 c, .int .i64 0]) ∧ Row w' (New w) 5 1 (.slice A 64 c) 64 (bys (p.get n)) ∧ Byt (p.get n) ∧ (p.get n).length = 64 ∧ IsP w' T pb (p.ask 1) ∧ Fr T w w' := by
  have HOK := hid hok; clear hok
  have HNO := hid hno; clear hno
  have HN := hid hn; clear hn
  go_enter Try.func13, Try.ntmps13
  go_wp2_with fail
  obtain ⟨W1, hW1⟩ : ∃ W1, W1 = ((w.alloc (.cells #[.pointer (some ⟨pb, 0, none⟩)] 25)).alloc (.cells #[.int .i64 (n : Int)] 3)).alloc (.cells #[.slice none 0 0] 22) := ⟨_, rfl⟩
  obtain ⟨hf1, hs1, b1, b2, b3⟩ := box3 w _ _ _ _ _ _ W1 hW1
  rw [← hW1]
  clear hW1
  refine (tried_gen 30 _ (fun k => T k ∧ k < w.heap.size) (fun k => k = w.heap.size + 2) pb p 1 (.inl rfl) ⟨(HOK.out.1 1).1, (HOK.out.1 1).2, HOK.out.2.1, HOK.out.2.2.1⟩ W1 (h.bd.fr hf1 fun _ _ h => h) (fun k hk => by omega) (fun k hk => by omega) HNO.out call_read1
    (fun r w3 => r = 0 ∧ IsP w3 (fun k => T k ∧ k < w.heap.size) pb (p.ask 1) ∧ ∃ A c, Blk w3 (w.heap.size + 2) #[.slice A 64 c] 22 ∧ Row w3 (fun k => W1.heap.size < k) 5 1 (.slice A 64 c) 64 (bys (p.get n)) ∧ Byt (p.get n) ∧ (p.get n).length = 64) ?_).mono ?_
  · intro w2 hf2 hs2 hP2
    refine (read1_ok (fun k => T k ∧ k < w.heap.size) pb (p.ask 1) n _ _ _ _ w2 hP2 (b1.fr hf2 fun h => by omega) (b2.fr hf2 fun h => by omega) (b3.fr hf2 fun h => by omega) HN.out HOK.out.2.2.2.1 (fun k hk => ⟨by omega, by omega, by omega⟩) ⟨by omega, by omega⟩).mono ?_
    rintro e w3 ⟨rfl, ⟨A, c, q1, q2, q3, q4⟩, hf3⟩
    exact ⟨0, rfl, ⟨rfl, hP2.fr hf3 (fun k hk (e : k = w.heap.size + 1 + 1) => by omega) (fun k (hk : k = w.heap.size + 1 + 1) _ => by rw [hk]; have ht := (b3.fr hf2 fun h => by omega).typ; exact ⟨fun h => absurd (ht.one h) (by decide), fun h => absurd (ht.one h) (by decide)⟩), A, c, q1, q2.mono fun k hk => by have : w2.heap.size ≤ k := hk; omega, q3, q4⟩, hf3.mono fun k hk => .inr hk⟩
  rintro e w2 ⟨r, w3, rfl, ⟨rfl, hP3, A, c, b3', q2, q3, q4⟩, hf4, hf3, hty⟩
  have b4 := b3'.fr hf4 (fun e => by omega)
  have e4 : w2.cell? ⟨w.heap.size + 2, 0, none⟩ = some (.slice A 64 c) := b4.cell 0
  have z4 : w2.frozen? ⟨w.heap.size + 2, 0, none⟩ = false := b4.frozen 0
  have hP2 := hP3.fr hf4 (fun k hk (e : k = W1.heap.size) => by omega) (fun k (hk : k = W1.heap.size) _ => by rw [hk]; exact ⟨fun h => absurd (hty.one h) (by decide), fun h => absurd (hty.one h) (by decide)⟩)
  have q5 := q2.frS hf4 (fun k hk (e : k = W1.heap.size) => by omega)
  go_wp2
  have hcell : (w2.setCell ⟨w.heap.size + 1 + 1, 0, none⟩ (.slice A 64 c)).cell? ⟨w.heap.size + 1 + 1, 0, none⟩ = some (.slice A 64 c) := (b4.set 0 _).cell 0
  have hfx : Fr (fun k => k = w.heap.size + 2) w2 (w2.setCell ⟨w.heap.size + 1 + 1, 0, none⟩ (.slice A 64 c)) := (Fr.refl (fun k => k = w.heap.size + 2) w2).setCell (a := ⟨w.heap.size + 1 + 1, 0, none⟩) (.inl rfl) _
  have hP4 := (hP2.fr hfx (fun k hk (e : k = w.heap.size + 2) => by omega)).mono (T1 := T) fun k hk => hk.1
  have q6 := (q5.frS hfx (fun k hk (e : k = w.heap.size + 2) => by omega)).mono (S' := New w) (fun k hk => by unfold New; omega)
  have hf5 : Fr T w (w2.setCell ⟨w.heap.size + 1 + 1, 0, none⟩ (.slice A 64 c)) := ((Fr.trans (S := T) hf1.nil hf3 (fun k hk => hk.elim (fun h => .inl h.1) (fun h => .inr (by omega)))).trans hf4 (fun k hk => .inr (by omega))).trans hfx (fun k hk => .inr (by omega))
  simp [bodyPost, results, Try.results13, go_sem, hcell]
  exact ⟨A, c, ⟨rfl, rfl⟩, q6, q3, q4, hP4, hf5⟩
end Go.Proofs.Ytidjmjfoheagmaa

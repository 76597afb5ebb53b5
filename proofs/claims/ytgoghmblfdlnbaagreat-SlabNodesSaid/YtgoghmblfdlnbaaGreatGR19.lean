/- The texts VPlatO, VPlatS of this proof, one behind the other. Conditions: those of each. -/
import Derived.Test.YtgoghmblfdlnbaaGreatGR18
section
/- platter's Write as a whole. Conditions: the platter is a block of the program's own; the bytes can be read and are none of its own. -/
set_option linter.unusedSimpArgs false
set_option linter.unusedVariables false
namespace Go.Proofs.YtgoghmblfdlnbaaGreat
open Go.RowKit

theorem call_write1 (args : Array Value) (w : World) : (callFunc 62 args).run Tryz.prog w = .ok (.enter 62 args) w := by kernel_rfl

/-- Few operations, few faults, blocks there, and what waits is for blocks that are there. -/
def Pl.ok (p : Pl) : Prop := (∀ op, p.co op ≤ 1000000 ∧ p.si op ≤ 1000000) ∧ p.fa.length ≤ 1000000 ∧ 0 < p.bl.length ∧ p.ca.length ≤ 1000000 ∧ ∀ q ∈ p.ca, q.1 < p.bl.length
def Pl.bad (p : Pl) (op : Nat) : Prop := ((op : Int), ((p.si op + 1 : Nat) : Int)) ∈ p.fa

/-- The boxes of a call's arguments. -/
theorem box3 (w : World) (a b c : Value) (ta tb tc : TypeId) (W : World) (hW : W = ((w.alloc (.cells #[a] ta)).alloc (.cells #[b] tb)).alloc (.cells #[c] tc)) :
    Fr Nil w W ∧ W.heap.size = w.heap.size + 3 ∧ Blk W w.heap.size #[a] ta ∧ Blk W (w.heap.size + 1) #[b] tb ∧ Blk W (w.heap.size + 2) #[c] tc := by
  subst hW
  refine ⟨(((Fr.refl _ _).alloc _).alloc _).alloc _, by simp, ((Blk.new _ _ _).alloc _).alloc _, ?_, ?_⟩
  · rw [show w.heap.size + 1 = (w.alloc (.cells #[a] ta)).heap.size by simp]; exact (Blk.new _ _ _).alloc _
  · rw [show w.heap.size + 2 = ((w.alloc (.cells #[a] ta)).alloc (.cells #[b] tb)).heap.size by simp]; exact Blk.new _ _ _

theorem write_fault (T : Nat → Prop) (pb : Nat) (p : Pl) (n : Int) (m c : Nat) (A : Option Addr) (w : World) (h : IsP w T pb p) (hok : p.ok) (hbad : p.bad 2) :
    Calls Tryz.prog 34 #[.pointer (some ⟨pb, 0, none⟩), .int .i64 n, .slice A m c] w fun e w' => e = .returned (.int .i64 6) ∧ IsP w' T pb (p.ask 2) ∧ Fr (fun k => k = pb) w w' := by
  have HOK := hid hok; clear hok
  have HB := hid hbad; clear hbad
  go_enter Tryz.func34, Tryz.ntmps34
  go_wp2_with fail
  obtain ⟨W1, hW1⟩ : ∃ W1, W1 = ((w.alloc (.cells #[.pointer (some ⟨pb, 0, none⟩)] 32)).alloc (.cells #[.int .i64 n] 3)).alloc (.cells #[.slice A m c] 30) := ⟨_, rfl⟩
  obtain ⟨hf1, hs1, b1, b2, b3⟩ := box3 w _ _ _ _ _ _ W1 hW1
  rw [← hW1]
  clear hW1
  refine (tried_fault 62 _ (fun k => T k ∧ k < w.heap.size) pb p 2 (.inr (.inl rfl)) ⟨(HOK.out.1 2).1, (HOK.out.1 2).2, HOK.out.2.1, HOK.out.2.2.1⟩ W1 (h.bd.fr hf1 fun _ _ h => h) (fun k hk => by omega) HB.out).mono ?_
  rintro e w2 ⟨rfl, hP2, hf2⟩
  go_wp2
  go_ret
  exact ⟨rfl, hP2.mono fun k hk => hk.1, hf1.nil.then hf2⟩

theorem write_bad (T : Nat → Prop) (pb : Nat) (p : Pl) (n : Int) (m c : Nat) (A : Option Addr) (w : World) (h : IsP w T pb p) (hok : p.ok) (hno : ¬ p.bad 2) (hb : ¬ (0 ≤ n ∧ n < p.bl.length) ∨ m ≠ 64) :
    Calls Tryz.prog 34 #[.pointer (some ⟨pb, 0, none⟩), .int .i64 n, .slice A m c] w fun e w' => e = .returned (.int .i64 1) ∧ IsP w' T pb (p.ask 2) ∧ Fr T w w' := by
  have HOK := hid hok; clear hok
  have HNO := hid hno; clear hno
  have HB := hid hb; clear hb
  go_enter Tryz.func34, Tryz.ntmps34
  go_wp2_with fail
  obtain ⟨W1, hW1⟩ : ∃ W1, W1 = ((w.alloc (.cells #[.pointer (some ⟨pb, 0, none⟩)] 32)).alloc (.cells #[.int .i64 n] 3)).alloc (.cells #[.slice A m c] 30) := ⟨_, rfl⟩
  obtain ⟨hf1, hs1, b1, b2, b3⟩ := box3 w _ _ _ _ _ _ W1 hW1
  rw [← hW1]
  clear hW1
  refine (tried_ok 62 _ (fun k => T k ∧ k < w.heap.size) pb p 2 (.inr (.inl rfl)) ⟨(HOK.out.1 2).1, (HOK.out.1 2).2, HOK.out.2.1, HOK.out.2.2.1⟩ W1 (h.bd.fr hf1 fun _ _ h => h) (fun k hk => by omega) HNO.out call_write1
    (fun r w3 => r = 1 ∧ IsP w3 (fun k => T k ∧ k < w.heap.size) pb (p.ask 2)) ?_).mono ?_
  · intro w2 hf2 hs2 hP2
    refine (write1_bad (fun k => T k ∧ k < w.heap.size) Nil pb (p.ask 2) n m A c _ _ _ w2 hP2 (b1.fr hf2 fun h => by omega) (b2.fr hf2 fun h => by omega) (b3.fr hf2 fun h => by omega) HB.out).mono ?_
    rintro e w3 ⟨rfl, rfl⟩
    exact ⟨1, rfl, ⟨rfl, hP2⟩, Fr.refl _ _⟩
  rintro e w4 ⟨r, w3, rfl, ⟨rfl, hP3⟩, hf4, hf3⟩
  go_wp2
  go_ret
  refine ⟨rfl, (hP3.fr hf4 (fun k hk (e : k = W1.heap.size) => by omega)).mono fun k hk => hk.1, ?_⟩
  exact (hf1.nil.then (hf3.mono fun k hk => hk.1)).trans hf4 (fun k hk => .inr (by omega))

theorem write_ok (T S1 : Nat → Prop) (pb : Nat) (p : Pl) (n : Nat) (xs : List Nat) (v : Value) (w : World) (h : IsP w T pb p) (hok : p.ok) (hno : ¬ p.bad 2) (hn : n < p.bl.length) (hv : View w S1 1 v 64 (bys xs)) (hB : Byt xs) (hS : ∀ k, S1 k → ¬ T k) :
    Calls Tryz.prog 34 #[.pointer (some ⟨pb, 0, none⟩), .int .i64 n, v] w fun e w' => e = .returned (.int .i64 0) ∧ IsP w' (Grow w T) pb ((p.ask 2).put n xs) ∧ Fr T w w' := by
  obtain ⟨A, c, rfl⟩ : ∃ A c, v = .slice A 64 c := let ⟨_, A, c, e, _⟩ := hv; ⟨A, c, e⟩
  have HOK := hid hok; clear hok
  have HNO := hid hno; clear hno
  have HN := hid hn; clear hn
  go_enter Tryz.func34, Tryz.ntmps34
  go_wp2_with fail
  obtain ⟨W1, hW1⟩ : ∃ W1, W1 = ((w.alloc (.cells #[.pointer (some ⟨pb, 0, none⟩)] 32)).alloc (.cells #[.int .i64 (n : Int)] 3)).alloc (.cells #[.slice A 64 c] 30) := ⟨_, rfl⟩
  obtain ⟨hf1, hs1, b1, b2, b3⟩ := box3 w _ _ _ _ _ _ W1 hW1
  rw [← hW1]
  clear hW1
  refine (tried_ok 62 _ (fun k => T k ∧ k < w.heap.size) pb p 2 (.inr (.inl rfl)) ⟨(HOK.out.1 2).1, (HOK.out.1 2).2, HOK.out.2.1, HOK.out.2.2.1⟩ W1 (h.bd.fr hf1 fun _ _ h => h) (fun k hk => by omega) HNO.out call_write1
    (fun r w3 => r = 0 ∧ ∃ s, W1.heap.size < s ∧ IsP w3 (fun k => (T k ∧ k < w.heap.size) ∨ s ≤ k) pb ((p.ask 2).put n xs)) ?_).mono ?_
  · intro w2 hf2 hs2 hP2
    refine (write1_ok (fun k => T k ∧ k < w.heap.size) S1 pb (p.ask 2) n xs _ _ _ _ w2 hP2 (b1.fr hf2 fun h => by omega) (b2.fr hf2 fun h => by omega) (b3.fr hf2 fun h => by omega) HN.out ((hv.fr hf1 fun _ _ _ h => h).fr hf2 fun k hk _ h => hS k hk h.1) hB HOK.out.2.2.2.1).mono ?_
    rintro e w3 ⟨rfl, hP3, hf3⟩
    exact ⟨0, rfl, ⟨rfl, _, hs2, hP3⟩, hf3⟩
  rintro e w4 ⟨r, w3, rfl, ⟨rfl, s, hs, hP3⟩, hf4, hf3⟩
  go_wp2
  go_ret
  refine ⟨rfl, (hP3.fr hf4 (fun k hk (e : k = W1.heap.size) => by omega)).mono fun k hk => hk.elim (fun h => .inl h.1) (fun h => .inr (by omega)), ?_⟩
  exact (hf1.nil.then (hf3.mono fun k hk => hk.1)).trans hf4 (fun k hk => .inr (by omega))
end Go.Proofs.YtgoghmblfdlnbaaGreat
end

section
/- platter's settle, Sync, Crash. Conditions: the platter is a block of the program's own. -/
set_option linter.unusedSimpArgs false
set_option linter.unusedVariables false
namespace Go.Proofs.YtgoghmblfdlnbaaGreat
open Go.RowKit

/-- What is brought to the platter. -/
def stepB (ca : List (Nat × List Nat)) (kept : Nat → Bool) (bl : List (List Nat)) (j : Nat) : List (List Nat) :=
  match ca[j]? with
  | some q => if kept j then bl.set q.1 q.2 else bl
  | none => bl
def setB (ca : List (Nat × List Nat)) (kept : Nat → Bool) (bl : List (List Nat)) (i : Nat) : List (List Nat) := (List.range i).foldl (stepB ca kept) bl
theorem setB_succ (ca : List (Nat × List Nat)) (kept : Nat → Bool) (bl : List (List Nat)) (i : Nat) : setB ca kept bl (i + 1) = stepB ca kept (setB ca kept bl i) i := by simp [setB, List.range_succ]
theorem stepB_len (ca : List (Nat × List Nat)) (kept : Nat → Bool) (bl : List (List Nat)) (j : Nat) : (stepB ca kept bl j).length = bl.length := by
  unfold stepB
  split
  · split <;> simp
  · rfl
theorem setB_len (ca : List (Nat × List Nat)) (kept : Nat → Bool) (bl : List (List Nat)) (i : Nat) : (setB ca kept bl i).length = bl.length := by
  induction i with
  | zero => rfl
  | succ i ih => rw [setB_succ, stepB_len, ih]
def Pl.settle (p : Pl) (kept : Nat → Bool) : Pl := { p with bl := setB p.ca kept p.bl p.ca.length, ca := [] }

set_option maxHeartbeats 3200000 in
theorem psettle_ok (K : Nat) (caps : Array Value) (T : Nat → Prop) (pb : Nat) (p : Pl) (kept : Nat → Bool) (w : World) (h : IsP w T pb p) (hok : 0 < p.bl.length ∧ p.ca.length ≤ 1000000 ∧ ∀ q ∈ p.ca, q.1 < p.bl.length) (hT : ∀ k, T k → k < w.heap.size)
    (hK : ∀ args w, (callFunc K args).run Tryz.prog w = .ok (.enter K args) w)
    (hF : ∀ w1 (i : Nat), Fr T w w1 → i < p.ca.length → Calls Tryz.prog K (#[.int .i64 (i : Int)] ++ caps) w1 fun e w2 => e = .returned (.bool (kept i)) ∧ w1 = w2) :
    Calls Tryz.prog 52 #[.pointer (some ⟨pb, 0, none⟩), .func (.func K) #[] caps] w fun e w' => e = .returned (.tuple #[]) ∧ IsP w' T pb (p.settle kept) ∧ Fr T w w' := by
  have HF := hid hF; clear hF
  have HOK := hid hok; clear hok
  obtain ⟨g0, vb, vc, vf, g1, ⟨bs0, g2, g2'⟩, ⟨cv, g3, g3'⟩, g4⟩ := h
  obtain ⟨Ab, cb, rfl⟩ := g2.slice
  obtain ⟨Ac, cc, rfl⟩ := g3.slice
  have hcl : cv.length = p.ca.length := by have := g3.length; rw [flatW_length] at this; omega
  have hc1 : w.cell? ⟨pb, 1, none⟩ = some (.slice Ac p.ca.length cc) := g1.cell 1
  have hca := HOK.out.2.1
  have hne1 : (Value.slice Ab p.bl.length cb).ownBlock ≠ some pb := g2.apart_blk g1 (by decide)
  have hne2 : ∀ k, (Value.slice Ab p.bl.length cb).ownBlock = some k → (Value.slice Ac p.ca.length cc).ownBlock ≠ some k := g2.apart g3 (by decide)
  go_enter Tryz.func52, Tryz.ntmps52
  go_wp2_with fail
  go_loopw [11] (fun v11 wr => ∃ (i : Nat) (bs : List Value), v11 = .int .i64 i ∧ i ≤ p.ca.length ∧ Fr (fun k => (Value.slice Ab p.bl.length cb).ownBlock = some k) w wr ∧ Row wr T 30 1 (.slice Ab p.bl.length cb) p.bl.length bs ∧
      ∀ (j : Nat) x, (setB p.ca kept p.bl i)[j]? = some x → ∃ v, bs[j]? = some v ∧ Dat w T v x) (fun v11 _ => p.ca.length - (intOf v11).toNat)
  case atStart => exact ⟨0, bs0, rfl, by omega, Fr.refl _ _, g2, g2'⟩
  case round =>
    obtain ⟨i, bs, rfl, hi, hfr, hR, hD⟩ := hrel
    have HD := hid hD; clear hD
    have g1r := g1.fr hfr hne1
    have hc0 : wr.cell? ⟨pb, 0, none⟩ = some (.slice Ab p.bl.length cb) := g1r.cell 0
    by_cases hlt : i < p.ca.length
    · obtain ⟨gc, capc, hgc, hTc, hltc⟩ := g3.form (by omega)
      injection hgc with hgc1 _ hgc2
      subst hgc1; subst hgc2
      have hpi : p.ca[i]? = some p.ca[i] := List.getElem?_eq_getElem hlt
      have hnb : (p.ca[i]).1 < p.bl.length := HOK.out.2.2 _ (List.getElem_mem hlt)
      generalize p.ca[i] = q at *
      obtain ⟨n, x⟩ := q
      obtain ⟨v, hcv, hdat⟩ := g3' i n x hpi
      obtain ⟨f1, f2⟩ := flatW_at cv i n v hcv
      have hd0 : wr.cell? ⟨gc, i * 2, none⟩ = some (.int .i64 (n : Int)) := by rw [Nat.mul_comm]; exact hfr.cell (g3.cell f1) (fun hh => hne2 _ hh rfl)
      have hd1 : wr.cell? ⟨gc, i * 2 + 1, none⟩ = some v := by rw [Nat.mul_comm]; exact hfr.cell (g3.cell f2) (fun hh => hne2 _ hh rfl)
      have Hpi := hid hpi; clear hpi f1 f2 hcv
      obtain ⟨_, _, _, _, _, hv9⟩ : Dat w T v x ∧ True ∧ True ∧ True ∧ True ∧ ∃ Av cv', v = .slice Av 64 cv' := ⟨hdat, trivial, trivial, trivial, trivial, let ⟨_, A, c, e, _⟩ := hdat.2.2; ⟨A, c, e⟩⟩
      obtain ⟨Av, kv, rfl⟩ := hv9
      obtain ⟨gb, capb, hgb, hTb, hltb⟩ := hR.form HOK.out.1
      injection hgb with hgb1 _ hgb2
      subst hgb1; subst hgb2
      have hbl : bs.length = p.bl.length := by have := hR.length; rwa [Nat.mul_one] at this
      have hbn : bs[n]? = some bs[n] := List.getElem?_eq_getElem (by omega)
      go_wp2_with fail
      obtain ⟨W2, hW2⟩ : ∃ W2, W2 = wr.alloc (.cells #[.int .i64 (n : Int), .slice Av 64 kv] 124) := ⟨_, rfl⟩
      have hx2 : Blk W2 wr.heap.size #[.int .i64 (n : Int), .slice Av 64 kv] 124 := by rw [hW2]; exact Blk.new _ _ _
      have hf2 : Fr Nil wr W2 := by rw [hW2]; exact (Fr.refl _ _).alloc _
      rw [← hW2]
      clear hW2
      have hfT : Fr T w W2 := (hfr.mono fun k hk => g2.2 k hk).then hf2.nil
      have hf02 : Fr (fun k => (Value.slice (some ⟨gb, 0, none⟩) p.bl.length cb).ownBlock = some k) w W2 := hfr.then hf2.nil
      refine (HF.out W2 i hfT hlt).mono ?_
      rintro e w3 ⟨rfl, rfl⟩
      have hR2 := hR.frS hf2 fun _ _ h => h
      cases hk : kept i with
      | false =>
        go_wp2
        go_roundw
        case rel =>
          refine ⟨i + 1, bs, by go_num, by omega, hf02, hR2, ?_⟩
          rw [setB_succ]
          unfold stepB
          rw [Hpi.out, hk]
          exact HD.out
        case measure => simp [intOf]; omega
      | true =>
        have e0 : W2.cell? ⟨wr.heap.size, 0, none⟩ = some (.int .i64 (n : Int)) := hx2.cell 0
        have e1 : W2.cell? ⟨wr.heap.size, 1, none⟩ = some (.slice Av 64 kv) := hx2.cell 1
        have e2 : W2.cell? ⟨pb, 0, none⟩ = some (.slice (some ⟨gb, 0, none⟩) p.bl.length cb) := (g1r.fr hf2 fun h => h).cell 0
        have e3 : W2.cell? ⟨gb, n, none⟩ = some bs[n] := hR2.cell hbn
        have e4 : W2.frozen? ⟨gb, n, none⟩ = false := hR2.frozen n
        go_wp2_with fail
        go_region
        go_wp2
        go_roundw
        case rel =>
          refine ⟨i + 1, bs.set n (.slice Av 64 kv), by go_num, by omega, (hf02.setCell (a := ⟨gb, n, none⟩) (.inl rfl) _).drew, (hR2.store n _).drew, ?_⟩
          rw [setB_succ]
          unfold stepB
          rw [Hpi.out, hk]
          simp only [if_true]
          intro j y hj
          rw [List.getElem?_set] at hj
          by_cases hjn : n = j
          · subst hjn
            rw [if_pos rfl] at hj
            split at hj
            · injection hj with hj
              subst hj
              exact ⟨_, by rw [List.getElem?_set, if_pos rfl, if_pos (by omega)], hdat⟩
            · cases hj
          · rw [if_neg hjn] at hj
            obtain ⟨u, hu, hd⟩ := HD.out j y hj
            exact ⟨u, by rw [List.getElem?_set, if_neg hjn]; exact hu, hd⟩
        case measure => simp [intOf]; omega
    · have hic : i = p.ca.length := by omega
      have Hic := hid hic; clear hic
      have g1w := g1r
      have hz1 : wr.frozen? ⟨pb, 1, none⟩ = false := g1r.frozen 1
      have hc1r : wr.cell? ⟨pb, 1, none⟩ = some (.slice Ac p.ca.length cc) := g1r.cell 1
      go_wp2
      go_end0
      have hfp : Fr (fun k => k = pb) wr (wr.setCell ⟨pb, 1, none⟩ (.slice none 0 0)) := (Fr.refl (fun k => k = pb) wr).setCell (a := ⟨pb, 1, none⟩) (.inl rfl) _
      have hY : ∀ k, T k → k < w.heap.size → (Value.slice Ab p.bl.length cb).ownBlock = some k → Typ w k 30 := fun k _ _ hk => g2.own_typ hk
      refine ⟨rfl, IsP.own (p := p.settle kept) g0 g1r hfp (g1r.set 1 _) ?_ (CacOk.nil _ _) (VT.fr g4 hfr hY (by decide)), (hfr.mono fun k hk => g2.2 k hk).then (hfp.mono fun k hk => by rw [hk]; exact g0)⟩
      refine ⟨bs, ?_, ?_⟩
      · show Row wr T _ 1 _ (setB p.ca kept p.bl p.ca.length).length bs
        rw [setB_len]; exact hR
      · intro j x hx
        obtain ⟨v, hv, hd⟩ := HD.out j x (by rw [Hic.out]; exact hx)
        exact ⟨v, hv, Dat.fr hd hfr hY (by decide)⟩

theorem call_true (args : Array Value) (w : World) : (callFunc 53 args).run Tryz.prog w = .ok (.enter 53 args) w := by kernel_rfl
theorem call_sync1 (args : Array Value) (w : World) : (callFunc 51 args).run Tryz.prog w = .ok (.enter 51 args) w := by kernel_rfl

theorem true_ok (i : Nat) (w : World) : Calls Tryz.prog 53 (#[.int .i64 (i : Int)] ++ #[]) w fun e w' => e = .returned (.bool true) ∧ w = w' := by
  show Calls Tryz.prog 53 #[.int .i64 (i : Int)] w _
  go_enter Tryz.func53, Tryz.ntmps53
  go_wp2
  go_ret
  exact ⟨rfl, rfl⟩

theorem sync1_ok (T : Nat → Prop) (pb : Nat) (p : Pl) (px : Nat) (w : World) (h : IsP w T pb p) (hok : 0 < p.bl.length ∧ p.ca.length ≤ 1000000 ∧ ∀ q ∈ p.ca, q.1 < p.bl.length) (hT : ∀ k, T k → k < w.heap.size) (h1 : Blk w px #[.pointer (some ⟨pb, 0, none⟩)] 32) :
    Calls Tryz.prog 51 #[.pointer (some ⟨px, 0, none⟩)] w fun e w' => e = .returned (.int .i64 0) ∧ IsP w' T pb (p.settle fun _ => true) ∧ Fr T w w' := by
  have c1 : w.cell? ⟨px, 0, none⟩ = some (.pointer (some ⟨pb, 0, none⟩)) := h1.cell 0
  go_enter Tryz.func51, Tryz.ntmps51
  go_wp2_with fail
  refine (psettle_ok 53 #[] T pb p (fun _ => true) w h hok hT call_true (fun w1 i _ _ => true_ok i w1)).mono ?_
  rintro e w2 ⟨rfl, hP2, hf2⟩
  go_wp2
  go_ret
  exact ⟨rfl, hP2, hf2⟩

theorem sync_ok (T : Nat → Prop) (pb : Nat) (p : Pl) (w : World) (h : IsP w T pb p) (hok : p.ok) (hno : ¬ p.bad 3) :
    Calls Tryz.prog 23 #[.pointer (some ⟨pb, 0, none⟩)] w fun e w' => e = .returned (.int .i64 0) ∧ IsP w' T pb ((p.ask 3).settle fun _ => true) ∧ Fr T w w' := by
  have HOK := hid hok; clear hok
  have HNO := hid hno; clear hno
  go_enter Tryz.func23, Tryz.ntmps23
  go_wp2_with fail
  obtain ⟨W1, hW1⟩ : ∃ W1, W1 = w.alloc (.cells #[.pointer (some ⟨pb, 0, none⟩)] 32) := ⟨_, rfl⟩
  have hf1 : Fr Nil w W1 := by rw [hW1]; exact (Fr.refl _ _).alloc _
  have hs1 : W1.heap.size = w.heap.size + 1 := by rw [hW1]; simp
  have b1 : Blk W1 w.heap.size #[.pointer (some ⟨pb, 0, none⟩)] 32 := by rw [hW1]; exact Blk.new _ _ _
  rw [← hW1]
  clear hW1
  refine (tried_ok 51 _ (fun k => T k ∧ k < w.heap.size) pb p 3 (.inr (.inr rfl)) ⟨(HOK.out.1 3).1, (HOK.out.1 3).2, HOK.out.2.1, HOK.out.2.2.1⟩ W1 (h.bd.fr hf1 fun _ _ h => h) (fun k hk => by omega) HNO.out call_sync1
    (fun r w3 => r = 0 ∧ IsP w3 (fun k => T k ∧ k < w.heap.size) pb ((p.ask 3).settle fun _ => true)) ?_).mono ?_
  · intro w2 hf2 hs2 hP2
    refine (sync1_ok (fun k => T k ∧ k < w.heap.size) pb (p.ask 3) _ w2 hP2 ⟨HOK.out.2.2.1, HOK.out.2.2.2.1, HOK.out.2.2.2.2⟩ (fun k hk => by omega) (b1.fr hf2 fun h => by omega)).mono ?_
    rintro e w3 ⟨rfl, hP3, hf3⟩
    exact ⟨0, rfl, ⟨rfl, hP3⟩, hf3⟩
  rintro e w4 ⟨r, w3, rfl, ⟨rfl, hP3⟩, hf4, hf3⟩
  go_wp2
  go_ret
  refine ⟨rfl, (hP3.fr hf4 (fun k hk (e : k = W1.heap.size) => by omega)).mono fun k hk => hk.1, ?_⟩
  exact (hf1.nil.then (hf3.mono fun k hk => hk.1)).trans hf4 (fun k hk => .inr (by omega))
theorem sync_fault (T : Nat → Prop) (pb : Nat) (p : Pl) (w : World) (h : IsP w T pb p) (hok : p.ok) (hbad : p.bad 3) :
    Calls Tryz.prog 23 #[.pointer (some ⟨pb, 0, none⟩)] w fun e w' => e = .returned (.int .i64 6) ∧ IsP w' T pb (p.ask 3) ∧ Fr (fun k => k = pb) w w' := by
  have HOK := hid hok; clear hok
  have HB := hid hbad; clear hbad
  go_enter Tryz.func23, Tryz.ntmps23
  go_wp2_with fail
  obtain ⟨W1, hW1⟩ : ∃ W1, W1 = w.alloc (.cells #[.pointer (some ⟨pb, 0, none⟩)] 32) := ⟨_, rfl⟩
  have hf1 : Fr Nil w W1 := by rw [hW1]; exact (Fr.refl _ _).alloc _
  have hs1 : W1.heap.size = w.heap.size + 1 := by rw [hW1]; simp
  rw [← hW1]
  clear hW1
  refine (tried_fault 51 _ (fun k => T k ∧ k < w.heap.size) pb p 3 (.inr (.inr rfl)) ⟨(HOK.out.1 3).1, (HOK.out.1 3).2, HOK.out.2.1, HOK.out.2.2.1⟩ W1 (h.bd.fr hf1 fun _ _ h => h) (fun k hk => by omega) HB.out).mono ?_
  rintro e w2 ⟨rfl, hP2, hf2⟩
  go_wp2
  go_ret
  exact ⟨rfl, hP2.mono fun k hk => hk.1, hf1.nil.then hf2⟩

/-- Which writes a crash keeps. -/
def keptOf (keep : List Bool) (i : Nat) : Bool := keep.getD i false
def pbools (l : List Bool) : List Value := l.map Value.bool


def Pl.crash (p : Pl) (keep : List Bool) : Pl := { p.settle (keptOf keep) with fa := [] }

end Go.Proofs.YtgoghmblfdlnbaaGreat
end

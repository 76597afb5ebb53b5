/- platter's settle, Sync, Crash. Conditions: the platter is a block of the program's own. -/
import Derived.Test.YtidjmjfoheagmaaQPlatO
set_option linter.unusedSimpArgs false
set_option linter.unusedVariables false
namespace Go.Proofs.Ytidjmjfoheagmaa
open Go.RowKit

/-- What is brought to the platter. -/
def stepB (ca : List (Nat × List Nat)) (kept : Nat → Bool) (bl : List (List Nat)) (j : Nat) : List (List Nat) :=
  match ca[j]? with
  | some q => if kept j then bl.set q.1 q.2 else bl
  | none => bl
def setB (ca : List (Nat × List Nat)) (kept : Nat → Bool) (bl : List (List Nat)) (i : Nat) : List (List Nat) := (List.range i).foldl (stepB ca kept) bl
theorem setB_succ (ca : List (Nat × List Nat)) (kept : Nat → Bool) (bl : List (List Nat)) (i : Nat) : setB ca kept bl (i + 1) = stepB ca kept (setB ca kept bl i) i := by simp [setB, List.range_succ]
theorem stepB_len (ca : List (Nat × List Nat)) (kept : Nat → Bool) (bl : List (List Nat)) (j : Nat) : (stepB ca kept bl j).length = bl.length := by
  unfold stepB
  split
  · split <;> simp
  · rfl
theorem setB_len (ca : List (Nat × List Nat)) (kept : Nat → Bool) (bl : List (List Nat)) (i : Nat) : (setB ca kept bl i).length = bl.length := by
  induction i with
  | zero => rfl
  | succ i ih => rw [setB_succ, stepB_len, ih]
def Pl.settle (p : Pl) (kept : Nat → Bool) : Pl := { p with bl := setB p.ca kept p.bl p.ca.length, ca := [] }

set_option maxHeartbeats 3200000 in
theorem settle_ok (K : Nat) (caps : Array Value) (T : Nat → Prop) (pb : Nat) (p : Pl) (kept : Nat → Bool) (w : World) (h : IsP w T pb p) (hok : 0 < p.bl.length ∧ p.ca.length ≤ 1000000 ∧ ∀ q ∈ p.ca, q.1 < p.bl.length) (hT : ∀ k, T k → k < w.heap.size)
    (hK : ∀ args w, (callFunc K args).run Try.prog w = .ok (.enter K args) w)
    (hF : ∀ w1 (i : Nat), Fr T w w1 → i < p.ca.length → Calls Try.prog K (#[.int .i64 (i : Int)] ++ caps) w1 fun e w2 => e = .returned (.bool (kept i)) ∧ w1 = w2) :
    Calls Try.prog 31 #[.pointer (some ⟨pb, 0, none⟩), .func (.func K) #[] caps] w fun e w' => e = .returned (.tuple #[]) ∧ IsP w' T pb (p.settle kept) ∧ Fr T w w' := by
  have HF := hid hF; clear hF
  have HOK := hid hok; clear hok
  obtain ⟨g0, vb, vc, vf, g1, ⟨bs0, g2, g2'⟩, ⟨cv, g3, g3'⟩, g4⟩ := h
  obtain ⟨Ab, cb, rfl⟩ := g2.slice
  obtain ⟨Ac, cc, rfl⟩ := g3.slice
  have hcl : cv.length = p.ca.length := by have := g3.length; rw [flatW_length] at this; omega
  have hc1 : w.cell? ⟨pb, 1, none⟩ = some (.slice Ac p.ca.length cc) := g1.cell 1
  have hca := HOK.out.2.1
  have hne1 : (Value.slice Ab p.bl.length cb).ownBlock ≠ some pb := g2.apart_blk g1 (by decide)
  have hne2 : ∀ k, (Value.slice Ab p.bl.length cb).ownBlock = some k → (Value.slice Ac p.ca.length cc).ownBlock ≠ some k := g2.apart g3 (by decide)
  go_enter Try.func31, Try.ntmps31
  go_wp2_with fail
  go_loopw [11] (fun v11 wr => ∃ (i : Nat) (bs : List Value), v11 = .int .i64 i ∧ i ≤ p.ca.length ∧ Fr (fun k => (Value.slice Ab p.bl.length cb).ownBlock = some k) w wr ∧ Row wr T 22 1 (.slice Ab p.bl.length cb) p.bl.length bs ∧
      ∀ (j : Nat) x, (setB p.ca kept p.bl i)[j]? = some x → ∃ v, bs[j]? = some v ∧ Dat w T v x) (fun v11 _ => p.ca.length - (intOf v11).toNat)
  case atStart => exact ⟨0, bs0, rfl, by omega, Fr.refl _ _, g2, g2'⟩
  case round =>
    obtain ⟨i, bs, rfl, hi, hfr, hR, hD⟩ := hrel
    have HD := hid hD; clear hD
    have g1r := g1.fr hfr hne1
    have hc0 : wr.cell? ⟨pb, 0, none⟩ = some (.slice Ab p.bl.length cb) := g1r.cell 0
    by_cases hlt : i < p.ca.length
    · obtain ⟨gc, capc, hgc, hTc, hltc⟩ := g3.form (by omega)
      injection hgc with hgc1 _ hgc2
      subst hgc1; subst hgc2
      have hpi : p.ca[i]? = some p.ca[i] := List.getElem?_eq_getElem hlt
      have hnb : (p.ca[i]).1 < p.bl.length := HOK.out.2.2 _ (List.getElem_mem hlt)
      generalize p.ca[i] = q at *
      obtain ⟨n, x⟩ := q
      obtain ⟨v, hcv, hdat⟩ := g3' i n x hpi
      obtain ⟨f1, f2⟩ := flatW_at cv i n v hcv
      have hd0 : wr.cell? ⟨gc, i * 2, none⟩ = some (.int .i64 (n : Int)) := by rw [Nat.mul_comm]; exact hfr.cell (g3.cell f1) (fun hh => hne2 _ hh rfl)
      have hd1 : wr.cell? ⟨gc, i * 2 + 1, none⟩ = some v := by rw [Nat.mul_comm]; exact hfr.cell (g3.cell f2) (fun hh => hne2 _ hh rfl)
      have Hpi := hid hpi; clear hpi f1 f2 hcv
      obtain ⟨_, _, _, _, _, hv9⟩ : Dat w T v x ∧ True ∧ True ∧ True ∧ True ∧ ∃ Av cv', v = .slice Av 64 cv' := ⟨hdat, trivial, trivial, trivial, trivial, let ⟨_, A, c, e, _⟩ := hdat.2.2; ⟨A, c, e⟩⟩
      obtain ⟨Av, kv, rfl⟩ := hv9
      obtain ⟨gb, capb, hgb, hTb, hltb⟩ := hR.form HOK.out.1
      injection hgb with hgb1 _ hgb2
      subst hgb1; subst hgb2
      have hbl : bs.length = p.bl.length := by have := hR.length; rwa [Nat.mul_one] at this
      have hbn : bs[n]? = some bs[n] := List.getElem?_eq_getElem (by omega)
      go_wp2_with fail
      obtain ⟨W2, hW2⟩ : ∃ W2, W2 = wr.alloc (.cells #[.int .i64 (n : Int), .slice Av 64 kv] 74) := ⟨_, rfl⟩
      have hx2 : Blk W2 wr.heap.size #[.int .i64 (n : Int), .slice Av 64 kv] 74 := by rw [hW2]; exact Blk.new _ _ _
      have hf2 : Fr Nil wr W2 := by rw [hW2]; exact (Fr.refl _ _).alloc _
      rw [← hW2]
      clear hW2
      have hfT : Fr T w W2 := (hfr.mono fun k hk => g2.2 k hk).then hf2.nil
      have hf02 : Fr (fun k => (Value.slice (some ⟨gb, 0, none⟩) p.bl.length cb).ownBlock = some k) w W2 := hfr.then hf2.nil
      refine (HF.out W2 i hfT hlt).mono ?_
      rintro e w3 ⟨rfl, rfl⟩
      have hR2 := hR.frS hf2 fun _ _ h => h
      cases hk : kept i with
      | false =>
        go_wp2
        go_roundw
        case rel =>
          refine ⟨i + 1, bs, by go_num, by omega, hf02, hR2, ?_⟩
          rw [setB_succ]
          unfold stepB
          rw [Hpi.out, hk]
          exact HD.out
        case measure => simp [intOf]; omega
      | true =>
        have e0 : W2.cell? ⟨wr.heap.size, 0, none⟩ = some (.int .i64 (n : Int)) := hx2.cell 0
        have e1 : W2.cell? ⟨wr.heap.size, 1, none⟩ = some (.slice Av 64 kv) := hx2.cell 1
        have e2 : W2.cell? ⟨pb, 0, none⟩ = some (.slice (some ⟨gb, 0, none⟩) p.bl.length cb) := (g1r.fr hf2 fun h => h).cell 0
        have e3 : W2.cell? ⟨gb, n, none⟩ = some bs[n] := hR2.cell hbn
        have e4 : W2.frozen? ⟨gb, n, none⟩ = false := hR2.frozen n
        go_wp2_with fail
        go_region
        go_wp2
        go_roundw
        case rel =>
          refine ⟨i + 1, bs.set n (.slice Av 64 kv), by go_num, by omega, (hf02.setCell (a := ⟨gb, n, none⟩) (.inl rfl) _).drew, (hR2.store n _).drew, ?_⟩
          rw [setB_succ]
          unfold stepB
          rw [Hpi.out, hk]
          simp only [if_true]
          intro j y hj
          rw [List.getElem?_set] at hj
          by_cases hjn : n = j
          · subst hjn
            rw [if_pos rfl] at hj
            split at hj
            · injection hj with hj
              subst hj
              exact ⟨_, by rw [List.getElem?_set, if_pos rfl, if_pos (by omega)], hdat⟩
            · cases hj
          · rw [if_neg hjn] at hj
            obtain ⟨u, hu, hd⟩ := HD.out j y hj
            exact ⟨u, by rw [List.getElem?_set, if_neg hjn]; exact hu, hd⟩
        case measure => simp [intOf]; omega
    · have hic : i = p.ca.length := by omega
      have Hic := hid hic; clear hic
      have g1w := g1r
      have hz1 : wr.frozen? ⟨pb, 1, none⟩ = false := g1r.frozen 1
      have hc1r : wr.cell? ⟨pb, 1, none⟩ = some (.slice Ac p.ca.length cc) := g1r.cell 1
      go_wp2
      go_end0
      have hfp : Fr (fun k => k = pb) wr (wr.setCell ⟨pb, 1, none⟩ (.slice none 0 0)) := (Fr.refl (fun k => k = pb) wr).setCell (a := ⟨pb, 1, none⟩) (.inl rfl) _
      have hY : ∀ k, True → k < w.heap.size → (Value.slice Ab p.bl.length cb).ownBlock = some k → Typ w k 22 := fun k _ _ hk => g2.own_typ hk
      refine ⟨rfl, IsP.own (p := p.settle kept) g0 g1r hfp (g1r.set 1 _) ?_ (CacOk.nil _ _) (VT.fr g4 hfr hY (by decide)), (hfr.mono fun k hk => g2.2 k hk).then (hfp.mono fun k hk => by rw [hk]; exact g0)⟩
      refine ⟨bs, ?_, ?_⟩
      · show Row wr T _ 1 _ (setB p.ca kept p.bl p.ca.length).length bs
        rw [setB_len]; exact hR
      · intro j x hx
        obtain ⟨v, hv, hd⟩ := HD.out j x (by rw [Hic.out]; exact hx)
        exact ⟨v, hv, Dat.fr hd hfr hY (by decide)⟩

theorem call_true (args : Array Value) (w : World) : (callFunc 34 args).run Try.prog w = .ok (.enter 34 args) w := by kernel_rfl
theorem call_sync1 (args : Array Value) (w : World) : (callFunc 33 args).run Try.prog w = .ok (.enter 33 args) w := by kernel_rfl
theorem call_crash1 (args : Array Value) (w : World) : (callFunc 32 args).run Try.prog w = .ok (.enter 32 args) w := by kernel_rfl

theorem true_ok (i : Nat) (w : World) : Calls Try.prog 34 (#[.int .i64 (i : Int)] ++ #[]) w fun e w' => e = .returned (.bool true) ∧ w = w' := by
  show Calls Try.prog 34 #[.int .i64 (i : Int)] w _
  go_enter Try.func34, Try.ntmps34
  go_wp2
  go_ret
  exact ⟨rfl, rfl⟩

theorem sync1_ok (T : Nat → Prop) (pb : Nat) (p : Pl) (px : Nat) (w : World) (h : IsP w T pb p) (hok : 0 < p.bl.length ∧ p.ca.length ≤ 1000000 ∧ ∀ q ∈ p.ca, q.1 < p.bl.length) (hT : ∀ k, T k → k < w.heap.size) (h1 : Blk w px #[.pointer (some ⟨pb, 0, none⟩)] 25) :
    Calls Try.prog 33 #[.pointer (some ⟨px, 0, none⟩)] w fun e w' => e = .returned (.int .i64 0) ∧ IsP w' T pb (p.settle fun _ => true) ∧ Fr T w w' := by
  have c1 : w.cell? ⟨px, 0, none⟩ = some (.pointer (some ⟨pb, 0, none⟩)) := h1.cell 0
  go_enter Try.func33, Try.ntmps33
  go_wp2_with fail
  refine (settle_ok 34 #[] T pb p (fun _ => true) w h hok hT call_true (fun w1 i _ _ => true_ok i w1)).mono ?_
  rintro e w2 ⟨rfl, hP2, hf2⟩
  go_wp2
  go_ret
  exact ⟨rfl, hP2, hf2⟩

theorem sync_ok (T : Nat → Prop) (pb : Nat) (p : Pl) (w : World) (h : IsP w T pb p) (hok : p.ok) (hno : ¬ p.bad 3) :
    Calls Try.prog 16 #[.pointer (some ⟨pb, 0, none⟩)] w fun e w' => e = .returned (.int .i64 0) ∧ IsP w' T pb ((p.ask 3).settle fun _ => true) ∧ Fr T w w' := by
  have HOK := hid hok; clear hok
  have HNO := hid hno; clear hno
  go_enter Try.func16, Try.ntmps16
  go_wp2_with fail
  obtain ⟨W1, hW1⟩ : ∃ W1, W1 = w.alloc (.cells #[.pointer (some ⟨pb, 0, none⟩)] 25) := ⟨_, rfl⟩
  have hf1 : Fr Nil w W1 := by rw [hW1]; exact (Fr.refl _ _).alloc _
  have hs1 : W1.heap.size = w.heap.size + 1 := by rw [hW1]; simp
  have b1 : Blk W1 w.heap.size #[.pointer (some ⟨pb, 0, none⟩)] 25 := by rw [hW1]; exact Blk.new _ _ _
  rw [← hW1]
  clear hW1
  refine (tried_ok 33 _ (fun k => T k ∧ k < w.heap.size) pb p 3 (.inr (.inr rfl)) ⟨(HOK.out.1 3).1, (HOK.out.1 3).2, HOK.out.2.1, HOK.out.2.2.1⟩ W1 (h.bd.fr hf1 fun _ _ h => h) (fun k hk => by omega) HNO.out call_sync1
    (fun r w3 => r = 0 ∧ IsP w3 (fun k => T k ∧ k < w.heap.size) pb ((p.ask 3).settle fun _ => true)) ?_).mono ?_
  · intro w2 hf2 hs2 hP2
    refine (sync1_ok (fun k => T k ∧ k < w.heap.size) pb (p.ask 3) _ w2 hP2 ⟨HOK.out.2.2.1, HOK.out.2.2.2.1, HOK.out.2.2.2.2⟩ (fun k hk => by omega) (b1.fr hf2 fun h => by omega)).mono ?_
    rintro e w3 ⟨rfl, hP3, hf3⟩
    exact ⟨0, rfl, ⟨rfl, hP3⟩, hf3⟩
  rintro e w4 ⟨r, w3, rfl, ⟨rfl, hP3⟩, hf4, hf3, hty⟩
  go_wp2
  go_ret
  refine ⟨rfl, (hP3.fr hf4 (fun k hk (e : k = W1.heap.size) => by omega) (fun k (hk : k = W1.heap.size) _ => by rw [hk]; exact ⟨fun h => absurd (hty.one h) (by decide), fun h => absurd (hty.one h) (by decide)⟩)).mono fun k hk => hk.1, ?_⟩
  exact (hf1.nil.then (hf3.mono fun k hk => hk.1)).trans hf4 (fun k hk => .inr (by omega))
theorem sync_fault (T : Nat → Prop) (pb : Nat) (p : Pl) (w : World) (h : IsP w T pb p) (hok : p.ok) (hbad : p.bad 3) :
    Calls Try.prog 16 #[.pointer (some ⟨pb, 0, none⟩)] w fun e w' => e = .returned (.int .i64 6) ∧ IsP w' T pb (p.ask 3) ∧ Fr (fun k => k = pb) w w' := by
  have HOK := hid hok; clear hok
  have HB := hid hbad; clear hbad
  go_enter Try.func16, Try.ntmps16
  go_wp2_with fail
  obtain ⟨W1, hW1⟩ : ∃ W1, W1 = w.alloc (.cells #[.pointer (some ⟨pb, 0, none⟩)] 25) := ⟨_, rfl⟩
  have hf1 : Fr Nil w W1 := by rw [hW1]; exact (Fr.refl _ _).alloc _
  have hs1 : W1.heap.size = w.heap.size + 1 := by rw [hW1]; simp
  rw [← hW1]
  clear hW1
  refine (tried_fault 33 _ (fun k => T k ∧ k < w.heap.size) pb p 3 (.inr (.inr rfl)) ⟨(HOK.out.1 3).1, (HOK.out.1 3).2, HOK.out.2.1, HOK.out.2.2.1⟩ W1 (h.bd.fr hf1 fun _ _ h => h) (fun k hk => by omega) HB.out).mono ?_
  rintro e w2 ⟨rfl, hP2, hf2⟩
  go_wp2
  go_ret
  exact ⟨rfl, hP2.mono fun k hk => hk.1, hf1.nil.then hf2⟩

/-- Which writes a crash keeps. -/
def keptOf (keep : List Bool) (i : Nat) : Bool := keep.getD i false
def bools (l : List Bool) : List Value := l.map Value.bool

theorem crash1_ok (S : Nat → Prop) (i kx : Nat) (m : Nat) (keep : List Bool) (A : Option Addr) (c : Nat) (w : World) (hm : m ≤ 1000000000) (hi : i ≤ 1000000000) (h1 : Blk w kx #[.slice A m c] 23) (hv : View w S 1 (.slice A m c) m (bools keep)) :
    Calls Try.prog 32 (#[.int .i64 (i : Int)] ++ #[.pointer (some ⟨kx, 0, none⟩)]) w fun e w' => e = .returned (.bool (keptOf keep i)) ∧ w = w' := by
  show Calls Try.prog 32 #[.int .i64 (i : Int), .pointer (some ⟨kx, 0, none⟩)] w _
  have c1 : w.cell? ⟨kx, 0, none⟩ = some (.slice A m c) := h1.cell 0
  have hlen : keep.length = m := by have := hv.length; simpa [bools] using this
  obtain ⟨_, A', c', hA, e1, e2, e3, e4, e5⟩ := hv
  injection hA with hA1 _ hA2
  subst hA1; subst hA2
  by_cases hlt : i < m
  · obtain ⟨b, o, rfl, -, -, h5⟩ := e5 (by omega)
    have hil : i < keep.length := by omega
    have hcell : w.cell? ⟨b, o + i, none⟩ = some (.bool keep[i]) := h5 i _ (by simp [bools, List.getElem?_eq_getElem hil])
    have hk : keptOf keep i = keep[i] := by simp [keptOf, List.getD, List.getElem?_eq_getElem hil]
    rw [hk]
    generalize keep[i] = b0 at *
    clear h5 e5 e4 e3 hk hlen
    go_enter Try.func32, Try.ntmps32
    go_wp2
    go_ret
    exact ⟨rfl, rfl⟩
  · have hk : keptOf keep i = false := by simp [keptOf, List.getD, List.getElem?_eq_none (show keep.length ≤ i by omega)]
    rw [hk]
    clear e5 e4 e3 hk hlen
    go_enter Try.func32, Try.ntmps32
    go_wp2
    go_ret
    exact ⟨rfl, rfl⟩

def Pl.crash (p : Pl) (keep : List Bool) : Pl := { p.settle (keptOf keep) with fa := [] }

theorem crash_ok (T S : Nat → Prop) (pb : Nat) (p : Pl) (m : Nat) (keep : List Bool) (v : Value) (w : World) (h : IsP w T pb p) (hok : p.ok) (hm : m ≤ 1000000000) (hv : View w S 1 v m (bools keep)) (hS : ∀ k, S k → ¬ T k) :
    Calls Try.prog 15 #[.pointer (some ⟨pb, 0, none⟩), v] w fun e w' => e = .returned (.tuple #[]) ∧ IsP w' T pb (p.crash keep) ∧ Fr T w w' := by
  obtain ⟨A, c, rfl⟩ : ∃ A c, v = .slice A m c := let ⟨_, A, c, e, _⟩ := hv; ⟨A, c, e⟩
  have HOK := hid hok; clear hok
  go_enter Try.func15, Try.ntmps15
  go_wp2_with fail
  obtain ⟨W1, hW1⟩ : ∃ W1, W1 = w.alloc (.cells #[.slice A m c] 23) := ⟨_, rfl⟩
  have hf1 : Fr Nil w W1 := by rw [hW1]; exact (Fr.refl _ _).alloc _
  have hs1 : W1.heap.size = w.heap.size + 1 := by rw [hW1]; simp
  have b1 : Blk W1 w.heap.size #[.slice A m c] 23 := by rw [hW1]; exact Blk.new _ _ _
  rw [← hW1]
  clear hW1
  refine (settle_ok 32 _ (fun k => T k ∧ k < w.heap.size) pb p (keptOf keep) W1 (h.bd.fr hf1 fun _ _ h => h) ⟨HOK.out.2.2.1, HOK.out.2.2.2.1, HOK.out.2.2.2.2⟩ (fun k hk => by omega) call_crash1 (fun w2 i hf2 hi => crash1_ok S i _ m keep A c w2 hm (by have := HOK.out.2.2.2.1; omega) (b1.fr hf2 fun h => by omega) ((hv.fr hf1 fun _ _ _ h => h).fr hf2 fun k hk _ h => hS k hk h.1))).mono ?_
  rintro e w2 ⟨rfl, ⟨g0, vb, vc, vf, g1, g2, g3, g4⟩, hf2⟩
  have hc : w2.cell? ⟨pb, 2, none⟩ = some vf := g1.cell 2
  have hz : w2.frozen? ⟨pb, 2, none⟩ = false := g1.frozen 2
  go_wp2
  go_end0
  have hf3 : Fr (fun k => k = pb) w2 (w2.setCell ⟨pb, 2, none⟩ (.slice none 0 0)) := (Fr.refl (fun k => k = pb) w2).setCell (a := ⟨pb, 2, none⟩) (.inl rfl) _
  refine ⟨rfl, (IsP.own (p := p.crash keep) g0 g1 hf3 (g1.set 2 _) g2 g3 (VT.nil _ _ _ _)).mono fun k hk => hk.1, (hf1.nil.then (hf2.mono fun k hk => hk.1)).then (hf3.mono fun k hk => by rw [hk]; exact h.1)⟩
end Go.Proofs.Ytidjmjfoheagmaa

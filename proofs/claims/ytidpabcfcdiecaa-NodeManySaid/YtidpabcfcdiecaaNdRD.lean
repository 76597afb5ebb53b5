/- The reference's Decode (chapter 13). -/
import Derived.Test.YtidpabcfcdiecaaNdRD1
import Derived.Test.YtidpabcfcdiecaaNdB
import Derived.Deep.Cut
set_option linter.unusedSimpArgs false
set_option linter.unusedVariables false
namespace Go.Proofs.Ytidpabcfcdiecaa
open Go.RowKit

/-! ### places and generations appended together -/
def Own (q : Ptr) (x : Nd) (k : Nat) : Prop := (Value.slice q.A1 x.ks.length q.c1).ownBlock = some k ∨ (Value.slice q.A2 x.ps.length q.c2).ownBlock = some k ∨ (Value.slice q.A3 x.gs.length q.c3).ownBlock = some k ∨ (Value.slice q.A4 x.ds.length q.c4).ownBlock = some k
section
variable {w w1 w2 : World} {B nb : Nat} {q : Ptr} {x : Nd} {TN TI TP TK : TypeId} {S1 : Nat → Prop} {A A' : Option Addr} {c c' : Nat} {z : Kd} {y : Int}
theorem Rws.lt (h : Rws w B q x TI TP TK) : ∀ k, Own q x k → k < w.heap.size := fun k hk => hk.elim (h.k.lt k) fun hk => hk.elim (h.p.lt k) fun hk => hk.elim (h.g.lt k) (h.d.lt k)
theorem Rws.fr_own (h : Rws w B q x TI TP TK) (hf : Fr S1 w w1) (hn : ∀ k, Own q x k → ¬ S1 k) : Rws w1 B q x TI TP TK :=
  ⟨h.k.fr hf fun k hk => hn k (.inl hk), h.p.fr hf fun k hk => hn k (.inr (.inl hk)), h.g.fr hf fun k hk => hn k (.inr (.inr (.inl hk))), h.d.fr hf fun k hk => hn k (.inr (.inr (.inr hk))), h.ap⟩
structure Mid (w : World) (B nb : Nat) (q : Ptr) (x : Nd) (TN TI TP TK : TypeId) (A : Option Addr) (c : Nat) (z : Kd) : Prop where
  blk : Blk w nb (ncells x q) TN
  k : Row w (fun b => B ≤ b) TI 1 (.slice q.A1 x.ks.length q.c1) x.ks.length (ints .i64 x.ks)
  p : Row w (fun b => B ≤ b) TP 3 (.slice A (x.ps.length + 1) c) (x.ps.length + 1) (tri x.ps ++ kcells z)
  g : Row w (fun b => B ≤ b) TI 1 (.slice q.A3 x.gs.length q.c3) x.gs.length (ints .i64 x.gs)
  d : Row w (fun b => B ≤ b) TK 3 (.slice q.A4 x.ds.length q.c4) x.ds.length (tri x.ds)
  ap : ∀ b, (Value.slice q.A1 x.ks.length q.c1).ownBlock = some b → (Value.slice q.A3 x.gs.length q.c3).ownBlock ≠ some b
theorem mid_place (hb : Blk w nb (ncells x q) TN) (h : Rws w B q x TI TP TK) (d2 : TP ≠ TN) (p1 : TI ≠ TP) (p3 : TP ≠ TK) (hB : B ≤ w.heap.size)
    (h1 : Row w2 (fun k => (Value.slice q.A2 x.ps.length q.c2).ownBlock = some k ∨ w.heap.size ≤ k) TP 3 (.slice A (x.ps.length + 1) c) (x.ps.length + 1) (tri x.ps ++ kcells z)) (h3 : Fr (fun k => (Value.slice q.A2 x.ps.length q.c2).ownBlock = some k) w w2) :
    Mid w2 B nb q x TN TI TP TK A c z ∧ Fr (fun k => B ≤ k) w w2 :=
  ⟨⟨hb.fr h3 (h.p.apart_blk hb d2), h.k.fr h3 (fun k hk => (h.k.apart h.p p1) k hk), h1.mono fun k hk => hk.elim (fun h' => h.p.2 k h') (fun h' => Nat.le_trans hB h'), h.g.fr h3 (fun k hk => (h.g.apart h.p p1) k hk),
    h.d.fr h3 (fun k hk => (h.d.apart h.p (Ne.symm p3)) k hk), h.ap⟩, h3.mono fun k hk => h.p.2 k hk⟩
theorem Mid.fr (h : Mid w B nb q x TN TI TP TK A c z) (hf : Fr S1 w w1) (h0 : ¬ S1 nb) (hn : ∀ k, B ≤ k → ¬ S1 k) : Mid w1 B nb q x TN TI TP TK A c z :=
  ⟨h.blk.fr hf h0, h.k.frS hf hn, h.p.frS hf hn, h.g.frS hf hn, h.d.frS hf hn, h.ap⟩
theorem mid_gen (h : Mid w B nb q x TN TI TP TK A c z) (d1 : TI ≠ TN) (p1 : TI ≠ TP) (p2 : TI ≠ TK) (hB : B ≤ w.heap.size)
    (h1 : Row w2 (fun k => (Value.slice q.A3 x.gs.length q.c3).ownBlock = some k ∨ w.heap.size ≤ k) TI 1 (.slice A' (x.gs.length + 1) c') (x.gs.length + 1) (ints .i64 x.gs ++ [.int .i64 y])) (h3 : Fr (fun k => (Value.slice q.A3 x.gs.length q.c3).ownBlock = some k) w w2) (hnB : nb < B)
    (d2 : TP ≠ TN) (d3 : TK ≠ TN) :
    Blk w2 nb (ncells x q) TN ∧ Fr (fun k => B ≤ k) w w2 ∧
      (Blk ((w2.setCell ⟨nb, 2, none⟩ (.slice A (x.ps.length + 1) c)).setCell ⟨nb, 3, none⟩ (.slice A' (x.gs.length + 1) c')) nb (ncells ⟨x.h, x.ks, x.ps ++ [z], x.gs ++ [y], x.ds⟩ ⟨q.A1, q.c1, A, c, A', c', q.A4, q.c4⟩) TN ∧
       Rws ((w2.setCell ⟨nb, 2, none⟩ (.slice A (x.ps.length + 1) c)).setCell ⟨nb, 3, none⟩ (.slice A' (x.gs.length + 1) c')) B ⟨q.A1, q.c1, A, c, A', c', q.A4, q.c4⟩ ⟨x.h, x.ks, x.ps ++ [z], x.gs ++ [y], x.ds⟩ TI TP TK ∧
       Fr (fun k => k = nb) w2 ((w2.setCell ⟨nb, 2, none⟩ (.slice A (x.ps.length + 1) c)).setCell ⟨nb, 3, none⟩ (.slice A' (x.gs.length + 1) c'))) := by
  have b2 := h.blk.fr h3 (h.g.apart_blk h.blk d1)
  have hs : Fr (fun k => k = nb) w2 ((w2.setCell ⟨nb, 2, none⟩ (.slice A (x.ps.length + 1) c)).setCell ⟨nb, 3, none⟩ (.slice A' (x.gs.length + 1) c')) := ((Fr.refl (fun k => k = nb) w2).setCell (a := ⟨nb, 2, none⟩) (.inl rfl) _).setCell (a := ⟨nb, 3, none⟩) (.inl rfl) _
  have hn : ∀ k, B ≤ k → ¬ (k = nb) := fun k hk e => by omega
  have el : (x.ps ++ [z]).length = x.ps.length + 1 := by simp
  have eg : (x.gs ++ [y]).length = x.gs.length + 1 := by simp
  have et : tri (x.ps ++ [z]) = tri x.ps ++ kcells z := by rw [tri_append]; simp [tri]
  refine ⟨b2, h3.mono fun k hk => h.g.2 k hk, ?_, ⟨?_, ?_, ?_, ?_, ?_⟩, hs⟩
  · have := (b2.set 2 (.slice A (x.ps.length + 1) c)).set 3 (.slice A' (x.gs.length + 1) c')
    unfold ncells
    simp only [el, eg]
    exact this
  · exact (h.k.fr h3 (fun k hk hk2 => h.ap k hk hk2)).frS hs hn
  · simp only [el, et]; exact (h.p.fr h3 (fun k hk => (h.p.apart h.g (Ne.symm p1)) k hk)).frS hs hn
  · simp only [eg, ints_append]
    exact (h1.mono fun k hk => hk.elim (fun h' => h.g.2 k h') (fun h' => Nat.le_trans hB h')).frS hs hn
  · exact (h.d.fr h3 (fun k hk => (h.d.apart h.g (Ne.symm p2)) k hk)).frS hs hn
  · intro b hb9 hb8
    simp only [eg] at hb8
    rcases h1.2 b hb8 with h9 | h9
    · exact h.ap b hb9 h9
    · have := h.k.lt b hb9; omega
end
theorem mk5s' {w w' : World} {nb pb j1 j2 j3 j4 j5 : Nat} {v1 v2 v3 v4 v5 : Value} {T : Nat → Prop} (hf : Fr T w w') (h : w.cell? ⟨nb, j1, none⟩ = some v1 ∧ w.cell? ⟨nb, j2, none⟩ = some v2 ∧ w.cell? ⟨pb, j3, none⟩ = some v3 ∧ w.cell? ⟨pb, j4, none⟩ = some v4 ∧ w.cell? ⟨pb, j5, none⟩ = some v5) (n1 : ¬ T nb) (n2 : ¬ T pb) :
    w'.cell? ⟨nb, j1, none⟩ = some v1 ∧ w'.cell? ⟨nb, j2, none⟩ = some v2 ∧ w'.cell? ⟨pb, j3, none⟩ = some v3 ∧ w'.cell? ⟨pb, j4, none⟩ = some v4 ∧ w'.cell? ⟨pb, j5, none⟩ = some v5 :=
  ⟨hf.cell h.1 n1, hf.cell h.2.1 n1, hf.cell h.2.2.1 n2, hf.cell h.2.2.2.1 n2, hf.cell h.2.2.2.2 n2⟩

set_option maxRecDepth 100000 in
set_option maxHeartbeats 1600000 in
theorem refdec_ok (S : Nat → Prop) (v : Value) (n : Nat) (xs : List Nat) (hn : n ≤ 100000) (hB : Byt xs) (w : World) (hv : View w S 1 v n (bys xs)) :
    Calls Try.prog 19 #[v] w fun e w' => DPost w e w' (decd xs) := by
  have hl : xs.length = n := by have := hv.length; rwa [bys_length, Nat.mul_one] at this
  subst hl
  obtain ⟨A, c, rfl⟩ : ∃ A c, v = .slice A xs.length c := let ⟨_, A, c, e, _⟩ := hv; ⟨A, c, e⟩
  rw [← decS_eq]
  have Hd9 : Hid (decS xs = decT (numV (.inl xs)) (numV (numR (.inl xs))) (numR (numR (.inl xs)))) := hid rfl
  generalize decS xs = D at *
  go_enter Try.func19, Try.ntmps19
  go_wp2_with fail
  obtain ⟨W1, hW1⟩ : ∃ W1, W1 = (w.alloc (.cells #[.int .i64 0, .slice none 0 0, .slice none 0 0, .slice none 0 0, .slice none 0 0] 26)).alloc (.cells #[.slice A xs.length c, .int .i64 0, .int .i64 0] 76) := ⟨_, rfl⟩
  have hg1 : Blk W1 w.heap.size #[.int .i64 0, .slice none 0 0, .slice none 0 0, .slice none 0 0, .slice none 0 0] 26 := by rw [hW1]; exact (Blk.new _ _ _).alloc _
  have hc1 : Blk W1 (w.heap.size + 1) #[.slice A xs.length c, .int .i64 (0 : Nat), .int .i64 0] 76 := by
    rw [hW1]
    have := Blk.new (w.alloc (.cells #[.int .i64 0, .slice none 0 0, .slice none 0 0, .slice none 0 0, .slice none 0 0] 26)) #[.slice A xs.length c, .int .i64 0, .int .i64 0] 76
    rwa [World.size_alloc] at this
  have hf1 : Fr Nil w W1 := by rw [hW1]; exact ((Fr.refl _ _).alloc _).alloc _
  have hsW : W1.heap.size = w.heap.size + 2 := by rw [hW1]; simp
  rw [← hW1]
  clear hW1
  obtain ⟨g0, hg0⟩ : ∃ g0, g0 = w.heap.size := ⟨_, rfl⟩
  obtain ⟨T, hT, hvT⟩ : ∃ T : Nat → Prop, (∀ k, T k → k < g0) ∧ View W1 T 1 (.slice A xs.length c) xs.length (bys xs) := ⟨_, fun k hk => by rw [hg0]; exact hk.2, hv.bd.fr hf1 fun _ _ _ h => h⟩
  rw [← hg0] at hg1 hc1 hsW ⊢
  have hg0l : w.heap.size ≤ g0 := by omega
  clear hg0 hv
  obtain ⟨cb, hcb⟩ : ∃ cb, cb = g0 + 1 := ⟨_, rfl⟩
  rw [← hcb] at hc1 ⊢
  have hcg : cb = g0 + 1 := hcb
  have Hcg := hid hcg
  have hcg1 : g0 < cb := by omega
  have hW1s : cb < W1.heap.size := by omega
  clear hcb hcg hsW
  have hTc : ¬ T cb := fun h => by have := hT _ h; omega
  have hC1 : IsCs W1 T cb xs (.inl xs) := ⟨A, c, 0, hc1, hvT, by simp, rfl⟩
  refine (refnum_st T cb xs (.inl xs) (by omega) hB W1 hTc hC1).mono ?_
  rintro e w2 ⟨rfl, hf2, hC2⟩
  obtain ⟨h, Kh⟩ : ∃ h, h = numV (.inl xs) := ⟨_, rfl⟩
  obtain ⟨s1, Ks⟩ : ∃ s, s = numR (.inl xs) := ⟨_, rfl⟩
  rw [← Ks] at hC2
  rw [← Kh]
  rw [← Kh, ← Ks] at Hd9
  clear Kh Ks hc1 hvT hC1
  have hg2 := hg1.fr hf2 (fun e => by omega)
  have hs2 := hf2.size
  go_wp2_with fail
  obtain ⟨W3, hW3⟩ : ∃ W3, W3 = w2.alloc (.cells #[.int .i64 (h : Nat), .slice none 0 0, .slice none 0 0, .slice none 0 0, .slice none 0 0] 26) := ⟨_, rfl⟩
  have hn3 : Blk W3 w2.heap.size (ncells ⟨(h : Nat), [], [], [], []⟩ ⟨none, 0, none, 0, none, 0, none, 0⟩) 26 := by rw [hW3]; exact Blk.new _ _ _
  have hf3 : Fr Nil w2 W3 := by rw [hW3]; exact (Fr.refl _ _).alloc _
  have hs3 : W3.heap.size = w2.heap.size + 1 := by rw [hW3]; simp
  rw [← hW3]
  clear hW3
  have hC3 := IsCs.fr s1 hC2 hf3 (fun h => h) (fun _ _ h => h)
  have hg3 := hg2.fr hf3 (fun h => h)
  obtain ⟨nb, hnb⟩ : ∃ nb, nb = w2.heap.size := ⟨_, rfl⟩
  rw [← hnb] at hn3 hs3 hs2 ⊢
  have hcn : cb ≠ nb := by omega
  have hnc : nb ≠ cb := by omega
  have hcn2 : cb < nb := by omega
  have hnb2 : w2.heap.size ≤ nb := by omega
  clear hnb
  have hf13 : Fr (fun k => k = cb) W1 W3 := hf2.thenNil hf3
  refine (refnum_st T cb xs s1 (by omega) hB W3 hTc hC3).mono ?_
  rintro e w4 ⟨rfl, hf4, hC4⟩
  obtain ⟨m, Kh⟩ : ∃ h, h = numV s1 := ⟨_, rfl⟩
  obtain ⟨s2, Ks⟩ : ∃ s, s = numR s1 := ⟨_, rfl⟩
  have Hm : Hid (badS s2 ≠ 0 → m = 0) := hid (fun hb => by
    rw [Ks] at hb; rw [Kh]
    unfold numV
    unfold numR at hb
    cases s1 with
    | inl bs => 
      unfold numS at hb ⊢
      dsimp only at hb ⊢
      cases hq : num bs with
      | ok x r => rw [hq] at hb; exact absurd rfl hb
      | bad er => rfl
    | inr er => rfl)
  rw [← Ks] at hC4
  rw [← Kh]
  rw [← Kh, ← Ks] at Hd9
  clear Kh Ks
  have hg4 := hg3.fr hf4 (fun e => by omega)
  have hn4 := hn3.fr hf4 hnc
  have hf14 : Fr (fun k => k = cb) W1 w4 := hf13.then hf4
  have hs4 := hf4.size
  clear hC2 hC3 hg1 hg2 hg3 hn3 hf13 hf3 hf2 hf4
  have hfw4 : Fr Nil w w4 := hf1.trans hf14 (fun k hk => .inr (by omega))
  obtain ⟨hc2, hbz⟩ := IsCs.cell s2 hC4
  obtain ⟨b, hbb⟩ : ∃ b, b = badS s2 := ⟨_, rfl⟩
  rw [← hbb] at hc2 hbz Hm
  have Hbb := hid hbb; clear hbb
  have Hbz := hid hbz; clear hbz
  by_cases hbig : b = 0 ∧ 8 < m
  · obtain ⟨rfl, hm8⟩ := hbig
    have hd : Hid (D = .inr 4) := hid (by rw [Hd9.out]; unfold decT; rw [if_pos ⟨Hbb.out.symm, hm8⟩])
    clear Hm
    have i0 : w4.cell? ⟨g0, 0, none⟩ = some (.int .i64 0) := hg4.cell 0
    have i1 : w4.cell? ⟨g0, 1, none⟩ = some (.slice none 0 0) := hg4.cell 1
    have i2 : w4.cell? ⟨g0, 2, none⟩ = some (.slice none 0 0) := hg4.cell 2
    have i3 : w4.cell? ⟨g0, 3, none⟩ = some (.slice none 0 0) := hg4.cell 3
    have i4 : w4.cell? ⟨g0, 4, none⟩ = some (.slice none 0 0) := hg4.cell 4
    have z0 := hg4.frozen 0
    have z1 := hg4.frozen 1
    have z2 := hg4.frozen 2
    have z3 := hg4.frozen 3
    have z4 := hg4.frozen 4
    have hgw := hg4.lt
    have hfw := hfw4
    generalize w4 = w5 at *
    go_wp2
    have hb6 := st5_blk hg4 (.int .i64 0) (.slice none 0 0) (.slice none 0 0) (.slice none 0 0) (.slice none 0 0)
    have hff : Fr Nil w (st5 w5 g0 (.int .i64 0) (.slice none 0 0) (.slice none 0 0) (.slice none 0 0) (.slice none 0 0)) := hfw.trans (st5_fr w5 g0 (.int .i64 0) (.slice none 0 0) (.slice none 0 0) (.slice none 0 0) (.slice none 0 0)) (fun k hk => .inr (by omega))
    unfold st5 at hb6 hff
    generalize ((((w5.setCell ⟨g0, 0, none⟩ (.int .i64 0)).setCell ⟨g0, 1, none⟩ (.slice none 0 0)).setCell ⟨g0, 2, none⟩ (.slice none 0 0)).setCell ⟨g0, 3, none⟩ (.slice none 0 0)).setCell ⟨g0, 4, none⟩ (.slice none 0 0) = w7 at *
    have r0 : w7.cell? ⟨g0, 0, none⟩ = some (.int .i64 0) := hb6.cell 0
    have r1 : w7.cell? ⟨g0, 1, none⟩ = some (.slice none 0 0) := hb6.cell 1
    have r2 : w7.cell? ⟨g0, 2, none⟩ = some (.slice none 0 0) := hb6.cell 2
    have r3 : w7.cell? ⟨g0, 3, none⟩ = some (.slice none 0 0) := hb6.cell 3
    have r4 : w7.cell? ⟨g0, 4, none⟩ = some (.slice none 0 0) := hb6.cell 4
    simp [bodyPost, results, Try.results19, go_sem, r0, r1, r2, r3, r4]
    rw [hd.out]
    exact ⟨rfl, hff⟩
  · have hm8 : m ≤ 8 := by
      by_cases hb : b = 0
      · rw [hb] at hbig; omega
      · have := Hm.out hb; omega
    have Hfin : Hid (D = finS (rdS m ⟨(h : Nat), [], [], [], []⟩ s2)) := hid (by rw [Hd9.out]; unfold decT; rw [if_neg (fun hh => hbig ⟨Hbb.out.trans hh.1, hh.2⟩)])
    clear hbig Hm Hd9 hf1
    obtain ⟨B, hB9⟩ : ∃ B, B = w4.heap.size := ⟨_, rfl⟩
    have hBn : nb < B := by have := hn4.lt; omega
    have hB4 : B ≤ w4.heap.size := by omega
    have hwB : w.heap.size ≤ nb := by omega
    clear hB9
    have frT : ∀ {w1 w2 : World}, Fr (fun k => k = cb) w1 w2 → Fr (fun k => (k = nb ∨ k = cb) ∨ B ≤ k) w1 w2 := fun h => h.mono fun k hk => .inl (.inr hk)
    have hq4 : Rws w4 B ⟨none, 0, none, 0, none, 0, none, 0⟩ ⟨(h : Nat), [], [], [], []⟩ 3 54 56 := Rws.nil _ _ _ _ _ _
    have hmi : ¬ (8 : Int) < (m : Int) := by omega
    have hor : (b == 0) = true ∨ (b == 0) = false := by cases (b == 0) <;> simp
    rcases hor with hb0 | hb0
    all_goals
      go_wp2_with fail
      clear hb0 hc2 hmi
      go_loopw [7] (fun v7 wr => ∃ (i : Nat) (st : St) (x : Nd) (q : Ptr), v7 = .int .i64 i ∧ i ≤ m ∧ Fr (fun k => (k = nb ∨ k = cb) ∨ B ≤ k) w4 wr ∧ IsCs wr T cb xs st ∧ Blk wr nb (ncells x q) 26 ∧ Rws wr B q x 3 54 56 ∧ Hid (rdS (m - i) x st = rdS m ⟨(h : Nat), [], [], [], []⟩ s2) ∧ x.ks.length ≤ i ∧ x.ps.length ≤ i ∧ x.gs.length ≤ i ∧ x.ds.length ≤ i) (fun v7 _ => m - (intOf v7).toNat)
      case atStart => exact ⟨0, s2, _, _, rfl, by omega, Fr.refl _ _, hC4, hn4, hq4, hid rfl, by simp, by simp, by simp, by simp⟩
      case round =>
        clear hn4 hC4 hq4
        obtain ⟨i, st, x, q, rfl, hi, hfr, hCr, hnr, hqr, hrd, lk, lp, lg, ld⟩ := hrel
        obtain ⟨hc2, hbz⟩ := IsCs.cell st hCr
        by_cases hgo : i < m ∧ badS st = 0
        · obtain ⟨hlt, hb1⟩ := hgo
          obtain ⟨bs, rfl⟩ := hbz.1 hb1
          rw [hb1] at hc2
          clear hb1 hbz
          have Hrd : Hid (rdS (m - i) x (.inl bs) = rdS (m - i - 1) (addE x (numsS (wd x) (.inl bs)).1) (numsS (wd x) (.inl bs)).2) := hid (by rw [show m - i = (m - i - 1) + 1 by omega]; rfl)
          have hnA := hnr
          have hqA := hqr
          have hRC := hCr
          have hfrC := hfr
          clear hnr hqr hCr
          have hS : (fun w' : World => w'.cell? ⟨nb, 1, none⟩ = some (.slice q.A1 x.ks.length q.c1)) (wr).drew := hnA.cell 1
          go_wp2_with fail
          refine wpU_region (k := 7) (S := fun w' : World => w'.cell? ⟨nb, 1, none⟩ = some (.slice q.A1 x.ks.length q.c1)) (by kernel_rfl) ?_
          refine wpU_take (i := 0) (v := ?_) rfl (by kernel_rfl) (by kernel_rfl) (fun _ _ _ h => h) _ _ _ _ (by kernel_rfl) (by kernel_rfl) (by kernel_rfl) (Or.inl ⟨by kernel_rfl, ?_⟩) hS ?_
          rotate_left
          · (intro w9 hS9; obtain s0 := hS9; go_simp); (try with_reducible rfl)
          try simp only [Act.put, List.getElem_toArray, List.getElem_cons_succ, List.getElem_cons_zero, List.setIfInBounds_toArray, List.set_cons_zero, List.set_cons_succ]
          refine wpU_take (i := 1) (v := ?_) rfl (by kernel_rfl) (by kernel_rfl) (fun _ _ _ h => h) _ _ _ _ (by kernel_rfl) (by kernel_rfl) (by kernel_rfl) (Or.inl ⟨by kernel_rfl, ?_⟩) hS ?_
          rotate_left
          · (intro w9 hS9; obtain s0 := hS9; go_simp); (try with_reducible rfl)
          try simp only [Act.put, List.getElem_toArray, List.getElem_cons_succ, List.getElem_cons_zero, List.setIfInBounds_toArray, List.set_cons_zero, List.set_cons_succ]
          refine wpU_take (i := 2) (v := ?_) rfl (by kernel_rfl) (by kernel_rfl) (fun _ _ _ h => h) _ _ _ _ (by kernel_rfl) (by kernel_rfl) (by kernel_rfl) (Or.inl ⟨by kernel_rfl, ?_⟩) hS ?_
          rotate_left
          · (intro w9 hS9; obtain s0 := hS9; go_simp); (try with_reducible rfl)
          try simp only [Act.put, List.getElem_toArray, List.getElem_cons_succ, List.getElem_cons_zero, List.setIfInBounds_toArray, List.set_cons_zero, List.set_cons_succ]
          refine wpU_next (i := 3) rfl (by kernel_rfl) (fun K hK => ?_)
          go_simp
          refine (refnum_st T cb xs (.inl bs) (by omega) hB ((wr).drew) hTc hRC).mono ?_
          rintro e wA ⟨rfl, hfA, hRA⟩
          obtain ⟨k1, Kk1⟩ : ∃ k, k = numV (.inl bs) := ⟨_, rfl⟩
          obtain ⟨t1, Kt1⟩ : ∃ s, s = numR (.inl bs) := ⟨_, rfl⟩
          rw [← Kt1] at hRA
          rw [← Kk1]
          have Hk1 := hid Kk1
          have Ht1 := hid Kt1
          clear Kk1 Kt1
          have hfrA := (hfrC.drew).then (frT hfA)
          have hnB := Blk.fr (w := (wr).drew) hnA hfA hnc
          have hqB := Rws.fr (w := (wr).drew) hqA.drew hfA (fun k hk (e : k = cb) => by omega)
          have hSA : wA.cell? ⟨nb, 1, none⟩ = some (.slice q.A1 x.ks.length q.c1) := hnB.cell 1
          refine hK.out _ _ (fun _ => hSA) ?_
          clear hK K
          try simp only [Act.put, List.getElem_toArray, List.getElem_cons_succ, List.getElem_cons_zero, List.setIfInBounds_toArray, List.set_cons_zero, List.set_cons_succ]
          refine wpU_next (i := 4) rfl (by kernel_rfl) (fun K hK => ?_)
          go_simp
          have hSB : (wA.alloc (.cells #[.int .i64 (k1 : Nat)] 3)).cell? ⟨nb, 1, none⟩ = some (.slice q.A1 x.ks.length q.c1) := (hnB.alloc _).cell 1
          refine hK.out _ _ (fun _ => hSB) ?_
          clear hK K
          try simp only [Act.put, List.getElem_toArray, List.getElem_cons_succ, List.getElem_cons_zero, List.setIfInBounds_toArray, List.set_cons_zero, List.set_cons_succ]
          refine wpU_next (i := 5) rfl (by kernel_rfl) (fun K hK => ?_)
          refine step_app_view rfl _ _ 22 (by rfl) (.int .i64 0) 8 Try.underlying22 info_int rfl (by decide) (hqB.alloc _).k (by rfl) (View.lit (s := 1) wA #[.int .i64 (k1 : Nat)] 3 (0, 0) 1 rfl (by decide)) (by rfl) (ints_cell [(k1 : Int)]) (by omega) (by decide) ?_
          intro A7 c7 w7 q1 q2
          have G := grew_key (hnB.alloc (.cells #[.int .i64 (k1 : Nat)] 3)) (hqB.alloc _) (by decide) (by decide) (by decide) (by decide) (by decide) (by decide) (by rw [World.size_alloc]; have := hfrA.size; have h9 : (wr).drew.heap.size = (wr).heap.size := rfl; omega) (k1 : Int) q1 q2
          clear q1 q2 hnA hqA hnB hqB hRC hfrC
          have o1 : w7.cell? ⟨nb, 1, none⟩ = some (.slice q.A1 x.ks.length q.c1) := G.old.cell 1
          have z1 := G.old.frozen 1
          refine hK.out _ _ (fun _ => o1) ?_
          clear hK K
          try simp only [Act.put, List.getElem_toArray, List.getElem_cons_succ, List.getElem_cons_zero, List.setIfInBounds_toArray, List.set_cons_zero, List.set_cons_succ]
          refine wpU_take (i := 6) (v := ?_) rfl (by kernel_rfl) (by kernel_rfl) (fun _ _ _ h => h) _ _ _ _ (by kernel_rfl) (by kernel_rfl) (by kernel_rfl) (Or.inl ⟨by kernel_rfl, ?_⟩) o1 ?_
          rotate_left
          · (intro w9 hS9; obtain s0 := hS9; go_simp); (try with_reducible rfl)
          try simp only [Act.put, List.getElem_toArray, List.getElem_cons_succ, List.getElem_cons_zero, List.setIfInBounds_toArray, List.set_cons_zero, List.set_cons_succ]
          refine wpU_next (i := 7) rfl (by kernel_rfl) (fun K hK => ?_)
          go_simp
          refine hK.out _ _ (fun h => absurd rfl h.1) ?_
          refine wpU_done (by kernel_rfl) ?_ _
          clear hK K
          clear hc2
          obtain ⟨x1, hxx⟩ : ∃ y : Nd, y = ⟨x.h, x.ks ++ [(k1 : Int)], x.ps, x.gs, x.ds⟩ := ⟨_, rfl⟩
          obtain ⟨q1, hqq⟩ : ∃ y : Ptr, y = ⟨A7, c7, q.A2, q.c2, q.A3, q.c3, q.A4, q.c4⟩ := ⟨_, rfl⟩
          have hnA := G.blk
          have hqA := G.rws
          have hfG := G.fr
          rw [← hxx, ← hqq] at hnA hqA
          have Hx1 := hid hxx
          clear hxx hqq G
          have hRB := IsCs.fr (S1 := Nil) _ hRA ((Fr.refl Nil wA).alloc (.cells #[.int .i64 (k1 : Nat)] 3)) (fun h => h) (fun _ _ h => h)
          have hRC := IsCs.fr _ hRB hfG (fun h => h.elim (fun e => hcn e) (fun e => by omega)) (fun k hk h => h.elim (fun e => by have := hT k hk; omega) (fun e => by have := hT k hk; omega))
          have hfrC := (hfrA.alloc (.cells #[.int .i64 (k1 : Nat)] 3)).trans hfG (fun k hk => hk.elim (fun h => .inl (.inl (.inl h))) (fun h => .inl (.inr h)))
          clear hRB hfG hRA hfA hfrA
          clear o1 z1 hS hSA hSB hfr
          generalize w7.setCell _ _ = w8 at *
          have ee1 : x1.h = x.h ∧ x1.ks.length = x.ks.length + 1 ∧ x1.ps.length = x.ps.length ∧ x1.gs.length = x.gs.length ∧ x1.ds.length = x.ds.length := by rw [Hx1.out]; simp
          have Hee1 := hid ee1; clear ee1
          have e0 : w8.cell? ⟨nb, 0, none⟩ = some (.int .i64 x1.h) := hnA.cell 0
          by_cases h0 : x1.h = 0
          · have hb0 : (x1.h == 0) = true := by simpa using h0
            have H0 := hid h0; clear h0
            have lp1 : x1.ps.length ≤ i := by have := Hee1.out; omega
            have lg1 : x1.gs.length ≤ i := by have := Hee1.out; omega
            go_wp2_with fail
            clear e0
            refine (refnum_st T cb xs (t1) (by omega) hB (w8) hTc hRC).mono ?_
            rintro e w9 ⟨rfl, hfA, hRA⟩
            obtain ⟨k2, Kk2⟩ : ∃ k, k = numV (t1) := ⟨_, rfl⟩
            obtain ⟨t2, Kt2⟩ : ∃ s, s = numR (t1) := ⟨_, rfl⟩
            rw [← Kt2] at hRA
            rw [← Kk2]
            have Hk2 := hid Kk2
            have Ht2 := hid Kt2
            clear Kk2 Kt2
            have hfrA := (hfrC).then (frT hfA)
            have hnB := Blk.fr hnA hfA hnc
            have hqB := Rws.fr hqA hfA (fun k hk (e : k = cb) => by omega)
            go_wp2_with fail
            refine (refnum_st T cb xs (t2) (by omega) hB (w9) hTc hRA).mono ?_
            rintro e w10 ⟨rfl, hfA, hRA⟩
            obtain ⟨k3, Kk3⟩ : ∃ k, k = numV (t2) := ⟨_, rfl⟩
            obtain ⟨t3, Kt3⟩ : ∃ s, s = numR (t2) := ⟨_, rfl⟩
            rw [← Kt3] at hRA
            rw [← Kk3]
            have Hk3 := hid Kk3
            have Ht3 := hid Kt3
            clear Kk3 Kt3
            have hfrA := (hfrA).then (frT hfA)
            replace hnA := Blk.fr hnB hfA hnc
            replace hqA := Rws.fr hqB hfA (fun k hk (e : k = cb) => by omega)
            replace hRC := hRA
            replace hfrC := hfrA
            clear hnB hqB hRA hfrA hfA
            go_wp2_with fail
            obtain ⟨W11, hW11⟩ : ∃ W11, W11 = w10.alloc (.cells #[.int .i64 (k2 : Nat), .int .i64 (k3 : Nat), .int .i64 0] 54) := ⟨_, rfl⟩
            have hp11 : Blk W11 w10.heap.size #[.int .i64 (k2 : Nat), .int .i64 (k3 : Nat), .int .i64 0] 54 := by rw [hW11]; exact Blk.new _ _ _
            have hf11 : Fr Nil w10 W11 := by rw [hW11]; exact (Fr.refl _ _).alloc _
            rw [← hW11]
            clear hW11
            have hlt10 := hid hqA.lt
            have hR11 := IsCs.fr t3 hRC hf11 (fun h => h) (fun _ _ h => h)
            have hn11 := hnA.fr hf11 (fun h => h)
            have hq11 := hqA.fr hf11 (fun _ _ h => h)
            obtain ⟨pb, hpb⟩ : ∃ pb, pb = w10.heap.size := ⟨_, rfl⟩
            have hpbB : B ≤ pb := by have := hfrC.size; omega
            rw [← hpb] at hp11 hlt10 ⊢
            have hpb2 : w10.heap.size ≤ pb := by omega
            clear hpb
            clear hRC
            refine (refnum_st T cb xs (t3) (by omega) hB (W11) hTc hR11).mono ?_
            rintro e w12 ⟨rfl, hfA, hRA⟩
            obtain ⟨k4, Kk4⟩ : ∃ k, k = numV (t3) := ⟨_, rfl⟩
            obtain ⟨t4, Kt4⟩ : ∃ s, s = numR (t3) := ⟨_, rfl⟩
            rw [← Kt4] at hRA
            rw [← Kk4]
            have Hk4 := hid Kk4
            have Ht4 := hid Kt4
            clear Kk4 Kt4
            have hfrA := ((hfrC.thenNil hf11)).then (frT hfA)
            have hn12 := hn11.fr hfA hnc
            have hq12 := Rws.fr hq11 hfA (fun k hk (e : k = cb) => by omega)
            have hp12 := hp11.fr hfA (fun e => by omega)
            have hs13 : Fr (fun k => k = pb) w12 (w12.setCell ⟨pb, 2, none⟩ (.int .i64 (k4 : Nat))) := (Fr.refl (fun k => k = pb) w12).setCell (a := ⟨pb, 2, none⟩) (.inl rfl) _
            have hp13 := hp12.set 2 (.int .i64 (k4 : Nat))
            clear hnA hqA
            have hnA := hn12.fr hs13 (fun e => by omega)
            have hqA := hq12.fr_own hs13 (fun k hk e => by have := hlt10.out k hk; omega)
            have hRC := IsCs.fr t4 hRA hs13 (fun e => by omega) (fun k hk e => by have := hT k hk; omega)
            have hfrD := hfrA.then (hs13.mono fun k hk => .inr (by omega))
            have pc2 := hp12.cell 2
            have pz2 := hp12.frozen 2
            have hplt := hp12.lt
            go_wp2_with fail
            clear hn11 hq11 hn12 hq12 hp11 hp12 hR11 hRA hfA hfrA hfrC hf11 hs13 pc2 pz2 hplt
            generalize w12.setCell ⟨pb, 2, none⟩ (.int .i64 (k4 : Nat)) = w13 at *
            have b2 : w13.cell? ⟨nb, 2, none⟩ = some (.slice q1.A2 x1.ps.length q1.c2) := hnA.cell 2
            have b3 : w13.cell? ⟨nb, 3, none⟩ = some (.slice q1.A3 x1.gs.length q1.c3) := hnA.cell 3
            have hS : (fun w' : World => w'.cell? ⟨nb, 2, none⟩ = some (.slice q1.A2 x1.ps.length q1.c2) ∧ w'.cell? ⟨nb, 3, none⟩ = some (.slice q1.A3 x1.gs.length q1.c3) ∧ w'.cell? ⟨pb, 0, none⟩ = some (.int .i64 (k2 : Nat)) ∧ w'.cell? ⟨pb, 1, none⟩ = some (.int .i64 (k3 : Nat)) ∧ w'.cell? ⟨pb, 2, none⟩ = some (.int .i64 (k4 : Nat))) w13.drew := ⟨b2, b3, hp13.cell 0, hp13.cell 1, hp13.cell 2⟩
            clear b2 b3
            refine wpU_region (k := 12) (S := (fun w' : World => w'.cell? ⟨nb, 2, none⟩ = some (.slice q1.A2 x1.ps.length q1.c2) ∧ w'.cell? ⟨nb, 3, none⟩ = some (.slice q1.A3 x1.gs.length q1.c3) ∧ w'.cell? ⟨pb, 0, none⟩ = some (.int .i64 (k2 : Nat)) ∧ w'.cell? ⟨pb, 1, none⟩ = some (.int .i64 (k3 : Nat)) ∧ w'.cell? ⟨pb, 2, none⟩ = some (.int .i64 (k4 : Nat)))) (by kernel_rfl) ?_
            refine wpU_take (i := 0) (v := ?_) rfl (by kernel_rfl) (by kernel_rfl) (fun _ _ _ h => h) _ _ _ _ (by kernel_rfl) (by kernel_rfl) (by kernel_rfl) (Or.inl ⟨by kernel_rfl, ?_⟩) hS ?_
            rotate_left
            · (intro w9 hS9; obtain ⟨s0, s1, s2, s3, s4⟩ := hS9; go_simp); (try with_reducible rfl)
            try simp only [Act.put, List.getElem_toArray, List.getElem_cons_succ, List.getElem_cons_zero, List.setIfInBounds_toArray, List.set_cons_zero, List.set_cons_succ]
            refine wpU_take (i := 1) (v := ?_) rfl (by kernel_rfl) (by kernel_rfl) (fun _ _ _ h => h) _ _ _ _ (by kernel_rfl) (by kernel_rfl) (by kernel_rfl) (Or.inl ⟨by kernel_rfl, ?_⟩) hS ?_
            rotate_left
            · (intro w9 hS9; obtain ⟨s0, s1, s2, s3, s4⟩ := hS9; go_simp); (try with_reducible rfl)
            try simp only [Act.put, List.getElem_toArray, List.getElem_cons_succ, List.getElem_cons_zero, List.setIfInBounds_toArray, List.set_cons_zero, List.set_cons_succ]
            refine wpU_take (i := 2) (v := ?_) rfl (by kernel_rfl) (by kernel_rfl) (fun _ _ _ h => h) _ _ _ _ (by kernel_rfl) (by kernel_rfl) (by kernel_rfl) (Or.inl ⟨by kernel_rfl, ?_⟩) hS ?_
            rotate_left
            · (intro w9 hS9; obtain ⟨s0, s1, s2, s3, s4⟩ := hS9; go_simp); (try with_reducible rfl)
            try simp only [Act.put, List.getElem_toArray, List.getElem_cons_succ, List.getElem_cons_zero, List.setIfInBounds_toArray, List.set_cons_zero, List.set_cons_succ]
            refine wpU_take (i := 5) (v := ?_) rfl (by kernel_rfl) (by kernel_rfl) (fun _ _ _ h => h) _ _ _ _ (by kernel_rfl) (by kernel_rfl) (by kernel_rfl) (Or.inl ⟨by kernel_rfl, ?_⟩) hS ?_
            rotate_left
            · (intro w9 hS9; obtain ⟨s0, s1, s2, s3, s4⟩ := hS9; go_simp); (try with_reducible rfl)
            try simp only [Act.put, List.getElem_toArray, List.getElem_cons_succ, List.getElem_cons_zero, List.setIfInBounds_toArray, List.set_cons_zero, List.set_cons_succ]
            refine wpU_take (i := 6) (v := ?_) rfl (by kernel_rfl) (by kernel_rfl) (fun _ _ _ h => h) _ _ _ _ (by kernel_rfl) (by kernel_rfl) (by kernel_rfl) (Or.inl ⟨by kernel_rfl, ?_⟩) hS ?_
            rotate_left
            · (intro w9 hS9; obtain ⟨s0, s1, s2, s3, s4⟩ := hS9; go_simp); (try with_reducible rfl)
            try simp only [Act.put, List.getElem_toArray, List.getElem_cons_succ, List.getElem_cons_zero, List.setIfInBounds_toArray, List.set_cons_zero, List.set_cons_succ]
            refine wpU_take (i := 7) (v := ?_) rfl (by kernel_rfl) (by kernel_rfl) (fun _ _ _ h => h) _ _ _ _ (by kernel_rfl) (by kernel_rfl) (by kernel_rfl) (Or.inl ⟨by kernel_rfl, ?_⟩) hS ?_
            rotate_left
            · (intro w9 hS9; obtain ⟨s0, s1, s2, s3, s4⟩ := hS9; go_simp); (try with_reducible rfl)
            try simp only [Act.put, List.getElem_toArray, List.getElem_cons_succ, List.getElem_cons_zero, List.setIfInBounds_toArray, List.set_cons_zero, List.set_cons_succ]
            refine wpU_next (i := 3) rfl (by kernel_rfl) (fun K hK => ?_)
            go_simp
            obtain ⟨W14, hW14⟩ : ∃ W14, W14 = (w13.alloc (.cells #[.int .i64 (k2 : Nat), .int .i64 (k3 : Nat), .int .i64 (k4 : Nat)] 54)).drew := ⟨_, rfl⟩
            have hf14 : Fr Nil w13 W14 := by rw [hW14]; exact ((Fr.refl _ _).alloc _).drew
            have hl14 : View W14 (New w13) 3 (.slice (some ⟨w13.heap.size, 0, none⟩) 1 1) 1 (kcells ⟨k2, k3, k4⟩) := by rw [hW14]; exact (View.lit (s := 3) w13 #[.int .i64 (k2 : Nat), .int .i64 (k3 : Nat), .int .i64 (k4 : Nat)] 54 (0, 0) 1 rfl (by decide)).drew
            have hS14 : (fun w' : World => w'.cell? ⟨nb, 2, none⟩ = some (.slice q1.A2 x1.ps.length q1.c2) ∧ w'.cell? ⟨nb, 3, none⟩ = some (.slice q1.A3 x1.gs.length q1.c3) ∧ w'.cell? ⟨pb, 0, none⟩ = some (.int .i64 (k2 : Nat)) ∧ w'.cell? ⟨pb, 1, none⟩ = some (.int .i64 (k3 : Nat)) ∧ w'.cell? ⟨pb, 2, none⟩ = some (.int .i64 (k4 : Nat))) W14 := mk5n hf14 hS
            rw [← hW14]
            clear hW14
            refine hK.out _ _ (fun _ => hS14) ?_
            clear hK K
            try simp only [Act.put, List.getElem_toArray, List.getElem_cons_succ, List.getElem_cons_zero, List.setIfInBounds_toArray, List.set_cons_zero, List.set_cons_succ]
            have hn14 := hnA.fr hf14 fun h => h
            have hq14 := hqA.fr hf14 fun _ _ h => h
            have hfr14 := hfrD.thenNil hf14
            have hB14 : B ≤ W14.heap.size := by have := hfr14.size; omega
            refine wpU_next (i := 4) rfl (by kernel_rfl) (fun K hK => ?_)
            refine step_app_view rfl _ _ 23 (by rfl) (.agg #[.int .i64 0, .int .i64 0, .int .i64 0]) 24 Try.underlying23 info_place rfl (by decide) hq14.p (by rfl) hl14 (by rfl) (kcells_cell ⟨k2, k3, k4⟩) (by omega) (by decide) ?_
            intro A8 c8 w15 y1 y2
            obtain ⟨M15, hf15⟩ := mid_place hn14 hq14 (by decide) (by decide) (by decide) hB14 y1 y2
            have hS15 : (fun w' : World => w'.cell? ⟨nb, 2, none⟩ = some (.slice q1.A2 x1.ps.length q1.c2) ∧ w'.cell? ⟨nb, 3, none⟩ = some (.slice q1.A3 x1.gs.length q1.c3) ∧ w'.cell? ⟨pb, 0, none⟩ = some (.int .i64 (k2 : Nat)) ∧ w'.cell? ⟨pb, 1, none⟩ = some (.int .i64 (k3 : Nat)) ∧ w'.cell? ⟨pb, 2, none⟩ = some (.int .i64 (k4 : Nat))) w15 := ⟨M15.blk.cell 2, M15.blk.cell 3, y2.cell hS14.2.2.1 (fun e => by have := hlt10.out _ (.inr (.inl e)); dsimp only at this; omega), y2.cell hS14.2.2.2.1 (fun e => by have := hlt10.out _ (.inr (.inl e)); dsimp only at this; omega), y2.cell hS14.2.2.2.2 (fun e => by have := hlt10.out _ (.inr (.inl e)); dsimp only at this; omega)⟩
            refine hK.out _ _ (fun _ => hS15) ?_
            clear hK K
            try simp only [Act.put, List.getElem_toArray, List.getElem_cons_succ, List.getElem_cons_zero, List.setIfInBounds_toArray, List.set_cons_zero, List.set_cons_succ]
            have hR15 := IsCs.fr t4 (IsCs.fr t4 hRC hf14 (fun h => h) (fun _ _ h => h)) hf15 (fun e => by omega) (fun k hk e => by have := hT k hk; omega)
            have hfr15 := hfr14.then (hf15.mono fun k hk => .inr hk)
            clear y1 y2 hn14 hq14 hf14 hl14 hRC hS
            refine wpU_take (i := 11) (v := ?_) rfl (by kernel_rfl) (by kernel_rfl) (fun _ _ _ h => h) _ _ _ _ (by kernel_rfl) (by kernel_rfl) (by kernel_rfl) (Or.inl ⟨by kernel_rfl, ?_⟩) hS15 ?_
            rotate_left
            · (intro w9 hS9; obtain ⟨s0, s1, s2, s3, s4⟩ := hS9; go_simp); (try with_reducible rfl)
            try simp only [Act.put, List.getElem_toArray, List.getElem_cons_succ, List.getElem_cons_zero, List.setIfInBounds_toArray, List.set_cons_zero, List.set_cons_succ]
            refine wpU_next (i := 8) rfl (by kernel_rfl) (fun K hK => ?_)
            go_simp
            refine (refnum_st T cb xs (t4) (by omega) hB (w15) hTc hR15).mono ?_
            rintro e w16 ⟨rfl, hfA, hRA⟩
            obtain ⟨k5, Kk5⟩ : ∃ k, k = numV (t4) := ⟨_, rfl⟩
            obtain ⟨t5, Kt5⟩ : ∃ s, s = numR (t4) := ⟨_, rfl⟩
            rw [← Kt5] at hRA
            rw [← Kk5]
            have Hk5 := hid Kk5
            have Ht5 := hid Kt5
            clear Kk5 Kt5
            have hfrA := (hfr15).then (frT hfA)
            have M16 := M15.fr hfA hnc (fun k hk (e : k = cb) => by omega)
            have hS16 : (fun w' : World => w'.cell? ⟨nb, 2, none⟩ = some (.slice q1.A2 x1.ps.length q1.c2) ∧ w'.cell? ⟨nb, 3, none⟩ = some (.slice q1.A3 x1.gs.length q1.c3) ∧ w'.cell? ⟨pb, 0, none⟩ = some (.int .i64 (k2 : Nat)) ∧ w'.cell? ⟨pb, 1, none⟩ = some (.int .i64 (k3 : Nat)) ∧ w'.cell? ⟨pb, 2, none⟩ = some (.int .i64 (k4 : Nat))) w16 := mk5s' hfA hS15 hnc (fun e => by omega)
            refine hK.out _ _ (fun _ => hS16) ?_
            clear hK K
            try simp only [Act.put, List.getElem_toArray, List.getElem_cons_succ, List.getElem_cons_zero, List.setIfInBounds_toArray, List.set_cons_zero, List.set_cons_succ]
            refine wpU_next (i := 9) rfl (by kernel_rfl) (fun K hK => ?_)
            go_simp
            obtain ⟨W17, hW17⟩ : ∃ W17, W17 = w16.alloc (.cells #[.int .i64 (k5 : Nat)] 3) := ⟨_, rfl⟩
            have hf17 : Fr Nil w16 W17 := by rw [hW17]; exact (Fr.refl _ _).alloc _
            have hl17 : View W17 (New w16) 1 (.slice (some ⟨w16.heap.size, 0, none⟩) 1 1) 1 (ints .i64 [(k5 : Int)]) := by rw [hW17]; exact View.lit (s := 1) w16 #[.int .i64 (k5 : Nat)] 3 (0, 0) 1 rfl (by decide)
            have hS17 : (fun w' : World => w'.cell? ⟨nb, 2, none⟩ = some (.slice q1.A2 x1.ps.length q1.c2) ∧ w'.cell? ⟨nb, 3, none⟩ = some (.slice q1.A3 x1.gs.length q1.c3) ∧ w'.cell? ⟨pb, 0, none⟩ = some (.int .i64 (k2 : Nat)) ∧ w'.cell? ⟨pb, 1, none⟩ = some (.int .i64 (k3 : Nat)) ∧ w'.cell? ⟨pb, 2, none⟩ = some (.int .i64 (k4 : Nat))) W17 := mk5n hf17 hS16
            rw [← hW17]
            clear hW17
            refine hK.out _ _ (fun _ => hS17) ?_
            clear hK K
            try simp only [Act.put, List.getElem_toArray, List.getElem_cons_succ, List.getElem_cons_zero, List.setIfInBounds_toArray, List.set_cons_zero, List.set_cons_succ]
            have M17 := M16.fr hf17 (fun h => h) (fun _ _ h => h)
            have hfr17 := hfrA.thenNil hf17
            have hR17 := IsCs.fr t5 hRA hf17 (fun h => h) (fun _ _ h => h)
            have hB17 : B ≤ W17.heap.size := by have := hfr17.size; omega
            refine wpU_next (i := 10) rfl (by kernel_rfl) (fun K hK => ?_)
            refine step_app_view rfl _ _ 22 (by rfl) (.int .i64 0) 8 Try.underlying22 info_int rfl (by decide) M17.g (by rfl) hl17 (by rfl) (ints_cell [(k5 : Int)]) (by omega) (by decide) ?_
            intro A9 c9 w18 y1 y2
            obtain ⟨hn18, hf18, hn20, hq20, hf20⟩ := mid_gen M17 (by decide) (by decide) (by decide) hB17 y1 y2 hBn (by decide) (by decide)
            have hS18 : (fun w' : World => w'.cell? ⟨nb, 2, none⟩ = some (.slice q1.A2 x1.ps.length q1.c2) ∧ w'.cell? ⟨nb, 3, none⟩ = some (.slice q1.A3 x1.gs.length q1.c3) ∧ w'.cell? ⟨pb, 0, none⟩ = some (.int .i64 (k2 : Nat)) ∧ w'.cell? ⟨pb, 1, none⟩ = some (.int .i64 (k3 : Nat)) ∧ w'.cell? ⟨pb, 2, none⟩ = some (.int .i64 (k4 : Nat))) w18 := ⟨hn18.cell 2, hn18.cell 3, y2.cell hS17.2.2.1 (fun e => by have := hlt10.out _ (.inr (.inr (.inl e))); dsimp only at this; omega), y2.cell hS17.2.2.2.1 (fun e => by have := hlt10.out _ (.inr (.inr (.inl e))); dsimp only at this; omega), y2.cell hS17.2.2.2.2 (fun e => by have := hlt10.out _ (.inr (.inr (.inl e))); dsimp only at this; omega)⟩
            refine hK.out _ _ (fun _ => hS18) ?_
            clear hK K
            try simp only [Act.put, List.getElem_toArray, List.getElem_cons_succ, List.getElem_cons_zero, List.setIfInBounds_toArray, List.set_cons_zero, List.set_cons_succ]
            have hR18 := IsCs.fr t5 hR17 hf18 (fun e => by omega) (fun k hk e => by have := hT k hk; omega)
            have hR20 := IsCs.fr t5 hR18 hf20 hcn (fun k hk (e : k = nb) => by have := hT k hk; omega)
            have hfr20 := (hfr17.then (hf18.mono fun k hk => .inr hk)).then (hf20.mono fun k hk => .inl (.inl hk))
            have o2 : w18.cell? ⟨nb, 2, none⟩ = some (.slice q1.A2 x1.ps.length q1.c2) := hn18.cell 2
            have z2 := hn18.frozen 2
            have o3 : w18.cell? ⟨nb, 3, none⟩ = some (.slice q1.A3 x1.gs.length q1.c3) := hn18.cell 3
            have z3 := hn18.frozen 3
            have l18 := hn18.lt
            clear y1 y2 M15 M16 M17 hS14 hS15 hS16 hS17 hS18 hR15 hRA hR17 hR18 hf17 hl17 hf15 hfA hfrA hfr14 hfr15 hfr17 hf18 hf20 hn18 hp13
            refine wpU_next (i := 12) rfl (by kernel_rfl) (fun K hK => ?_)
            go_simp
            refine hK.out _ _ (fun h => absurd rfl h.1) ?_
            clear hK K
            try simp only [Act.put, List.getElem_toArray, List.getElem_cons_succ, List.getElem_cons_zero, List.setIfInBounds_toArray, List.set_cons_zero, List.set_cons_succ]
            refine wpU_next (i := 13) rfl (by kernel_rfl) (fun K hK => ?_)
            go_simp
            refine hK.out _ _ (fun h => nomatch (show true = false from h.2)) ?_
            clear hK K
            try simp only [Act.put, List.getElem_toArray, List.getElem_cons_succ, List.getElem_cons_zero, List.setIfInBounds_toArray, List.set_cons_zero, List.set_cons_succ]
            refine wpU_next (i := 14) rfl (by kernel_rfl) (fun K hK => ?_)
            go_simp
            refine hK.out _ _ (fun h => nomatch (show true = false from h.2)) ?_
            refine wpU_done (by kernel_rfl) ?_ _
            clear hK K o2 o3 z2 z3 l18
            obtain ⟨x3, hx3⟩ : ∃ y : Nd, y = ⟨x1.h, x1.ks, x1.ps ++ [⟨(k2 : Int), (k3 : Int), (k4 : Int)⟩], x1.gs ++ [(k5 : Int)], x1.ds⟩ := ⟨_, rfl⟩
            obtain ⟨q3, hq3⟩ : ∃ y : Ptr, y = ⟨q1.A1, q1.c1, A8, c8, A9, c9, q1.A4, q1.c4⟩ := ⟨_, rfl⟩
            rw [← hx3, ← hq3] at hn20 hq20
            have Hx3 := hid hx3
            clear hx3 hq3
            have hx0 : x.h = 0 := by have := Hee1.out.1; have := H0.out; omega
            have hfin : Hid (rdS (m - (i + 1)) x3 t5 = rdS m ⟨(h : Nat), [], [], [], []⟩ s2) := hid (by
              rw [← hrd.out, Hrd.out, show wd x = 5 from by unfold wd; rw [if_pos hx0]]
              simp only [numsS, ← Hk1.out, ← Ht1.out, ← Hk2.out, ← Ht2.out, ← Hk3.out, ← Ht3.out, ← Hk4.out, ← Ht4.out, ← Hk5.out, ← Ht5.out]
              rw [show m - i - 1 = m - (i + 1) by omega, show x3 = addE x [k1, k2, k3, k4, k5] from by unfold addE; rw [if_pos hx0, Hx3.out, Hx1.out]; rfl])
            have hlen : Hid (x3.ks.length ≤ i + 1 ∧ x3.ps.length ≤ i + 1 ∧ x3.gs.length ≤ i + 1 ∧ x3.ds.length ≤ i + 1) := hid (by
              have := Hee1.out
              rw [Hx3.out]
              simp only [List.length_append, List.length_cons, List.length_nil]
              omega)
            clear hx0
            generalize (w18.setCell ⟨nb, 2, none⟩ _).setCell ⟨nb, 3, none⟩ _ = w20 at *
            go_wp2
            go_roundw
            case rel => exact ⟨i + 1, t5, x3, q3, by go_num, by omega, hfr20, hR20, hn20, hq20, hfin, hlen.out.1, hlen.out.2.1, hlen.out.2.2.1, hlen.out.2.2.2⟩
            case measure => simp [intOf]; omega
          · have hb0 : (x1.h == 0) = false := by simpa using h0
            have H0 := hid h0; clear h0
            have ld1 : x1.ds.length ≤ i := by have := Hee1.out; omega
            go_wp2_with fail
            clear e0
            refine (refnum_st T cb xs (t1) (by omega) hB (w8) hTc hRC).mono ?_
            rintro e w9 ⟨rfl, hfA, hRA⟩
            obtain ⟨k2, Kk2⟩ : ∃ k, k = numV (t1) := ⟨_, rfl⟩
            obtain ⟨t2, Kt2⟩ : ∃ s, s = numR (t1) := ⟨_, rfl⟩
            rw [← Kt2] at hRA
            rw [← Kk2]
            have Hk2 := hid Kk2
            have Ht2 := hid Kt2
            clear Kk2 Kt2
            have hfrA := (hfrC).then (frT hfA)
            have hnB := Blk.fr hnA hfA hnc
            have hqB := Rws.fr hqA hfA (fun k hk (e : k = cb) => by omega)
            go_wp2_with fail
            refine (refnum_st T cb xs (t2) (by omega) hB (w9) hTc hRA).mono ?_
            rintro e w10 ⟨rfl, hfA, hRA⟩
            obtain ⟨k3, Kk3⟩ : ∃ k, k = numV (t2) := ⟨_, rfl⟩
            obtain ⟨t3, Kt3⟩ : ∃ s, s = numR (t2) := ⟨_, rfl⟩
            rw [← Kt3] at hRA
            rw [← Kk3]
            have Hk3 := hid Kk3
            have Ht3 := hid Kt3
            clear Kk3 Kt3
            have hfrA := (hfrA).then (frT hfA)
            replace hnA := Blk.fr hnB hfA hnc
            replace hqA := Rws.fr hqB hfA (fun k hk (e : k = cb) => by omega)
            replace hRC := hRA
            replace hfrC := hfrA
            clear hnB hqB hRA hfrA hfA
            go_wp2_with fail
            obtain ⟨W11, hW11⟩ : ∃ W11, W11 = w10.alloc (.cells #[.int .i64 (k2 : Nat), .int .i64 (k3 : Nat), .int .i64 0] 56) := ⟨_, rfl⟩
            have hp11 : Blk W11 w10.heap.size #[.int .i64 (k2 : Nat), .int .i64 (k3 : Nat), .int .i64 0] 56 := by rw [hW11]; exact Blk.new _ _ _
            have hf11 : Fr Nil w10 W11 := by rw [hW11]; exact (Fr.refl _ _).alloc _
            rw [← hW11]
            clear hW11
            have hlt10 := hid hqA.lt
            have hR11 := IsCs.fr t3 hRC hf11 (fun h => h) (fun _ _ h => h)
            have hn11 := hnA.fr hf11 (fun h => h)
            have hq11 := hqA.fr hf11 (fun _ _ h => h)
            obtain ⟨pb, hpb⟩ : ∃ pb, pb = w10.heap.size := ⟨_, rfl⟩
            have hpbB : B ≤ pb := by have := hfrC.size; omega
            rw [← hpb] at hp11 hlt10 ⊢
            have hpb2 : w10.heap.size ≤ pb := by omega
            clear hpb
            clear hRC
            refine (refnum_st T cb xs (t3) (by omega) hB (W11) hTc hR11).mono ?_
            rintro e w12 ⟨rfl, hfA, hRA⟩
            obtain ⟨k4, Kk4⟩ : ∃ k, k = numV (t3) := ⟨_, rfl⟩
            obtain ⟨t4, Kt4⟩ : ∃ s, s = numR (t3) := ⟨_, rfl⟩
            rw [← Kt4] at hRA
            rw [← Kk4]
            have Hk4 := hid Kk4
            have Ht4 := hid Kt4
            clear Kk4 Kt4
            have hfrA := ((hfrC.thenNil hf11)).then (frT hfA)
            have hn12 := hn11.fr hfA hnc
            have hq12 := Rws.fr hq11 hfA (fun k hk (e : k = cb) => by omega)
            have hp12 := hp11.fr hfA (fun e => by omega)
            have hs13 : Fr (fun k => k = pb) w12 (w12.setCell ⟨pb, 2, none⟩ (.int .i64 (k4 : Nat))) := (Fr.refl (fun k => k = pb) w12).setCell (a := ⟨pb, 2, none⟩) (.inl rfl) _
            have hp13 := hp12.set 2 (.int .i64 (k4 : Nat))
            clear hnA hqA
            have hnA := hn12.fr hs13 (fun e => by omega)
            have hqA := hq12.fr_own hs13 (fun k hk e => by have := hlt10.out k hk; omega)
            have hRC := IsCs.fr t4 hRA hs13 (fun e => by omega) (fun k hk e => by have := hT k hk; omega)
            have hfrD := hfrA.then (hs13.mono fun k hk => .inr (by omega))
            have pc2 := hp12.cell 2
            have pz2 := hp12.frozen 2
            have hplt := hp12.lt
            go_upto_region 16 with (fail)
            clear hn11 hq11 hn12 hq12 hp11 hp12 hR11 hRA hfA hfrA hfrC hf11 hs13 pc2 pz2 hplt
            generalize w12.setCell ⟨pb, 2, none⟩ (.int .i64 (k4 : Nat)) = w13 at *
            have b4 : w13.cell? ⟨nb, 4, none⟩ = some (.slice q1.A4 x1.ds.length q1.c4) := hnA.cell 4
            have p0 : w13.cell? ⟨pb, 0, none⟩ = some (.int .i64 (k2 : Nat)) := hp13.cell 0
            have p1 : w13.cell? ⟨pb, 1, none⟩ = some (.int .i64 (k3 : Nat)) := hp13.cell 1
            have p2 : w13.cell? ⟨pb, 2, none⟩ = some (.int .i64 (k4 : Nat)) := hp13.cell 2
            have hB13 : B ≤ w13.heap.size := by have := hfrD.size; omega
            go_wp2_with (at_builtin; refine wp_app_view rfl _ _ 24 rfl (.agg #[.int .i64 0, .int .i64 0, .int .i64 0]) 24 Try.underlying24 info_rkid rfl (by decide) (hqA.alloc _).d rfl (View.lit (s := 3) w13 #[.int .i64 (k2 : Nat), .int .i64 (k3 : Nat), .int .i64 (k4 : Nat)] 56 (0, 0) 1 rfl (by decide)) rfl (kcells_cell ⟨k2, k3, k4⟩) (by omega) (by decide) ?_)
            intro A8 c8 w15 y1 y2 y3
            have G := grew_kid (hnA.alloc (.cells #[.int .i64 (k2 : Nat), .int .i64 (k3 : Nat), .int .i64 (k4 : Nat)] 56)) (hqA.alloc _) (by decide) (by decide) (by decide) (by decide) (by decide) (by decide) (by rw [World.size_alloc]; omega) ⟨k2, k3, k4⟩ y1 y2
            have o1 : w15.cell? ⟨nb, 4, none⟩ = some (.slice q1.A4 x1.ds.length q1.c4) := G.old.cell 4
            have z1 := G.old.frozen 4
            have l1 := G.old.lt
            clear y1 y2 y3 b4 p0 p1 p2
            have hRB := IsCs.fr (S1 := Nil) t4 hRC ((Fr.refl Nil w13).alloc (.cells #[.int .i64 (k2 : Nat), .int .i64 (k3 : Nat), .int .i64 (k4 : Nat)] 56)) (fun h => h) (fun _ _ h => h)
            have hR20 := IsCs.fr t4 hRB G.fr (fun h => h.elim (fun e => hcn e) (fun e => by omega)) (fun k hk h => h.elim (fun e => by have := hT k hk; omega) (fun e => by have := hT k hk; omega))
            have hfr20 := (hfrD.alloc (.cells #[.int .i64 (k2 : Nat), .int .i64 (k3 : Nat), .int .i64 (k4 : Nat)] 56)).trans G.fr (fun k hk => hk.elim (fun h => .inl (.inl (.inl h))) (fun h => .inl (.inr h)))
            obtain ⟨x2, hx2⟩ : ∃ y : Nd, y = ⟨x1.h, x1.ks, x1.ps, x1.gs, x1.ds ++ [⟨(k2 : Int), (k3 : Int), (k4 : Int)⟩]⟩ := ⟨_, rfl⟩
            obtain ⟨q2, hq2⟩ : ∃ y : Ptr, y = ⟨q1.A1, q1.c1, q1.A2, q1.c2, q1.A3, q1.c3, A8, c8⟩ := ⟨_, rfl⟩
            have hn20 := G.blk
            have hq20 := G.rws
            rw [← hx2, ← hq2] at hn20 hq20
            have Hx2 := hid hx2
            clear hx2 hq2 G hRB hRC hfrD hnA hqA hp13
            have hx0 : x.h ≠ 0 := fun h9 => H0.out (by have := Hee1.out.1; omega)
            have hfin : Hid (rdS (m - (i + 1)) x2 t4 = rdS m ⟨(h : Nat), [], [], [], []⟩ s2) := hid (by
              rw [← hrd.out, Hrd.out, show wd x = 4 from by unfold wd; rw [if_neg hx0]]
              simp only [numsS, ← Hk1.out, ← Ht1.out, ← Hk2.out, ← Ht2.out, ← Hk3.out, ← Ht3.out, ← Hk4.out, ← Ht4.out]
              rw [show m - i - 1 = m - (i + 1) by omega, show x2 = addE x [k1, k2, k3, k4] from by unfold addE; rw [if_neg hx0, Hx2.out, Hx1.out]; rfl])
            have hlen : Hid (x2.ks.length ≤ i + 1 ∧ x2.ps.length ≤ i + 1 ∧ x2.gs.length ≤ i + 1 ∧ x2.ds.length ≤ i + 1) := hid (by
              have := Hee1.out
              rw [Hx2.out]
              simp only [List.length_append, List.length_cons, List.length_nil]
              omega)
            clear hx0
            go_wp2
            clear o1 z1 l1
            generalize w15.setCell ⟨nb, 4, none⟩ _ = w20 at *
            go_roundw
            case rel => exact ⟨i + 1, t4, x2, q2, by go_num, by omega, hfr20, hR20, hn20, hq20, hfin, hlen.out.1, hlen.out.2.1, hlen.out.2.2.1, hlen.out.2.2.2⟩
            case measure => simp [intOf]; omega
        · have Hfx : Hid (D = finS (x, st)) := hid (by
            rw [Hfin.out, ← hrd.out]
            by_cases hlt : i < m
            · cases st with
              | inl bs => exact absurd ⟨hlt, rfl⟩ hgo
              | inr e => rw [rdS_bad]
            · rw [show m - i = 0 by omega]; rfl)
          have hst : i < m → (badS st == 0) = false := fun hlt => by simpa using fun hb => hgo ⟨hlt, hb⟩
          obtain ⟨bb, hbb⟩ : ∃ b, b = badS st := ⟨_, rfl⟩
          rw [← hbb] at hc2 hst
          clear hbb hbz hgo hrd lk lp lg ld Hfin
          by_cases hlt : i < m
          · have hb1 := hst hlt
            clear hst
            go_wp2_with fail
            refine (refend_st T cb xs st (by omega) wr hCr).mono ?_
            rintro e w5 ⟨rfl, hf5⟩
            obtain ⟨ee, hee⟩ : ∃ e, e = endS st := ⟨_, rfl⟩
            rw [← hee]
            have Hee := hid hee
            have hn5 := hnr.fr hf5 (fun h => h)
            have hq5 := hqr.fr hf5 (fun _ _ h => h)
            have hg5 := (hg4.fr hfr (fun h => h.elim (fun h => h.elim (fun e => by omega) (fun e => by omega)) (fun e => by omega))).fr hf5 (fun h => h)
            have hfw : Fr Nil w w5 := (hfw4.trans hfr (fun k hk => .inr (hk.elim (fun h => h.elim (fun e => by omega) (fun e => by omega)) (fun e => by omega)))).then hf5
            have hV5 := hq5.vs
            clear hee hc2 hCr hnr hqr hfr hf5
            by_cases h0 : ee = 0
            · subst h0
              have i0 : w5.cell? ⟨g0, 0, none⟩ = some (.int .i64 0) := hg5.cell 0
              have i1 : w5.cell? ⟨g0, 1, none⟩ = some (.slice none 0 0) := hg5.cell 1
              have i2 : w5.cell? ⟨g0, 2, none⟩ = some (.slice none 0 0) := hg5.cell 2
              have i3 : w5.cell? ⟨g0, 3, none⟩ = some (.slice none 0 0) := hg5.cell 3
              have i4 : w5.cell? ⟨g0, 4, none⟩ = some (.slice none 0 0) := hg5.cell 4
              have z0 := hg5.frozen 0
              have z1 := hg5.frozen 1
              have z2 := hg5.frozen 2
              have z3 := hg5.frozen 3
              have z4 := hg5.frozen 4
              have hgw := hg5.lt
              have j0 : w5.cell? ⟨nb, 0, none⟩ = some (.int .i64 x.h) := hn5.cell 0
              have j1 : w5.cell? ⟨nb, 1, none⟩ = some (.slice q.A1 x.ks.length q.c1) := hn5.cell 1
              have j2 : w5.cell? ⟨nb, 2, none⟩ = some (.slice q.A2 x.ps.length q.c2) := hn5.cell 2
              have j3 : w5.cell? ⟨nb, 3, none⟩ = some (.slice q.A3 x.gs.length q.c3) := hn5.cell 3
              have j4 : w5.cell? ⟨nb, 4, none⟩ = some (.slice q.A4 x.ds.length q.c4) := hn5.cell 4
              by_cases hm : MayNd x
              · have hd : Hid (D = .inl x) := hid (by rw [Hfx.out]; unfold finS; dsimp only; rw [← Hee.out, if_neg (by decide), if_pos hm])
                have hdec := hid (decide_eq_true hm)
                clear hm
                go_wp2_with fail
                refine (refmay_ok _ q x _ hdec.out _ hV5).mono ?_
                rintro e w6 ⟨rfl, hf6⟩
                replace hg5 := hg5.fr hf6 fun h => h
                replace hn5 := hn5.fr hf6 fun h => h
                replace hfw := hfw.then hf6
                replace hV5 := hV5.nil hf6
                clear i0 i1 i2 i3 i4 j0 j1 j2 j3 j4 z0 z1 z2 z3 z4 hgw hq5 hf6
                generalize w6 = w5 at *
                have i0 : w5.cell? ⟨g0, 0, none⟩ = some (.int .i64 0) := hg5.cell 0
                have i1 : w5.cell? ⟨g0, 1, none⟩ = some (.slice none 0 0) := hg5.cell 1
                have i2 : w5.cell? ⟨g0, 2, none⟩ = some (.slice none 0 0) := hg5.cell 2
                have i3 : w5.cell? ⟨g0, 3, none⟩ = some (.slice none 0 0) := hg5.cell 3
                have i4 : w5.cell? ⟨g0, 4, none⟩ = some (.slice none 0 0) := hg5.cell 4
                have z0 := hg5.frozen 0
                have z1 := hg5.frozen 1
                have z2 := hg5.frozen 2
                have z3 := hg5.frozen 3
                have z4 := hg5.frozen 4
                have hgw := hg5.lt
                have j0 : w5.cell? ⟨nb, 0, none⟩ = some (.int .i64 x.h) := hn5.cell 0
                have j1 : w5.cell? ⟨nb, 1, none⟩ = some (.slice q.A1 x.ks.length q.c1) := hn5.cell 1
                have j2 : w5.cell? ⟨nb, 2, none⟩ = some (.slice q.A2 x.ps.length q.c2) := hn5.cell 2
                have j3 : w5.cell? ⟨nb, 3, none⟩ = some (.slice q.A3 x.gs.length q.c3) := hn5.cell 3
                have j4 : w5.cell? ⟨nb, 4, none⟩ = some (.slice q.A4 x.ds.length q.c4) := hn5.cell 4
                go_wp2
                have hV6 := hV5.fr (st5_fr w5 g0 (.int .i64 x.h) (.slice q.A1 x.ks.length q.c1) (.slice q.A2 x.ps.length q.c2) (.slice q.A3 x.gs.length q.c3) (.slice q.A4 x.ds.length q.c4)) (fun k (hk : B ≤ k) _ (h : k = g0) => by omega)
                unfold st5 at hV6
                have hb6 := st5_blk hg5 (.int .i64 x.h) (.slice q.A1 x.ks.length q.c1) (.slice q.A2 x.ps.length q.c2) (.slice q.A3 x.gs.length q.c3) (.slice q.A4 x.ds.length q.c4)
                have hff : Fr Nil w (st5 w5 g0 (.int .i64 x.h) (.slice q.A1 x.ks.length q.c1) (.slice q.A2 x.ps.length q.c2) (.slice q.A3 x.gs.length q.c3) (.slice q.A4 x.ds.length q.c4)) := hfw.trans (st5_fr w5 g0 (.int .i64 x.h) (.slice q.A1 x.ks.length q.c1) (.slice q.A2 x.ps.length q.c2) (.slice q.A3 x.gs.length q.c3) (.slice q.A4 x.ds.length q.c4)) (fun k hk => .inr (by omega))
                unfold st5 at hb6 hff
                generalize ((((w5.setCell ⟨g0, 0, none⟩ (.int .i64 x.h)).setCell ⟨g0, 1, none⟩ (.slice q.A1 x.ks.length q.c1)).setCell ⟨g0, 2, none⟩ (.slice q.A2 x.ps.length q.c2)).setCell ⟨g0, 3, none⟩ (.slice q.A3 x.gs.length q.c3)).setCell ⟨g0, 4, none⟩ (.slice q.A4 x.ds.length q.c4) = w7 at *
                have r0 : w7.cell? ⟨g0, 0, none⟩ = some (.int .i64 x.h) := hb6.cell 0
                have r1 : w7.cell? ⟨g0, 1, none⟩ = some (.slice q.A1 x.ks.length q.c1) := hb6.cell 1
                have r2 : w7.cell? ⟨g0, 2, none⟩ = some (.slice q.A2 x.ps.length q.c2) := hb6.cell 2
                have r3 : w7.cell? ⟨g0, 3, none⟩ = some (.slice q.A3 x.gs.length q.c3) := hb6.cell 3
                have r4 : w7.cell? ⟨g0, 4, none⟩ = some (.slice q.A4 x.ds.length q.c4) := hb6.cell 4
                simp [bodyPost, results, Try.results19, go_sem, r0, r1, r2, r3, r4]
                rw [hd.out]
                exact ⟨q, rfl, hV6.mono fun k (hk : B ≤ k) => by show w.heap.size ≤ k; omega, hff⟩
              · have hd : Hid (D = .inr 4) := hid (by rw [Hfx.out]; unfold finS; dsimp only; rw [← Hee.out, if_neg (by decide), if_neg hm])
                have hdec := hid (decide_eq_false hm)
                clear hm
                go_wp2_with fail
                refine (refmay_ok _ q x _ hdec.out _ hV5).mono ?_
                rintro e w6 ⟨rfl, hf6⟩
                replace hg5 := hg5.fr hf6 fun h => h
                replace hfw := hfw.then hf6
                clear i0 i1 i2 i3 i4 j0 j1 j2 j3 j4 z0 z1 z2 z3 z4 hgw hq5 hf6 hn5 hV5
                generalize w6 = w5 at *
                have i0 : w5.cell? ⟨g0, 0, none⟩ = some (.int .i64 0) := hg5.cell 0
                have i1 : w5.cell? ⟨g0, 1, none⟩ = some (.slice none 0 0) := hg5.cell 1
                have i2 : w5.cell? ⟨g0, 2, none⟩ = some (.slice none 0 0) := hg5.cell 2
                have i3 : w5.cell? ⟨g0, 3, none⟩ = some (.slice none 0 0) := hg5.cell 3
                have i4 : w5.cell? ⟨g0, 4, none⟩ = some (.slice none 0 0) := hg5.cell 4
                have z0 := hg5.frozen 0
                have z1 := hg5.frozen 1
                have z2 := hg5.frozen 2
                have z3 := hg5.frozen 3
                have z4 := hg5.frozen 4
                have hgw := hg5.lt
                go_wp2
                have hb6 := st5_blk hg5 (.int .i64 0) (.slice none 0 0) (.slice none 0 0) (.slice none 0 0) (.slice none 0 0)
                have hff : Fr Nil w (st5 w5 g0 (.int .i64 0) (.slice none 0 0) (.slice none 0 0) (.slice none 0 0) (.slice none 0 0)) := hfw.trans (st5_fr w5 g0 (.int .i64 0) (.slice none 0 0) (.slice none 0 0) (.slice none 0 0) (.slice none 0 0)) (fun k hk => .inr (by omega))
                unfold st5 at hb6 hff
                generalize ((((w5.setCell ⟨g0, 0, none⟩ (.int .i64 0)).setCell ⟨g0, 1, none⟩ (.slice none 0 0)).setCell ⟨g0, 2, none⟩ (.slice none 0 0)).setCell ⟨g0, 3, none⟩ (.slice none 0 0)).setCell ⟨g0, 4, none⟩ (.slice none 0 0) = w7 at *
                have r0 : w7.cell? ⟨g0, 0, none⟩ = some (.int .i64 0) := hb6.cell 0
                have r1 : w7.cell? ⟨g0, 1, none⟩ = some (.slice none 0 0) := hb6.cell 1
                have r2 : w7.cell? ⟨g0, 2, none⟩ = some (.slice none 0 0) := hb6.cell 2
                have r3 : w7.cell? ⟨g0, 3, none⟩ = some (.slice none 0 0) := hb6.cell 3
                have r4 : w7.cell? ⟨g0, 4, none⟩ = some (.slice none 0 0) := hb6.cell 4
                simp [bodyPost, results, Try.results19, go_sem, r0, r1, r2, r3, r4]
                rw [hd.out]
                exact ⟨rfl, hff⟩
            · have hd : Hid (D = .inr ee) := hid (by rw [Hfx.out]; unfold finS; dsimp only; rw [← Hee.out, if_pos h0])
              have hb9 : (ee == 0) = false := by simpa using h0
              have H9 := hid h0; clear h0
              have i0 : w5.cell? ⟨g0, 0, none⟩ = some (.int .i64 0) := hg5.cell 0
              have i1 : w5.cell? ⟨g0, 1, none⟩ = some (.slice none 0 0) := hg5.cell 1
              have i2 : w5.cell? ⟨g0, 2, none⟩ = some (.slice none 0 0) := hg5.cell 2
              have i3 : w5.cell? ⟨g0, 3, none⟩ = some (.slice none 0 0) := hg5.cell 3
              have i4 : w5.cell? ⟨g0, 4, none⟩ = some (.slice none 0 0) := hg5.cell 4
              have z0 := hg5.frozen 0
              have z1 := hg5.frozen 1
              have z2 := hg5.frozen 2
              have z3 := hg5.frozen 3
              have z4 := hg5.frozen 4
              have hgw := hg5.lt
              go_wp2
              have hb6 := st5_blk hg5 (.int .i64 0) (.slice none 0 0) (.slice none 0 0) (.slice none 0 0) (.slice none 0 0)
              have hff : Fr Nil w (st5 w5 g0 (.int .i64 0) (.slice none 0 0) (.slice none 0 0) (.slice none 0 0) (.slice none 0 0)) := hfw.trans (st5_fr w5 g0 (.int .i64 0) (.slice none 0 0) (.slice none 0 0) (.slice none 0 0) (.slice none 0 0)) (fun k hk => .inr (by omega))
              unfold st5 at hb6 hff
              generalize ((((w5.setCell ⟨g0, 0, none⟩ (.int .i64 0)).setCell ⟨g0, 1, none⟩ (.slice none 0 0)).setCell ⟨g0, 2, none⟩ (.slice none 0 0)).setCell ⟨g0, 3, none⟩ (.slice none 0 0)).setCell ⟨g0, 4, none⟩ (.slice none 0 0) = w7 at *
              have r0 : w7.cell? ⟨g0, 0, none⟩ = some (.int .i64 0) := hb6.cell 0
              have r1 : w7.cell? ⟨g0, 1, none⟩ = some (.slice none 0 0) := hb6.cell 1
              have r2 : w7.cell? ⟨g0, 2, none⟩ = some (.slice none 0 0) := hb6.cell 2
              have r3 : w7.cell? ⟨g0, 3, none⟩ = some (.slice none 0 0) := hb6.cell 3
              have r4 : w7.cell? ⟨g0, 4, none⟩ = some (.slice none 0 0) := hb6.cell 4
              simp [bodyPost, results, Try.results19, go_sem, r0, r1, r2, r3, r4]
              rw [hd.out]
              exact ⟨rfl, hff⟩
          · clear hst
            go_wp2_with fail
            refine (refend_st T cb xs st (by omega) wr hCr).mono ?_
            rintro e w5 ⟨rfl, hf5⟩
            obtain ⟨ee, hee⟩ : ∃ e, e = endS st := ⟨_, rfl⟩
            rw [← hee]
            have Hee := hid hee
            have hn5 := hnr.fr hf5 (fun h => h)
            have hq5 := hqr.fr hf5 (fun _ _ h => h)
            have hg5 := (hg4.fr hfr (fun h => h.elim (fun h => h.elim (fun e => by omega) (fun e => by omega)) (fun e => by omega))).fr hf5 (fun h => h)
            have hfw : Fr Nil w w5 := (hfw4.trans hfr (fun k hk => .inr (hk.elim (fun h => h.elim (fun e => by omega) (fun e => by omega)) (fun e => by omega)))).then hf5
            have hV5 := hq5.vs
            clear hee hc2 hCr hnr hqr hfr hf5
            by_cases h0 : ee = 0
            · subst h0
              have i0 : w5.cell? ⟨g0, 0, none⟩ = some (.int .i64 0) := hg5.cell 0
              have i1 : w5.cell? ⟨g0, 1, none⟩ = some (.slice none 0 0) := hg5.cell 1
              have i2 : w5.cell? ⟨g0, 2, none⟩ = some (.slice none 0 0) := hg5.cell 2
              have i3 : w5.cell? ⟨g0, 3, none⟩ = some (.slice none 0 0) := hg5.cell 3
              have i4 : w5.cell? ⟨g0, 4, none⟩ = some (.slice none 0 0) := hg5.cell 4
              have z0 := hg5.frozen 0
              have z1 := hg5.frozen 1
              have z2 := hg5.frozen 2
              have z3 := hg5.frozen 3
              have z4 := hg5.frozen 4
              have hgw := hg5.lt
              have j0 : w5.cell? ⟨nb, 0, none⟩ = some (.int .i64 x.h) := hn5.cell 0
              have j1 : w5.cell? ⟨nb, 1, none⟩ = some (.slice q.A1 x.ks.length q.c1) := hn5.cell 1
              have j2 : w5.cell? ⟨nb, 2, none⟩ = some (.slice q.A2 x.ps.length q.c2) := hn5.cell 2
              have j3 : w5.cell? ⟨nb, 3, none⟩ = some (.slice q.A3 x.gs.length q.c3) := hn5.cell 3
              have j4 : w5.cell? ⟨nb, 4, none⟩ = some (.slice q.A4 x.ds.length q.c4) := hn5.cell 4
              by_cases hm : MayNd x
              · have hd : Hid (D = .inl x) := hid (by rw [Hfx.out]; unfold finS; dsimp only; rw [← Hee.out, if_neg (by decide), if_pos hm])
                have hdec := hid (decide_eq_true hm)
                clear hm
                go_wp2_with fail
                refine (refmay_ok _ q x _ hdec.out _ hV5).mono ?_
                rintro e w6 ⟨rfl, hf6⟩
                replace hg5 := hg5.fr hf6 fun h => h
                replace hn5 := hn5.fr hf6 fun h => h
                replace hfw := hfw.then hf6
                replace hV5 := hV5.nil hf6
                clear i0 i1 i2 i3 i4 j0 j1 j2 j3 j4 z0 z1 z2 z3 z4 hgw hq5 hf6
                generalize w6 = w5 at *
                have i0 : w5.cell? ⟨g0, 0, none⟩ = some (.int .i64 0) := hg5.cell 0
                have i1 : w5.cell? ⟨g0, 1, none⟩ = some (.slice none 0 0) := hg5.cell 1
                have i2 : w5.cell? ⟨g0, 2, none⟩ = some (.slice none 0 0) := hg5.cell 2
                have i3 : w5.cell? ⟨g0, 3, none⟩ = some (.slice none 0 0) := hg5.cell 3
                have i4 : w5.cell? ⟨g0, 4, none⟩ = some (.slice none 0 0) := hg5.cell 4
                have z0 := hg5.frozen 0
                have z1 := hg5.frozen 1
                have z2 := hg5.frozen 2
                have z3 := hg5.frozen 3
                have z4 := hg5.frozen 4
                have hgw := hg5.lt
                have j0 : w5.cell? ⟨nb, 0, none⟩ = some (.int .i64 x.h) := hn5.cell 0
                have j1 : w5.cell? ⟨nb, 1, none⟩ = some (.slice q.A1 x.ks.length q.c1) := hn5.cell 1
                have j2 : w5.cell? ⟨nb, 2, none⟩ = some (.slice q.A2 x.ps.length q.c2) := hn5.cell 2
                have j3 : w5.cell? ⟨nb, 3, none⟩ = some (.slice q.A3 x.gs.length q.c3) := hn5.cell 3
                have j4 : w5.cell? ⟨nb, 4, none⟩ = some (.slice q.A4 x.ds.length q.c4) := hn5.cell 4
                go_wp2
                have hV6 := hV5.fr (st5_fr w5 g0 (.int .i64 x.h) (.slice q.A1 x.ks.length q.c1) (.slice q.A2 x.ps.length q.c2) (.slice q.A3 x.gs.length q.c3) (.slice q.A4 x.ds.length q.c4)) (fun k (hk : B ≤ k) _ (h : k = g0) => by omega)
                unfold st5 at hV6
                have hb6 := st5_blk hg5 (.int .i64 x.h) (.slice q.A1 x.ks.length q.c1) (.slice q.A2 x.ps.length q.c2) (.slice q.A3 x.gs.length q.c3) (.slice q.A4 x.ds.length q.c4)
                have hff : Fr Nil w (st5 w5 g0 (.int .i64 x.h) (.slice q.A1 x.ks.length q.c1) (.slice q.A2 x.ps.length q.c2) (.slice q.A3 x.gs.length q.c3) (.slice q.A4 x.ds.length q.c4)) := hfw.trans (st5_fr w5 g0 (.int .i64 x.h) (.slice q.A1 x.ks.length q.c1) (.slice q.A2 x.ps.length q.c2) (.slice q.A3 x.gs.length q.c3) (.slice q.A4 x.ds.length q.c4)) (fun k hk => .inr (by omega))
                unfold st5 at hb6 hff
                generalize ((((w5.setCell ⟨g0, 0, none⟩ (.int .i64 x.h)).setCell ⟨g0, 1, none⟩ (.slice q.A1 x.ks.length q.c1)).setCell ⟨g0, 2, none⟩ (.slice q.A2 x.ps.length q.c2)).setCell ⟨g0, 3, none⟩ (.slice q.A3 x.gs.length q.c3)).setCell ⟨g0, 4, none⟩ (.slice q.A4 x.ds.length q.c4) = w7 at *
                have r0 : w7.cell? ⟨g0, 0, none⟩ = some (.int .i64 x.h) := hb6.cell 0
                have r1 : w7.cell? ⟨g0, 1, none⟩ = some (.slice q.A1 x.ks.length q.c1) := hb6.cell 1
                have r2 : w7.cell? ⟨g0, 2, none⟩ = some (.slice q.A2 x.ps.length q.c2) := hb6.cell 2
                have r3 : w7.cell? ⟨g0, 3, none⟩ = some (.slice q.A3 x.gs.length q.c3) := hb6.cell 3
                have r4 : w7.cell? ⟨g0, 4, none⟩ = some (.slice q.A4 x.ds.length q.c4) := hb6.cell 4
                simp [bodyPost, results, Try.results19, go_sem, r0, r1, r2, r3, r4]
                rw [hd.out]
                exact ⟨q, rfl, hV6.mono fun k (hk : B ≤ k) => by show w.heap.size ≤ k; omega, hff⟩
              · have hd : Hid (D = .inr 4) := hid (by rw [Hfx.out]; unfold finS; dsimp only; rw [← Hee.out, if_neg (by decide), if_neg hm])
                have hdec := hid (decide_eq_false hm)
                clear hm
                go_wp2_with fail
                refine (refmay_ok _ q x _ hdec.out _ hV5).mono ?_
                rintro e w6 ⟨rfl, hf6⟩
                replace hg5 := hg5.fr hf6 fun h => h
                replace hfw := hfw.then hf6
                clear i0 i1 i2 i3 i4 j0 j1 j2 j3 j4 z0 z1 z2 z3 z4 hgw hq5 hf6 hn5 hV5
                generalize w6 = w5 at *
                have i0 : w5.cell? ⟨g0, 0, none⟩ = some (.int .i64 0) := hg5.cell 0
                have i1 : w5.cell? ⟨g0, 1, none⟩ = some (.slice none 0 0) := hg5.cell 1
                have i2 : w5.cell? ⟨g0, 2, none⟩ = some (.slice none 0 0) := hg5.cell 2
                have i3 : w5.cell? ⟨g0, 3, none⟩ = some (.slice none 0 0) := hg5.cell 3
                have i4 : w5.cell? ⟨g0, 4, none⟩ = some (.slice none 0 0) := hg5.cell 4
                have z0 := hg5.frozen 0
                have z1 := hg5.frozen 1
                have z2 := hg5.frozen 2
                have z3 := hg5.frozen 3
                have z4 := hg5.frozen 4
                have hgw := hg5.lt
                go_wp2
                have hb6 := st5_blk hg5 (.int .i64 0) (.slice none 0 0) (.slice none 0 0) (.slice none 0 0) (.slice none 0 0)
                have hff : Fr Nil w (st5 w5 g0 (.int .i64 0) (.slice none 0 0) (.slice none 0 0) (.slice none 0 0) (.slice none 0 0)) := hfw.trans (st5_fr w5 g0 (.int .i64 0) (.slice none 0 0) (.slice none 0 0) (.slice none 0 0) (.slice none 0 0)) (fun k hk => .inr (by omega))
                unfold st5 at hb6 hff
                generalize ((((w5.setCell ⟨g0, 0, none⟩ (.int .i64 0)).setCell ⟨g0, 1, none⟩ (.slice none 0 0)).setCell ⟨g0, 2, none⟩ (.slice none 0 0)).setCell ⟨g0, 3, none⟩ (.slice none 0 0)).setCell ⟨g0, 4, none⟩ (.slice none 0 0) = w7 at *
                have r0 : w7.cell? ⟨g0, 0, none⟩ = some (.int .i64 0) := hb6.cell 0
                have r1 : w7.cell? ⟨g0, 1, none⟩ = some (.slice none 0 0) := hb6.cell 1
                have r2 : w7.cell? ⟨g0, 2, none⟩ = some (.slice none 0 0) := hb6.cell 2
                have r3 : w7.cell? ⟨g0, 3, none⟩ = some (.slice none 0 0) := hb6.cell 3
                have r4 : w7.cell? ⟨g0, 4, none⟩ = some (.slice none 0 0) := hb6.cell 4
                simp [bodyPost, results, Try.results19, go_sem, r0, r1, r2, r3, r4]
                rw [hd.out]
                exact ⟨rfl, hff⟩
            · have hd : Hid (D = .inr ee) := hid (by rw [Hfx.out]; unfold finS; dsimp only; rw [← Hee.out, if_pos h0])
              have hb9 : (ee == 0) = false := by simpa using h0
              have H9 := hid h0; clear h0
              have i0 : w5.cell? ⟨g0, 0, none⟩ = some (.int .i64 0) := hg5.cell 0
              have i1 : w5.cell? ⟨g0, 1, none⟩ = some (.slice none 0 0) := hg5.cell 1
              have i2 : w5.cell? ⟨g0, 2, none⟩ = some (.slice none 0 0) := hg5.cell 2
              have i3 : w5.cell? ⟨g0, 3, none⟩ = some (.slice none 0 0) := hg5.cell 3
              have i4 : w5.cell? ⟨g0, 4, none⟩ = some (.slice none 0 0) := hg5.cell 4
              have z0 := hg5.frozen 0
              have z1 := hg5.frozen 1
              have z2 := hg5.frozen 2
              have z3 := hg5.frozen 3
              have z4 := hg5.frozen 4
              have hgw := hg5.lt
              go_wp2
              have hb6 := st5_blk hg5 (.int .i64 0) (.slice none 0 0) (.slice none 0 0) (.slice none 0 0) (.slice none 0 0)
              have hff : Fr Nil w (st5 w5 g0 (.int .i64 0) (.slice none 0 0) (.slice none 0 0) (.slice none 0 0) (.slice none 0 0)) := hfw.trans (st5_fr w5 g0 (.int .i64 0) (.slice none 0 0) (.slice none 0 0) (.slice none 0 0) (.slice none 0 0)) (fun k hk => .inr (by omega))
              unfold st5 at hb6 hff
              generalize ((((w5.setCell ⟨g0, 0, none⟩ (.int .i64 0)).setCell ⟨g0, 1, none⟩ (.slice none 0 0)).setCell ⟨g0, 2, none⟩ (.slice none 0 0)).setCell ⟨g0, 3, none⟩ (.slice none 0 0)).setCell ⟨g0, 4, none⟩ (.slice none 0 0) = w7 at *
              have r0 : w7.cell? ⟨g0, 0, none⟩ = some (.int .i64 0) := hb6.cell 0
              have r1 : w7.cell? ⟨g0, 1, none⟩ = some (.slice none 0 0) := hb6.cell 1
              have r2 : w7.cell? ⟨g0, 2, none⟩ = some (.slice none 0 0) := hb6.cell 2
              have r3 : w7.cell? ⟨g0, 3, none⟩ = some (.slice none 0 0) := hb6.cell 3
              have r4 : w7.cell? ⟨g0, 4, none⟩ = some (.slice none 0 0) := hb6.cell 4
              simp [bodyPost, results, Try.results19, go_sem, r0, r1, r2, r3, r4]
              rw [hd.out]
              exact ⟨rfl, hff⟩
end Go.Proofs.Ytidpabcfcdiecaa

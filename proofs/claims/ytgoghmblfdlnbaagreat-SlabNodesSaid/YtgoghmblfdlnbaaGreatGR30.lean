/- The texts VNdD2 of this proof, one behind the other. Conditions: those of each. -/
import Derived.Test.YtgoghmblfdlnbaaGreatGR29
section
/- node.Decode -/
set_option linter.unusedSimpArgs false
set_option linter.unusedVariables false
namespace Go.Proofs.YtgoghmblfdlnbaaGreat.nd
open Go.RowKit

theorem numF_bad : ∀ (f i x : Nat) (bs : List Nat) (e : Int), numF f i x bs = .bad e → e = 2 ∨ e = 4
  | 0, i, x, bs, e, h => by simp [numF] at h; omega
  | f + 1, i, x, [], e, h => by simp [numF] at h; omega
  | f + 1, i, x, c :: t, e, h => by
    simp only [numF] at h
    split at h
    · split at h
      · cases h; omega
      · cases h
    · exact numF_bad f _ _ t e h
theorem num_bad' {bs : List Nat} {e : Int} (h : num bs = .bad e) : e = 2 ∨ e = 4 := numF_bad 4 0 0 bs e h
theorem nums_bad : ∀ (c : Nat) (bs : List Nat) (e : Int), nums' c bs = .bad e → e = 2 ∨ e = 4
  | 0, bs, e, h => by simp [nums'] at h
  | c + 1, bs, e, h => by
    unfold nums' at h
    cases h1 : num bs with
    | bad e1 => rw [h1] at h; cases h; exact num_bad' h1
    | ok n r =>
      rw [h1] at h
      dsimp only at h
      cases h2 : nums' c r with
      | bad e2 => rw [h2] at h; cases h; exact nums_bad c r _ h2
      | ok l r' => rw [h2] at h; cases h
theorem rdN_bad : ∀ (m : Nat) (x : Nd) (bs : List Nat) (e : Int), rdN m x bs = .bad e → e = 2 ∨ e = 4
  | 0, x, bs, e, h => by simp [rdN] at h
  | m + 1, x, bs, e, h => by
    unfold rdN at h
    cases h1 : nums' (wd x) bs with
    | bad e1 => rw [h1] at h; cases h; exact nums_bad _ _ _ h1
    | ok l r => rw [h1] at h; exact rdN_bad m _ r e h
theorem outc_bad {bs : List Nat} {e : Int} (h : outc bs = .bad e) : e = 2 ∨ e = 4 := by
  unfold outc at h
  cases h1 : num bs with
  | bad e1 => rw [h1] at h; cases h; exact num_bad' h1
  | ok n r =>
    rw [h1] at h
    dsimp only at h
    cases h2 : num r with
    | bad e1 => rw [h2] at h; cases h; exact num_bad' h2
    | ok m r2 =>
      rw [h2] at h
      dsimp only at h
      split at h
      · cases h
      · cases h3 : rdN m ⟨n, [], [], [], []⟩ r2 with
        | bad e1 => rw [h3] at h; cases h; exact rdN_bad _ _ _ _ h3
        | ok x rest => rw [h3] at h; cases h

/-- The node without anything. -/
def nil5 : Array Value := #[.int .i64 0, .slice none 0 0, .slice none 0 0, .slice none 0 0, .slice none 0 0]
/-- What Decode leaves. -/
def DPost (w : World) (e : Ending) (w' : World) : Sum Nd Int → Prop
  | .inl x => ∃ q, e = .returned (.tuple #[.agg (ncells x q), .int .i64 0]) ∧ Vs w' (New w) q x ∧ Fr Nil w w'
  | .inr er => e = .returned (.tuple #[.agg nil5, .int .i64 er]) ∧ Fr Nil w w'

/-- A struct of five is stored whole. -/
def st5 (w : World) (g : Nat) (v0 v1 v2 v3 v4 : Value) : World := ((((w.setCell ⟨g, 0, none⟩ v0).setCell ⟨g, 1, none⟩ v1).setCell ⟨g, 2, none⟩ v2).setCell ⟨g, 3, none⟩ v3).setCell ⟨g, 4, none⟩ v4
theorem st5_blk {w : World} {g : Nat} {a b c d e : Value} {T : TypeId} (h : Blk w g #[a, b, c, d, e] T) (v0 v1 v2 v3 v4 : Value) : Blk (st5 w g v0 v1 v2 v3 v4) g #[v0, v1, v2, v3, v4] T :=
  ((((h.set 0 v0).set 1 v1).set 2 v2).set 3 v3).set 4 v4
theorem st5_fr (w : World) (g : Nat) (v0 v1 v2 v3 v4 : Value) : Fr (fun k => k = g) w (st5 w g v0 v1 v2 v3 v4) :=
  ((((((Fr.refl (fun k => k = g) w).setCell (a := ⟨g, 0, none⟩) (.inl rfl) _).setCell (a := ⟨g, 1, none⟩) (.inl rfl) _).setCell (a := ⟨g, 2, none⟩) (.inl rfl) _).setCell (a := ⟨g, 3, none⟩) (.inl rfl) _).setCell (a := ⟨g, 4, none⟩) (.inl rfl) _)

theorem call_dec (args : Array Value) (w : World) : (callFunc 77 args).run Tryz.prog w = .ok (.enter 77 args) w := by kernel_rfl

def DD (xs : List Nat) (nb mb B : Nat) (rest : List Nat) (w2 : World) : Prop :=
  (∃ r, outc xs = .big r ∧ ∃ m : Nat, 8 < m ∧ Blk w2 mb #[.int .i64 m] 3) ∨
  (∃ x, outc xs = .good x rest ∧ (∃ m : Nat, m ≤ 8 ∧ Blk w2 mb #[.int .i64 m] 3) ∧ ∃ q, Blk w2 nb (ncells x q) 62 ∧ Rws w2 B q x 3 51 57)
def DB (xs : List Nat) (mb : Nat) (er : Int) (w2 : World) : Prop := outc xs = .bad er ∧ ∃ m : Nat, m ≤ 8 ∧ Blk w2 mb #[.int .i64 m] 3

set_option maxRecDepth 100000 in
set_option maxHeartbeats 1600000 in
theorem dec_ok (S : Nat → Prop) (v : Value) (n : Nat) (xs : List Nat) (hn : n ≤ 100000) (hB : Byt xs) (w : World) (hv : View w S 1 v n (bys xs)) :
    Calls Tryz.prog 44 #[v] w fun e w' => DPost w e w' (decd xs) := by
  have hl : xs.length = n := by have := hv.length; rwa [bys_length, Nat.mul_one] at this
  obtain ⟨A, c, rfl⟩ : ∃ A c, v = .slice A n c := let ⟨_, A, c, e, _⟩ := hv; ⟨A, c, e⟩
  go_enter Tryz.func44, Tryz.ntmps44
  go_wp2_with fail
  obtain ⟨W3, hW3⟩ : ∃ W3, W3 = ((w.alloc (.cells nil5 62)).alloc (.cells nil5 62)).alloc (.cells #[.int .i64 0] 3) := ⟨_, rfl⟩
  have hg3 : Blk W3 w.heap.size nil5 62 := by rw [hW3]; exact ((Blk.new _ _ _).alloc _).alloc _
  have hn3 : Blk W3 (w.heap.size + 1) nil5 62 := by
    rw [hW3]
    have := (Blk.new (w.alloc (.cells nil5 62)) nil5 62).alloc (.cells #[.int .i64 0] 3)
    rwa [World.size_alloc] at this
  have hm3 : Blk W3 (w.heap.size + 1 + 1) #[.int .i64 0] 3 := by
    rw [hW3]
    have := Blk.new ((w.alloc (.cells nil5 62)).alloc (.cells nil5 62)) #[.int .i64 0] 3
    rwa [World.size_alloc, World.size_alloc] at this
  have hf3 : Fr Nil w W3 := by rw [hW3]; exact (((Fr.refl _ _).alloc _).alloc _).alloc _
  have hs3 : W3.heap.size = w.heap.size + 3 := by rw [hW3]; simp
  unfold nil5 at hW3
  rw [← hW3]
  clear hW3
  have hv3 := (hv.bd).fr hf3 fun _ _ _ h => h
  obtain ⟨g0, hg0⟩ : ∃ g0, g0 = w.heap.size := ⟨_, rfl⟩
  rw [← hg0] at hg3 hn3 hm3 hs3 hv3 ⊢
  have hg0l : w.heap.size ≤ g0 := by omega
  have hg0l2 : g0 ≤ w.heap.size := by omega
  clear hg0
  refine (read_ok 77 _ _ n xs _ (fun k => k = g0 + 1 ∨ k = g0 + 1 + 1) (by omega) W3 hv3 (by rintro k (rfl | rfl) <;> omega) call_dec (DD xs (g0 + 1) (g0 + 1 + 1) (W3.heap.size + 1)) (DB xs (g0 + 1 + 1)) ?_).mono ?_
  · intro w1 rb h1 h2 hR hfa
    refine (dec1_ok (fun k => W3.heap.size < k) rb (g0 + 1) (g0 + 1 + 1) xs (by omega) hB w1 hR (hn3.fr hfa fun h => h) (hm3.fr hfa fun h => h) (by omega) (by omega) (by omega)).mono ?_
    intro e w2 hp
    cases ho : outc xs with
    | bad er => rw [ho] at hp; obtain ⟨rfl, q1, q2⟩ := hp; exact ⟨q1, .inr ⟨er, rfl, ho, q2⟩⟩
    | big r => rw [ho] at hp; obtain ⟨rfl, q1, q2, q3⟩ := hp; exact ⟨q1, .inl ⟨r, rfl, q2, .inl ⟨r, ho, q3⟩⟩⟩
    | good x r => rw [ho] at hp; obtain ⟨rfl, q1, q2, q3, q, q4, q5⟩ := hp; exact ⟨q1, .inl ⟨r, rfl, q2, .inr ⟨x, ho, q3, q, q4, q5.mono (by omega)⟩⟩⟩
  · rintro e w5 ⟨w4, hf4, hf5, hres⟩
    have hg5 := (hg3.fr hf4 (by rintro (h | h) <;> omega)).fr hf5 (fun h => by omega)
    have hfw : Fr Nil w w5 := (hf3.trans hf4 (by rintro k (rfl | rfl) <;> exact .inr (by omega))).trans hf5 (fun k hk => .inr (by omega))
    have i0 : w5.cell? ⟨g0, 0, none⟩ = some (.int .i64 0) := hg5.cell 0
    have i1 : w5.cell? ⟨g0, 1, none⟩ = some (.slice none 0 0) := hg5.cell 1
    have i2 : w5.cell? ⟨g0, 2, none⟩ = some (.slice none 0 0) := hg5.cell 2
    have i3 : w5.cell? ⟨g0, 3, none⟩ = some (.slice none 0 0) := hg5.cell 3
    have i4 : w5.cell? ⟨g0, 4, none⟩ = some (.slice none 0 0) := hg5.cell 4
    have z0 := hg5.frozen 0
    have z1 := hg5.frozen 1
    have z2 := hg5.frozen 2
    have z3 := hg5.frozen 3
    have z4 := hg5.frozen 4
    clear hg3 hn3 hm3 hv3 hv
    have hgw : g0 < w5.heap.size := hg5.lt
    rcases hres with ⟨rest, ⟨r, ho, m, hm8, hbm⟩ | ⟨x, ho, ⟨m, hm8, hbm⟩, q, hbn, hq⟩, rfl⟩ | ⟨er, ⟨ho, m, hm8, hbm⟩, rfl⟩
    · have hd : Hid (decd xs = .inr 4) := hid (by unfold decd; rw [ho])
      have cm : w5.cell? ⟨g0 + 1 + 1, 0, none⟩ = some (.int .i64 (m : Nat)) := (hbm.fr hf5 (fun h => by omega)).cell 0
      have hmi : (8 : Int) < (m : Int) := by omega
      clear ho
      generalize (if rest.isEmpty = true then (0 : Int) else 3) = ee
      go_wp2
      have hb6 := st5_blk hg5 (.int .i64 0) (.slice none 0 0) (.slice none 0 0) (.slice none 0 0) (.slice none 0 0)
      have hff : Fr Nil w (st5 w5 g0 (.int .i64 0) (.slice none 0 0) (.slice none 0 0) (.slice none 0 0) (.slice none 0 0)) := hfw.trans (st5_fr w5 g0 (.int .i64 0) (.slice none 0 0) (.slice none 0 0) (.slice none 0 0) (.slice none 0 0)) (fun k hk => .inr (by omega))
      unfold st5 at hb6 hff
      generalize ((((w5.setCell ⟨g0, 0, none⟩ (.int .i64 0)).setCell ⟨g0, 1, none⟩ (.slice none 0 0)).setCell ⟨g0, 2, none⟩ (.slice none 0 0)).setCell ⟨g0, 3, none⟩ (.slice none 0 0)).setCell ⟨g0, 4, none⟩ (.slice none 0 0) = w7 at *
      have r0 : w7.cell? ⟨g0, 0, none⟩ = some (.int .i64 0) := hb6.cell 0
      have r1 : w7.cell? ⟨g0, 1, none⟩ = some (.slice none 0 0) := hb6.cell 1
      have r2 : w7.cell? ⟨g0, 2, none⟩ = some (.slice none 0 0) := hb6.cell 2
      have r3 : w7.cell? ⟨g0, 3, none⟩ = some (.slice none 0 0) := hb6.cell 3
      have r4 : w7.cell? ⟨g0, 4, none⟩ = some (.slice none 0 0) := hb6.cell 4
      simp [bodyPost, results, Tryz.results44, go_sem, r0, r1, r2, r3, r4]
      rw [hd.out]
      exact ⟨rfl, hff⟩
    · have cm : w5.cell? ⟨g0 + 1 + 1, 0, none⟩ = some (.int .i64 (m : Nat)) := (hbm.fr hf5 (fun h => by omega)).cell 0
      have hmi : ¬ (8 : Int) < (m : Int) := by omega
      by_cases hr : rest = []
      · have hbn5 := hbn.fr hf5 (fun h => by omega)
        have hq5 := hq.fr hf5 (fun k hk h => by omega)
        have j0 : w5.cell? ⟨g0 + 1, 0, none⟩ = some (.int .i64 x.h) := hbn5.cell 0
        have j1 : w5.cell? ⟨g0 + 1, 1, none⟩ = some (.slice q.A1 x.ks.length q.c1) := hbn5.cell 1
        have j2 : w5.cell? ⟨g0 + 1, 2, none⟩ = some (.slice q.A2 x.ps.length q.c2) := hbn5.cell 2
        have j3 : w5.cell? ⟨g0 + 1, 3, none⟩ = some (.slice q.A3 x.gs.length q.c3) := hbn5.cell 3
        have j4 : w5.cell? ⟨g0 + 1, 4, none⟩ = some (.slice q.A4 x.ds.length q.c4) := hbn5.cell 4
        have hV5 := hq5.vs
        by_cases hm : MayNd x
        · have hd : Hid (decd xs = .inl x) := hid (by unfold decd; rw [ho]; simp only [hr, ne_eq, not_true_eq_false, if_false, if_pos hm])
          have hdec := hid (decide_eq_true hm)
          clear ho hm hbn hq hbm
          rw [hr]
          clear hr
          simp only [List.isEmpty_nil, if_true]
          go_wp2_with fail
          refine (nodeMay_ok _ q x _ hdec.out _ hV5).mono ?_
          rintro e w6 ⟨rfl, hf6⟩
          replace hg5 := hg5.fr hf6 fun h => h
          replace hfw := hfw.then hf6
          replace hV5 := hV5.nil hf6
          replace i0 := hf6.cell i0 fun h => h
          replace i1 := hf6.cell i1 fun h => h
          replace i2 := hf6.cell i2 fun h => h
          replace i3 := hf6.cell i3 fun h => h
          replace i4 := hf6.cell i4 fun h => h
          replace j0 := hf6.cell j0 fun h => h
          replace j1 := hf6.cell j1 fun h => h
          replace j2 := hf6.cell j2 fun h => h
          replace j3 := hf6.cell j3 fun h => h
          replace j4 := hf6.cell j4 fun h => h
          replace z0 := hg5.frozen 0
          replace z1 := hg5.frozen 1
          replace z2 := hg5.frozen 2
          replace z3 := hg5.frozen 3
          replace z4 := hg5.frozen 4
          replace hgw := hg5.lt
          clear hf5 hf4 cm
          generalize w6 = w5 at *
          go_wp2
          have hV6 := hV5.fr (st5_fr w5 g0 (.int .i64 x.h) (.slice q.A1 x.ks.length q.c1) (.slice q.A2 x.ps.length q.c2) (.slice q.A3 x.gs.length q.c3) (.slice q.A4 x.ds.length q.c4)) (fun k (hk : W3.heap.size + 1 ≤ k) _ (h : k = g0) => by omega)
          unfold st5 at hV6
          have hb6 := st5_blk hg5 (.int .i64 x.h) (.slice q.A1 x.ks.length q.c1) (.slice q.A2 x.ps.length q.c2) (.slice q.A3 x.gs.length q.c3) (.slice q.A4 x.ds.length q.c4)
          have hff : Fr Nil w (st5 w5 g0 (.int .i64 x.h) (.slice q.A1 x.ks.length q.c1) (.slice q.A2 x.ps.length q.c2) (.slice q.A3 x.gs.length q.c3) (.slice q.A4 x.ds.length q.c4)) := hfw.trans (st5_fr w5 g0 (.int .i64 x.h) (.slice q.A1 x.ks.length q.c1) (.slice q.A2 x.ps.length q.c2) (.slice q.A3 x.gs.length q.c3) (.slice q.A4 x.ds.length q.c4)) (fun k hk => .inr (by omega))
          unfold st5 at hb6 hff
          generalize ((((w5.setCell ⟨g0, 0, none⟩ (.int .i64 x.h)).setCell ⟨g0, 1, none⟩ (.slice q.A1 x.ks.length q.c1)).setCell ⟨g0, 2, none⟩ (.slice q.A2 x.ps.length q.c2)).setCell ⟨g0, 3, none⟩ (.slice q.A3 x.gs.length q.c3)).setCell ⟨g0, 4, none⟩ (.slice q.A4 x.ds.length q.c4) = w7 at *
          have r0 : w7.cell? ⟨g0, 0, none⟩ = some (.int .i64 x.h) := hb6.cell 0
          have r1 : w7.cell? ⟨g0, 1, none⟩ = some (.slice q.A1 x.ks.length q.c1) := hb6.cell 1
          have r2 : w7.cell? ⟨g0, 2, none⟩ = some (.slice q.A2 x.ps.length q.c2) := hb6.cell 2
          have r3 : w7.cell? ⟨g0, 3, none⟩ = some (.slice q.A3 x.gs.length q.c3) := hb6.cell 3
          have r4 : w7.cell? ⟨g0, 4, none⟩ = some (.slice q.A4 x.ds.length q.c4) := hb6.cell 4
          simp [bodyPost, results, Tryz.results44, go_sem, r0, r1, r2, r3, r4]
          rw [hd.out]
          exact ⟨q, rfl, hV6.mono fun k (hk : W3.heap.size + 1 ≤ k) => by show w.heap.size ≤ k; omega, hff⟩
        · have hd : Hid (decd xs = .inr 4) := hid (by unfold decd; rw [ho]; simp only [hr, ne_eq, not_true_eq_false, if_false, if_neg hm])
          have hdec := hid (decide_eq_false hm)
          clear ho hm hbn hq hbm
          rw [hr]
          clear hr
          simp only [List.isEmpty_nil, if_true]
          go_wp2_with fail
          refine (nodeMay_ok _ q x _ hdec.out _ hV5).mono ?_
          rintro e w6 ⟨rfl, hf6⟩
          replace hg5 := hg5.fr hf6 fun h => h
          replace hfw := hfw.then hf6
          replace i0 := hf6.cell i0 fun h => h
          replace i1 := hf6.cell i1 fun h => h
          replace i2 := hf6.cell i2 fun h => h
          replace i3 := hf6.cell i3 fun h => h
          replace i4 := hf6.cell i4 fun h => h
          replace z0 := hg5.frozen 0
          replace z1 := hg5.frozen 1
          replace z2 := hg5.frozen 2
          replace z3 := hg5.frozen 3
          replace z4 := hg5.frozen 4
          replace hgw := hg5.lt
          clear hf5 hf4 cm j0 j1 j2 j3 j4 hV5
          generalize w6 = w5 at *
          go_wp2
          have hb6 := st5_blk hg5 (.int .i64 0) (.slice none 0 0) (.slice none 0 0) (.slice none 0 0) (.slice none 0 0)
          have hff : Fr Nil w (st5 w5 g0 (.int .i64 0) (.slice none 0 0) (.slice none 0 0) (.slice none 0 0) (.slice none 0 0)) := hfw.trans (st5_fr w5 g0 (.int .i64 0) (.slice none 0 0) (.slice none 0 0) (.slice none 0 0) (.slice none 0 0)) (fun k hk => .inr (by omega))
          unfold st5 at hb6 hff
          generalize ((((w5.setCell ⟨g0, 0, none⟩ (.int .i64 0)).setCell ⟨g0, 1, none⟩ (.slice none 0 0)).setCell ⟨g0, 2, none⟩ (.slice none 0 0)).setCell ⟨g0, 3, none⟩ (.slice none 0 0)).setCell ⟨g0, 4, none⟩ (.slice none 0 0) = w7 at *
          have r0 : w7.cell? ⟨g0, 0, none⟩ = some (.int .i64 0) := hb6.cell 0
          have r1 : w7.cell? ⟨g0, 1, none⟩ = some (.slice none 0 0) := hb6.cell 1
          have r2 : w7.cell? ⟨g0, 2, none⟩ = some (.slice none 0 0) := hb6.cell 2
          have r3 : w7.cell? ⟨g0, 3, none⟩ = some (.slice none 0 0) := hb6.cell 3
          have r4 : w7.cell? ⟨g0, 4, none⟩ = some (.slice none 0 0) := hb6.cell 4
          simp [bodyPost, results, Tryz.results44, go_sem, r0, r1, r2, r3, r4]
          rw [hd.out]
          exact ⟨rfl, hff⟩
      · have hd : Hid (decd xs = .inr 3) := hid (by unfold decd; rw [ho]; simp only [ne_eq, hr, not_false_eq_true, if_true])
        have he3 : (if rest.isEmpty = true then (0 : Int) else 3) = 3 := by
          cases rest with
          | nil => exact absurd rfl hr
          | cons => rfl
        rw [he3]
        clear ho hr he3 hbn hq hbm
        go_wp2
        have hb6 := st5_blk hg5 (.int .i64 0) (.slice none 0 0) (.slice none 0 0) (.slice none 0 0) (.slice none 0 0)
        have hff : Fr Nil w (st5 w5 g0 (.int .i64 0) (.slice none 0 0) (.slice none 0 0) (.slice none 0 0) (.slice none 0 0)) := hfw.trans (st5_fr w5 g0 (.int .i64 0) (.slice none 0 0) (.slice none 0 0) (.slice none 0 0) (.slice none 0 0)) (fun k hk => .inr (by omega))
        unfold st5 at hb6 hff
        generalize ((((w5.setCell ⟨g0, 0, none⟩ (.int .i64 0)).setCell ⟨g0, 1, none⟩ (.slice none 0 0)).setCell ⟨g0, 2, none⟩ (.slice none 0 0)).setCell ⟨g0, 3, none⟩ (.slice none 0 0)).setCell ⟨g0, 4, none⟩ (.slice none 0 0) = w7 at *
        have r0 : w7.cell? ⟨g0, 0, none⟩ = some (.int .i64 0) := hb6.cell 0
        have r1 : w7.cell? ⟨g0, 1, none⟩ = some (.slice none 0 0) := hb6.cell 1
        have r2 : w7.cell? ⟨g0, 2, none⟩ = some (.slice none 0 0) := hb6.cell 2
        have r3 : w7.cell? ⟨g0, 3, none⟩ = some (.slice none 0 0) := hb6.cell 3
        have r4 : w7.cell? ⟨g0, 4, none⟩ = some (.slice none 0 0) := hb6.cell 4
        simp [bodyPost, results, Tryz.results44, go_sem, r0, r1, r2, r3, r4]
        rw [hd.out]
        exact ⟨rfl, hff⟩
    · have cm : w5.cell? ⟨g0 + 1 + 1, 0, none⟩ = some (.int .i64 (m : Nat)) := (hbm.fr hf5 (fun h => by omega)).cell 0
      have hmi : ¬ (8 : Int) < (m : Int) := by omega
      have hd : Hid (decd xs = .inr er) := hid (by unfold decd; rw [ho])
      have her := outc_bad ho
      have hb0 : (er == 0) = false := by simp; omega
      have Her := hid her
      clear ho her hbm
      go_wp2
      have hb6 := st5_blk hg5 (.int .i64 0) (.slice none 0 0) (.slice none 0 0) (.slice none 0 0) (.slice none 0 0)
      have hff : Fr Nil w (st5 w5 g0 (.int .i64 0) (.slice none 0 0) (.slice none 0 0) (.slice none 0 0) (.slice none 0 0)) := hfw.trans (st5_fr w5 g0 (.int .i64 0) (.slice none 0 0) (.slice none 0 0) (.slice none 0 0) (.slice none 0 0)) (fun k hk => .inr (by omega))
      unfold st5 at hb6 hff
      generalize ((((w5.setCell ⟨g0, 0, none⟩ (.int .i64 0)).setCell ⟨g0, 1, none⟩ (.slice none 0 0)).setCell ⟨g0, 2, none⟩ (.slice none 0 0)).setCell ⟨g0, 3, none⟩ (.slice none 0 0)).setCell ⟨g0, 4, none⟩ (.slice none 0 0) = w7 at *
      have r0 : w7.cell? ⟨g0, 0, none⟩ = some (.int .i64 0) := hb6.cell 0
      have r1 : w7.cell? ⟨g0, 1, none⟩ = some (.slice none 0 0) := hb6.cell 1
      have r2 : w7.cell? ⟨g0, 2, none⟩ = some (.slice none 0 0) := hb6.cell 2
      have r3 : w7.cell? ⟨g0, 3, none⟩ = some (.slice none 0 0) := hb6.cell 3
      have r4 : w7.cell? ⟨g0, 4, none⟩ = some (.slice none 0 0) := hb6.cell 4
      simp [bodyPost, results, Tryz.results44, go_sem, r0, r1, r2, r3, r4]
      rw [hd.out]
      exact ⟨rfl, hff⟩
end Go.Proofs.YtgoghmblfdlnbaaGreat.nd
end

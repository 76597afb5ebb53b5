/- NodeMany: its walk (chapter 13). -/
import Derived.Test.YtidpabcfcdiecaaNdDecs
import Derived.Deep.Cut
import Derived.Deep.CutRange
set_option linter.unusedSimpArgs false
set_option linter.unusedVariables false
namespace Go.Proofs.Ytidpabcfcdiecaa
open Go.RowKit
/-- A node of i keys. -/
def mks (i : Nat) : List Int := (List.range i).map fun j : Nat => 10 * (j : Int)
def ndM (h i : Nat) : Nd := if h = 0 then ⟨(h : Int), mks i, List.replicate i ⟨2, 1, 0⟩, List.replicate i 1, []⟩ else ⟨(h : Int), mks i, [], [], List.replicate i ⟨2, 1, 0⟩⟩
theorem mks_len (i : Nat) : (mks i).length = i := by simp [mks]
theorem mks_succ (i : Nat) : mks (i + 1) = mks i ++ [10 * (i : Int)] := by simp [mks, List.range_succ]
theorem mks_kz {i j : Nat} (h : j < i) : kz (mks i) j = 10 * (j : Int) := by simp [kz, mks, h]
theorem ndM_zero {h i : Nat} (h0 : h = 0) : ndM h i = ⟨(h : Int), mks i, List.replicate i ⟨2, 1, 0⟩, List.replicate i 1, []⟩ := by unfold ndM; rw [if_pos h0]
theorem ndM_pos {h i : Nat} (h0 : h ≠ 0) : ndM h i = ⟨(h : Int), mks i, [], [], List.replicate i ⟨2, 1, 0⟩⟩ := by unfold ndM; rw [if_neg h0]
theorem ndM_lens (h i : Nat) : (ndM h i).h = (h : Int) ∧ (ndM h i).ks.length = i ∧ (ndM h i).ps.length ≤ i ∧ (ndM h i).gs.length ≤ i ∧ (ndM h i).ds.length ≤ i := by
  by_cases h0 : h = 0
  · rw [ndM_zero h0]; simp [mks_len]
  · rw [ndM_pos h0]; simp [mks_len]
theorem rep_succ {α : Type} (i : Nat) (a : α) : List.replicate (i + 1) a = List.replicate i a ++ [a] := List.replicate_succ'
theorem ndM_may (h i : Nat) (hi : i ≤ 11) (hh : h ≤ 7) : MayNd (ndM h i) ↔ (i ≤ 8 ∧ h ≤ 5 ∧ (h = 0 ∨ 1 ≤ i)) := by
  have hk : keysOk (mks i) ↔ i ≤ 8 := by
    unfold keysOk
    rw [mks_len]
    refine ⟨fun h => h.1, fun h8 => ⟨h8, fun j hj => ?_⟩⟩
    unfold kOk
    rw [mks_kz hj]
    refine ⟨by omega, fun h0 => ?_⟩
    rw [mks_kz (by omega)]; omega
  by_cases h0 : h = 0
  · subst h0
    rw [ndM_zero rfl]
    unfold MayNd leafOk
    simp only [mks_len, List.length_replicate, List.length_nil, hk]
    constructor
    · rintro ⟨_, a, _⟩; exact ⟨a, by omega, .inl trivial⟩
    · rintro ⟨a, _, _⟩
      refine ⟨by decide, a, fun _ => ⟨trivial, trivial, trivial, fun j hj => ?_⟩, fun h => absurd rfl h⟩
      have e1 : kd (List.replicate i ⟨2, 1, 0⟩) j = ⟨2, 1, 0⟩ := by simp [kd, List.getD_eq_getElem?_getD, hj]
      have e2 : kz (List.replicate i 1) j = 1 := by simp [kz, List.getD_eq_getElem?_getD, hj]
      rw [e1, e2]; decide
  · rw [ndM_pos h0]
    unfold MayNd innerOk
    simp only [mks_len, List.length_replicate, List.length_nil, hk]
    constructor
    · rintro ⟨⟨_, b⟩, a, _, c⟩
      obtain ⟨d, _⟩ := c (by omega)
      exact ⟨a, by omega, .inr d⟩
    · rintro ⟨a, b, c⟩
      refine ⟨⟨by omega, by omega⟩, a, fun h => absurd h (by omega), fun _ => ⟨by omega, trivial, trivial, trivial, fun j hj => ?_⟩⟩
      have e1 : kd (List.replicate i ⟨2, 1, 0⟩) j = ⟨2, 1, 0⟩ := by simp [kd, List.getD_eq_getElem?_getD, hj]
      rw [e1]; decide
/-- A new block is read. -/
theorem blk_view {w : World} {g n s : Nat} {cs : Array Value} {T : TypeId} (h : Blk w g cs T) (hs : cs.size = n * s) (hn : n ≤ 1000000000000) : View w (fun k => k = g) s (.slice (some ⟨g, 0, none⟩) n n) n cs.toList := by
  refine ⟨by rw [Array.length_toList, hs], _, _, rfl, Nat.le_refl _, by unfold maxLen; omega, fun h => (by cases h), fun ad had _ => (by injection had with had; rw [← had]), fun _ => ⟨g, 0, rfl, rfl, h.lt, fun j u hu => ?_⟩⟩
  rw [Nat.zero_add, h.cell j, ← Array.getElem?_toList]; exact hu
theorem bad_len {x : Nd} (h1 : x.h = 0 → ¬ (x.ps.length = x.ks.length ∧ x.gs.length = x.ks.length ∧ x.ds.length = 0)) (h2 : x.h ≠ 0 → ¬ (x.ds.length = x.ks.length ∧ x.ps.length = 0 ∧ x.gs.length = 0)) : ¬ MayNd x := by
  intro h
  by_cases h0 : x.h = 0
  · obtain ⟨a, b, c, _⟩ := h.2.2.1 h0; exact h1 h0 ⟨a, b, c⟩
  · obtain ⟨_, a, b, c, _⟩ := h.2.2.2 h0; exact h2 h0 ⟨a, b, c⟩
theorem badlen_ndM (h i : Nat) (x1 : Nd) (hh : x1.h = (ndM h i).h) (a b c d : Nat) (e1 : x1.ks.length = (ndM h i).ks.length + a) (e2 : x1.ps.length = (ndM h i).ps.length + b) (e3 : x1.gs.length = (ndM h i).gs.length + c) (e4 : x1.ds.length = (ndM h i).ds.length + d) (hs : a + b + c + d = 1) : ¬ MayNd x1 := by
  by_cases h0 : h = 0
  · rw [ndM_zero h0] at hh e1 e2 e3 e4
    simp only [mks_len, List.length_replicate, List.length_nil] at hh e1 e2 e3 e4
    refine bad_len (fun _ hc => ?_) (fun hc => ?_)
    · omega
    · omega
  · rw [ndM_pos h0] at hh e1 e2 e3 e4
    simp only [mks_len, List.length_replicate, List.length_nil] at hh e1 e2 e3 e4
    refine bad_len (fun hc => ?_) (fun _ hc => ?_)
    · omega
    · omega

/-! ### the walk -/
def D3m (B : Nat) (T : TypeId) (cs : Array Value) (v : Value) (w : World) : Prop := ∃ g, v = .slice (some ⟨g, 0, none⟩) 1 1 ∧ B ≤ g ∧ Blk w g cs T
def Dr (B : Nat) (T : TypeId) (s n : Nat) (xs : List Value) (q : Ptr) (x : Nd) (v : Value) (w : World) : Prop := ∃ A c, v = .slice A n c ∧ Row w (fun b => B ≤ b) T s (.slice A n c) n xs ∧ ∀ b, (Value.slice q.A1 x.ks.length q.c1).ownBlock = some b → (Value.slice A n c).ownBlock ≠ some b
/-- What stays: the node's block, its keys and kids. -/
def Inv (W0 : World) (B nb : Nat) (q : Ptr) (x : Nd) (TN TI TK : TypeId) (w : World) : Prop :=
  Blk w nb (ncells x q) TN ∧ Row w (fun b => B ≤ b) TI 1 (.slice q.A1 x.ks.length q.c1) x.ks.length (ints .i64 x.ks) ∧ Row w (fun b => B ≤ b) TK 3 (.slice q.A4 x.ds.length q.c4) x.ds.length (tri x.ds) ∧ Fr (fun b => B ≤ b) W0 w
section
variable {W0 w w' : World} {B nb Bd s n : Nat} {q : Ptr} {x : Nd} {TN TI TP TK T : TypeId} {z : Kd} {y : Int} {v : Value} {cs : Array Value} {xs : List Value} {S1 : Nat → Prop}
theorem D3m.fr (h : D3m Bd T cs v w) (hf : Fr S1 w w') (hn : ∀ k, Bd ≤ k → ¬ S1 k) : D3m Bd T cs v w' := let ⟨g, e, h1, h2⟩ := h; ⟨g, e, h1, h2.fr hf (hn g h1)⟩
theorem Dr.nil (h : Dr B T s n xs q x v w) (hf : Fr Nil w w') : Dr B T s n xs q x v w' := let ⟨A, c, e, h1, h2⟩ := h; ⟨A, c, e, h1.fr hf (fun _ _ h => h), h2⟩
theorem Dr.own {T' : TypeId} {s' n' : Nat} {u : Value} {ys : List Value} (h : Dr B T s n xs q x v w) (h' : Row w (fun b => B ≤ b) T' s' u n' ys) (hne : T ≠ T') (hf : Fr (fun k => u.ownBlock = some k) w w') : Dr B T s n xs q x v w' :=
  let ⟨A, c, e, h1, h2⟩ := h; ⟨A, c, e, h1.fr hf (fun k hk => h1.apart h' hne k hk), h2⟩
theorem Inv.nil (h : Inv W0 B nb q x TN TI TK w) (hf : Fr Nil w w') : Inv W0 B nb q x TN TI TK w' := ⟨h.1.fr hf fun h => h, h.2.1.fr hf fun _ _ h => h, h.2.2.1.fr hf fun _ _ h => h, h.2.2.2.thenNil hf⟩
theorem Inv.cells (h : Inv W0 B nb q x TN TI TK w) : w.cell? ⟨nb, 2, none⟩ = some (.slice q.A2 x.ps.length q.c2) ∧ w.cell? ⟨nb, 3, none⟩ = some (.slice q.A3 x.gs.length q.c3) := ⟨h.1.cell 2, h.1.cell 3⟩
theorem two_stores {A A' : Option Addr} {c c' : Nat} (h : Inv W0 B nb q x TN TI TK w) (hnB : nb < B) (h1 : Row w (fun b => B ≤ b) TP 3 (.slice A (x.ps.length + 1) c) (x.ps.length + 1) (tri x.ps ++ kcells z)) (h2 : Row w (fun b => B ≤ b) TI 1 (.slice A' (x.gs.length + 1) c') (x.gs.length + 1) (ints .i64 x.gs ++ [.int .i64 y]))
    (hap : ∀ b, (Value.slice q.A1 x.ks.length q.c1).ownBlock = some b → (Value.slice A' (x.gs.length + 1) c').ownBlock ≠ some b) :
    Blk ((w.setCell ⟨nb, 2, none⟩ (.slice A (x.ps.length + 1) c)).setCell ⟨nb, 3, none⟩ (.slice A' (x.gs.length + 1) c')) nb (ncells ⟨x.h, x.ks, x.ps ++ [z], x.gs ++ [y], x.ds⟩ ⟨q.A1, q.c1, A, c, A', c', q.A4, q.c4⟩) TN ∧
       Rws ((w.setCell ⟨nb, 2, none⟩ (.slice A (x.ps.length + 1) c)).setCell ⟨nb, 3, none⟩ (.slice A' (x.gs.length + 1) c')) B ⟨q.A1, q.c1, A, c, A', c', q.A4, q.c4⟩ ⟨x.h, x.ks, x.ps ++ [z], x.gs ++ [y], x.ds⟩ TI TP TK ∧
       Fr (fun k => k = nb) w ((w.setCell ⟨nb, 2, none⟩ (.slice A (x.ps.length + 1) c)).setCell ⟨nb, 3, none⟩ (.slice A' (x.gs.length + 1) c')) := by
  have hs : Fr (fun k => k = nb) w ((w.setCell ⟨nb, 2, none⟩ (.slice A (x.ps.length + 1) c)).setCell ⟨nb, 3, none⟩ (.slice A' (x.gs.length + 1) c')) := ((Fr.refl (fun k => k = nb) w).setCell (a := ⟨nb, 2, none⟩) (.inl rfl) _).setCell (a := ⟨nb, 3, none⟩) (.inl rfl) _
  have hn : ∀ k, B ≤ k → ¬ (k = nb) := fun k hk e => by omega
  have el : (x.ps ++ [z]).length = x.ps.length + 1 := by simp
  have eg : (x.gs ++ [y]).length = x.gs.length + 1 := by simp
  have et : tri (x.ps ++ [z]) = tri x.ps ++ kcells z := by rw [tri_append]; simp [tri]
  refine ⟨?_, ⟨?_, ?_, ?_, ?_, ?_⟩, hs⟩
  · have := (h.1.set 2 (.slice A (x.ps.length + 1) c)).set 3 (.slice A' (x.gs.length + 1) c')
    unfold ncells
    simp only [el, eg]
    exact this
  · exact h.2.1.frS hs hn
  · simp only [el, et]; exact h1.frS hs hn
  · simp only [eg, ints_append]; exact h2.frS hs hn
  · exact h.2.2.1.frS hs hn
  · simp only [eg]; exact hap
end
set_option maxRecDepth 100000 in
set_option maxHeartbeats 1600000 in
theorem many_ok (n : Int) (hn : (Lit.int .u8 n).wf = true) (hg : Int) (hh : (Lit.int .u8 hg).wf = true) (bad : Int) (hb : (Lit.int .u8 bad).wf = true) (W : World) :
    Calls Try.prog 7 #[.int .u8 n, .int .u8 hg, .int .u8 bad] W fun e w' => e = .returned (.bool true) ∧ Fr Nil W w' := by
  have hn1 := bounds_u8 hn
  have hh1 := bounds_u8 hh
  have hb1 := bounds_u8 hb
  clear hn hh hb
  obtain ⟨k, hk⟩ : ∃ k : Nat, n % 12 = (k : Int) := ⟨(n % 12).toNat, by omega⟩
  obtain ⟨h, hhh⟩ : ∃ h : Nat, hg % 8 = (h : Int) := ⟨(hg % 8).toNat, by omega⟩
  obtain ⟨b, hbb⟩ : ∃ b : Nat, bad % 4 = (b : Int) := ⟨(bad % 4).toNat, by omega⟩
  have hk11 : k ≤ 11 := by omega
  have hh7 : h ≤ 7 := by omega
  have hb3 : b < 4 := by omega
  go_enter Try.func7, Try.ntmps7
  go_wp2_with fail
  refine (ndawake_ok _).mono ?_
  rintro e w1 ⟨rfl, hf1⟩
  go_wp2_with fail
  obtain ⟨W1, hW1⟩ : ∃ W1, W1 = w1.alloc (.cells #[.int .i64 (h : Nat), .slice none 0 0, .slice none 0 0, .slice none 0 0, .slice none 0 0] 26) := ⟨_, rfl⟩
  have hb0 : Blk W1 w1.heap.size (ncells (ndM h 0) ⟨none, 0, none, 0, none, 0, none, 0⟩) 26 := by
    rw [hW1]
    have e1 : ncells (ndM h 0) ⟨none, 0, none, 0, none, 0, none, 0⟩ = #[.int .i64 (h : Nat), .slice none 0 0, .slice none 0 0, .slice none 0 0, .slice none 0 0] := by
      by_cases h0 : h = 0
      · rw [ndM_zero h0]; rfl
      · rw [ndM_pos h0]; rfl
    rw [e1]; exact Blk.new _ _ _
  have hf2 : Fr Nil w1 W1 := by rw [hW1]; exact (Fr.refl _ _).alloc _
  rw [← hW1]
  clear hW1
  obtain ⟨nb, hnb⟩ : ∃ nb, nb = w1.heap.size := ⟨_, rfl⟩
  rw [← hnb] at hb0 ⊢
  have hnb1 : w1.heap.size ≤ nb := by omega
  obtain ⟨B, hB⟩ : ∃ B, B = nb + 1 := ⟨_, rfl⟩
  have hBW : B ≤ W1.heap.size := by have := hb0.lt; omega
  have hBn : nb < B := by omega
  clear hnb hB
  have hq0 : Rws W1 B ⟨none, 0, none, 0, none, 0, none, 0⟩ (ndM h 0) 3 54 56 := by
    have e1 : ndM h 0 = ⟨(h : Nat), [], [], [], []⟩ := by
      by_cases h0 : h = 0
      · rw [ndM_zero h0]; rfl
      · rw [ndM_pos h0]; rfl
    rw [e1]; exact Rws.nil _ _ _ _ _ _
  have hfw : Fr Nil W W1 := hf1.then hf2
  have hWn : W.heap.size ≤ nb := by have := hf1.size; omega
  clear hf1 hf2
  rw [hk, hhh]
  clear hk hn1 hhh hh1
  go_loopw [10] (fun v10 wr => ∃ (i : Nat) (q : Ptr), v10 = .int .i64 i ∧ i ≤ k ∧ Fr (fun b => b = nb ∨ B ≤ b) W1 wr ∧ Blk wr nb (ncells (ndM h i) q) 26 ∧ Rws wr B q (ndM h i) 3 54 56) (fun v10 _ => k - (intOf v10).toNat)
  case atStart => exact ⟨0, _, rfl, by omega, Fr.refl _ _, hb0, hq0⟩
  case round =>
    clear hb0 hq0
    obtain ⟨i, q, rfl, hi, hfr, hbr, hqr⟩ := hrel
    have hl := ndM_lens h i
    have hsr := hfr.size
    by_cases hlt : i < k
    · obtain ⟨x, hx⟩ : ∃ x, x = ndM h i := ⟨_, rfl⟩
      rw [← hx] at hbr hqr hl
      obtain ⟨l0, l1, l2, l3, l4⟩ := hl
      have Hx := hid hx
      have L1 := hid l1
      clear hx l1
      have c1 : wr.cell? ⟨nb, 1, none⟩ = some (.slice q.A1 x.ks.length q.c1) := hbr.cell 1
      have L0 := hid l0
      clear l0
      have hle1 : x.ks.length ≤ 11 := by have := L1.out; omega
      go_wp2_with (at_builtin; refine wp_app_view rfl _ _ 22 rfl (.int .i64 0) 8 Try.underlying22 info_int rfl (by decide) (hqr.alloc _).k rfl (View.lit (s := 1) wr #[.int .i64 (10 * (i : Int))] 3 (0, 0) 1 rfl (by decide)) rfl (ints_cell [10 * (i : Int)]) (by omega) (by decide) ?_)
      intro A2 c2 w2 y1 y2 y3
      have G := grew_key (hbr.alloc (.cells #[.int .i64 (10 * (i : Int))] 3)) (hqr.alloc _) (by decide) (by decide) (by decide) (by decide) (by decide) (by decide) (by rw [World.size_alloc]; omega) (10 * (i : Int)) y1 y2
      have o1 : w2.cell? ⟨nb, 1, none⟩ = some (.slice q.A1 x.ks.length q.c1) := G.old.cell 1
      have z1 := G.old.frozen 1
      have g1 := G.old.lt
      clear y1 y2 y3 c1
      obtain ⟨x1, hx1⟩ : ∃ y : Nd, y = ⟨x.h, x.ks ++ [10 * (i : Int)], x.ps, x.gs, x.ds⟩ := ⟨_, rfl⟩
      obtain ⟨q1, hq1⟩ : ∃ y : Ptr, y = ⟨A2, c2, q.A2, q.c2, q.A3, q.c3, q.A4, q.c4⟩ := ⟨_, rfl⟩
      have hbA := G.blk
      have hqA := G.rws
      have hfA := (hfr.alloc (.cells #[.int .i64 (10 * (i : Int))] 3)).trans G.fr (fun k hk => .inl hk)
      rw [← hx1, ← hq1] at hbA hqA
      have Hx1 := hid hx1
      have lp1 : x1.ps.length ≤ i := by rw [hx1]; exact l2
      have lg1 : x1.gs.length ≤ i := by rw [hx1]; exact l3
      have ld1 : x1.ds.length ≤ i := by rw [hx1]; exact l4
      clear hx1 hq1 G hfr hbr hqr
      by_cases h0 : h = 0
      · have hb0 : ((h : Int) == 0) = true := by simpa using h0
        have H0 := hid h0; clear h0
        go_wp2_with fail
        clear o1 z1 g1
        generalize w2.setCell _ _ = w3 at *
        have hinv : Inv w3 B nb q1 x1 26 3 56 w3.drew := ⟨hbA, hqA.k, hqA.d, (Fr.refl _ _).drew⟩
        have hS : (fun w' : World => (w'.cell? ⟨nb, 2, none⟩ = some (.slice q1.A2 x1.ps.length q1.c2) ∧ w'.cell? ⟨nb, 3, none⟩ = some (.slice q1.A3 x1.gs.length q1.c3)) ∧ Inv w3 B nb q1 x1 26 3 56 w') w3.drew := ⟨hinv.cells, hinv⟩
        obtain ⟨Bd, hBd⟩ : ∃ Bd, Bd = w3.heap.size := ⟨_, rfl⟩
        have hBd1 : B ≤ Bd := by have := hfA.size; omega
        have hown2 : ∀ k, (Value.slice q1.A2 x1.ps.length q1.c2).ownBlock = some k → k < Bd := fun k hk => by have := hqA.p.lt k hk; omega
        have hown3 : ∀ k, (Value.slice q1.A3 x1.gs.length q1.c3).ownBlock = some k → k < Bd := fun k hk => by have := hqA.g.lt k hk; omega
        have hap := hid hqA.ap
        have hBd2 : Bd ≤ w3.heap.size := by omega
        have Hown := hid hown2
        have Hown3 := hid hown3
        clear hBd hown2 hown3 hinv
        have hE4 : Row w3.drew (fun b => B ≤ b) 54 3 (.slice q1.A2 x1.ps.length q1.c2) x1.ps.length (tri x1.ps) := hqA.p
        have hE8 : Row w3.drew (fun b => B ≤ b) 3 1 (.slice q1.A3 x1.gs.length q1.c3) x1.gs.length (ints .i64 x1.gs) := hqA.g
        refine wpU_region (k := 10) (S := (fun w' : World => (w'.cell? ⟨nb, 2, none⟩ = some (.slice q1.A2 x1.ps.length q1.c2) ∧ w'.cell? ⟨nb, 3, none⟩ = some (.slice q1.A3 x1.gs.length q1.c3)) ∧ Inv w3 B nb q1 x1 26 3 56 w')) (by kernel_rfl) ?_
        refine wpU_take (i := 0) (v := ?_) rfl (by kernel_rfl) (by kernel_rfl) (fun _ _ _ h => h) _ _ _ _ (by kernel_rfl) (by kernel_rfl) (by kernel_rfl) (Or.inl ⟨by kernel_rfl, ?_⟩) hS ?_
        rotate_left
        · (intro w9 hS9; obtain ⟨s0, s1⟩ := hS9; go_simp); (try with_reducible rfl)
        try simp only [Act.put, List.getElem_toArray, List.getElem_cons_succ, List.getElem_cons_zero, List.setIfInBounds_toArray, List.set_cons_zero, List.set_cons_succ]
        refine wpU_take (i := 1) (v := ?_) rfl (by kernel_rfl) (by kernel_rfl) (fun _ _ _ h => h) _ _ _ _ (by kernel_rfl) (by kernel_rfl) (by kernel_rfl) (Or.inl ⟨by kernel_rfl, ?_⟩) hS ?_
        rotate_left
        · (intro w9 hS9; obtain ⟨s0, s1⟩ := hS9; go_simp); (try with_reducible rfl)
        try simp only [Act.put, List.getElem_toArray, List.getElem_cons_succ, List.getElem_cons_zero, List.setIfInBounds_toArray, List.set_cons_zero, List.set_cons_succ]
        refine wpU_take (i := 2) (v := ?_) rfl (by kernel_rfl) (by kernel_rfl) (fun _ _ _ h => h) _ _ _ _ (by kernel_rfl) (by kernel_rfl) (by kernel_rfl) (Or.inl ⟨by kernel_rfl, ?_⟩) hS ?_
        rotate_left
        · (intro w9 hS9; obtain ⟨s0, s1⟩ := hS9; go_simp); (try with_reducible rfl)
        try simp only [Act.put, List.getElem_toArray, List.getElem_cons_succ, List.getElem_cons_zero, List.setIfInBounds_toArray, List.set_cons_zero, List.set_cons_succ]
        refine wpU_take (i := 5) (v := ?_) rfl (by kernel_rfl) (by kernel_rfl) (fun _ _ _ h => h) _ _ _ _ (by kernel_rfl) (by kernel_rfl) (by kernel_rfl) (Or.inl ⟨by kernel_rfl, ?_⟩) hS ?_
        rotate_left
        · (intro w9 hS9; obtain ⟨s0, s1⟩ := hS9; go_simp); (try with_reducible rfl)
        try simp only [Act.put, List.getElem_toArray, List.getElem_cons_succ, List.getElem_cons_zero, List.setIfInBounds_toArray, List.set_cons_zero, List.set_cons_succ]
        refine wpU_take (i := 6) (v := ?_) rfl (by kernel_rfl) (by kernel_rfl) (fun _ _ _ h => h) _ _ _ _ (by kernel_rfl) (by kernel_rfl) (by kernel_rfl) (Or.inl ⟨by kernel_rfl, ?_⟩) hS ?_
        rotate_left
        · (intro w9 hS9; obtain ⟨s0, s1⟩ := hS9; go_simp); (try with_reducible rfl)
        try simp only [Act.put, List.getElem_toArray, List.getElem_cons_succ, List.getElem_cons_zero, List.setIfInBounds_toArray, List.set_cons_zero, List.set_cons_succ]
        refine wpU_makers (n := 3) [⟨3, 41, fun _ => True, D3m Bd 54 #[.int .i64 2, .int .i64 1, .int .i64 0], Nil⟩, ⟨4, 42, fun w' => Row w' (fun b => B ≤ b) 54 3 (.slice q1.A2 x1.ps.length q1.c2) x1.ps.length (tri x1.ps), Dr B 54 3 (x1.ps.length + 1) (tri x1.ps ++ kcells ⟨2, 1, 0⟩) q1 x1, fun k => (Value.slice q1.A2 x1.ps.length q1.c2).ownBlock = some k⟩, ⟨7, 45, fun _ => True, D3m Bd 3 #[.int .i64 1], Nil⟩, ⟨8, 46, fun w' => Row w' (fun b => B ≤ b) 3 1 (.slice q1.A3 x1.gs.length q1.c3) x1.gs.length (ints .i64 x1.gs), Dr B 3 1 (x1.gs.length + 1) (ints .i64 x1.gs ++ [.int .i64 1]) q1 x1, fun k => (Value.slice q1.A3 x1.gs.length q1.c3).ownBlock = some k⟩, ⟨9, 47, fun _ => True, fun v _ => v = .pointer (some ⟨nb, 2, none⟩), Nil⟩] (by kernel_rfl) (by simp) (by simp) hS (by simp [hE4, hE8]) ?_ ?_ ?_
        · refine List.forall_mem_cons.2 ⟨?_, List.forall_mem_cons.2 ⟨?_, List.forall_mem_cons.2 ⟨?_, List.forall_mem_cons.2 ⟨?_, List.forall_mem_cons.2 ⟨?_, by simp⟩⟩⟩⟩⟩
          · skip
            intro m hm _ u u' _ _ hf
            simp only [List.mem_cons, List.not_mem_nil, or_false] at hm
            rcases hm with rfl | rfl | rfl | rfl | rfl
            · exact ⟨fun h => h, fun _ h => h.fr hf fun _ _ h => h⟩
            · exact ⟨fun h => h.fr hf fun _ _ h => h, fun _ h => h.nil hf⟩
            · exact ⟨fun h => h, fun _ h => h.fr hf fun _ _ h => h⟩
            · exact ⟨fun h => h.fr hf fun _ _ h => h, fun _ h => h.nil hf⟩
            · exact ⟨fun h => h, fun _ h => h⟩
          · intro m hm hne u u' _ hE hf
            simp only [List.mem_cons, List.not_mem_nil, or_false] at hm
            rcases hm with rfl | rfl | rfl | rfl | rfl
            · exact ⟨fun h => h, fun _ h => h.fr hf fun k hk e => by have := Hown.out k e; omega⟩
            · exact absurd rfl hne
            · exact ⟨fun h => h, fun _ h => h.fr hf fun k hk e => by have := Hown.out k e; omega⟩
            · exact ⟨fun h => h.fr hf fun k hk => h.apart hE (by decide) k hk, fun _ h => h.own hE (by decide) hf⟩
            · exact ⟨fun h => h, fun _ h => h⟩
          · skip
            intro m hm _ u u' _ _ hf
            simp only [List.mem_cons, List.not_mem_nil, or_false] at hm
            rcases hm with rfl | rfl | rfl | rfl | rfl
            · exact ⟨fun h => h, fun _ h => h.fr hf fun _ _ h => h⟩
            · exact ⟨fun h => h.fr hf fun _ _ h => h, fun _ h => h.nil hf⟩
            · exact ⟨fun h => h, fun _ h => h.fr hf fun _ _ h => h⟩
            · exact ⟨fun h => h.fr hf fun _ _ h => h, fun _ h => h.nil hf⟩
            · exact ⟨fun h => h, fun _ h => h⟩
          · intro m hm hne u u' _ hE hf
            simp only [List.mem_cons, List.not_mem_nil, or_false] at hm
            rcases hm with rfl | rfl | rfl | rfl | rfl
            · exact ⟨fun h => h, fun _ h => h.fr hf fun k hk e => by have := Hown3.out k e; omega⟩
            · exact ⟨fun h => h.fr hf fun k hk => h.apart hE (by decide) k hk, fun _ h => h.own hE (by decide) hf⟩
            · exact ⟨fun h => h, fun _ h => h.fr hf fun k hk e => by have := Hown3.out k e; omega⟩
            · exact absurd rfl hne
            · exact ⟨fun h => h, fun _ h => h⟩
          · skip
            intro m hm _ u u' _ _ hf
            simp only [List.mem_cons, List.not_mem_nil, or_false] at hm
            rcases hm with rfl | rfl | rfl | rfl | rfl
            · exact ⟨fun h => h, fun _ h => h.fr hf fun _ _ h => h⟩
            · exact ⟨fun h => h.fr hf fun _ _ h => h, fun _ h => h.nil hf⟩
            · exact ⟨fun h => h, fun _ h => h.fr hf fun _ _ h => h⟩
            · exact ⟨fun h => h.fr hf fun _ _ h => h, fun _ h => h.nil hf⟩
            · exact ⟨fun h => h, fun _ h => h⟩
        · refine List.forall_mem_cons.2 ⟨?_, List.forall_mem_cons.2 ⟨?_, List.forall_mem_cons.2 ⟨?_, List.forall_mem_cons.2 ⟨?_, List.forall_mem_cons.2 ⟨?_, by simp⟩⟩⟩⟩⟩
          · intro us a' u o ha ho hS2 hE hd9 K hK
            simp only [puts, Act.put, List.setIfInBounds_toArray, List.set_cons_zero, List.set_cons_succ] at ha
            subst ha
            simp only [List.getElem?_toArray, List.getElem?_cons_succ, List.getElem?_cons_zero, Option.some.injEq] at ho
            subst ho
            have hsz := hS2.2.2.2.2.size
            go_simp
            have hal : Fr Nil u (u.alloc (.cells #[.int .i64 2, .int .i64 1, .int .i64 0] 54)) := (Fr.refl _ _).alloc _
            exact hK.out _ _ ⟨(hS2.2.nil hal).cells, hS2.2.nil hal⟩ ⟨u.heap.size, rfl, by omega, Blk.new _ _ _⟩ hal
          · intro us a' u o ha ho hS2 hE hd9 K hK
            simp only [puts, Act.put, List.setIfInBounds_toArray, List.set_cons_zero, List.set_cons_succ] at ha
            subst ha
            simp only [List.getElem?_toArray, List.getElem?_cons_succ, List.getElem?_cons_zero, Option.some.injEq] at ho
            subst ho
            obtain ⟨g, e1, hg1, hgb⟩ := hd9 ⟨3, 41, fun _ => True, D3m Bd 54 #[.int .i64 2, .int .i64 1, .int .i64 0], Nil⟩ (by simp) (by kernel_rfl)
            dsimp only at e1 hE
            rw [e1]
            rw [e1] at hK
            have hsz := hS2.2.2.2.2.size
            have hvg : View u (fun k => k = g) 3 (.slice (some ⟨g, 0, none⟩) 1 1) 1 (kcells ⟨2, 1, 0⟩) := blk_view hgb rfl (by decide)
            refine step_app_view rfl _ _ 23 (by rfl) (.agg #[.int .i64 0, .int .i64 0, .int .i64 0]) 24 Try.underlying23 info_place rfl (by decide) hE (by rfl) hvg (by rfl) (kcells_cell ⟨2, 1, 0⟩) (by omega) (by decide) ?_
            intro A8 c8 u2 y1 y2
            have hi2 : Inv w3 B nb q1 x1 26 3 56 u2 := ⟨hS2.2.1.fr y2 (hE.apart_blk hS2.2.1 (by decide)), hS2.2.2.1.fr y2 (fun k hk => (hS2.2.2.1.apart hE (by decide)) k hk), hS2.2.2.2.1.fr y2 (fun k hk => (hS2.2.2.2.1.apart hE (by decide)) k hk), hS2.2.2.2.2.then (y2.mono fun k hk => hE.2 k hk)⟩
            refine hK.out _ _ ⟨hi2.cells, hi2⟩ ⟨A8, c8, rfl, y1.mono fun k hk => hk.elim (fun h => hE.2 k h) (fun h => by show B ≤ k; omega), ?_⟩ y2
            intro b hb hb2
            have hlt := hS2.2.2.1.lt b hb
            rcases y1.2 b hb2 with h9 | h9
            · exact hS2.2.2.1.apart hE (by decide) b hb h9
            · omega
          · intro us a' u o ha ho hS2 hE hd9 K hK
            simp only [puts, Act.put, List.setIfInBounds_toArray, List.set_cons_zero, List.set_cons_succ] at ha
            subst ha
            simp only [List.getElem?_toArray, List.getElem?_cons_succ, List.getElem?_cons_zero, Option.some.injEq] at ho
            subst ho
            have hsz := hS2.2.2.2.2.size
            go_simp
            have hal : Fr Nil u (u.alloc (.cells #[.int .i64 1] 3)) := (Fr.refl _ _).alloc _
            exact hK.out _ _ ⟨(hS2.2.nil hal).cells, hS2.2.nil hal⟩ ⟨u.heap.size, rfl, by omega, Blk.new _ _ _⟩ hal
          · intro us a' u o ha ho hS2 hE hd9 K hK
            simp only [puts, Act.put, List.setIfInBounds_toArray, List.set_cons_zero, List.set_cons_succ] at ha
            subst ha
            simp only [List.getElem?_toArray, List.getElem?_cons_succ, List.getElem?_cons_zero, Option.some.injEq] at ho
            subst ho
            obtain ⟨g, e1, hg1, hgb⟩ := hd9 ⟨7, 45, fun _ => True, D3m Bd 3 #[.int .i64 1], Nil⟩ (by simp) (by kernel_rfl)
            dsimp only at e1 hE
            rw [e1]
            rw [e1] at hK
            have hsz := hS2.2.2.2.2.size
            have hvg : View u (fun k => k = g) 1 (.slice (some ⟨g, 0, none⟩) 1 1) 1 (ints .i64 [1]) := blk_view hgb rfl (by decide)
            refine step_app_view rfl _ _ 22 (by rfl) (.int .i64 0) 8 Try.underlying22 info_int rfl (by decide) hE (by rfl) hvg (by rfl) (ints_cell [1]) (by omega) (by decide) ?_
            intro A8 c8 u2 y1 y2
            have hi2 : Inv w3 B nb q1 x1 26 3 56 u2 := ⟨hS2.2.1.fr y2 (hE.apart_blk hS2.2.1 (by decide)), hS2.2.2.1.fr y2 (fun k hk => hap.out k hk), hS2.2.2.2.1.fr y2 (fun k hk => (hS2.2.2.2.1.apart hE (by decide)) k hk), hS2.2.2.2.2.then (y2.mono fun k hk => hE.2 k hk)⟩
            refine hK.out _ _ ⟨hi2.cells, hi2⟩ ⟨A8, c8, rfl, y1.mono fun k hk => hk.elim (fun h => hE.2 k h) (fun h => by show B ≤ k; omega), ?_⟩ y2
            intro b hb hb2
            have hlt := hS2.2.2.1.lt b hb
            rcases y1.2 b hb2 with h9 | h9
            · exact hap.out b hb h9
            · omega
          · intro us a' u o ha ho hS2 hE hd9 K hK
            simp only [puts, Act.put, List.setIfInBounds_toArray, List.set_cons_zero, List.set_cons_succ] at ha
            subst ha
            simp only [List.getElem?_toArray, List.getElem?_cons_succ, List.getElem?_cons_zero, Option.some.injEq] at ho
            subst ho
            go_simp
            exact hK.out _ _ hS2 rfl (Fr.refl _ _)
        · intro us a' w5 ha hS5 hD hf5
          obtain ⟨A8, c8, e4, r4, _⟩ := hD ⟨4, 42, fun w' => Row w' (fun b => B ≤ b) 54 3 (.slice q1.A2 x1.ps.length q1.c2) x1.ps.length (tri x1.ps), Dr B 54 3 (x1.ps.length + 1) (tri x1.ps ++ kcells ⟨2, 1, 0⟩) q1 x1, fun k => (Value.slice q1.A2 x1.ps.length q1.c2).ownBlock = some k⟩ (by simp)
          obtain ⟨A9, c9, e8, r8, hap9⟩ := hD ⟨8, 46, fun w' => Row w' (fun b => B ≤ b) 3 1 (.slice q1.A3 x1.gs.length q1.c3) x1.gs.length (ints .i64 x1.gs), Dr B 3 1 (x1.gs.length + 1) (ints .i64 x1.gs ++ [.int .i64 1]) q1 x1, fun k => (Value.slice q1.A3 x1.gs.length q1.c3).ownBlock = some k⟩ (by simp)
          have e9 := hD ⟨9, 47, fun _ => True, fun v _ => v = .pointer (some ⟨nb, 2, none⟩), Nil⟩ (by simp)
          simp only [puts, Act.put, List.setIfInBounds_toArray, List.set_cons_zero, List.set_cons_succ] at ha
          subst ha
          dsimp only at e4 e8 e9
          rw [e4, e8, e9]
          obtain ⟨t1, t2, t3⟩ := two_stores hS5.2 hBn r4 r8 hap9
          have hfB := (hfA.then (hS5.2.2.2.2.mono fun b hb => .inr hb)).then (t3.mono fun b hb => .inl hb)
          have o2 : w5.cell? ⟨nb, 2, none⟩ = some (.slice q1.A2 x1.ps.length q1.c2) := hS5.1.1
          have o3 : w5.cell? ⟨nb, 3, none⟩ = some (.slice q1.A3 x1.gs.length q1.c3) := hS5.1.2
          have z2 := hS5.2.1.frozen 2
          have z3 := hS5.2.1.frozen 3
          have l5 := hS5.2.1.lt
          clear hD e4 e8 e9 r4 r8 hap9 t3 hS5 hS hE4 hE8 hf5 hfA hbA hqA
          refine wpU_next (i := 10) rfl (by kernel_rfl) (fun K hK => ?_)
          go_simp
          refine hK.out _ _ (fun h => absurd rfl h.1) ?_
          clear hK K
          try simp only [Act.put, List.getElem_toArray, List.getElem_cons_succ, List.getElem_cons_zero, List.setIfInBounds_toArray, List.set_cons_zero, List.set_cons_succ]
          refine wpU_next (i := 11) rfl (by kernel_rfl) (fun K hK => ?_)
          go_simp
          refine hK.out _ _ (fun h => absurd (h.2.symm.trans (show _ = true by kernel_rfl)) (by decide)) ?_
          clear hK K
          try simp only [Act.put, List.getElem_toArray, List.getElem_cons_succ, List.getElem_cons_zero, List.setIfInBounds_toArray, List.set_cons_zero, List.set_cons_succ]
          refine wpU_next (i := 12) rfl (by kernel_rfl) (fun K hK => ?_)
          go_simp
          refine hK.out _ _ (fun h => absurd (h.2.symm.trans (show _ = true by kernel_rfl)) (by decide)) ?_
          refine wpU_done (by kernel_rfl) ?_ _
          clear hK K o2 o3 z2 z3 l5
          have hxe : Hid ((⟨x1.h, x1.ks, x1.ps ++ [⟨2, 1, 0⟩], x1.gs ++ [1], x1.ds⟩ : Nd) = ndM h (i + 1)) := hid (by rw [Hx1.out, Hx.out, ndM_zero H0.out, ndM_zero H0.out, mks_succ, rep_succ, rep_succ])
          rw [hxe.out] at t1 t2
          generalize (w5.setCell ⟨nb, 2, none⟩ _).setCell ⟨nb, 3, none⟩ _ = w9 at *
          go_wp2
          go_roundw
          case rel => exact ⟨i + 1, _, by go_num, by omega, hfB, t1, t2⟩
          case measure => simp [intOf]; omega
      · have hb0 : ((h : Int) == 0) = false := by simpa using h0
        have H0 := hid h0; clear h0
        have b4 : (w2.setCell ⟨nb, 1, none⟩ (.slice A2 (x.ks.length + 1) c2)).cell? ⟨nb, 4, none⟩ = some (.slice q1.A4 x1.ds.length q1.c4) := hbA.cell 4
        go_upto_region 11 with (fail)
        clear o1 z1 g1
        generalize w2.setCell _ _ = w3 at *
        have b4' : w3.cell? ⟨nb, 4, none⟩ = some (.slice q1.A4 x1.ds.length q1.c4) := hbA.cell 4
        clear b4
        have hB3 : B ≤ w3.heap.size := by have := hfA.size; omega
        go_wp2_with (at_builtin; refine wp_app_view rfl _ _ 24 rfl (.agg #[.int .i64 0, .int .i64 0, .int .i64 0]) 24 Try.underlying24 info_rkid rfl (by decide) (hqA.alloc _).d rfl (View.lit (s := 3) w3 #[.int .i64 2, .int .i64 1, .int .i64 0] 56 (0, 0) 1 rfl (by decide)) rfl (kcells_cell ⟨2, 1, 0⟩) (by omega) (by decide) ?_)
        intro A8 c8 w5 y1 y2 y3
        have G := grew_kid (hbA.alloc (.cells #[.int .i64 2, .int .i64 1, .int .i64 0] 56)) (hqA.alloc _) (by decide) (by decide) (by decide) (by decide) (by decide) (by decide) (by rw [World.size_alloc]; omega) ⟨2, 1, 0⟩ y1 y2
        have o1 : w5.cell? ⟨nb, 4, none⟩ = some (.slice q1.A4 x1.ds.length q1.c4) := G.old.cell 4
        have z1 := G.old.frozen 4
        have g1 := G.old.lt
        have hfB := (hfA.alloc (.cells #[.int .i64 2, .int .i64 1, .int .i64 0] 56)).trans G.fr (fun k hk => .inl hk)
        have t1 := G.blk
        have t2 := G.rws
        have hxe : Hid ((⟨x1.h, x1.ks, x1.ps, x1.gs, x1.ds ++ [⟨2, 1, 0⟩]⟩ : Nd) = ndM h (i + 1)) := hid (by rw [Hx1.out, Hx.out, ndM_pos H0.out, ndM_pos H0.out, mks_succ, rep_succ])
        rw [hxe.out] at t1 t2
        clear y1 y2 y3 G b4'
        go_wp2
        clear o1 z1 g1
        generalize w5.setCell ⟨nb, 4, none⟩ _ = w9 at *
        go_roundw
        case rel => exact ⟨i + 1, _, by go_num, by omega, hfB, t1, t2⟩
        case measure => simp [intOf]; omega
    · obtain rfl : i = k := by omega
      have hfw2 : Fr Nil W wr := hfw.trans hfr (fun j hj => .inr (by have := hfw.size; rcases hj with hj | hj <;> omega))
      have hmay := hid (ndM_may h i hk11 hh7)
      go_upto_region 12 with (fail)
      go_cut [11] from 55 to 68 (fun v wx => v = .bool (decide (MayNd (ndM h i))) ∧ wx = wr)
      case first =>
        have hd1 := hid (show decide (MayNd (ndM h i)) = decide (i ≤ 8 ∧ h ≤ 5 ∧ (h = 0 ∨ 1 ≤ i)) from decide_eq_decide.2 hmay.out)
        by_cases h8 : i ≤ 8
        · by_cases h6 : h < 6
          · by_cases h0 : h = 0
            · have hb0 : ((h : Int) == 0) = true := by simpa using h0
              have hv := hid (show decide (i ≤ 8 ∧ h ≤ 5 ∧ (h = 0 ∨ 1 ≤ i)) = true from decide_eq_true (by omega))
              clear h0
              go_wp2_with fail
              go_meet
              case rel => exact ⟨by rw [hd1.out, hv.out], rfl⟩
            · have hb0 : ((h : Int) == 0) = false := by simpa using h0
              by_cases h1 : 1 ≤ i
              · have hv := hid (show decide (i ≤ 8 ∧ h ≤ 5 ∧ (h = 0 ∨ 1 ≤ i)) = true from decide_eq_true (by omega))
                have hb1 : decide ((1 : Int) ≤ (i : Int)) = true := decide_eq_true (by omega)
                clear h0
                go_wp2_with fail
                go_meet
                case rel => exact ⟨by rw [hd1.out, hv.out], rfl⟩
              · have hv := hid (show decide (i ≤ 8 ∧ h ≤ 5 ∧ (h = 0 ∨ 1 ≤ i)) = false from decide_eq_false (by omega))
                have hb1 : decide ((1 : Int) ≤ (i : Int)) = false := decide_eq_false (by omega)
                clear h0
                go_wp2_with fail
                go_meet
                case rel => exact ⟨by rw [hd1.out, hv.out], rfl⟩
          · have hv := hid (show decide (i ≤ 8 ∧ h ≤ 5 ∧ (h = 0 ∨ 1 ≤ i)) = false from decide_eq_false (by omega))
            go_wp2_with fail
            go_meet
            case rel => exact ⟨by rw [hd1.out, hv.out], rfl⟩
        · have hv := hid (show decide (i ≤ 8 ∧ h ≤ 5 ∧ (h = 0 ∨ 1 ≤ i)) = false from decide_eq_false (by omega))
          go_wp2_with fail
          go_meet
          case rel => exact ⟨by rw [hd1.out, hv.out], rfl⟩
      case rest =>
        obtain ⟨rfl, rfl⟩ := hcut
        obtain ⟨r, hr⟩ : ∃ r, decide (MayNd (ndM h i)) = r := ⟨_, rfl⟩
        rw [hr]
        have Hr := hid hr
        clear hr hmay
        have hl := ndM_lens h i
        obtain ⟨x, hx⟩ : ∃ x, x = ndM h i := ⟨_, rfl⟩
        rw [← hx] at hbr hqr hl Hr
        have Hx := hid hx
        clear hx
        obtain ⟨l0, l1, l2, l3, l4⟩ := hl
        have L0 := hid l0
        have L1 := hid l1
        clear l0 l1
        have hle1 : x.ks.length ≤ 11 := by have := L1.out; omega
        have hVr := hqr.vs
        obtain ⟨c0, c1, c2, c3, c4⟩ := nd_cells hbr
        go_wp2_with fail
        refine (lawnode_ok _ q x ⟨by omega, by omega, by omega, by omega⟩ _ hVr).mono ?_
        rintro e w5 ⟨q5, rfl, hV5, hf5⟩
        go_wp2_with fail
        refine (nodeMay_ok _ q5 x r Hr.out _ hV5).mono ?_
        rintro e w6 ⟨rfl, hf6⟩
        have hb6 := (hbr.fr hf5 fun h => h).fr hf6 fun h => h
        have hq6 := (hqr.fr hf5 fun _ _ h => h).fr hf6 fun _ _ h => h
        have hfr6 := (hfw2.then hf5).then hf6
        have hB6 : B ≤ w6.heap.size := by have := hfr.size; have := hf5.size; have := hf6.size; omega
        clear hbr hqr hVr hV5 hf5 hf6 c0 c1 c2 c3 c4 hfr hfw hfw2
        have hn9 : ∀ j, (j = nb ∨ B ≤ j) → Nil j ∨ W.heap.size ≤ j := fun j hj => .inr (by rcases hj with hj | hj <;> omega)
        have hb : b = 0 ∨ b = 1 ∨ b = 2 ∨ b = 3 := by omega
        rcases hb with rfl | rfl | rfl | rfl
        · have d1 : w6.cell? ⟨nb, 1, none⟩ = some (.slice q.A1 x.ks.length q.c1) := hb6.cell 1
          go_wp2_with (at_builtin; refine wp_app_view rfl _ _ 22 rfl (.int .i64 0) 8 Try.underlying22 info_int rfl (by decide) (hq6.alloc _).k rfl (View.lit (s := 1) w6 #[.int .i64 500] 3 (0, 0) 1 rfl (by decide)) rfl (ints_cell [500]) (by omega) (by decide) ?_)
          intro A2 c2 w7 y1 y2 y3
          have G := grew_key (hb6.alloc (.cells #[.int .i64 500] 3)) (hq6.alloc _) (by decide) (by decide) (by decide) (by decide) (by decide) (by decide) (by rw [World.size_alloc]; omega) 500 y1 y2
          have o1 : w7.cell? ⟨nb, 1, none⟩ = some (.slice q.A1 x.ks.length q.c1) := G.old.cell 1
          have z1 := G.old.frozen 1
          have g1 := G.old.lt
          obtain ⟨x1, hx1⟩ : ∃ y : Nd, y = ⟨x.h, x.ks ++ [500], x.ps, x.gs, x.ds⟩ := ⟨_, rfl⟩
          obtain ⟨q1, hq1⟩ : ∃ y : Ptr, y = ⟨A2, c2, q.A2, q.c2, q.A3, q.c3, q.A4, q.c4⟩ := ⟨_, rfl⟩
          have hbA := G.blk
          have hqA := G.rws
          have hfA := (hfr6.alloc (.cells #[.int .i64 500] 3)).trans G.fr hn9
          rw [← hx1, ← hq1] at hbA hqA
          have hbadx : ¬ MayNd x1 := badlen_ndM h i x1 (by rw [hx1, Hx.out]) 1 0 0 0 (by rw [hx1, Hx.out]; simp) (by rw [hx1, Hx.out]; simp) (by rw [hx1, Hx.out]; simp) (by rw [hx1, Hx.out]; simp) rfl
          have hlens : FewNd x1 := by
            unfold FewNd
            rw [hx1]
            simp only [List.length_append, List.length_cons, List.length_nil]
            omega
          have hvA := hqA.vs
          obtain ⟨c0, c1, c2', c3, c4⟩ := nd_cells hbA
          go_upto_region 23 with (fail)
          clear o1 z1 g1 d1 y1 y2 y3 hx1 hq1 G
          generalize w7.setCell _ _ = w8 at *
          go_wp2_with fail
          refine (lawnode_ok _ q1 x1 hlens _ hvA).mono ?_
          rintro e w9 ⟨q9, rfl, hV9, hf9⟩
          go_wp2_with fail
          refine (nodeenc_bad _ q9 x1 hbadx _ hV9).mono ?_
          rintro e w10 ⟨rfl, hf10⟩
          have hbB := (hbA.fr hf9 fun h => h).fr hf10 fun h => h
          have hvB := (hvA.nil hf9).nil hf10
          have hfB := (hfA.then hf9).then hf10
          clear c0 c1 c2' c3 c4 hbA hvA hfA hf9 hf10 hV9
          obtain ⟨c0, c1, c2', c3, c4⟩ := nd_cells hbB
          go_wp2_with fail
          refine (lawnode_ok _ q1 x1 hlens _ hvB).mono ?_
          rintro e w11 ⟨q11, rfl, hV11, hf11⟩
          go_wp2_with fail
          refine (nodeMay_ok _ q11 x1 false (decide_eq_false hbadx) _ hV11).mono ?_
          rintro e w12 ⟨rfl, hf12⟩
          clear c0 c1 c2' c3 c4
          go_wp2
          go_ret
          exact ⟨rfl, (hfB.then hf11).then hf12⟩
        · have d1 : w6.cell? ⟨nb, 4, none⟩ = some (.slice q.A4 x.ds.length q.c4) := hb6.cell 4
          go_wp2_with (at_builtin; refine wp_app_view rfl _ _ 24 rfl (.agg #[.int .i64 0, .int .i64 0, .int .i64 0]) 24 Try.underlying24 info_rkid rfl (by decide) (hq6.alloc _).d rfl (View.lit (s := 3) w6 #[.int .i64 2, .int .i64 1, .int .i64 0] 56 (0, 0) 1 rfl (by decide)) rfl (kcells_cell ⟨2, 1, 0⟩) (by omega) (by decide) ?_)
          intro A2 c2 w7 y1 y2 y3
          have G := grew_kid (hb6.alloc (.cells #[.int .i64 2, .int .i64 1, .int .i64 0] 56)) (hq6.alloc _) (by decide) (by decide) (by decide) (by decide) (by decide) (by decide) (by rw [World.size_alloc]; omega) ⟨2, 1, 0⟩ y1 y2
          have o1 : w7.cell? ⟨nb, 4, none⟩ = some (.slice q.A4 x.ds.length q.c4) := G.old.cell 4
          have z1 := G.old.frozen 4
          have g1 := G.old.lt
          obtain ⟨x1, hx1⟩ : ∃ y : Nd, y = ⟨x.h, x.ks, x.ps, x.gs, x.ds ++ [⟨2, 1, 0⟩]⟩ := ⟨_, rfl⟩
          obtain ⟨q1, hq1⟩ : ∃ y : Ptr, y = ⟨q.A1, q.c1, q.A2, q.c2, q.A3, q.c3, A2, c2⟩ := ⟨_, rfl⟩
          have hbA := G.blk
          have hqA := G.rws
          have hfA := (hfr6.alloc (.cells #[.int .i64 2, .int .i64 1, .int .i64 0] 56)).trans G.fr hn9
          rw [← hx1, ← hq1] at hbA hqA
          have hbadx : ¬ MayNd x1 := badlen_ndM h i x1 (by rw [hx1, Hx.out]) 0 0 0 1 (by rw [hx1, Hx.out]; simp) (by rw [hx1, Hx.out]; simp) (by rw [hx1, Hx.out]; simp) (by rw [hx1, Hx.out]; simp) rfl
          have hlens : FewNd x1 := by
            unfold FewNd
            rw [hx1]
            simp only [List.length_append, List.length_cons, List.length_nil]
            omega
          have hvA := hqA.vs
          obtain ⟨c0, c1, c2', c3, c4⟩ := nd_cells hbA
          go_upto_region 23 with (fail)
          clear o1 z1 g1 d1 y1 y2 y3 hx1 hq1 G
          generalize w7.setCell _ _ = w8 at *
          go_wp2_with fail
          refine (lawnode_ok _ q1 x1 hlens _ hvA).mono ?_
          rintro e w9 ⟨q9, rfl, hV9, hf9⟩
          go_wp2_with fail
          refine (nodeenc_bad _ q9 x1 hbadx _ hV9).mono ?_
          rintro e w10 ⟨rfl, hf10⟩
          have hbB := (hbA.fr hf9 fun h => h).fr hf10 fun h => h
          have hvB := (hvA.nil hf9).nil hf10
          have hfB := (hfA.then hf9).then hf10
          clear c0 c1 c2' c3 c4 hbA hvA hfA hf9 hf10 hV9
          obtain ⟨c0, c1, c2', c3, c4⟩ := nd_cells hbB
          go_wp2_with fail
          refine (lawnode_ok _ q1 x1 hlens _ hvB).mono ?_
          rintro e w11 ⟨q11, rfl, hV11, hf11⟩
          go_wp2_with fail
          refine (nodeMay_ok _ q11 x1 false (decide_eq_false hbadx) _ hV11).mono ?_
          rintro e w12 ⟨rfl, hf12⟩
          clear c0 c1 c2' c3 c4
          go_wp2
          go_ret
          exact ⟨rfl, (hfB.then hf11).then hf12⟩
        · have d1 : w6.cell? ⟨nb, 2, none⟩ = some (.slice q.A2 x.ps.length q.c2) := hb6.cell 2
          go_wp2_with (at_builtin; refine wp_app_view rfl _ _ 23 rfl (.agg #[.int .i64 0, .int .i64 0, .int .i64 0]) 24 Try.underlying23 info_place rfl (by decide) (hq6.alloc _).p rfl (View.lit (s := 3) w6 #[.int .i64 2, .int .i64 1, .int .i64 0] 54 (0, 0) 1 rfl (by decide)) rfl (kcells_cell ⟨2, 1, 0⟩) (by omega) (by decide) ?_)
          intro A2 c2 w7 y1 y2 y3
          have G := grew_place (hb6.alloc (.cells #[.int .i64 2, .int .i64 1, .int .i64 0] 54)) (hq6.alloc _) (by decide) (by decide) (by decide) (by decide) (by decide) (by decide) (by rw [World.size_alloc]; omega) ⟨2, 1, 0⟩ y1 y2
          have o1 : w7.cell? ⟨nb, 2, none⟩ = some (.slice q.A2 x.ps.length q.c2) := G.old.cell 2
          have z1 := G.old.frozen 2
          have g1 := G.old.lt
          obtain ⟨x1, hx1⟩ : ∃ y : Nd, y = ⟨x.h, x.ks, x.ps ++ [⟨2, 1, 0⟩], x.gs, x.ds⟩ := ⟨_, rfl⟩
          obtain ⟨q1, hq1⟩ : ∃ y : Ptr, y = ⟨q.A1, q.c1, A2, c2, q.A3, q.c3, q.A4, q.c4⟩ := ⟨_, rfl⟩
          have hbA := G.blk
          have hqA := G.rws
          have hfA := (hfr6.alloc (.cells #[.int .i64 2, .int .i64 1, .int .i64 0] 54)).trans G.fr hn9
          rw [← hx1, ← hq1] at hbA hqA
          have hbadx : ¬ MayNd x1 := badlen_ndM h i x1 (by rw [hx1, Hx.out]) 0 1 0 0 (by rw [hx1, Hx.out]; simp) (by rw [hx1, Hx.out]; simp) (by rw [hx1, Hx.out]; simp) (by rw [hx1, Hx.out]; simp) rfl
          have hlens : FewNd x1 := by
            unfold FewNd
            rw [hx1]
            simp only [List.length_append, List.length_cons, List.length_nil]
            omega
          have hvA := hqA.vs
          obtain ⟨c0, c1, c2', c3, c4⟩ := nd_cells hbA
          go_upto_region 23 with (fail)
          clear o1 z1 g1 d1 y1 y2 y3 hx1 hq1 G
          generalize w7.setCell _ _ = w8 at *
          go_wp2_with fail
          refine (lawnode_ok _ q1 x1 hlens _ hvA).mono ?_
          rintro e w9 ⟨q9, rfl, hV9, hf9⟩
          go_wp2_with fail
          refine (nodeenc_bad _ q9 x1 hbadx _ hV9).mono ?_
          rintro e w10 ⟨rfl, hf10⟩
          have hbB := (hbA.fr hf9 fun h => h).fr hf10 fun h => h
          have hvB := (hvA.nil hf9).nil hf10
          have hfB := (hfA.then hf9).then hf10
          clear c0 c1 c2' c3 c4 hbA hvA hfA hf9 hf10 hV9
          obtain ⟨c0, c1, c2', c3, c4⟩ := nd_cells hbB
          go_wp2_with fail
          refine (lawnode_ok _ q1 x1 hlens _ hvB).mono ?_
          rintro e w11 ⟨q11, rfl, hV11, hf11⟩
          go_wp2_with fail
          refine (nodeMay_ok _ q11 x1 false (decide_eq_false hbadx) _ hV11).mono ?_
          rintro e w12 ⟨rfl, hf12⟩
          clear c0 c1 c2' c3 c4
          go_wp2
          go_ret
          exact ⟨rfl, (hfB.then hf11).then hf12⟩
        · have d1 : w6.cell? ⟨nb, 3, none⟩ = some (.slice q.A3 x.gs.length q.c3) := hb6.cell 3
          go_wp2_with (at_builtin; refine wp_app_view rfl _ _ 22 rfl (.int .i64 0) 8 Try.underlying22 info_int rfl (by decide) (hq6.alloc _).g rfl (View.lit (s := 1) w6 #[.int .i64 1] 3 (0, 0) 1 rfl (by decide)) rfl (ints_cell [1]) (by omega) (by decide) ?_)
          intro A2 c2 w7 y1 y2 y3
          have G := grew_gen (hb6.alloc (.cells #[.int .i64 1] 3)) (hq6.alloc _) (by decide) (by decide) (by decide) (by decide) (by decide) (by decide) (by rw [World.size_alloc]; omega) 1 y1 y2
          have o1 : w7.cell? ⟨nb, 3, none⟩ = some (.slice q.A3 x.gs.length q.c3) := G.old.cell 3
          have z1 := G.old.frozen 3
          have g1 := G.old.lt
          obtain ⟨x1, hx1⟩ : ∃ y : Nd, y = ⟨x.h, x.ks, x.ps, x.gs ++ [1], x.ds⟩ := ⟨_, rfl⟩
          obtain ⟨q1, hq1⟩ : ∃ y : Ptr, y = ⟨q.A1, q.c1, q.A2, q.c2, A2, c2, q.A4, q.c4⟩ := ⟨_, rfl⟩
          have hbA := G.blk
          have hqA := G.rws
          have hfA := (hfr6.alloc (.cells #[.int .i64 1] 3)).trans G.fr hn9
          rw [← hx1, ← hq1] at hbA hqA
          have hbadx : ¬ MayNd x1 := badlen_ndM h i x1 (by rw [hx1, Hx.out]) 0 0 1 0 (by rw [hx1, Hx.out]; simp) (by rw [hx1, Hx.out]; simp) (by rw [hx1, Hx.out]; simp) (by rw [hx1, Hx.out]; simp) rfl
          have hlens : FewNd x1 := by
            unfold FewNd
            rw [hx1]
            simp only [List.length_append, List.length_cons, List.length_nil]
            omega
          have hvA := hqA.vs
          obtain ⟨c0, c1, c2', c3, c4⟩ := nd_cells hbA
          go_upto_region 23 with (fail)
          clear o1 z1 g1 d1 y1 y2 y3 hx1 hq1 G
          generalize w7.setCell _ _ = w8 at *
          go_wp2_with fail
          refine (lawnode_ok _ q1 x1 hlens _ hvA).mono ?_
          rintro e w9 ⟨q9, rfl, hV9, hf9⟩
          go_wp2_with fail
          refine (nodeenc_bad _ q9 x1 hbadx _ hV9).mono ?_
          rintro e w10 ⟨rfl, hf10⟩
          have hbB := (hbA.fr hf9 fun h => h).fr hf10 fun h => h
          have hvB := (hvA.nil hf9).nil hf10
          have hfB := (hfA.then hf9).then hf10
          clear c0 c1 c2' c3 c4 hbA hvA hfA hf9 hf10 hV9
          obtain ⟨c0, c1, c2', c3, c4⟩ := nd_cells hbB
          go_wp2_with fail
          refine (lawnode_ok _ q1 x1 hlens _ hvB).mono ?_
          rintro e w11 ⟨q11, rfl, hV11, hf11⟩
          go_wp2_with fail
          refine (nodeMay_ok _ q11 x1 false (decide_eq_false hbadx) _ hV11).mono ?_
          rintro e w12 ⟨rfl, hf12⟩
          clear c0 c1 c2' c3 c4
          go_wp2
          go_ret
          exact ⟨rfl, (hfB.then hf11).then hf12⟩
end Go.Proofs.Ytidpabcfcdiecaa

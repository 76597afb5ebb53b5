/- The texts VNdN of this proof, one behind the other. Conditions: those of each. -/
import Derived.Test.YtgoghmblfdlnbaaGreatGR28
import Derived.Test.YtgoghmblfdlnbaaGreatGR30
import Derived.Test.YtgoghmblfdlnbaaGreatGR31
section
/- The law's Node and Back: a node as the program has it, as the reference has it (chapter 13). -/
set_option linter.unusedSimpArgs false
set_option linter.unusedVariables false
namespace Go.Proofs.YtgoghmblfdlnbaaGreat.nd
open Go.RowKit

/-- A new row; a new block. -/
def DRow (B : Nat) (T : TypeId) (s n : Nat) (xs : List Value) (v : Value) (w : World) : Prop := ∃ A c, v = .slice A n c ∧ Row w (fun k => B ≤ k) T s (.slice A n c) n xs
def DBlk (B : Nat) (cs : Array Value) (T : TypeId) (v : Value) (w : World) : Prop := ∃ g, v = .pointer (some ⟨g, 0, none⟩) ∧ B ≤ g ∧ Blk w g cs T
def DNode (B : Nat) (TI TP : TypeId) (h : Int) (n n2 n3 : Nat) (ks : List Int) (ps : List Kd) (gs : List Int) (v : Value) (w : World) : Prop := ∃ A1 c1 A2 c2 A3 c3, v = .agg #[.int .i64 h, .slice A1 n c1, .slice A2 n2 c2, .slice A3 n3 c3, .slice none 0 0] ∧
  Row w (fun k => B ≤ k) TI 1 (.slice A1 n c1) n (ints .i64 ks) ∧ Row w (fun k => B ≤ k) TP 3 (.slice A2 n2 c2) n2 (tri ps) ∧ Row w (fun k => B ≤ k) TI 1 (.slice A3 n3 c3) n3 (ints .i64 gs)
section
variable {w w' : World} {B n s : Nat} {T TI TP : TypeId} {xs : List Value} {v : Value} {cs : Array Value} {h : Int} {n1 n2 n3 : Nat} {ks : List Int} {ps : List Kd} {gs : List Int}
theorem DRow.nil (h : DRow B T s n xs v w) (hf : Fr Nil w w') : DRow B T s n xs v w' := let ⟨A, c, e, hr⟩ := h; ⟨A, c, e, hr.fr hf fun _ _ h => h⟩
theorem DBlk.nil (h : DBlk B cs T v w) (hf : Fr Nil w w') : DBlk B cs T v w' := let ⟨g, e, h1, h2⟩ := h; ⟨g, e, h1, h2.fr hf fun h => h⟩
theorem DNode.nil (h9 : DNode B TI TP h n1 n2 n3 ks ps gs v w) (hf : Fr Nil w w') : DNode B TI TP h n1 n2 n3 ks ps gs v w' :=
  let ⟨A1, c1, A2, c2, A3, c3, e, r1, r2, r3⟩ := h9; ⟨A1, c1, A2, c2, A3, c3, e, r1.fr hf fun _ _ h => h, r2.fr hf fun _ _ h => h, r3.fr hf fun _ _ h => h⟩
end
theorem S4 {w w' : World} {a1 a2 a3 a4 : Addr} {v1 v2 v3 v4 : Value} (hf : Fr Nil w w') (h : w.cell? a1 = some v1 ∧ w.cell? a2 = some v2 ∧ w.cell? a3 = some v3 ∧ w.cell? a4 = some v4) : w'.cell? a1 = some v1 ∧ w'.cell? a2 = some v2 ∧ w'.cell? a3 = some v3 ∧ w'.cell? a4 = some v4 :=
  ⟨hf.cell h.1 fun h => h, hf.cell h.2.1 fun h => h, hf.cell h.2.2.1 fun h => h, hf.cell h.2.2.2 fun h => h⟩
theorem tri_cell (l : List Kd) : ∀ u ∈ tri l, u.oneCell' = true := by
  intro u hu
  obtain ⟨k, _, hk⟩ := List.mem_flatMap.1 hu
  exact kcells_cell k u hk
/-- What is appended to nothing. -/
theorem new_row {w w2 : World} {B s n : Nat} {T : TypeId} {xs : List Value} {A : Option Addr} {c : Nat} (hB : B ≤ w.heap.size) (q1 : Row w2 (fun k => (Value.slice none 0 0).ownBlock = some k ∨ w.heap.size ≤ k) T s (.slice A (0 + n) c) (0 + n) ([] ++ xs)) (q2 : Fr (fun k => (Value.slice none 0 0).ownBlock = some k) w w2) :
    DRow B T s n xs (.slice A (0 + n) c) w2 ∧ Fr Nil w w2 := by
  rw [Nat.zero_add, List.nil_append] at q1
  rw [Nat.zero_add]
  exact ⟨⟨A, c, rfl, q1.mono fun k hk => hk.elim (fun h => by simp [Value.ownBlock] at h) (fun h => Nat.le_trans hB h)⟩, q2.mono fun k hk => by simp [Value.ownBlock] at hk⟩


/-- A kid more, stored in field 4 of the node's block. -/
theorem kid_step {w w2 : World} {B g i m c5 c6 : Nat} {A5 A6 : Option Addr} {a0 a1 a2 a3 : Value} {TN TK : TypeId} {xs ys : List Value} (hb : Blk w g #[a0, a1, a2, a3, .slice A5 i c5] TN) (hg : B ≤ g) (hr : Row w (fun k => B ≤ k) TK 3 (.slice A5 i c5) i xs) (hne : TK ≠ TN)
    (hB : B ≤ w.heap.size) (q1 : Row w2 (fun k => (Value.slice A5 i c5).ownBlock = some k ∨ w.heap.size ≤ k) TK 3 (.slice A6 m c6) m ys) (q2 : Fr (fun k => (Value.slice A5 i c5).ownBlock = some k) w w2) :
    Blk w2 g #[a0, a1, a2, a3, .slice A5 i c5] TN ∧ Blk (w2.setCell ⟨g, 4, none⟩ (.slice A6 m c6)) g #[a0, a1, a2, a3, .slice A6 m c6] TN ∧
      Row (w2.setCell ⟨g, 4, none⟩ (.slice A6 m c6)) (fun k => B ≤ k) TK 3 (.slice A6 m c6) m ys ∧ Fr (fun k => B ≤ k) w (w2.setCell ⟨g, 4, none⟩ (.slice A6 m c6)) := by
  obtain ⟨h1, h2, h3⟩ := grew_aux hb hr hne q1 q2 hB 4 (.slice A6 m c6)
  exact ⟨h1, h1.set 4 _, h2, h3.mono fun k hk => hk.elim (fun e => by rw [e]; exact hg) id⟩
theorem kids_take {ds : List Kd} {i : Nat} (hi : i < ds.length) : tri (ds.take (i + 1)) = tri (ds.take i) ++ kcells (kd ds i) := by
  rw [List.take_succ_eq_append_getElem hi, tri_append, kd_eq hi]; simp [tri]
theorem mk5s {w w' : World} {T : Nat → Prop} {a1 a2 a3 a4 a5 : Addr} {v1 v2 v3 v4 v5 : Value} (hf : Fr T w w') (h : w.cell? a1 = some v1 ∧ w.cell? a2 = some v2 ∧ w.cell? a3 = some v3 ∧ w.cell? a4 = some v4 ∧ w.cell? a5 = some v5) (hw' : w'.cell? a1 = some v1)
    (n2 : ¬ T a2.block) (n3 : ¬ T a3.block) (n4 : ¬ T a4.block) (n5 : ¬ T a5.block) :
    w'.cell? a1 = some v1 ∧ w'.cell? a2 = some v2 ∧ w'.cell? a3 = some v3 ∧ w'.cell? a4 = some v4 ∧ w'.cell? a5 = some v5 :=
  ⟨hw', hf.cell h.2.1 n2, hf.cell h.2.2.1 n3, hf.cell h.2.2.2.1 n4, hf.cell h.2.2.2.2 n5⟩
set_option maxRecDepth 100000 in
set_option maxHeartbeats 1600000 in
theorem lawnode_ok (S : Nat → Prop) (q : Ptr) (x : Nd) (hs : x.ks.length ≤ 40 ∧ x.ps.length ≤ 40 ∧ x.gs.length ≤ 40 ∧ x.ds.length ≤ 40) (w : World) (hV : Vs w S q x) :
    Calls Tryz.prog 13 #[.agg #[.int .i64 x.h, .slice q.A1 x.ks.length q.c1, .slice q.A2 x.ps.length q.c2, .slice q.A3 x.gs.length q.c3, .slice q.A4 x.ds.length q.c4]] w fun e w' => ∃ q', e = .returned (.agg #[.int .i64 x.h, .slice q'.A1 x.ks.length q'.c1, .slice q'.A2 x.ps.length q'.c2, .slice q'.A3 x.gs.length q'.c3, .slice q'.A4 x.ds.length q'.c4]) ∧ Vs w' (New w) q' x ∧ Fr Nil w w' := by
  obtain ⟨h, ks, ps, gs, ds⟩ := x
  obtain ⟨A1, c1, A2, c2, A3, c3, A4, c4⟩ := q
  obtain ⟨hk, hp, hg, hd⟩ := hV
  dsimp only at hk hp hg hd hs ⊢
  obtain ⟨hs1, hs2, hs3, hs4⟩ := hs
  generalize hn1 : ks.length = n at *
  have Hk := hid hn1; clear hn1
  generalize hn2 : ps.length = n2 at *
  have Hp := hid hn2; clear hn2
  generalize hn3 : gs.length = n3 at *
  have Hg := hid hn3; clear hn3
  generalize hn4 : ds.length = n4 at *
  have Hlen := hid hn4; clear hn4
  have hfr : Fr Nil w ((w.alloc (.cells #[.int .i64 h, .slice A1 n c1, .slice A2 n2 c2, .slice A3 n3 c3, .slice A4 n4 c4] 55)).alloc (.cells #[.int .i64 0, .slice none 0 0, .slice none 0 0, .slice none 0 0, .slice none 0 0] 62)) := ((Fr.refl Nil w).alloc _).alloc _
  go_enter Tryz.func13, Tryz.ntmps13
  go_wp2_with fail
  obtain ⟨W1, hW1⟩ : ∃ W1, W1 = (w.alloc (.cells #[.int .i64 h, .slice A1 n c1, .slice A2 n2 c2, .slice A3 n3 c3, .slice A4 n4 c4] 55)).alloc (.cells #[.int .i64 0, .slice none 0 0, .slice none 0 0, .slice none 0 0, .slice none 0 0] 62) := ⟨_, rfl⟩
  have hb : Blk W1 w.heap.size #[.int .i64 h, .slice A1 n c1, .slice A2 n2 c2, .slice A3 n3 c3, .slice A4 n4 c4] 55 := by rw [hW1]; exact (Blk.new _ _ _).alloc _
  have hrb : Blk W1 (w.heap.size + 1) #[.int .i64 0, .slice none 0 0, .slice none 0 0, .slice none 0 0, .slice none 0 0] 62 := by
    rw [hW1]
    have := Blk.new (w.alloc (.cells #[.int .i64 h, .slice A1 n c1, .slice A2 n2 c2, .slice A3 n3 c3, .slice A4 n4 c4] 55)) #[.int .i64 0, .slice none 0 0, .slice none 0 0, .slice none 0 0, .slice none 0 0] 62
    rwa [World.size_alloc] at this
  rw [← hW1] at hfr ⊢
  clear hW1
  replace hk := hk.bd.fr hfr fun _ _ _ h => h
  replace hp := hp.bd.fr hfr fun _ _ _ h => h
  replace hg := hg.bd.fr hfr fun _ _ _ h => h
  replace hd := hd.bd.fr hfr fun _ _ _ h => h
  obtain ⟨nb, hnb⟩ : ∃ nb, nb = w.heap.size := ⟨_, rfl⟩
  rw [← hnb] at hb hrb hk hp hg hd ⊢
  have hnb2 : nb = w.heap.size := hnb
  have Hnb := hid hnb2
  clear hnb hnb2
  have hS : (fun w' : World => w'.cell? ⟨nb, 0, none⟩ = some (.int .i64 h) ∧ w'.cell? ⟨nb, 1, none⟩ = some (.slice A1 n c1) ∧ w'.cell? ⟨nb, 2, none⟩ = some (.slice A2 n2 c2) ∧ w'.cell? ⟨nb, 3, none⟩ = some (.slice A3 n3 c3)) W1.drew := ⟨hb.drew.cell 0, hb.drew.cell 1, hb.drew.cell 2, hb.drew.cell 3⟩
  obtain ⟨B, hB⟩ : ∃ B, B = W1.heap.size := ⟨_, rfl⟩
  have hB1 : B ≤ W1.heap.size := by omega
  have HB := hid hB
  clear hB
  have hfd : Fr Nil W1 W1.drew := (Fr.refl _ _).drew
  refine wpU_region (k := 13) (S := (fun w' : World => w'.cell? ⟨nb, 0, none⟩ = some (.int .i64 h) ∧ w'.cell? ⟨nb, 1, none⟩ = some (.slice A1 n c1) ∧ w'.cell? ⟨nb, 2, none⟩ = some (.slice A2 n2 c2) ∧ w'.cell? ⟨nb, 3, none⟩ = some (.slice A3 n3 c3))) (by kernel_rfl) ?_
  refine wpU_take (i := 0) (v := ?_) rfl (by kernel_rfl) (by kernel_rfl) (fun _ _ _ h => h) _ _ _ _ (by kernel_rfl) (by kernel_rfl) (by kernel_rfl) (Or.inl ⟨by kernel_rfl, ?_⟩) hS ?_
  rotate_left
  · (intro w9 hS9; obtain ⟨s0, s1, s2, s3⟩ := hS9; go_simp); (try with_reducible rfl)
  try simp only [Act.put, List.getElem_toArray, List.getElem_cons_succ, List.getElem_cons_zero, List.setIfInBounds_toArray, List.set_cons_zero, List.set_cons_succ]
  refine wpU_take (i := 1) (v := ?_) rfl (by kernel_rfl) (by kernel_rfl) (fun _ _ _ h => h) _ _ _ _ (by kernel_rfl) (by kernel_rfl) (by kernel_rfl) (Or.inl ⟨by kernel_rfl, ?_⟩) hS ?_
  rotate_left
  · (intro w9 hS9; obtain ⟨s0, s1, s2, s3⟩ := hS9; go_simp); (try with_reducible rfl)
  try simp only [Act.put, List.getElem_toArray, List.getElem_cons_succ, List.getElem_cons_zero, List.setIfInBounds_toArray, List.set_cons_zero, List.set_cons_succ]
  refine wpU_take (i := 2) (v := ?_) rfl (by kernel_rfl) (by kernel_rfl) (fun _ _ _ h => h) _ _ _ _ (by kernel_rfl) (by kernel_rfl) (by kernel_rfl) (Or.inl ⟨by kernel_rfl, ?_⟩) hS ?_
  rotate_left
  · (intro w9 hS9; obtain ⟨s0, s1, s2, s3⟩ := hS9; go_simp); (try with_reducible rfl)
  try simp only [Act.put, List.getElem_toArray, List.getElem_cons_succ, List.getElem_cons_zero, List.setIfInBounds_toArray, List.set_cons_zero, List.set_cons_succ]
  refine wpU_take (i := 3) (v := ?_) rfl (by kernel_rfl) (by kernel_rfl) (fun _ _ _ h => h) _ _ _ _ (by kernel_rfl) (by kernel_rfl) (by kernel_rfl) (Or.inl ⟨by kernel_rfl, ?_⟩) hS ?_
  rotate_left
  · (intro w9 hS9; obtain ⟨s0, s1, s2, s3⟩ := hS9; go_simp); (try with_reducible rfl)
  try simp only [Act.put, List.getElem_toArray, List.getElem_cons_succ, List.getElem_cons_zero, List.setIfInBounds_toArray, List.set_cons_zero, List.set_cons_succ]
  refine wpU_take (i := 5) (v := ?_) rfl (by kernel_rfl) (by kernel_rfl) (fun _ _ _ h => h) _ _ _ _ (by kernel_rfl) (by kernel_rfl) (by kernel_rfl) (Or.inl ⟨by kernel_rfl, ?_⟩) hS ?_
  rotate_left
  · (intro w9 hS9; obtain ⟨s0, s1, s2, s3⟩ := hS9; go_simp); (try with_reducible rfl)
  try simp only [Act.put, List.getElem_toArray, List.getElem_cons_succ, List.getElem_cons_zero, List.setIfInBounds_toArray, List.set_cons_zero, List.set_cons_succ]
  refine wpU_take (i := 6) (v := ?_) rfl (by kernel_rfl) (by kernel_rfl) (fun _ _ _ h => h) _ _ _ _ (by kernel_rfl) (by kernel_rfl) (by kernel_rfl) (Or.inl ⟨by kernel_rfl, ?_⟩) hS ?_
  rotate_left
  · (intro w9 hS9; obtain ⟨s0, s1, s2, s3⟩ := hS9; go_simp); (try with_reducible rfl)
  try simp only [Act.put, List.getElem_toArray, List.getElem_cons_succ, List.getElem_cons_zero, List.setIfInBounds_toArray, List.set_cons_zero, List.set_cons_succ]
  refine wpU_take (i := 8) (v := ?_) rfl (by kernel_rfl) (by kernel_rfl) (fun _ _ _ h => h) _ _ _ _ (by kernel_rfl) (by kernel_rfl) (by kernel_rfl) (Or.inl ⟨by kernel_rfl, ?_⟩) hS ?_
  rotate_left
  · (intro w9 hS9; obtain ⟨s0, s1, s2, s3⟩ := hS9; go_simp); (try with_reducible rfl)
  try simp only [Act.put, List.getElem_toArray, List.getElem_cons_succ, List.getElem_cons_zero, List.setIfInBounds_toArray, List.set_cons_zero, List.set_cons_succ]
  refine wpU_take (i := 9) (v := ?_) rfl (by kernel_rfl) (by kernel_rfl) (fun _ _ _ h => h) _ _ _ _ (by kernel_rfl) (by kernel_rfl) (by kernel_rfl) (Or.inl ⟨by kernel_rfl, ?_⟩) hS ?_
  rotate_left
  · (intro w9 hS9; obtain ⟨s0, s1, s2, s3⟩ := hS9; go_simp); (try with_reducible rfl)
  try simp only [Act.put, List.getElem_toArray, List.getElem_cons_succ, List.getElem_cons_zero, List.setIfInBounds_toArray, List.set_cons_zero, List.set_cons_succ]
  refine wpU_makers (n := 1) [⟨4, 9, fun w' => Fr Nil W1 w', DRow B 3 1 n (ints .i64 ks), Nil⟩, ⟨7, 12, fun w' => Fr Nil W1 w', DRow B 51 3 n2 (tri ps), Nil⟩, ⟨10, 15, fun w' => Fr Nil W1 w', DRow B 3 1 n3 (ints .i64 gs), Nil⟩, ⟨11, 16, fun w' => Fr Nil W1 w', DNode B 3 51 h n n2 n3 ks ps gs, Nil⟩, ⟨12, 3, fun w' => Fr Nil W1 w', DBlk B #[.int .i64 0, .slice none 0 0, .slice none 0 0, .slice none 0 0, .slice none 0 0] 62, Nil⟩] (by kernel_rfl) (by simp) (by simp) hS (by simp [hfd]) ?_ ?_ ?_
  · refine List.forall_mem_cons.2 ⟨?_, List.forall_mem_cons.2 ⟨?_, List.forall_mem_cons.2 ⟨?_, List.forall_mem_cons.2 ⟨?_, List.forall_mem_cons.2 ⟨?_, by simp⟩⟩⟩⟩⟩
    all_goals
      intro m hm _ u u' _ _ hf
      simp only [List.mem_cons, List.not_mem_nil, or_false] at hm
      rcases hm with rfl | rfl | rfl | rfl | rfl
      · exact ⟨fun h => h.then hf, fun _ h => h.nil hf⟩
      · exact ⟨fun h => h.then hf, fun _ h => h.nil hf⟩
      · exact ⟨fun h => h.then hf, fun _ h => h.nil hf⟩
      · exact ⟨fun h => h.then hf, fun _ h => h.nil hf⟩
      · exact ⟨fun h => h.then hf, fun _ h => h.nil hf⟩
  · refine List.forall_mem_cons.2 ⟨?_, List.forall_mem_cons.2 ⟨?_, List.forall_mem_cons.2 ⟨?_, List.forall_mem_cons.2 ⟨?_, List.forall_mem_cons.2 ⟨?_, by simp⟩⟩⟩⟩⟩
    · intro us a' u o ha ho hS2 hf2 hd9 K hK
      simp only [puts, Act.put, List.setIfInBounds_toArray, List.set_cons_zero, List.set_cons_succ] at ha
      subst ha
      simp only [List.getElem?_toArray, List.getElem?_cons_succ, List.getElem?_cons_zero, Option.some.injEq] at ho
      subst ho
      have hsz := hf2.size
      refine step_app_view rfl _ _ 49 (by rfl) (.int .i64 0) 8 Tryz.underlying49 info_int rfl (by decide) (Row.nil u Nil _ _) (by rfl) (hk.fr hf2 fun _ _ _ h => h) (by rfl) (ints_cell ks) (by omega) (by decide) ?_
      intro A c u2 q1 q2
      obtain ⟨r1, r2⟩ := new_row (show B ≤ u.heap.size by omega) q1 q2
      exact hK.out _ _ (S4 r2 hS2) r1 r2
    · intro us a' u o ha ho hS2 hf2 hd9 K hK
      simp only [puts, Act.put, List.setIfInBounds_toArray, List.set_cons_zero, List.set_cons_succ] at ha
      subst ha
      simp only [List.getElem?_toArray, List.getElem?_cons_succ, List.getElem?_cons_zero, Option.some.injEq] at ho
      subst ho
      have hsz := hf2.size
      refine step_app_view rfl _ _ 52 (by rfl) (.agg #[.int .i64 0, .int .i64 0, .int .i64 0]) 24 Tryz.underlying52 info_place rfl (by decide) (Row.nil u Nil _ _) (by rfl) (hp.fr hf2 fun _ _ _ h => h) (by rfl) (tri_cell ps) (by omega) (by decide) ?_
      intro A c u2 q1 q2
      obtain ⟨r1, r2⟩ := new_row (show B ≤ u.heap.size by omega) q1 q2
      exact hK.out _ _ (S4 r2 hS2) r1 r2
    · intro us a' u o ha ho hS2 hf2 hd9 K hK
      simp only [puts, Act.put, List.setIfInBounds_toArray, List.set_cons_zero, List.set_cons_succ] at ha
      subst ha
      simp only [List.getElem?_toArray, List.getElem?_cons_succ, List.getElem?_cons_zero, Option.some.injEq] at ho
      subst ho
      have hsz := hf2.size
      refine step_app_view rfl _ _ 49 (by rfl) (.int .i64 0) 8 Tryz.underlying49 info_int rfl (by decide) (Row.nil u Nil _ _) (by rfl) (hg.fr hf2 fun _ _ _ h => h) (by rfl) (ints_cell gs) (by omega) (by decide) ?_
      intro A c u2 q1 q2
      obtain ⟨r1, r2⟩ := new_row (show B ≤ u.heap.size by omega) q1 q2
      exact hK.out _ _ (S4 r2 hS2) r1 r2
    · intro us a' u o ha ho hS2 hf2 hd9 K hK
      simp only [puts, Act.put, List.setIfInBounds_toArray, List.set_cons_zero, List.set_cons_succ] at ha
      subst ha
      simp only [List.getElem?_toArray, List.getElem?_cons_succ, List.getElem?_cons_zero, Option.some.injEq] at ho
      subst ho
      obtain ⟨x1, y1, e1, r1⟩ := hd9 ⟨4, 9, fun w' => Fr Nil W1 w', DRow B 3 1 n (ints .i64 ks), Nil⟩ (by simp) (by kernel_rfl)
      obtain ⟨x2, y2, e2, r2⟩ := hd9 ⟨7, 12, fun w' => Fr Nil W1 w', DRow B 51 3 n2 (tri ps), Nil⟩ (by simp) (by kernel_rfl)
      obtain ⟨x3, y3, e3, r3⟩ := hd9 ⟨10, 15, fun w' => Fr Nil W1 w', DRow B 3 1 n3 (ints .i64 gs), Nil⟩ (by simp) (by kernel_rfl)
      dsimp only at e1 e2 e3
      rw [e1, e2, e3]
      rw [e1, e2, e3] at hK
      go_simp
      exact hK.out _ _ hS2 ⟨x1, y1, x2, y2, x3, y3, rfl, r1, r2, r3⟩ (Fr.refl _ _)
    · intro us a' u o ha ho hS2 hf2 hd9 K hK
      simp only [puts, Act.put, List.setIfInBounds_toArray, List.set_cons_zero, List.set_cons_succ] at ha
      subst ha
      simp only [List.getElem?_toArray, List.getElem?_cons_succ, List.getElem?_cons_zero, Option.some.injEq] at ho
      subst ho
      have hsz := hf2.size
      go_simp
      exact hK.out _ _ (S4 ((Fr.refl Nil u).alloc _) hS2) ⟨u.heap.size, rfl, by omega, Blk.new _ _ _⟩ ((Fr.refl Nil u).alloc _)
  · intro us a' w5 ha hS5 hD hf5
    obtain ⟨g, eg, hgB, hgb⟩ := hD ⟨12, 3, fun w' => Fr Nil W1 w', DBlk B #[.int .i64 0, .slice none 0 0, .slice none 0 0, .slice none 0 0, .slice none 0 0] 62, Nil⟩ (by simp)
    obtain ⟨B1, d1, B2, d2, B3, d3, eq, r1, r2, r3⟩ := hD ⟨11, 16, fun w' => Fr Nil W1 w', DNode B 3 51 h n n2 n3 ks ps gs, Nil⟩ (by simp)
    simp only [puts, Act.put, List.setIfInBounds_toArray, List.set_cons_zero, List.set_cons_succ] at ha
    subst ha
    dsimp only at eg eq
    rw [eg, eq]
    clear hD eg eq
    have hf05 : Fr Nil W1 w5 := hfd.then (hf5.mono fun k hk => by simp at hk; exact hk)
    have i0 : w5.cell? ⟨g, 0, none⟩ = some (.int .i64 0) := hgb.cell 0
    have i1 : w5.cell? ⟨g, 1, none⟩ = some (.slice none 0 0) := hgb.cell 1
    have i2 : w5.cell? ⟨g, 2, none⟩ = some (.slice none 0 0) := hgb.cell 2
    have i3 : w5.cell? ⟨g, 3, none⟩ = some (.slice none 0 0) := hgb.cell 3
    have i4 : w5.cell? ⟨g, 4, none⟩ = some (.slice none 0 0) := hgb.cell 4
    have z0 := hgb.frozen 0
    have z1 := hgb.frozen 1
    have z2 := hgb.frozen 2
    have z3 := hgb.frozen 3
    have z4 := hgb.frozen 4
    have hgw := hgb.lt
    clear hS5 hf5
    refine wpU_next (i := 13) rfl (by kernel_rfl) (fun K hK => ?_)
    go_simp
    refine hK.out _ _ (fun h => absurd rfl h.1) ?_
    refine wpU_done (by kernel_rfl) ?_ _
    clear hK K
    have hg6 := st5_blk hgb (.int .i64 h) (.slice B1 n d1) (.slice B2 n2 d2) (.slice B3 n3 d3) (.slice none 0 0)
    have hs5 := st5_fr w5 g (.int .i64 h) (.slice B1 n d1) (.slice B2 n2 d2) (.slice B3 n3 d3) (.slice none 0 0)
    have r16 := r1.fr hs5 (fun k hk e => r1.apart_blk hgb (by decide) (by rw [hk, e]))
    have r26 := r2.fr hs5 (fun k hk e => r2.apart_blk hgb (by decide) (by rw [hk, e]))
    have r36 := r3.fr hs5 (fun k hk e => r3.apart_blk hgb (by decide) (by rw [hk, e]))
    have hf6 : Fr (fun k => B ≤ k) W1 (st5 w5 g (.int .i64 h) (.slice B1 n d1) (.slice B2 n2 d2) (.slice B3 n3 d3) (.slice none 0 0)) := hf05.nil.then (hs5.mono fun k hk => by rw [hk]; exact hgB)
    unfold st5 at hg6 hf6 r16 r26 r36
    clear i0 i1 i2 i3 i4 z0 z1 z2 z3 z4 hgw r1 r2 r3 hgb hf05 hs5 hS hfd
    generalize (((((w5.setCell ⟨g, 0, none⟩ (.int .i64 h)).setCell ⟨g, 1, none⟩ (.slice B1 n d1)).setCell ⟨g, 2, none⟩ (.slice B2 n2 d2)).setCell ⟨g, 3, none⟩ (.slice B3 n3 d3)).setCell ⟨g, 4, none⟩ (.slice none 0 0)) = w6 at *
    go_wp2_with fail
    go_loopw [4] (fun v4 wr => ∃ (i c5 : Nat) (A5 : Option Addr), v4 = .int .i64 i ∧ i ≤ n4 ∧ Blk wr g #[.int .i64 h, .slice B1 n d1, .slice B2 n2 d2, .slice B3 n3 d3, .slice A5 i c5] 62 ∧ Row wr (fun k => B ≤ k) 3 1 (.slice B1 n d1) n (ints .i64 ks) ∧ Row wr (fun k => B ≤ k) 51 3 (.slice B2 n2 d2) n2 (tri ps) ∧ Row wr (fun k => B ≤ k) 3 1 (.slice B3 n3 d3) n3 (ints .i64 gs) ∧
      Row wr (fun k => B ≤ k) 57 3 (.slice A5 i c5) i (tri (ds.take i)) ∧ Fr (fun k => B ≤ k) W1 wr) (fun v4 _ => n4 - (intOf v4).toNat)
    case atStart => exact ⟨0, 0, none, rfl, by omega, hg6, r16, r26, r36, Row.nil _ _ _ _, hf6⟩
    case round =>
      obtain ⟨i, c5, A5, rfl, hi, hgr, r1, r2, r3, hrr, hfr9⟩ := hrel
      have hnr := hb.fr hfr9 (fun h => by have := HB.out; have := hb.lt; omega)
      have b4 : wr.cell? ⟨nb, 4, none⟩ = some (.slice A4 n4 c4) := hnr.cell 4
      by_cases hlt : i < n4
      · obtain ⟨bd, od, rfl, hbd, -, kd0, kd1, kd2⟩ := kd_at (hd.fr hfr9 fun k hk _ (h : B ≤ k) => by have := hk.2; have := Hnb.out; have := HB.out; have := hb.lt; omega) hlt
        have hbd2 := hbd.2
        have hnbB : nb < B := by have := HB.out; have := hb.lt; omega
        have hBr : B ≤ wr.heap.size := by have := hfr9.size; have := HB.out; omega
        have hnw1 : nb ≤ w.heap.size := by have := Hnb.out; omega
        have hnw2 : w.heap.size ≤ nb := by have := Hnb.out; omega
        have hz0 : (0 : Int) ≤ (i : Int) := by omega
        have hz1 : (i : Int) < (n4 : Int) := by omega
        have hSK : (fun w' : World => w'.cell? ⟨g, 4, none⟩ = some (.slice A5 i c5) ∧ w'.cell? ⟨nb, 4, none⟩ = some (.slice (some ⟨bd, od, none⟩) n4 c4) ∧ w'.cell? ⟨bd, od + i * 3, none⟩ = some (.int .i64 (kd ds i).a) ∧ w'.cell? ⟨bd, od + i * 3 + 1, none⟩ = some (.int .i64 (kd ds i).n) ∧ w'.cell? ⟨bd, od + i * 3 + 2, none⟩ = some (.int .i64 (kd ds i).g)) wr.drew := ⟨hgr.drew.cell 4, hnr.drew.cell 4, kd0, kd1, kd2⟩
        go_wp2_with fail
        clear kd0 kd1 kd2 b4
        refine wpU_region (k := 24) (S := (fun w' : World => w'.cell? ⟨g, 4, none⟩ = some (.slice A5 i c5) ∧ w'.cell? ⟨nb, 4, none⟩ = some (.slice (some ⟨bd, od, none⟩) n4 c4) ∧ w'.cell? ⟨bd, od + i * 3, none⟩ = some (.int .i64 (kd ds i).a) ∧ w'.cell? ⟨bd, od + i * 3 + 1, none⟩ = some (.int .i64 (kd ds i).n) ∧ w'.cell? ⟨bd, od + i * 3 + 2, none⟩ = some (.int .i64 (kd ds i).g))) (by kernel_rfl) ?_
        refine wpU_take (i := 0) (v := ?_) rfl (by kernel_rfl) (by kernel_rfl) (fun _ _ _ h => h) _ _ _ _ (by kernel_rfl) (by kernel_rfl) (by kernel_rfl) (Or.inl ⟨by kernel_rfl, ?_⟩) hSK ?_
        rotate_left
        · (intro w9 hS9; obtain ⟨s0, s1, s2, s3, s4⟩ := hS9; go_simp); (try with_reducible rfl)
        try simp only [Act.put, List.getElem_toArray, List.getElem_cons_succ, List.getElem_cons_zero, List.setIfInBounds_toArray, List.set_cons_zero, List.set_cons_succ]
        refine wpU_take (i := 1) (v := ?_) rfl (by kernel_rfl) (by kernel_rfl) (fun _ _ _ h => h) _ _ _ _ (by kernel_rfl) (by kernel_rfl) (by kernel_rfl) (Or.inl ⟨by kernel_rfl, ?_⟩) hSK ?_
        rotate_left
        · (intro w9 hS9; obtain ⟨s0, s1, s2, s3, s4⟩ := hS9; go_simp); (try with_reducible rfl)
        try simp only [Act.put, List.getElem_toArray, List.getElem_cons_succ, List.getElem_cons_zero, List.setIfInBounds_toArray, List.set_cons_zero, List.set_cons_succ]
        refine wpU_take (i := 2) (v := ?_) rfl (by kernel_rfl) (by kernel_rfl) (fun _ _ _ h => h) _ _ _ _ (by kernel_rfl) (by kernel_rfl) (by kernel_rfl) (Or.inl ⟨by kernel_rfl, ?_⟩) hSK ?_
        rotate_left
        · (intro w9 hS9; obtain ⟨s0, s1, s2, s3, s4⟩ := hS9; go_simp); (try with_reducible rfl)
        try simp only [Act.put, List.getElem_toArray, List.getElem_cons_succ, List.getElem_cons_zero, List.setIfInBounds_toArray, List.set_cons_zero, List.set_cons_succ]
        refine wpU_take (i := 3) (v := ?_) rfl (by kernel_rfl) (by kernel_rfl) (fun _ _ _ h => h) _ _ _ _ (by kernel_rfl) (by kernel_rfl) (by kernel_rfl) (Or.inl ⟨by kernel_rfl, ?_⟩) hSK ?_
        rotate_left
        · (intro w9 hS9; obtain ⟨s0, s1, s2, s3, s4⟩ := hS9; go_simp); (try with_reducible rfl)
        try simp only [Act.put, List.getElem_toArray, List.getElem_cons_succ, List.getElem_cons_zero, List.setIfInBounds_toArray, List.set_cons_zero, List.set_cons_succ]
        refine wpU_take (i := 4) (v := ?_) rfl (by kernel_rfl) (by kernel_rfl) (fun _ _ _ h => h) _ _ _ _ (by kernel_rfl) (by kernel_rfl) (by kernel_rfl) (Or.inl ⟨by kernel_rfl, ?_⟩) hSK ?_
        rotate_left
        · (intro w9 hS9; obtain ⟨s0, s1, s2, s3, s4⟩ := hS9; go_simp); (try with_reducible rfl)
        try simp only [Act.put, List.getElem_toArray, List.getElem_cons_succ, List.getElem_cons_zero, List.setIfInBounds_toArray, List.set_cons_zero, List.set_cons_succ]
        refine wpU_take (i := 5) (v := ?_) rfl (by kernel_rfl) (by kernel_rfl) (fun _ _ _ h => h) _ _ _ _ (by kernel_rfl) (by kernel_rfl) (by kernel_rfl) (Or.inl ⟨by kernel_rfl, ?_⟩) hSK ?_
        rotate_left
        · (intro w9 hS9; obtain ⟨s0, s1, s2, s3, s4⟩ := hS9; go_simp); (try with_reducible rfl)
        try simp only [Act.put, List.getElem_toArray, List.getElem_cons_succ, List.getElem_cons_zero, List.setIfInBounds_toArray, List.set_cons_zero, List.set_cons_succ]
        refine wpU_take (i := 6) (v := ?_) rfl (by kernel_rfl) (by kernel_rfl) (fun _ _ _ h => h) _ _ _ _ (by kernel_rfl) (by kernel_rfl) (by kernel_rfl) (Or.inl ⟨by kernel_rfl, ?_⟩) hSK ?_
        rotate_left
        · (intro w9 hS9; obtain ⟨s0, s1, s2, s3, s4⟩ := hS9; go_simp); (try with_reducible rfl)
        try simp only [Act.put, List.getElem_toArray, List.getElem_cons_succ, List.getElem_cons_zero, List.setIfInBounds_toArray, List.set_cons_zero, List.set_cons_succ]
        refine wpU_take (i := 7) (v := ?_) rfl (by kernel_rfl) (by kernel_rfl) (fun _ _ _ h => h) _ _ _ _ (by kernel_rfl) (by kernel_rfl) (by kernel_rfl) (Or.inl ⟨by kernel_rfl, ?_⟩) hSK ?_
        rotate_left
        · (intro w9 hS9; obtain ⟨s0, s1, s2, s3, s4⟩ := hS9; go_simp); (try with_reducible rfl)
        try simp only [Act.put, List.getElem_toArray, List.getElem_cons_succ, List.getElem_cons_zero, List.setIfInBounds_toArray, List.set_cons_zero, List.set_cons_succ]
        refine wpU_take (i := 8) (v := ?_) rfl (by kernel_rfl) (by kernel_rfl) (fun _ _ _ h => h) _ _ _ _ (by kernel_rfl) (by kernel_rfl) (by kernel_rfl) (Or.inl ⟨by kernel_rfl, ?_⟩) hSK ?_
        rotate_left
        · (intro w9 hS9; obtain ⟨s0, s1, s2, s3, s4⟩ := hS9; go_simp); (try with_reducible rfl)
        try simp only [Act.put, List.getElem_toArray, List.getElem_cons_succ, List.getElem_cons_zero, List.setIfInBounds_toArray, List.set_cons_zero, List.set_cons_succ]
        refine wpU_take (i := 9) (v := ?_) rfl (by kernel_rfl) (by kernel_rfl) (fun _ _ _ h => h) _ _ _ _ (by kernel_rfl) (by kernel_rfl) (by kernel_rfl) (Or.inl ⟨by kernel_rfl, ?_⟩) hSK ?_
        rotate_left
        · (intro w9 hS9; obtain ⟨s0, s1, s2, s3, s4⟩ := hS9; go_simp); (try with_reducible rfl)
        try simp only [Act.put, List.getElem_toArray, List.getElem_cons_succ, List.getElem_cons_zero, List.setIfInBounds_toArray, List.set_cons_zero, List.set_cons_succ]
        refine wpU_take (i := 10) (v := ?_) rfl (by kernel_rfl) (by kernel_rfl) (fun _ _ _ h => h) _ _ _ _ (by kernel_rfl) (by kernel_rfl) (by kernel_rfl) (Or.inl ⟨by kernel_rfl, ?_⟩) hSK ?_
        rotate_left
        · (intro w9 hS9; obtain ⟨s0, s1, s2, s3, s4⟩ := hS9; go_simp); (try with_reducible rfl)
        try simp only [Act.put, List.getElem_toArray, List.getElem_cons_succ, List.getElem_cons_zero, List.setIfInBounds_toArray, List.set_cons_zero, List.set_cons_succ]
        refine wpU_take (i := 11) (v := ?_) rfl (by kernel_rfl) (by kernel_rfl) (fun _ _ _ h => h) _ _ _ _ (by kernel_rfl) (by kernel_rfl) (by kernel_rfl) (Or.inl ⟨by kernel_rfl, ?_⟩) hSK ?_
        rotate_left
        · (intro w9 hS9; obtain ⟨s0, s1, s2, s3, s4⟩ := hS9; go_simp); (try with_reducible rfl)
        try simp only [Act.put, List.getElem_toArray, List.getElem_cons_succ, List.getElem_cons_zero, List.setIfInBounds_toArray, List.set_cons_zero, List.set_cons_succ]
        refine wpU_take (i := 12) (v := ?_) rfl (by kernel_rfl) (by kernel_rfl) (fun _ _ _ h => h) _ _ _ _ (by kernel_rfl) (by kernel_rfl) (by kernel_rfl) (Or.inl ⟨by kernel_rfl, ?_⟩) hSK ?_
        rotate_left
        · (intro w9 hS9; obtain ⟨s0, s1, s2, s3, s4⟩ := hS9; go_simp); (try with_reducible rfl)
        try simp only [Act.put, List.getElem_toArray, List.getElem_cons_succ, List.getElem_cons_zero, List.setIfInBounds_toArray, List.set_cons_zero, List.set_cons_succ]
        refine wpU_take (i := 13) (v := ?_) rfl (by kernel_rfl) (by kernel_rfl) (fun _ _ _ h => h) _ _ _ _ (by kernel_rfl) (by kernel_rfl) (by kernel_rfl) (Or.inl ⟨by kernel_rfl, ?_⟩) hSK ?_
        rotate_left
        · (intro w9 hS9; obtain ⟨s0, s1, s2, s3, s4⟩ := hS9; go_simp); (try with_reducible rfl)
        try simp only [Act.put, List.getElem_toArray, List.getElem_cons_succ, List.getElem_cons_zero, List.setIfInBounds_toArray, List.set_cons_zero, List.set_cons_succ]
        refine wpU_take (i := 14) (v := ?_) rfl (by kernel_rfl) (by kernel_rfl) (fun _ _ _ h => h) _ _ _ _ (by kernel_rfl) (by kernel_rfl) (by kernel_rfl) (Or.inl ⟨by kernel_rfl, ?_⟩) hSK ?_
        rotate_left
        · (intro w9 hS9; obtain ⟨s0, s1, s2, s3, s4⟩ := hS9; go_simp); (try with_reducible rfl)
        try simp only [Act.put, List.getElem_toArray, List.getElem_cons_succ, List.getElem_cons_zero, List.setIfInBounds_toArray, List.set_cons_zero, List.set_cons_succ]
        refine wpU_take (i := 15) (v := ?_) rfl (by kernel_rfl) (by kernel_rfl) (fun _ _ _ h => h) _ _ _ _ (by kernel_rfl) (by kernel_rfl) (by kernel_rfl) (Or.inl ⟨by kernel_rfl, ?_⟩) hSK ?_
        rotate_left
        · (intro w9 hS9; obtain ⟨s0, s1, s2, s3, s4⟩ := hS9; go_simp); (try with_reducible rfl)
        try simp only [Act.put, List.getElem_toArray, List.getElem_cons_succ, List.getElem_cons_zero, List.setIfInBounds_toArray, List.set_cons_zero, List.set_cons_succ]
        refine wpU_take (i := 16) (v := ?_) rfl (by kernel_rfl) (by kernel_rfl) (fun _ _ _ h => h) _ _ _ _ (by kernel_rfl) (by kernel_rfl) (by kernel_rfl) (Or.inl ⟨by kernel_rfl, ?_⟩) hSK ?_
        rotate_left
        · (intro w9 hS9; obtain ⟨s0, s1, s2, s3, s4⟩ := hS9; go_simp); (try with_reducible rfl)
        try simp only [Act.put, List.getElem_toArray, List.getElem_cons_succ, List.getElem_cons_zero, List.setIfInBounds_toArray, List.set_cons_zero, List.set_cons_succ]
        refine wpU_take (i := 17) (v := ?_) rfl (by kernel_rfl) (by kernel_rfl) (fun _ _ _ h => h) _ _ _ _ (by kernel_rfl) (by kernel_rfl) (by kernel_rfl) (Or.inl ⟨by kernel_rfl, ?_⟩) hSK ?_
        rotate_left
        · (intro w9 hS9; obtain ⟨s0, s1, s2, s3, s4⟩ := hS9; go_simp); (try with_reducible rfl)
        try simp only [Act.put, List.getElem_toArray, List.getElem_cons_succ, List.getElem_cons_zero, List.setIfInBounds_toArray, List.set_cons_zero, List.set_cons_succ]
        refine wpU_take (i := 18) (v := ?_) rfl (by kernel_rfl) (by kernel_rfl) (fun _ _ _ h => h) _ _ _ _ (by kernel_rfl) (by kernel_rfl) (by kernel_rfl) (Or.inl ⟨by kernel_rfl, ?_⟩) hSK ?_
        rotate_left
        · (intro w9 hS9; obtain ⟨s0, s1, s2, s3, s4⟩ := hS9; go_simp); (try with_reducible rfl)
        try simp only [Act.put, List.getElem_toArray, List.getElem_cons_succ, List.getElem_cons_zero, List.setIfInBounds_toArray, List.set_cons_zero, List.set_cons_succ]
        refine wpU_take (i := 19) (v := ?_) rfl (by kernel_rfl) (by kernel_rfl) (fun _ _ _ h => h) _ _ _ _ (by kernel_rfl) (by kernel_rfl) (by kernel_rfl) (Or.inl ⟨by kernel_rfl, ?_⟩) hSK ?_
        rotate_left
        · (intro w9 hS9; obtain ⟨s0, s1, s2, s3, s4⟩ := hS9; go_simp); (try with_reducible rfl)
        try simp only [Act.put, List.getElem_toArray, List.getElem_cons_succ, List.getElem_cons_zero, List.setIfInBounds_toArray, List.set_cons_zero, List.set_cons_succ]
        refine wpU_take (i := 20) (v := ?_) rfl (by kernel_rfl) (by kernel_rfl) (fun _ _ _ h => h) _ _ _ _ (by kernel_rfl) (by kernel_rfl) (by kernel_rfl) (Or.inl ⟨by kernel_rfl, ?_⟩) hSK ?_
        rotate_left
        · (intro w9 hS9; obtain ⟨s0, s1, s2, s3, s4⟩ := hS9; go_simp); (try with_reducible rfl)
        try simp only [Act.put, List.getElem_toArray, List.getElem_cons_succ, List.getElem_cons_zero, List.setIfInBounds_toArray, List.set_cons_zero, List.set_cons_succ]
        refine wpU_next (i := 21) rfl (by kernel_rfl) (fun K hK => ?_)
        go_simp
        obtain ⟨W7, hW7⟩ : ∃ W7, W7 = (wr.alloc (.cells #[.int .i64 (kd ds i).a, .int .i64 (kd ds i).n, .int .i64 (kd ds i).g] 57)).drew := ⟨_, rfl⟩
        have hf7 : Fr Nil wr.drew W7 := by rw [hW7]; exact (Fr.refl Nil wr.drew).alloc _
        have hv7 : View W7 (New wr) 3 (.slice (some ⟨wr.heap.size, 0, none⟩) 1 1) 1 (kcells (kd ds i)) := by
          rw [hW7]; exact View.lit (s := 3) wr.drew #[.int .i64 (kd ds i).a, .int .i64 (kd ds i).n, .int .i64 (kd ds i).g] 57 (0, 0) 1 rfl (by decide)
        have hSK7 : (fun w' : World => w'.cell? ⟨g, 4, none⟩ = some (.slice A5 i c5) ∧ w'.cell? ⟨nb, 4, none⟩ = some (.slice (some ⟨bd, od, none⟩) n4 c4) ∧ w'.cell? ⟨bd, od + i * 3, none⟩ = some (.int .i64 (kd ds i).a) ∧ w'.cell? ⟨bd, od + i * 3 + 1, none⟩ = some (.int .i64 (kd ds i).n) ∧ w'.cell? ⟨bd, od + i * 3 + 2, none⟩ = some (.int .i64 (kd ds i).g)) W7 := mk5n hf7 hSK
        rw [← hW7]
        clear hW7
        refine hK.out _ _ (fun _ => hSK7) ?_
        clear hK K
        try simp only [Act.put, List.getElem_toArray, List.getElem_cons_succ, List.getElem_cons_zero, List.setIfInBounds_toArray, List.set_cons_zero, List.set_cons_succ]
        have hg7 := hgr.drew.fr hf7 fun h => h
        have hr7 := hrr.drew.fr hf7 fun _ _ h => h
        have hB7 : B ≤ W7.heap.size := by have := hf7.size; have : wr.drew.heap.size = wr.heap.size := rfl; omega
        refine wpU_next (i := 22) rfl (by kernel_rfl) (fun K hK => ?_)
        refine step_app_view rfl _ _ 60 (by rfl) (.agg #[.int .i64 0, .int .i64 0, .int .i64 0]) 24 Tryz.underlying60 info_kid rfl (by decide) hr7 (by rfl) hv7 (by rfl) (kcells_cell (kd ds i)) (by omega) (by decide) ?_
        intro A6 c6 w6 q1 q2
        obtain ⟨k1, k2, k3, k4⟩ := kid_step hg7 hgB hr7 (by decide) hB7 q1 q2
        have hown : ∀ k, (Value.slice A5 i c5).ownBlock = some k → B ≤ k := fun k hk => hrr.2 k hk
        have hSK9 : (fun w' : World => w'.cell? ⟨g, 4, none⟩ = some (.slice A5 i c5) ∧ w'.cell? ⟨nb, 4, none⟩ = some (.slice (some ⟨bd, od, none⟩) n4 c4) ∧ w'.cell? ⟨bd, od + i * 3, none⟩ = some (.int .i64 (kd ds i).a) ∧ w'.cell? ⟨bd, od + i * 3 + 1, none⟩ = some (.int .i64 (kd ds i).n) ∧ w'.cell? ⟨bd, od + i * 3 + 2, none⟩ = some (.int .i64 (kd ds i).g)) w6 := mk5s q2 hSK7 (k1.cell 4) (fun h => by have := hown _ h; dsimp only at this; omega) (fun h => by have := hown _ h; dsimp only at this; omega) (fun h => by have := hown _ h; dsimp only at this; omega) (fun h => by have := hown _ h; dsimp only at this; omega)
        refine hK.out _ _ (fun _ => hSK9) ?_
        clear hK K
        try simp only [Act.put, List.getElem_toArray, List.getElem_cons_succ, List.getElem_cons_zero, List.setIfInBounds_toArray, List.set_cons_zero, List.set_cons_succ]
        refine wpU_next (i := 23) rfl (by kernel_rfl) (fun K hK => ?_)
        go_simp
        refine hK.out _ _ (fun _ => hSK9) ?_
        clear hK K
        try simp only [Act.put, List.getElem_toArray, List.getElem_cons_succ, List.getElem_cons_zero, List.setIfInBounds_toArray, List.set_cons_zero, List.set_cons_succ]
        have kc := k1.cell 4
        have kz := k1.frozen 4
        refine wpU_next (i := 24) rfl (by kernel_rfl) (fun K hK => ?_)
        go_simp
        refine hK.out _ _ (fun h => absurd rfl h.1) ?_
        refine wpU_done (by kernel_rfl) ?_ _
        clear hK K
        clear kc kz hSK hSK7 hSK9
        have r1' := r1.drew.fr hf7 fun _ _ h => h
        have r2' := r2.drew.fr hf7 fun _ _ h => h
        have r3' := r3.drew.fr hf7 fun _ _ h => h
        have r1'' := other_row hg7 hr7 r1' (by decide) q2 (fun k hk => r1'.apart hr7 (by decide) k hk) 4 (.slice A6 (i + 1) c6)
        have r2'' := other_row hg7 hr7 r2' (by decide) q2 (fun k hk => r2'.apart hr7 (by decide) k hk) 4 (.slice A6 (i + 1) c6)
        have r3'' := other_row hg7 hr7 r3' (by decide) q2 (fun k hk => r3'.apart hr7 (by decide) k hk) 4 (.slice A6 (i + 1) c6)
        have hfr10 := (hfr9.drew.then hf7.nil).then k4
        rw [← kids_take (by have := Hlen.out; omega)] at k3
        clear q1 q2 k1 hgr hrr hfr9 r1 r2 r3 hf7 hg7 hr7 hv7 hnr hown
        generalize w6.setCell ⟨g, 4, none⟩ (.slice A6 (i + 1) c6) = w7 at *
        go_wp2
        go_roundw
        case rel => exact ⟨i + 1, c6, A6, by go_num, by omega, k2, r1'', r2'', r3'', k3, hfr10⟩
        case measure => simp [intOf]; omega
      · obtain rfl : i = n4 := by omega
        have hrb9 := hrb.fr hfr9 (fun h => by have := HB.out; have := hrb.lt; omega)
        rw [List.take_of_length_le (by have := Hlen.out; omega)] at hrr
        have e0 : wr.cell? ⟨g, 0, none⟩ = some (.int .i64 h) := hgr.cell 0
        have e1 : wr.cell? ⟨g, 1, none⟩ = some (.slice B1 n d1) := hgr.cell 1
        have e2 : wr.cell? ⟨g, 2, none⟩ = some (.slice B2 n2 d2) := hgr.cell 2
        have e3 : wr.cell? ⟨g, 3, none⟩ = some (.slice B3 n3 d3) := hgr.cell 3
        have e4 : wr.cell? ⟨g, 4, none⟩ = some (.slice A5 i c5) := hgr.cell 4
        have i0 : wr.cell? ⟨nb + 1, 0, none⟩ = some (.int .i64 0) := hrb9.cell 0
        have i1 : wr.cell? ⟨nb + 1, 1, none⟩ = some (.slice none 0 0) := hrb9.cell 1
        have i2 : wr.cell? ⟨nb + 1, 2, none⟩ = some (.slice none 0 0) := hrb9.cell 2
        have i3 : wr.cell? ⟨nb + 1, 3, none⟩ = some (.slice none 0 0) := hrb9.cell 3
        have i4 : wr.cell? ⟨nb + 1, 4, none⟩ = some (.slice none 0 0) := hrb9.cell 4
        have z0 := hrb9.frozen 0
        have z1 := hrb9.frozen 1
        have z2 := hrb9.frozen 2
        have z3 := hrb9.frozen 3
        have z4 := hrb9.frozen 4
        have hlt9 := hrb9.lt
        go_wp2
        have hb6 := st5_blk hrb9 (.int .i64 h) (.slice B1 n d1) (.slice B2 n2 d2) (.slice B3 n3 d3) (.slice A5 i c5)
        have hst := st5_fr wr (nb + 1) (.int .i64 h) (.slice B1 n d1) (.slice B2 n2 d2) (.slice B3 n3 d3) (.slice A5 i c5)
        have q1 := r1.fr hst (fun k hk e => r1.apart_blk hrb9 (by decide) (by rw [hk, e]))
        have q2 := r2.fr hst (fun k hk e => r2.apart_blk hrb9 (by decide) (by rw [hk, e]))
        have q3 := r3.fr hst (fun k hk e => r3.apart_blk hrb9 (by decide) (by rw [hk, e]))
        have q4 := hrr.fr hst (fun k hk e => hrr.apart_blk hrb9 (by decide) (by rw [hk, e]))
        have hnw1 : nb ≤ w.heap.size := by have := Hnb.out; omega
        have hnw2 : w.heap.size ≤ nb := by have := Hnb.out; omega
        have hBn : nb + 1 < B := by have := HB.out; have := hrb.lt; omega
        have hff : Fr Nil w (st5 wr (nb + 1) (.int .i64 h) (.slice B1 n d1) (.slice B2 n2 d2) (.slice B3 n3 d3) (.slice A5 i c5)) := (hfr.trans hfr9 (fun k (hk : B ≤ k) => .inr (by omega))).trans hst (fun k (hk : k = nb + 1) => .inr (by omega))
        unfold st5 at hb6 q1 q2 q3 q4 hff
        clear e0 e1 e2 e3 e4 z0 z1 z2 z3 z4 i0 i1 i2 i3 i4 hlt9
        generalize (((((wr.setCell ⟨nb + 1, 0, none⟩ (.int .i64 h)).setCell ⟨nb + 1, 1, none⟩ (.slice B1 n d1)).setCell ⟨nb + 1, 2, none⟩ (.slice B2 n2 d2)).setCell ⟨nb + 1, 3, none⟩ (.slice B3 n3 d3)).setCell ⟨nb + 1, 4, none⟩ (.slice A5 i c5)) = w7 at *
        have r0 : w7.cell? ⟨nb + 1, 0, none⟩ = some (.int .i64 h) := hb6.cell 0
        have r1 : w7.cell? ⟨nb + 1, 1, none⟩ = some (.slice B1 n d1) := hb6.cell 1
        have r2 : w7.cell? ⟨nb + 1, 2, none⟩ = some (.slice B2 n2 d2) := hb6.cell 2
        have r3 : w7.cell? ⟨nb + 1, 3, none⟩ = some (.slice B3 n3 d3) := hb6.cell 3
        have r4 : w7.cell? ⟨nb + 1, 4, none⟩ = some (.slice A5 i c5) := hb6.cell 4
        simp [bodyPost, results, Tryz.results13, go_sem, r0, r1, r2, r3, r4]
        have hle1 : ∀ k, B ≤ k → New w k := fun k hk => by show w.heap.size ≤ k; omega
        exact ⟨⟨B1, d1, B2, d2, B3, d3, A5, c5⟩, ⟨⟨rfl, rfl⟩, ⟨rfl, rfl⟩, ⟨rfl, rfl⟩, ⟨rfl, rfl⟩⟩, ⟨by dsimp only; rw [Hk.out]; exact q1.view.mono hle1, by dsimp only; rw [Hp.out]; exact q2.view.mono hle1, by dsimp only; rw [Hg.out]; exact q3.view.mono hle1, by dsimp only; rw [Hlen.out]; exact q4.view.mono hle1⟩, hff⟩
end Go.Proofs.YtgoghmblfdlnbaaGreat.nd
end

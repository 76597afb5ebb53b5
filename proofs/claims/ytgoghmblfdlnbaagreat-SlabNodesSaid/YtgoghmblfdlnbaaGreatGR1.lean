/- The texts VBase of this proof, one behind the other. Conditions: those of each. -/
import Derived.WalkKit
import Derived.WalkLawsBesides
import Derived.WalkSpells
import Derived.Maps.AppendAt
import Derived.KernelRfl
import Derived.Recover
import Derived.Lib.SlBytesConst
section
/- Base words of these proofs: what a call keeps (Fr), blocks known whole (Blk), rows of the program's own (Row), and the walk's laws over them. Conditions: none; plain lemmas over any program. -/
set_option linter.unusedSimpArgs false
set_option linter.unusedVariables false
namespace Go.Proofs.YtgoghmblfdlnbaaGreat
open Go.RowKit

/-- What stands here is kept from the walk: 'intro' opens it. -/
inductive Tag (p : Prop) : Type | mk
def Stop (p : Prop) (_ : Tag p) : Prop := p
/-- A fact kept from the walk. -/
theorem hid {p : Prop} (h : p) : Hid p := h

section
variable {P : Program}
/-! ### what the walk lacks -/
@[go_sem] theorem go_makeFunc (fn : Fn) (first cap : Array Value) (w : World) : (Instr.makeFunc fn first cap).run P w = .ok (.func fn first cap) w := rfl
@[go_sem] theorem go_eql_slice_nil (w : World) (t : TypeId) (a : Option Addr) (n c n' c' : Nat) (h : P.underlying t = some (.slice (P.elem t))) : (binOp .eql t (.slice a n c) (.slice none n' c')).run P w = .ok (.bool a.isNone) w := Lib.run_eql_slice_nil w t _ a n c n' c' h
@[go_sem] theorem go_neq_slice_nil (w : World) (t : TypeId) (a : Option Addr) (n c n' c' : Nat) (h : P.underlying t = some (.slice (P.elem t))) : (binOp .neq t (.slice a n c) (.slice none n' c')).run P w = .ok (.bool (!a.isNone)) w := run_neq_slice_nil_any w t _ a n c n' c' h
@[go_sem] theorem go_bytes_const (w : World) (t e : TypeId) (C : Array Value) (n c : Nat) (ht : P.underlying t = some (.slice e)) (he : P.underlying e = some (.int .u8)) :
    (convert t t (.slice (some ⟨w.heap.size, 0, none⟩) n c)).run P (w.alloc (.cells C e)) = .ok (.slice (some ⟨w.heap.size, 0, none⟩) n c) (w.alloc (.cells C e (C.size, C.size + 1))) := Lib.run_convert_bytes_const w t e C n c ht he
@[go_sem] theorem go_not (x : Bool) (w : World) : (Op.unary .not (.bool x)).run P w = .ok (.bool (!x)) w := rfl
end

/-- The rest of a deferred function behind its 'recover': walked under a post that is a name. -/
theorem wpS_plain {P : Program} {c : Code} {Q : Exit → Act → List Frame → World → Prop} {a : Act} {cs : List Frame} {w : World} (R : Exit → Act → World → Prop)
    (h : ∀ Q' : Exit → Act → World → Prop, (∀ e a' w', R e a' w' → Q' e a' w') → c.wp P Q' a w) (hR : ∀ e a' w', R e a' w' → Q e a' cs w') : c.wpS P Q a cs w :=
  wpS_of_wp (Code.wp_mono hR (h R fun _ _ _ h => h))

/-- A callee that panics, inside a region that draws its order: the way on is walked under what is never so. -/
theorem calls_fake {P : Program} {f : FuncId} {args : Array Value} {w : World} {R : Ending → World → Prop} (v : Value) (h : Calls P f args w fun e w' => ∃ c, e = .panicked c ∧ R (.panicked c) w') (hf : Hid False → R (.returned v) w) : Calls P f args w R :=
  h.mono (by rintro e w' ⟨c, rfl, hR⟩; exact hR)

/-- All but the blocks of S, and what is new, is as it was. -/
structure Fr (S : Nat → Prop) (w w' : World) : Prop where
  os : w'.os = w.os
  tape : w'.tape = w.tape
  output : w'.output = w.output
  size : w.heap.size ≤ w'.heap.size
  block : ∀ k, k < w.heap.size → ¬ S k → w'.heap[k]? = w.heap[k]?

/-- No block. -/
def Nil : Nat → Prop := fun _ => False
/-- The blocks of S, and those that are newer than w. -/
def Grow (w : World) (S : Nat → Prop) : Nat → Prop := fun k => S k ∨ w.heap.size ≤ k
/-- The blocks that are newer than w. -/
def New (w : World) : Nat → Prop := fun k => w.heap.size ≤ k

theorem grow_grow {w w1 : World} {S : Nat → Prop} (h : w.heap.size ≤ w1.heap.size) : ∀ k, Grow w1 (Grow w S) k → Grow w S k := fun _ hk => hk.elim id fun h' => .inr (Nat.le_trans h h')
theorem grow_mono {w : World} {S S' : Nat → Prop} (h : ∀ k, S k → S' k) : ∀ k, Grow w S k → Grow w S' k := fun _ hk => hk.imp (h _) id

section
variable {S S' S1 S2 : Nat → Prop} {w w1 w2 W : World}
theorem Fr.refl (S : Nat → Prop) (w : World) : Fr S w w := ⟨rfl, rfl, rfl, Nat.le_refl _, fun _ _ _ => rfl⟩
theorem Fr.mono (h : Fr S w w1) (hs : ∀ k, S k → S' k) : Fr S' w w1 := ⟨h.os, h.tape, h.output, h.size, fun k hk hn => h.block k hk (fun h' => hn (hs k h'))⟩
theorem Fr.nil (h : Fr Nil w w1) : Fr S w w1 := h.mono (fun _ h => h.elim)
theorem Fr.trans (h : Fr S w w1) (h2 : Fr S1 w1 w2) (hs : ∀ k, S1 k → S k ∨ w.heap.size ≤ k) : Fr S w w2 :=
  ⟨h2.os.trans h.os, h2.tape.trans h.tape, h2.output.trans h.output, Nat.le_trans h.size h2.size,
   fun k hk hn => (h2.block k (Nat.lt_of_lt_of_le hk h.size) (fun h' => (hs k h').elim hn (fun h3 => by omega))).trans (h.block k hk hn)⟩
theorem Fr.then (h : Fr S w w1) (h2 : Fr S w1 w2) : Fr S w w2 := h.trans h2 (fun _ h => .inl h)
theorem Fr.thenNil (h : Fr S w w1) (h2 : Fr Nil w1 w2) : Fr S w w2 := h.trans h2 (fun _ h => h.elim)
theorem Fr.thenGrow (h : Fr S w w1) (h2 : Fr (Grow w S) w1 w2) : Fr S w w2 := h.trans h2 (fun _ h => h)
theorem Fr.thenNew (h : Fr S w w1) (h2 : Fr (New w) w1 w2) : Fr S w w2 := h.trans h2 (fun _ h => .inr h)
theorem Fr.alloc (h : Fr S w w1) (o : Obj) : Fr S w (w1.alloc o) :=
  h.thenNil ⟨rfl, rfl, rfl, by simp, fun k hk _ => Below.heap_alloc _ _ _ hk⟩
theorem Fr.drew (h : Fr S w w1) : Fr S w w1.drew := ⟨h.os, h.tape, h.output, h.size, h.block⟩
theorem Fr.drewN (h : Fr S w w1) (n : Nat) : Fr S w (w1.drewN n) := ⟨h.os, h.tape, h.output, h.size, h.block⟩
theorem Fr.setCell (h : Fr S w w1) {a : Addr} (ha : S a.block ∨ w.heap.size ≤ a.block) (v : Value) : Fr S w (w1.setCell a v) :=
  h.trans (S1 := fun k => k = a.block) ⟨rfl, rfl, rfl, by simp, fun k _ hn => Below.heap_setCell _ _ _ _ hn⟩ (fun k hk => by rw [hk]; exact ha)
theorem Fr.grown (h : Fr S w w1) {row : Option Nat} (hg : w1.grownBy w2 row) (hr : ∀ k, row = some k → S k ∨ w.heap.size ≤ k) : Fr S w w2 :=
  h.trans (S1 := fun k => row = some k) ⟨hg.os, hg.tape, hg.output, hg.size, fun k hk hn => hg.block k hk (fun e => hn e.symm)⟩ hr
theorem Fr.of_grown {row : Option Nat} (hg : w1.grownBy w2 row) : Fr (fun k => row = some k) w1 w2 := ⟨hg.os, hg.tape, hg.output, hg.size, fun k hk hn => hg.block k hk (fun e => hn e.symm)⟩
theorem Fr.of_below (hb : Below w.heap.size w w1) : Fr Nil w w1 := ⟨hb.os, hb.tape, hb.output, hb.size, fun k hk _ => hb.block k hk⟩
theorem Fr.below (h : Fr S w w1) (hs : ∀ k, S k → w.heap.size ≤ k) : Below w.heap.size w w1 := ⟨h.os, h.tape, h.output, h.size, fun k hk => h.block k hk (fun h' => by have := hs k h'; omega)⟩
theorem Fr.belowB {B : Nat} (h : Fr S w w1) (hB : B ≤ w.heap.size) (hs : ∀ k, S k → B ≤ k) : Below B w w1 := ⟨h.os, h.tape, h.output, h.size, fun k hk => h.block k (by omega) (fun h' => by have := hs k h'; omega)⟩
theorem Fr.cell (h : Fr S w w1) {a : Addr} {v : Value} (hc : w.cell? a = some v) (hn : ¬ S a.block) : w1.cell? a = some v :=
  (World.cell?_of_block (h.block a.block (World.block_lt_of_cell? w a hc) hn)).trans hc
theorem Fr.frozen (h : Fr S w w1) {a : Addr} (hl : a.block < w.heap.size) (hn : ¬ S a.block) : w1.frozen? a = w.frozen? a := World.frozen?_of_block (h.block a.block hl hn)

/-! ### blocks known whole -/
def Blk (w : World) (g : Nat) (cs : Array Value) (T : TypeId) : Prop := w.heap[g]? = some (.cells cs T (0, 0))
section
variable {g : Nat} {cs : Array Value} {T : TypeId}
theorem Blk.lt (h : Blk w g cs T) : g < w.heap.size := (Array.getElem?_eq_some_iff.1 h).1
theorem Blk.cell (h : Blk w g cs T) (j : Nat) : w.cell? ⟨g, j, none⟩ = cs[j]? := cell_of_row w g j cs T (0, 0) h
theorem Blk.frozen (h : Blk w g cs T) (j : Nat) : w.frozen? ⟨g, j, none⟩ = false := by
  unfold Blk at h
  simp [World.frozen?, h]
theorem Blk.fr (h : Blk w g cs T) (hf : Fr S w w1) (hn : ¬ S g) : Blk w1 g cs T := (hf.block g h.lt hn).trans h
theorem Blk.alloc (h : Blk w g cs T) (o : Obj) : Blk (w.alloc o) g cs T := (Below.heap_alloc w o g h.lt).trans h
theorem Blk.drew (h : Blk w g cs T) : Blk w.drew g cs T := h
theorem Blk.new (w : World) (cs : Array Value) (T : TypeId) : Blk (w.alloc (.cells cs T)) w.heap.size cs T := heap_alloc_new w _
theorem Blk.set (h : Blk w g cs T) (j : Nat) (v : Value) : Blk (w.setCell ⟨g, j, none⟩ v) g (cs.setIfInBounds j v) T := by
  unfold Blk at h ⊢
  simp [World.setCell, Array.getElem?_modify, h]
theorem Blk.set_other (h : Blk w g cs T) {a : Addr} (hn : g ≠ a.block) (v : Value) : Blk (w.setCell a v) g cs T := (Below.heap_setCell w a v g hn).trans h
end

/-! ### rows of the program's own -/
def Row (w : World) (S : Nat → Prop) (e : TypeId) (s : Nat) (v : Value) (n : Nat) (xs : List Value) : Prop :=
  w.ownsRow 0 e s v n xs ∧ ∀ k, v.ownBlock = some k → S k
section
variable {e : TypeId} {s n : Nat} {v : Value} {xs : List Value}
theorem Row.nil (w : World) (S : Nat → Prop) (e : TypeId) (s : Nat) : Row w S e s (.slice none 0 0) 0 [] := ⟨World.ownsRow_nil w 0 e s, fun k h => by simp [Value.ownBlock] at h⟩
theorem Row.mono (h : Row w S e s v n xs) (hs : ∀ k, S k → S' k) : Row w S' e s v n xs := ⟨h.1, fun k hk => hs k (h.2 k hk)⟩
theorem Row.lt (h : Row w S e s v n xs) : ∀ k, v.ownBlock = some k → k < w.heap.size := fun k hk => (h.1.lt k hk).2
theorem Row.fr (h : Row w S e s v n xs) (hf : Fr S1 w w1) (hn : ∀ k, v.ownBlock = some k → ¬ S1 k) : Row w1 S e s v n xs := by
  refine ⟨⟨h.1.1, ?_⟩, h.2⟩
  rcases h.1.2 with h2 | ⟨g, cap, cur, rfl, hg, hh, r⟩
  · exact .inl h2
  · exact .inr ⟨g, cap, cur, rfl, hg, (hf.block g (Array.getElem?_eq_some_iff.1 hh).1 (hn g rfl)).trans hh, r⟩
theorem Row.frS (h : Row w S e s v n xs) (hf : Fr S1 w w1) (hn : ∀ k, S k → ¬ S1 k) : Row w1 S e s v n xs := h.fr hf (fun k hk => hn k (h.2 k hk))
theorem Row.alloc (h : Row w S e s v n xs) (o : Obj) : Row (w.alloc o) S e s v n xs := ⟨h.1.alloc o, h.2⟩
theorem Row.drew (h : Row w S e s v n xs) : Row w.drew S e s v n xs := h
theorem Row.setCell (h : Row w S e s v n xs) {a : Addr} (hn : v.ownBlock ≠ some a.block) (u : Value) : Row (w.setCell a u) S e s v n xs :=
  h.fr (S1 := fun k => k = a.block) ((Fr.refl (fun k => k = a.block) w).setCell (.inl rfl) u) (fun k hk he => hn (by rw [hk, he]))
theorem Row.length (h : Row w S e s v n xs) : xs.length = n * s := h.1.1
/-- What is owned is a slice. -/
theorem Row.slice (h : Row w S e s v n xs) : ∃ A c, v = .slice A n c := by
  rcases h.1.2 with ⟨rfl, rfl⟩ | ⟨g, cap, cur, rfl, _⟩
  · exact ⟨none, 0, rfl⟩
  · exact ⟨_, cap, rfl⟩
/-- A row that has elements. -/
theorem Row.form (h : Row w S e s v n xs) (hn : 0 < n) : ∃ g cap, v = .slice (some ⟨g, 0, none⟩) n cap ∧ S g ∧ g < w.heap.size := by
  rcases h.1.2 with ⟨_, h0⟩ | ⟨g, cap, cur, rfl, _, hh, _⟩
  · omega
  · exact ⟨g, cap, rfl, h.2 g rfl, (Array.getElem?_eq_some_iff.1 hh).1⟩
theorem Row.cell {g cap : Nat} (h : Row w S e s (.slice (some ⟨g, 0, none⟩) n cap) n xs) {j : Nat} {u : Value} (hu : xs[j]? = some u) : w.cell? ⟨g, j, none⟩ = some u := by
  have := h.1.cells (g := g) rfl j u hu
  rwa [Addr.add_lit, Nat.zero_add] at this
theorem Row.frozen {g cap : Nat} (h : Row w S e s (.slice (some ⟨g, 0, none⟩) n cap) n xs) (j : Nat) : w.frozen? ⟨g, j, none⟩ = false := h.1.frozenAt j
theorem Row.le (h : Row w S e s v n xs) : n ≤ 9223372036854775807 := by
  rcases h.1.2 with ⟨_, h1⟩ | ⟨g', cap', cur, he, _, _, h1, h2, _⟩
  · omega
  · simp only [maxLen] at h2; omega
/-- A row just made. -/
theorem Row.made (w : World) (cs : Array Value) (e : TypeId) (s n c : Nat) (hs : cs.size = c * s) (hn : n ≤ c) (hc : c ≤ 1000000000000) :
    Row (w.alloc (.cells cs e)) (New w) e s (.slice (some ⟨w.heap.size, 0, none⟩) n c) n (cs.toList.take (n * s)) := by
  refine ⟨⟨?_, .inr ⟨w.heap.size, c, cs, rfl, Nat.zero_le _, heap_alloc_new w _, hn, by unfold maxLen; omega, hs, rfl⟩⟩, fun k hk => ?_⟩
  · rw [List.length_take, Array.length_toList, hs]; exact Nat.min_eq_left (Nat.mul_le_mul_right _ hn)
  · simp only [Value.ownBlock, Option.some.injEq] at hk
    unfold New; omega
/-- An element is stored. -/
theorem Row.store {g cap : Nat} (h : Row w S e s (.slice (some ⟨g, 0, none⟩) n cap) n xs) (j : Nat) (u : Value) :
    Row (w.setCell ⟨g, j, none⟩ u) S e s (.slice (some ⟨g, 0, none⟩) n cap) n (xs.set j u) := by
  refine ⟨⟨by rw [List.length_set]; exact h.1.1, .inr ?_⟩, h.2⟩
  rcases h.1.2 with ⟨h2, _⟩ | ⟨g', cap', cur, he, hb, hh, h1, h2, h3, h4⟩
  · cases h2
  · injection he with ha _ hc
    injection ha with ha
    obtain rfl : g = g' := by injection ha
    subst hc
    refine ⟨g, cap, cur.setIfInBounds j u, rfl, hb, ?_, h1, h2, by simpa using h3, ?_⟩
    · simp [World.setCell, Array.getElem?_modify, hh]
    · rw [Array.toList_setIfInBounds, List.take_set, h4]
/-- Two rows whose blocks hold different kinds lie apart. -/
theorem Row.apart {e' : TypeId} {s' n' : Nat} {v' : Value} {xs' : List Value} (h : Row w S e s v n xs) (h' : Row w S' e' s' v' n' xs') (hne : e ≠ e') : ∀ k, v.ownBlock = some k → v'.ownBlock ≠ some k := by
  intro k hk hk'
  rcases h.1.2 with ⟨rfl, _⟩ | ⟨g, cap, cur, rfl, _, hh, _⟩
  · simp [Value.ownBlock] at hk
  · rcases h'.1.2 with ⟨rfl, _⟩ | ⟨g', cap', cur', rfl, _, hh', _⟩
    · simp [Value.ownBlock] at hk'
    · simp only [Value.ownBlock, Option.some.injEq] at hk hk'
      subst hk; subst hk'
      rw [hh] at hh'
      injection hh' with hh'
      injection hh' with _ ht
      exact hne ht
theorem Row.apart_blk {g : Nat} {cs : Array Value} {T : TypeId} (h : Row w S e s v n xs) (h' : Blk w g cs T) (hne : e ≠ T) : v.ownBlock ≠ some g := by
  intro hk
  rcases h.1.2 with ⟨rfl, _⟩ | ⟨g', cap, cur, rfl, _, hh, _⟩
  · simp [Value.ownBlock] at hk
  · simp only [Value.ownBlock, Option.some.injEq] at hk
    subst hk
    unfold Blk at h'
    rw [hh] at h'
    injection h' with h'
    injection h' with _ ht
    exact hne ht
end

/-! ### one or more elements appended to a row of one's own -/
section
variable {P : Program} {ops : Array Oper} {rest : List Oper} {o : Oper} {a : Act} {Q : Exit → Act → World → Prop} {e : TypeId} {s n : Nat} {v : Value} {xs : List Value}
/-- x = append(x, u), u's cells 'news' lying in a slice literal or anywhere else. -/
theorem wp_app (hgd : o.guard = none) (x y : Operand) (t : TypeId)
    (ho : o.op = .call { callee := .builtin .append, args := #[x, y], argTypes := #[t, t] })
    (z : Value) (bytes : Nat) (ht : P.underlying t = some (.slice e)) (hi : (P.info? e).map (fun i => (i.zero, i.size, i.bytes)) = some (some z, s, bytes))
    (hzs : z.cells.size = s) (hsz : 0 < s) (hrow : Row w S e s v n xs) (hs : a.eval x = v)
    (ad : Addr) (m c : Nat) (news : List Value) (hx : a.eval y = .slice (some ad) m c) (hm : 0 < m) (hl : news.length = m * s) (hnews : ∀ j u, news[j]? = some u → w.cell? (ad.add j) = some u) (h1 : ∀ u ∈ news, u.oneCell' = true)
    (hbytes : (n + m) * bytes ≤ 140737488355328) (hb0 : 0 < bytes)
    (h : Stop (∀ g cap w', Row w' (fun k => k = g) e s (.slice (some ⟨g, 0, none⟩) (n + m) cap) (n + m) (xs ++ news) → (v.ownBlock = some g ∨ w.heap.size ≤ g) → Fr (fun k => v.ownBlock = some k) w w' → g < w'.heap.size → n + m ≤ cap →
      wpList P ops Q rest (a.put o.dst (.slice (some ⟨g, 0, none⟩) (n + m) cap)) w') .mk) : wpList P ops Q (o :: rest) a w := by
  obtain ⟨i, hi1, hi2, hi3, hi4⟩ := info_parts hi
  have hle : n + m ≤ 140737488355328 := Nat.le_trans (Nat.le_mul_of_pos_right _ hb0) hbytes
  refine wpList_append_own_at w hgd x y t ho 0 e i z s bytes ht hi1 hi2 hi3 hi4 hzs hsz v n xs hs hrow.1 ad m c news hx hl hnews h1 (by unfold maxLen; omega) hbytes (Nat.zero_le _) ?_
  intro v' w' hown hg hnil hat
  rcases hown.2 with ⟨h0, h00⟩ | ⟨g, cap, cur, rfl, hb, hh, hnc, r⟩
  · omega
  · refine h g cap w' ⟨hown, fun k hk => by simpa [Value.ownBlock] using hk.symm⟩ ?_ (Fr.of_grown hg) (Array.getElem?_eq_some_iff.1 hh).1 hnc
    simp only [Value.ownBlock] at hat
    rcases hat with hat | hat
    · exact .inl hat.symm
    · injection hat with hat
      exact .inr (by rw [hat]; exact Nat.le_refl _)
end

/-! ### bytes -/
/-- Byte cells. -/
def bys (xs : List Nat) : List Value := xs.map fun n : Nat => Value.int .u8 (n : Int)
theorem bys_append (xs ys : List Nat) : bys (xs ++ ys) = bys xs ++ bys ys := List.map_append
theorem bys_length (xs : List Nat) : (bys xs).length = xs.length := List.length_map ..
theorem bys_one (xs : List Nat) (x : Nat) : bys (xs ++ [x]) = bys xs ++ [.int .u8 (x : Int)] := List.map_append
theorem bys_cell (xs : List Nat) : ∀ u ∈ bys xs, u.oneCell' = true := by
  intro u hu
  obtain ⟨_, _, rfl⟩ := List.mem_map.1 hu
  rfl
theorem bys_drop (pre : List Nat) (c : Nat) (t : List Nat) (i : Nat) (h : pre.length = i) : (bys (pre ++ c :: t)).drop ((i + 1) * 1) = bys t := by
  subst h
  rw [Nat.mul_one, show pre ++ c :: t = (pre ++ [c]) ++ t by simp, bys_append, show pre.length + 1 = (bys (pre ++ [c])).length by simp [bys], List.drop_left]
theorem bys_take (xs : List Nat) (n : Nat) : (bys xs).take n = bys (xs.take n) := by simp [bys, List.map_take]
theorem bys_drop' (xs : List Nat) (n : Nat) : (bys xs).drop n = bys (xs.drop n) := by simp [bys, List.map_drop]
/-- Bytes. -/
def Byt (bs : List Nat) : Prop := ∀ c ∈ bs, c < 256
instance (bs : List Nat) : Decidable (Byt bs) := by unfold Byt; infer_instance
theorem Byt.append {xs ys : List Nat} (hx : Byt xs) (hy : Byt ys) : Byt (xs ++ ys) := fun c hc => (List.mem_append.1 hc).elim (hx c) (hy c)

/-- The string of bytes. -/
def str (xs : List Nat) : ByteArray := ⟨(xs.map UInt8.ofNat).toArray⟩
theorem str_size (xs : List Nat) : (str xs).size = xs.length := by simp [str, ByteArray.size]
theorem str_toList (xs : List Nat) : (str xs).toList = xs.map UInt8.ofNat := by
  rw [ByteArray.toList_eq]
  simp [str]
theorem str_inj {xs ys : List Nat} (hx : Byt xs) (hy : Byt ys) : xs.map UInt8.ofNat = ys.map UInt8.ofNat ↔ xs = ys := by
  constructor
  · intro h
    induction xs generalizing ys with
    | nil => cases ys with
      | nil => rfl
      | cons => simp at h
    | cons x xs ih => cases ys with
      | nil => simp at h
      | cons y ys =>
        simp only [List.map_cons, List.cons.injEq] at h
        have h1 := congrArg UInt8.toNat h.1
        simp only [UInt8.toNat_ofNat'] at h1
        have hx' := hx x (by simp)
        have hy' := hy y (by simp)
        rw [Nat.mod_eq_of_lt (by simpa using hx'), Nat.mod_eq_of_lt (by simpa using hy')] at h1
        rw [h1, ih (fun c hc => hx c (List.mem_cons_of_mem _ hc)) (fun c hc => hy c (List.mem_cons_of_mem _ hc)) h.2]
  · intro h; rw [h]
theorem str_eq {xs ys : List Nat} (hx : Byt xs) (hy : Byt ys) : ((str xs).toList == (str ys).toList) = decide (xs = ys) := by
  rw [str_toList, str_toList]
  by_cases h : xs = ys
  · subst h; simp
  · have : ¬ xs.map UInt8.ofNat = ys.map UInt8.ofNat := fun h' => h ((str_inj hx hy).1 h')
    simp [h, this]

/-! ### what is read of a slice, wherever it lies -/
def View (w : World) (S : Nat → Prop) (s : Nat) (v : Value) (n : Nat) (xs : List Value) : Prop :=
  xs.length = n * s ∧ ∃ A c, v = .slice A n c ∧ n ≤ c ∧ c ≤ maxLen ∧ (A = none → c = 0) ∧ (∀ ad, A = some ad → 0 < c → ad.spot = none) ∧
    (0 < n → ∃ b o, A = some ⟨b, o, none⟩ ∧ S b ∧ b < w.heap.size ∧ ∀ j u, xs[j]? = some u → w.cell? ⟨b, o + j, none⟩ = some u)
section
variable {s n : Nat} {v : Value} {xs : List Value}
theorem View.mono (h : View w S s v n xs) (hs : ∀ k, S k → S' k) : View w S' s v n xs := by
  obtain ⟨hl, A, c, e, h1, h2, h3, h4, h5⟩ := h
  exact ⟨hl, A, c, e, h1, h2, h3, h4, fun hn => let ⟨b, o, e1, e2, e3⟩ := h5 hn; ⟨b, o, e1, hs _ e2, e3⟩⟩
theorem View.bd (h : View w S s v n xs) : View w (fun k => S k ∧ k < w.heap.size) s v n xs := by
  obtain ⟨hl, A, c, e, h1, h2, h3, h4, h5⟩ := h
  exact ⟨hl, A, c, e, h1, h2, h3, h4, fun hn => let ⟨b, o, e1, e2, e3⟩ := h5 hn; ⟨b, o, e1, ⟨e2, e3.1⟩, e3⟩⟩
theorem View.fr (h : View w S s v n xs) (hf : Fr S1 w w1) (hn : ∀ k, S k → k < w.heap.size → ¬ S1 k) : View w1 S s v n xs := by
  obtain ⟨hl, A, c, e, h1, h2, h3, h4, h5⟩ := h
  exact ⟨hl, A, c, e, h1, h2, h3, h4, fun hp => let ⟨b, o, e1, e2, e3, e4⟩ := h5 hp; ⟨b, o, e1, e2, Nat.lt_of_lt_of_le e3 hf.size, fun j u hu => hf.cell (e4 j u hu) (hn b e2 e3)⟩⟩
theorem View.alloc (h : View w S s v n xs) (o : Obj) : View (w.alloc o) S s v n xs := h.fr ((Fr.refl Nil w).alloc o) (fun _ _ _ h => h)
theorem View.drew (h : View w S s v n xs) : View w.drew S s v n xs := h
theorem Row.view {e : TypeId} (h : Row w S e s v n xs) : View w S s v n xs := by
  refine ⟨h.length, ?_⟩
  rcases h.1.2 with ⟨rfl, rfl⟩ | ⟨g, cap, cur, rfl, _, hh, h1, h2, _⟩
  · exact ⟨none, 0, rfl, Nat.le_refl _, by simp [maxLen], fun _ => rfl, fun _ h _ => (by cases h), fun h => absurd h (by omega)⟩
  · exact ⟨_, cap, rfl, h1, h2, fun h => (by cases h), fun ad had _ => (by injection had with had; rw [← had]), fun _ => ⟨g, 0, rfl, h.2 g rfl, (Array.getElem?_eq_some_iff.1 hh).1, fun j u hu => by rw [Nat.zero_add]; exact h.cell hu⟩⟩
theorem View.nil (w : World) (S : Nat → Prop) (s : Nat) : View w S s (.slice none 0 0) 0 [] :=
  ⟨by simp, none, 0, rfl, Nat.le_refl _, by simp [maxLen], fun _ => rfl, fun _ h _ => (by cases h), fun h => absurd h (by omega)⟩
/-- A row just made (marked or not) is read. -/
theorem View.lit (w : World) (cs : Array Value) (e : TypeId) (fr : Nat × Nat) (n : Nat) (hs : cs.size = n * s) (hn : n ≤ 1000000000000) :
    View (w.alloc (.cells cs e fr)) (New w) s (.slice (some ⟨w.heap.size, 0, none⟩) n n) n cs.toList := by
  refine ⟨by rw [Array.length_toList, hs], _, _, rfl, Nat.le_refl _, by unfold maxLen; omega, fun h => (by cases h), fun ad h _ => (by injection h with h; rw [← h]), fun _ => ⟨w.heap.size, 0, rfl, Nat.le_refl _, by simp, fun j u hu => ?_⟩⟩
  rw [Nat.zero_add, cell_of_row _ w.heap.size j cs e fr (heap_alloc_new w _), ← Array.getElem?_toList]
  exact hu
/-- A row of numbers that came in. -/
def ints (k : IntKind) (xs : List Int) : List Value := xs.map (Value.int k)
theorem ints_length (k : IntKind) (xs : List Int) : (ints k xs).length = xs.length := List.length_map ..
theorem ints_at (k : IntKind) (xs : List Int) (i : Nat) (h : i < xs.length) : (ints k xs)[i]? = some (.int k xs[i]) := by simp [ints, List.getElem?_eq_getElem h]
def IsRow (k : IntKind) (w : World) (a : Option Addr) (len cap : Nat) (zs : List Int) : Prop :=
  (a = none ∧ len = 0 ∧ cap = 0 ∧ zs = []) ∨
  ∃ x, a = some x ∧ len ≤ cap ∧ cap ≤ maxLen ∧ zs.length = cap ∧ (∀ i, i < zs.length → w.cell? (x.add i) = some (.int k (zs.getD i 0))) ∧ ∀ n ∈ zs, (Lit.int k n).wf = true
theorem IsRow.view {k : IntKind} {a : Option Addr} {len cap : Nat} {zs : List Int} (h : IsRow k w a len cap zs) : View w (fun b => b < w.heap.size) 1 (.slice a len cap) len (ints k (zs.take len)) ∧ (zs.take len).length = len ∧ ∀ n ∈ zs.take len, (Lit.int k n).wf = true := by
  rcases h with ⟨rfl, rfl, rfl, rfl⟩ | ⟨x, rfl, h1, h2, h3, h4, h5⟩
  · exact ⟨View.nil _ _ _, rfl, fun n hn => by simp at hn⟩
  · have hl : (zs.take len).length = len := by rw [List.length_take]; omega
    have hsp : 0 < cap → x.spot = none := fun hc => by
      have := h4 0 (by omega)
      unfold World.cell? at this
      split at this
      · cases hs : x.spot with
        | none => rfl
        | some s => simp [Addr.add, hs] at this
      · cases this
    refine ⟨⟨by rw [ints_length, hl, Nat.mul_one], _, _, rfl, h1, h2, fun h => (by cases h), fun ad had hc => (by injection had with had; rw [← had]; exact hsp hc), fun hn => ?_⟩, hl, fun n hn => h5 n (List.mem_of_mem_take hn)⟩
    obtain ⟨b, o, sp⟩ := x
    obtain rfl : sp = none := hsp (by omega)
    refine ⟨b, o, rfl, ?_, ?_, fun j u hu => ?_⟩
    · exact World.block_lt_of_cell? w _ (by have := h4 0 (by omega); rw [Addr.add_lit] at this; exact this)
    · exact World.block_lt_of_cell? w _ (by have := h4 0 (by omega); rw [Addr.add_lit] at this; exact this)
    · have hj := (List.getElem?_eq_some_iff.1 hu).1
      rw [ints_length, hl] at hj
      have := h4 j (by omega)
      rw [Addr.add_lit] at this
      rw [this, ← hu, ints_at _ _ _ (by omega)]
      simp [List.getD, List.getElem?_eq_getElem (show j < zs.length by omega)]
theorem bounds_u32 {z : Int} (h : (Lit.int .u32 z).wf = true) : 0 ≤ z ∧ z < 4294967296 := by
  simp [Lit.wf, IntKind.min, IntKind.max, IntKind.signed, IntKind.bits] at h; omega
theorem bounds_u8 {z : Int} (h : (Lit.int .u8 z).wf = true) : 0 ≤ z ∧ z < 256 := by
  simp [Lit.wf, IntKind.min, IntKind.max, IntKind.signed, IntKind.bits] at h; omega
theorem bounds_u16 {z : Int} (h : (Lit.int .u16 z).wf = true) : 0 ≤ z ∧ z < 65536 := by
  simp [Lit.wf, IntKind.min, IntKind.max, IntKind.signed, IntKind.bits] at h; omega
theorem bounds_i64 {z : Int} (h : (Lit.int .i64 z).wf = true) : -9223372036854775808 ≤ z ∧ z < 9223372036854775808 := by
  simp [Lit.wf, IntKind.min, IntKind.max, IntKind.signed, IntKind.bits] at h; omega
theorem View.length (h : View w S s v n xs) : xs.length = n * s := h.1
theorem View.le (h : View w S s v n xs) : n ≤ 9223372036854775807 := by
  obtain ⟨_, A, c, _, h1, h2, _⟩ := h
  simp only [maxLen] at h2
  omega
theorem View.str {P : Program} {src e dst : TypeId} {xs : List Nat} (h : View w S 1 v n (bys xs)) (hs : P.underlying src = some (.slice e)) (he : P.underlying e = some (.int .u8)) (hd : P.underlying dst = some .string) :
    (convert src dst v).run P w = .ok (.string (str xs)) w := by
  obtain ⟨hl, A, c, rfl, e1, e2, e3, e4, e5⟩ := h
  have hn : xs.length = n := by rwa [bys_length, Nat.mul_one] at hl
  have hst : ∀ ys : List Nat, strOfNums (ys.map fun x : Nat => (x : Int)) = Go.Proofs.YtgoghmblfdlnbaaGreat.str ys := fun ys => by
    unfold strOfNums Go.Proofs.YtgoghmblfdlnbaaGreat.str
    rw [List.map_map]
    rfl
  cases A with
  | none =>
    obtain rfl := e3 rfl
    obtain rfl : xs = [] := List.eq_nil_of_length_eq_zero (by omega)
    exact run_convert_bytes_nil w src e hs he n 0 dst hd
  | some ad =>
    by_cases hn0 : n = 0
    · subst hn0
      obtain rfl : xs = [] := List.eq_nil_of_length_eq_zero (by omega)
      rw [run_convert_bytes_string w src dst e _ 0 c hs he hd, run_bytesToString w ad 0 c [] (by simp [loadCells, loadCellsFrom])]
      rfl
    obtain ⟨b, o, sp⟩ := ad
    obtain rfl : sp = none := e4 _ rfl (by omega)
    rw [← hst]
    refine run_convert_bytes_arg w src e hs he b o n c _ (by rw [List.length_map, hn]) (fun i hi => ?_) dst hd
    obtain ⟨b', o', ha, _, _, hc⟩ := e5 (by omega)
    injection ha with ha
    injection ha with hb ho _
    subst hb; subst ho
    have hi2 : i < xs.length := by omega
    rw [hc i (.int .u8 ((xs[i] : Nat) : Int)) (by simp [bys, List.getElem?_eq_getElem hi2])]
    simp [List.getD, List.getElem?_eq_getElem hi2]
/-- y[l:h] -/
theorem View.cut {A : Option Addr} {c l h : Nat} (hv : View w S s (.slice A n c) n xs) (h1 : l ≤ h) (h2 : h ≤ n) : View w S s (sliced A l h c s) (h - l) ((xs.drop (l * s)).take ((h - l) * s)) := by
  obtain ⟨hl, A', c', e, e1, e2, e3, e4, e5⟩ := hv
  injection e with ea _ ec
  subst ea; subst ec
  refine ⟨?_, _, _, rfl, by omega, by omega, ?_, ?_, ?_⟩
  · rw [List.length_take, List.length_drop, hl, ← Nat.sub_mul]; exact Nat.min_eq_left (Nat.mul_le_mul_right _ (by omega))
  · intro hn
    by_cases hc : c = l
    · omega
    · rw [if_neg hc] at hn
      have := e3 (by simpa using hn)
      omega
  · intro ad had hc0
    split at had
    · exact e4 ad had (by omega)
    · cases A with
      | none => simp at had
      | some a =>
        simp only [Option.map_some, Option.some.injEq] at had
        have := e4 a rfl (by omega)
        subst had
        unfold Addr.add; split <;> simp_all
  · intro hp
    obtain ⟨b, o, rfl, q1, q2, q3⟩ := e5 (by omega)
    refine ⟨b, o + l * s, ?_, q1, q2, ?_⟩
    · rw [if_neg (by omega)]; simp [Addr.add_lit]
    · intro j u hu
      rw [List.getElem?_take] at hu
      split at hu
      · rw [List.getElem?_drop] at hu
        rw [Nat.add_assoc]
        exact q3 _ u hu
      · cases hu
/-- y[l:] -/
theorem View.drop {A : Option Addr} {c l : Nat} (hv : View w S s (.slice A n c) n xs) (h1 : l ≤ n) : View w S s (sliced A l n c s) (n - l) (xs.drop (l * s)) := by
  have h := hv.cut h1 (Nat.le_refl n)
  rwa [List.take_of_length_le (by rw [List.length_drop, hv.1, Nat.sub_mul]; omega)] at h
/-- y[:h] -/
theorem View.take {A : Option Addr} {c h : Nat} (hv : View w S s (.slice A n c) n xs) (h2 : h ≤ n) : View w S s (sliced A 0 h c s) h (xs.take (h * s)) := by
  have h := hv.cut (Nat.zero_le h) h2
  simpa using h
theorem View.pre {A : Option Addr} {c m : Nat} (hv : View w S s (.slice A n c) n xs) (h2 : m ≤ n) : View w S s (.slice A m c) m (xs.take (m * s)) := by
  have h := hv.take h2
  have e : sliced A 0 m c s = .slice A m c := by
    unfold sliced
    cases A <;> simp [Addr.add_zero']
  rwa [e] at h
end

section
variable {P : Program} {ops : Array Oper} {rest : List Oper} {o : Oper} {a : Act} {Q : Exit → Act → World → Prop} {e : TypeId} {s n m : Nat} {v y : Value} {xs ys : List Value}
/-- x = append(x, y...), y read wherever it lies (nil and empty too). -/
theorem wp_app_view (hgd : o.guard = none) (x z : Operand) (t : TypeId)
    (ho : o.op = .call { callee := .builtin .append, args := #[x, z], argTypes := #[t, t] })
    (zero : Value) (bytes : Nat) (ht : P.underlying t = some (.slice e)) (hi : (P.info? e).map (fun i => (i.zero, i.size, i.bytes)) = some (some zero, s, bytes))
    (hzs : zero.cells.size = s) (hsz : 0 < s) (hrow : Row w S e s v n xs) (hs : a.eval x = v) (hy : View w S1 s y m ys) (hx : a.eval z = y) (h1 : ∀ u ∈ ys, u.oneCell' = true)
    (hbytes : (n + m) * bytes ≤ 140737488355328) (hb0 : 0 < bytes)
    (h : Stop (∀ A cap w', Row w' (fun k => v.ownBlock = some k ∨ w.heap.size ≤ k) e s (.slice A (n + m) cap) (n + m) (xs ++ ys) → Fr (fun k => v.ownBlock = some k) w w' → (A = none ↔ v = .slice none 0 0 ∧ m = 0) →
      wpList P ops Q rest (a.put o.dst (.slice A (n + m) cap)) w') .mk) : wpList P ops Q (o :: rest) a w := by
  obtain ⟨i, hi1, hi2, hi3, hi4⟩ := info_parts hi
  have hle : n + m ≤ 140737488355328 := Nat.le_trans (Nat.le_mul_of_pos_right _ hb0) hbytes
  obtain ⟨hl, A, c, rfl, e1, e2, e3, e4, e5⟩ := hy
  cases A with
  | none =>
    obtain rfl := e3 rfl
    obtain rfl : m = 0 := by omega
    have hys : ys = [] := List.eq_nil_of_length_eq_zero (by simpa using hl)
    subst hys
    refine wpList_plain hgd fun K hK => ?_
    have hrun := run_append_owned_none (P := P) w 0 t o.type e i s ht hi1 _ n xs hrow.1
    obtain ⟨A, cap, rfl⟩ := hrow.slice
    unfold Oper.wp
    simp [execOp, ho, resolve, invoke, builtin, hs, hx, hrun, Result.andThen]
    refine hK _ _ (h A cap w ?_ (Fr.refl _ _) ?_)
    · rw [List.append_nil]; exact ⟨hrow.1, fun k hk => .inl hk⟩
    · rcases hrow.1.2 with ⟨h0, h00⟩ | ⟨g, cap', cur, h0, hb, hh, hnc, r⟩
      · injection h0 with hA hn hc; subst hA; subst hn; subst hc; simp
      · injection h0 with hA hn hc; subst hA; simp
  | some ad =>
    have hcells : ∀ j u, ys[j]? = some u → w.cell? (ad.add j) = some u := by
      intro j u hu
      have hj := (List.getElem?_eq_some_iff.1 hu).1
      have hm : 0 < m := Nat.pos_of_ne_zero (fun h0 => by rw [h0] at hl; simp at hl; rw [hl] at hj; simp at hj)
      obtain ⟨b, o', ha, _, _, q⟩ := e5 hm
      injection ha with ha
      rw [ha, Addr.add_lit]
      exact q j u hu
    refine wpList_append_own_at w hgd x z t ho 0 e i zero s bytes ht hi1 hi2 hi3 hi4 hzs hsz v n xs hs hrow.1 ad m c ys hx hl hcells h1 (by unfold maxLen; omega) hbytes (Nat.zero_le _) ?_
    intro v' w' hown hg hnil hat
    have hr : Row w' (fun k => v.ownBlock = some k ∨ w.heap.size ≤ k) e s v' (n + m) (xs ++ ys) := by
      refine ⟨hown, fun k hk => ?_⟩
      rcases hat with hat | hat
      · exact .inl (by rw [← hat]; exact hk)
      · rw [hat] at hk; injection hk with hk; exact .inr (by omega)
    obtain ⟨A, cap, rfl⟩ := hr.slice
    refine h A cap w' hr (Fr.of_grown hg) ?_
    rw [← hnil]
    constructor
    · intro hA
      subst hA
      rcases hown.2 with ⟨h0, h00⟩ | ⟨g, cap', cur, h0, hb, hh, hnc, r⟩
      · exact h0
      · injection h0 with hA _ _; cases hA
    · intro h0
      injection h0 with hA _ _
end
end

/-! ### the bytes of a string -/
/-- The world behind '[]byte(s)'. -/
def strW (w : World) (e : TypeId) (s : ByteArray) : World :=
  w.drew.alloc (.cells (bytesRow s (grownCap w s.size 0 e)) e ((bytesRow s (grownCap w s.size 0 e)).size, (bytesRow s (grownCap w s.size 0 e)).size + 1))
theorem run_str_bytes {P : Program} (w : World) {src dst e : TypeId} (s : ByteArray) (hs : P.underlying src = some .string) (hd : P.underlying dst = some (.slice e)) (he : P.underlying e = some (.int .u8)) :
    (convert src dst (.string s)).run P w = .ok (.slice (some ⟨w.heap.size, 0, none⟩) s.size (grownCap w s.size 0 e)) (strW w e s) := run_bytes_of_string w src dst e s hs hd he
theorem strW_fr (w : World) (e : TypeId) (s : ByteArray) : Fr Nil w (strW w e s) := ((Fr.refl Nil w).drew).alloc _
theorem strW_size (w : World) (e : TypeId) (s : ByteArray) : (strW w e s).heap.size = w.heap.size + 1 := by simp [strW]
/-- The bytes of a string, as numbers. -/
def nums (s : ByteArray) : List Nat := s.data.toList.map UInt8.toNat
theorem nums_length (s : ByteArray) : (nums s).length = s.size := by unfold nums; rw [List.length_map, Array.length_toList]; rfl
theorem nums_byt (s : ByteArray) : Byt (nums s) := by
  intro c hc
  obtain ⟨x, _, rfl⟩ := List.mem_map.1 hc
  exact x.toNat_lt
theorem nums_str (xs : List Nat) (h : Byt xs) : nums (str xs) = xs := by
  unfold nums str
  simp only [List.map_map]
  conv => rhs; rw [← List.map_id xs]
  refine List.map_congr_left fun x hx => ?_
  show (UInt8.ofNat x).toNat = x
  rw [UInt8.toNat_ofNat']
  exact Nat.mod_eq_of_lt (h x hx)
theorem strW_view (w : World) (e : TypeId) (s : ByteArray) (hs : s.size ≤ 1000000000000) : View (strW w e s) (New w) 1 (.slice (some ⟨w.heap.size, 0, none⟩) s.size (grownCap w s.size 0 e)) s.size (bys (nums s)) := by
  have hge := grownCap_ge w s.size 0 e
  have hle := grownCap_le_maxLen w s.size 0 e (by unfold maxLen; omega)
  refine ⟨by rw [bys_length, nums_length, Nat.mul_one], _, _, rfl, hge, hle, fun h => (by cases h), fun ad h _ => (by injection h with h; rw [← h]), fun _ => ⟨w.heap.size, 0, rfl, Nat.le_refl _, by rw [strW_size]; omega, fun j u hu => ?_⟩⟩
  rw [Nat.zero_add]
  unfold strW
  have hn := heap_alloc_new w.drew (.cells (bytesRow s (grownCap w s.size 0 e)) e ((bytesRow s (grownCap w s.size 0 e)).size, (bytesRow s (grownCap w s.size 0 e)).size + 1))
  rw [cell_of_row _ w.heap.size j _ _ _ hn]
  have hj : j < s.data.size := by
    have := (List.getElem?_eq_some_iff.1 hu).1
    rw [bys_length, nums_length] at this
    exact this
  rw [← hu]
  unfold bytesRow
  rw [Array.getElem?_append_left (by simpa using hj)]
  simp only [bys, nums, List.map_map, Array.getElem?_map, List.getElem?_map, Array.getElem?_toList]
  rfl
end Go.Proofs.YtgoghmblfdlnbaaGreat
end

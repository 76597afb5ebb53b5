/- The texts VPlatA, VPlatF, SlI, SlW of this proof, one behind the other. Conditions: those of each. -/
import Derived.Test.YtgoghmblfdlnbaaGreatGR4
import Derived.Test.YtgoghmblfdlnbaaGreatGR17
import Derived.Test.YtgoghmblfdlnbaaGreatGR20
section
/- awake of chapter 2. Conditions: none. -/
set_option linter.unusedSimpArgs false
set_option linter.unusedVariables false
namespace Go.Proofs.YtgoghmblfdlnbaaGreat
open Go.RowKit

/-- A platter of few operations, m of them at most. -/
def Pl.okm (p : Pl) (m : Nat) : Prop := (∀ op, p.co op ≤ m ∧ p.si op ≤ m) ∧ p.fa.length ≤ 1000 ∧ 0 < p.bl.length ∧ p.ca.length ≤ m ∧ ∀ q ∈ p.ca, q.1 < p.bl.length
section
variable {p : Pl} {m : Nat}
theorem Pl.okm.ok (h : p.okm m) (hm : m ≤ 1000000 := by omega) : p.ok := ⟨fun op => ⟨by have := (h.1 op).1; omega, by have := (h.1 op).2; omega⟩, by have := h.2.1; omega, h.2.2.1, by have := h.2.2.2.1; omega, h.2.2.2.2⟩
theorem Pl.okm.mono (h : p.okm m) {n : Nat} (hn : m ≤ n) : p.okm n := ⟨fun op => ⟨by have := (h.1 op).1; omega, by have := (h.1 op).2; omega⟩, h.2.1, h.2.2.1, by have := h.2.2.2.1; omega, h.2.2.2.2⟩
theorem Pl.okm.ask (h : p.okm m) (op : Nat) : (p.ask op).okm (m + 1) := by
  refine ⟨fun k => ?_, h.2.1, h.2.2.1, Nat.le_succ_of_le h.2.2.2.1, h.2.2.2.2⟩
  have h1 := h.1 k
  constructor
  · show (if k = op then p.co k + 1 else p.co k) ≤ m + 1
    split <;> omega
  · show (if k = op then p.si k + 1 else p.si k) ≤ m + 1
    split <;> omega
theorem Pl.okm.put (h : p.okm m) {n : Nat} (xs : List Nat) (hn : n < p.bl.length) : (p.put n xs).okm (m + 1) := by
  refine ⟨fun k => ⟨Nat.le_succ_of_le (h.1 k).1, Nat.le_succ_of_le (h.1 k).2⟩, h.2.1, h.2.2.1, ?_, ?_⟩
  · show (p.ca ++ [(n, xs)]).length ≤ m + 1
    have := h.2.2.2.1
    simp; omega
  · intro q hq
    rcases List.mem_append.1 hq with hq | hq
    · exact h.2.2.2.2 q hq
    · rw [List.mem_singleton] at hq; rw [hq]; exact hn
theorem Pl.okm.settle (h : p.okm m) (kept : Nat → Bool) : (p.settle kept).okm m := by
  refine ⟨h.1, h.2.1, ?_, Nat.zero_le _, by intro q hq; cases hq⟩
  show 0 < (setB p.ca kept p.bl p.ca.length).length
  rw [setB_len]; exact h.2.2.1
theorem Pl.okm.crash (h : p.okm m) (keep : List Bool) : (p.crash keep).okm m :=
  let h2 := h.settle (keptOf keep)
  ⟨h2.1, Nat.zero_le _, h2.2.2.1, h2.2.2.2.1, h2.2.2.2.2⟩
theorem okm_fresh (n : Nat) (hn : 0 < n) : (fresh n).okm 0 := ⟨fun _ => ⟨Nat.le_refl _, Nat.le_refl _⟩, by simp [fresh], by simpa [fresh] using hn, by simp [fresh], by simp [fresh]⟩
theorem settle_bl (kept : Nat → Bool) : (p.settle kept).bl.length = p.bl.length := setB_len _ _ _ _
theorem crash_bl (keep : List Bool) : (p.crash keep).bl.length = p.bl.length := setB_len _ _ _ _
theorem not_bad (h : p.fa = []) (op : Nat) : ¬ p.bad op := by simp [Pl.bad, h]
end

theorem byt_rep (n b : Nat) (hb : b < 256) : Byt (List.replicate n b) := by intro c hc; simp at hc; omega
theorem conv_row {w : World} {S : Nat → Prop} {v : Value} {n : Nat} {xs : List Nat} (h : View w S 1 v n (bys xs)) : (convert 30 9 v).run Tryz.prog w = .ok (.string (str xs)) w :=
  h.str Tryz.underlying30 Tryz.underlying5 Tryz.underlying9

/-- A block of one byte. -/
@[irreducible] def rep (b : Nat) : List Nat := List.replicate 64 b
theorem rep_eq (b : Nat) : rep b = List.replicate 64 b := by unfold rep; rfl
theorem byt_full {b : Nat} (hb : b < 256) : Byt (rep b) := by rw [rep_eq]; exact byt_rep _ _ hb

end Go.Proofs.YtgoghmblfdlnbaaGreat
end

section
/- platter's Fail; Write, Read, Sync whether or not a fault is planned. Conditions: the platter is a block of the program's own. -/
set_option linter.unusedSimpArgs false
set_option linter.unusedVariables false
namespace Go.Proofs.YtgoghmblfdlnbaaGreat
open Go.RowKit

theorem info_fault : (Tryz.prog.info? 166).map (fun i => (i.zero, i.size, i.bytes)) = some (some (.agg #[.int .i64 0, .int .i64 0]), 2, 16) := by kernel_rfl
theorem flatF_cell (fa : List (Int × Int)) : ∀ u ∈ flatF fa, u.oneCell' = true := by
  intro u hu
  obtain ⟨q, _, hq⟩ := List.mem_flatMap.1 hu
  simp only [List.mem_cons, List.not_mem_nil, or_false] at hq
  rcases hq with rfl | rfl <;> rfl


def Pl.fail (p : Pl) (fl : List (Int × Int)) : Pl := { p with fa := fl, si := fun _ => 0 }


/-! ### whether or not a fault is planned -/
def wrote (b : Bool) (p : Pl) (n : Nat) (xs : List Nat) : Pl := if b then p.ask 2 else (p.ask 2).put n xs
def synced (b : Bool) (p : Pl) : Pl := if b then p.ask 3 else (p.ask 3).settle fun _ => true
theorem write_any (T S1 : Nat → Prop) (pb : Nat) (p : Pl) (n : Nat) (xs : List Nat) (v : Value) (w : World) (b : Bool) (hb : b = true ↔ p.bad 2) (h : IsP w T pb p) (hok : p.ok) (hn : n < p.bl.length) (hv : View w S1 1 v 64 (bys xs)) (hB : Byt xs) (hS : ∀ k, S1 k → ¬ T k) :
    Calls Tryz.prog 34 #[.pointer (some ⟨pb, 0, none⟩), .int .i64 n, v] w fun e w' => e = .returned (.int .i64 (if b then 6 else 0)) ∧ IsP w' (Grow w T) pb (wrote b p n xs) ∧ Fr T w w' := by
  cases b with
  | false => exact write_ok T S1 pb p n xs v w h hok (fun hh => by simpa using hb.2 hh) hn hv hB hS
  | true =>
    obtain ⟨A, c, rfl⟩ : ∃ A c, v = .slice A 64 c := let ⟨_, A, c, e, _⟩ := hv; ⟨A, c, e⟩
    exact (write_fault T pb p n 64 c A w h hok (hb.1 rfl)).mono fun e w' ⟨h1, h2, h3⟩ => ⟨h1, h2.mono fun k hk => .inl hk, h3.mono fun k hk => by rw [hk]; exact h.1⟩
theorem sync_any (T : Nat → Prop) (pb : Nat) (p : Pl) (w : World) (b : Bool) (hb : b = true ↔ p.bad 3) (h : IsP w T pb p) (hok : p.ok) :
    Calls Tryz.prog 23 #[.pointer (some ⟨pb, 0, none⟩)] w fun e w' => e = .returned (.int .i64 (if b then 6 else 0)) ∧ IsP w' T pb (synced b p) ∧ Fr T w w' := by
  cases b with
  | false => exact sync_ok T pb p w h hok (fun hh => by simpa using hb.2 hh)
  | true => exact (sync_fault T pb p w h hok (hb.1 rfl)).mono fun e w' ⟨h1, h2, h3⟩ => ⟨h1, h2, h3.mono fun k hk => by rw [hk]; exact h.1⟩
theorem read_any (T : Nat → Prop) (pb : Nat) (p : Pl) (n : Nat) (w : World) (b : Bool) (hb : b = true ↔ p.bad 1) (h : IsP w T pb p) (hok : p.ok) (hn : n < p.bl.length) :
    Calls Tryz.prog 40 #[.pointer (some ⟨pb, 0, none⟩), .int .i64 (n : Int)] w fun e w' => ∃ A c, e = .returned (.tuple #[.slice A (if b then 0 else 64) c, .int .i64 (if b then 6 else 0)]) ∧ View w' (New w) 1 (.slice A (if b then 0 else 64) c) (if b then 0 else 64) (bys (if b then [] else p.get n)) ∧ IsP w' T pb (p.ask 1) ∧ Fr T w w' := by
  cases b with
  | false => exact (read_ok T pb p n w h hok (fun hh => by simpa using hb.2 hh) hn).mono fun e w' ⟨A, c, h1, h2, _, _, h3, h4⟩ => ⟨A, c, h1, h2.view, h3, h4⟩
  | true => exact (read_fault T pb p n w h hok (hb.1 rfl)).mono fun e w' ⟨h1, h2, h3⟩ => ⟨none, 0, h1, View.nil _ _ _, h2, h3⟩
end Go.Proofs.YtgoghmblfdlnbaaGreat
end

section
/- Slab: its shape; made, New. Conditions: the bounds of its lists. -/
set_option linter.unusedSimpArgs false
set_option linter.unusedVariables false
namespace Go.Proofs.YtgoghmblfdlnbaaGreat
open Go.RowKit
theorem lastC_snoc (ca : List (Nat × List Nat)) (n : Nat) (x : List Nat) (q : Nat × List Nat) : lastC (ca ++ [q]) n x = if q.1 = n then q.2 else lastC ca n x := by
  unfold lastC; rw [List.foldl_append]; rfl
theorem get_put (p : Pl) (n : Nat) (xs : List Nat) (j : Nat) : (p.put n xs).get j = if n = j then xs else p.get j := lastC_snoc _ _ _ _
theorem get_ask (p : Pl) (op j : Nat) : (p.ask op).get j = p.get j := rfl
/-- A Platter after some work: what the blocks outside D hold, and which faults are planned, is as it was. -/
structure After (p p' : Pl) (D : Nat → Prop) : Prop where
  bl : p'.bl.length = p.bl.length
  fa : p'.fa = p.fa
  get : ∀ j, ¬ D j → p'.get j = p.get j
theorem After.refl (p : Pl) (D : Nat → Prop) : After p p D := ⟨rfl, rfl, fun _ _ => rfl⟩
theorem After.trans {p p1 p2 : Pl} {D : Nat → Prop} (h : After p p1 D) (h2 : After p1 p2 D) : After p p2 D := ⟨h2.bl.trans h.bl, h2.fa.trans h.fa, fun j hj => (h2.get j hj).trans (h.get j hj)⟩
theorem After.mono {p p1 : Pl} {D D' : Nat → Prop} (h : After p p1 D) (hd : ∀ j, D j → D' j) : After p p1 D' := ⟨h.bl, h.fa, fun j hj => h.get j fun h => hj (hd j h)⟩
theorem After.ask (p : Pl) (op : Nat) (D : Nat → Prop) : After p (p.ask op) D := ⟨rfl, rfl, fun _ _ => rfl⟩
theorem After.wrote (b : Bool) (p : Pl) (n : Nat) (xs : List Nat) : After p (Go.Proofs.YtgoghmblfdlnbaaGreat.wrote b p n xs) (fun j => j = n) := by
  unfold Go.Proofs.YtgoghmblfdlnbaaGreat.wrote
  cases b
  · rw [if_neg (by decide)]
    exact ⟨rfl, rfl, fun j hj => by rw [get_put, if_neg (fun h => hj h.symm)]; rfl⟩
  · rw [if_pos rfl]; exact After.ask p 2 _
theorem okm_wrote {p : Pl} {m : Nat} (h : p.okm m) (b : Bool) {n : Nat} (xs : List Nat) (hn : n < p.bl.length) : (wrote b p n xs).okm (m + 2) := by
  unfold wrote
  cases b
  · rw [if_neg (by decide)]; exact (h.ask 2).put xs hn
  · rw [if_pos rfl]; exact (h.ask 2).mono (by omega)
/-- A Slab beside the blocks Q. TP: its Platter's blocks. -/
structure Sl (Q TP : Nat → Prop) (w0 w : World) (lb plb sb pb bl N gen m : Nat) (p : Pl) (U L H : List Us) (A l : List Rn) : Prop where
  g : Sg (fun k => Q k ∨ TP k ∨ k = lb) w0 w sb pb bl N U L H A l
  b : Blk w lb #[.pointer (some ⟨plb, 0, none⟩), .pointer (some ⟨sb, 0, none⟩), .pointer (some ⟨pb, 0, none⟩), .int .i64 (gen : Nat)] 86
  pl : IsP w TP plb p
  ok : p.okm m
  q : ∀ k, TP k ∨ k = lb → w0.heap.size ≤ k ∧ ¬ Q k
  tl : ¬ TP lb
  pbl : p.bl.length = bl
section
variable {Q TP S : Nat → Prop} {w0 w w' : World} {lb plb sb pb bl N gen m : Nat} {p p' : Pl} {U L H U' L' H' : List Us} {A l A' l' : List Rn}
theorem Sl.tlt (h : Sl Q TP w0 w lb plb sb pb bl N gen m p U L H A l) : ∀ k, Q k ∨ TP k ∨ k = lb → k < w.heap.size := by
  obtain ⟨V, h1, h2, h3, h4, h5⟩ := h.g
  exact h4
theorem Sl.nil (h : Sl Q TP w0 w lb plb sb pb bl N gen m p U L H A l) (hf : Fr Nil w w') : Sl Q TP w0 w' lb plb sb pb bl N gen m p U L H A l :=
  ⟨h.g.nil hf, h.b.fr hf fun h => h, h.pl.fr hf fun _ _ h => h, h.ok, h.q, h.tl, h.pbl⟩
/-- An operation of the runs or the shares. -/
theorem Sl.runs {N' : Nat} (h : Sl Q TP w0 w lb plb sb pb bl N gen m p U L H A l) (hg : Sg (fun k => Q k ∨ TP k ∨ k = lb) w0 w' sb pb bl N' U' L' H' A' l') (hf : Fr (fun k => ¬ (Q k ∨ TP k ∨ k = lb)) w w') : Sl Q TP w0 w' lb plb sb pb bl N' gen m p U' L' H' A' l' :=
  ⟨hg, h.b.fr hf fun hn => hn (.inr (.inr rfl)), h.pl.fr hf fun k hk hn => hn (.inr (.inl hk)), h.ok, h.q, h.tl, h.pbl⟩
/-- An operation of the Platter. -/
theorem Sl.plat {TP' : Nat → Prop} {m' : Nat} (h : Sl Q TP w0 w lb plb sb pb bl N gen m p U L H A l) (hp : IsP w' TP' plb p') (hT : ∀ k, TP' k → (TP k ∨ w.heap.size ≤ k) ∧ k < w'.heap.size) (hf : Fr TP w w') (hok : p'.okm m') (hbl : p'.bl.length = p.bl.length) : Sl Q TP' w0 w' lb plb sb pb bl N gen m' p' U L H A l := by
  have hlt := h.tlt
  have hs := h.g.fr0.size
  refine ⟨h.g.fr hf (fun k hk => .inr (.inl hk)) (fun k hk => (h.q k (.inl hk)).1) fun k hk => ?_, h.b.fr hf h.tl, hp, hok, fun k hk => ?_, fun hk => ?_, by rw [hbl, h.pbl]⟩
  · rcases hk with hk | hk | hk
    · exact ⟨.inl (.inl hk), Nat.lt_of_lt_of_le (hlt k (.inl hk)) hf.size⟩
    · exact ⟨(hT k hk).1.imp (fun h => .inr (.inl h)) id, (hT k hk).2⟩
    · exact ⟨.inl (.inr (.inr hk)), Nat.lt_of_lt_of_le (hlt k (.inr (.inr hk))) hf.size⟩
  · rcases hk with hk | hk
    · rcases (hT k hk).1 with h1 | h1
      · exact h.q k (.inl h1)
      · exact ⟨Nat.le_trans hs h1, fun hq => by have := hlt k (.inl hq); omega⟩
    · exact h.q k (.inr hk)
  · rcases (hT lb hk).1 with h1 | h1
    · exact h.tl h1
    · have := hlt lb (.inr (.inr rfl)); omega
/-- The law's own new blocks. -/
theorem Sl.grow {Q2 : Nat → Prop} (h : Sl Q TP w0 w lb plb sb pb bl N gen m p U L H A l) (hf : Fr Nil w w') (hQ : ∀ k, Q2 k → (Q k ∨ w.heap.size ≤ k) ∧ k < w'.heap.size) : Sl Q2 TP w0 w' lb plb sb pb bl N gen m p U L H A l := by
  have hlt := h.tlt
  refine ⟨h.g.fr hf (fun k h => h.elim) (fun k h => h.elim) fun k hk => ?_, h.b.fr hf fun h => h, h.pl.fr hf fun _ _ h => h, h.ok, fun k hk => ⟨(h.q k hk).1, fun h2 => ?_⟩, h.tl, h.pbl⟩
  · rcases hk with hk | hk
    · exact ⟨(hQ k hk).1.imp .inl id, (hQ k hk).2⟩
    · exact ⟨.inl (.inr hk), Nat.lt_of_lt_of_le (hlt k (.inr hk)) hf.size⟩
  · rcases (hQ k h2).1 with h3 | h3
    · exact (h.q k hk).2 h3
    · have := hlt k (.inr hk); omega
theorem Sl.mmono {m' : Nat} (h : Sl Q TP w0 w lb plb sb pb bl N gen m p U L H A l) (hm : m ≤ m') : Sl Q TP w0 w lb plb sb pb bl N gen m' p U L H A l := ⟨h.g, h.b, h.pl, h.ok.mono hm, h.q, h.tl, h.pbl⟩
/-- What the law writes itself; it may leave out some of its own. -/
theorem Sl.own {Q2 : Nat → Prop} (h : Sl Q2 TP w0 w lb plb sb pb bl N gen m p U L H A l) (hf : Fr S w w') (hS : ∀ k, S k → Q2 k) (hS0 : ∀ k, S k → w0.heap.size ≤ k) (hQ : ∀ k, Q k → Q2 k) : Sl Q TP w0 w' lb plb sb pb bl N gen m p U L H A l := by
  have hlt := h.tlt
  refine ⟨h.g.fr hf (fun k hk => .inl (hS k hk)) hS0 fun k hk => ⟨.inl (hk.imp (hQ k) id), Nat.lt_of_lt_of_le (hlt k (hk.imp (hQ k) id)) hf.size⟩, h.b.fr hf fun hs => (h.q lb (.inr rfl)).2 (hS _ hs), h.pl.fr hf fun k hk hs => (h.q k (.inl hk)).2 (hS k hs), h.ok, fun k hk => ⟨(h.q k hk).1, fun h2 => (h.q k hk).2 (hQ k h2)⟩, h.tl, h.pbl⟩
theorem Half.grow {Q Q2 : Nat → Prop} {a n : Nat} (h : Half Q w0 w sb pb bl N U L H A l a n) (hf : Fr Nil w w') (hQ : ∀ k, Q2 k → (Q k ∨ w.heap.size ≤ k) ∧ k < w'.heap.size) : Half Q2 w0 w' sb pb bl N U L H A l a n := by
  obtain ⟨⟨V, h1, h2, h3, h4⟩, h5, h6, h7, h8⟩ := h
  refine ⟨⟨V, h1.nil hf, fun k hk => ⟨(h2 k hk).1, fun h9 => ?_⟩, h3.then hf, fun k hk => (hQ k hk).2⟩, h5, h6, h7, h8⟩
  rcases (hQ k h9).1 with h | h
  · exact (h2 k hk).2 h
  · have := h1.lt k hk; omega
theorem Half.nilf {Q : Nat → Prop} {a n : Nat} (h : Half Q w0 w sb pb bl N U L H A l a n) (hf : Fr Nil w w') : Half Q w0 w' sb pb bl N U L H A l a n :=
  h.grow hf fun k hk => ⟨.inl hk, by
    obtain ⟨⟨V, h1, h2, h3, h4⟩, _⟩ := h
    exact Nat.lt_of_lt_of_le (h4 k hk) hf.size⟩
end
set_option maxRecDepth 20000 in
theorem smade_ok {Q TP : Nat → Prop} {w0 w : World} {lb plb sb pb bl N gen m : Nat} {p : Pl} {U L H : List Us} {A l : List Rn} (h : Sl Q TP w0 w lb plb sb pb bl N gen m p U L H A l) :
    Calls Tryz.prog 31 #[.pointer (some ⟨lb, 0, none⟩)] w fun e w' => e = .returned (.bool true) ∧ w = w' := by
  have hc : w.cell? ⟨lb, 0, none⟩ = some (.pointer (some ⟨plb, 0, none⟩)) := h.b.cell 0
  clear h
  go_enter Tryz.func31, Tryz.ntmps31
  go_wp2
  go_ret
  exact ⟨rfl, rfl⟩
set_option maxRecDepth 20000 in
theorem slnew_ok (plb sb pb gen : Nat) (w : World) :
    Calls Tryz.prog 30 #[.pointer (some ⟨plb, 0, none⟩), .pointer (some ⟨sb, 0, none⟩), .pointer (some ⟨pb, 0, none⟩), .int .i64 (gen : Nat)] w fun e w' => ∃ lb, e = .returned (.pointer (some ⟨lb, 0, none⟩)) ∧ lb = w.heap.size ∧ Blk w' lb #[.pointer (some ⟨plb, 0, none⟩), .pointer (some ⟨sb, 0, none⟩), .pointer (some ⟨pb, 0, none⟩), .int .i64 (gen : Nat)] 86 ∧ Fr Nil w w' := by
  go_enter Tryz.func30, Tryz.ntmps30
  go_wp2
  go_ret
  exact ⟨_, rfl, rfl, Blk.new _ _ _, (Fr.refl _ _).alloc _⟩
end Go.Proofs.YtgoghmblfdlnbaaGreat
end

section
/- Slab: Write. Conditions: the bounds of its lists. -/
set_option linter.unusedSimpArgs false
set_option linter.unusedVariables false
namespace Go.Proofs.YtgoghmblfdlnbaaGreat
open Go.RowKit
def chunk (bs : List Nat) (i : Nat) : List Nat := (bs.drop (64 * i)).take 64
set_option maxRecDepth 20000 in
set_option maxHeartbeats 1000000 in
theorem swrite_ok {Q TP SD : Nat → Prop} {w0 w : World} {lb plb sb pb bl N gen m : Nat} {p : Pl} {U L H : List Us} {A l : List Rn} (h : Sl Q TP w0 w lb plb sb pb bl N gen m p U L H A l) (hN : 1 ≤ N) (hD : ∀ k, SD k → Q k) (D : Option Addr) (c len : Nat) (bs : List Nat) (n : Nat) (hn : 1 ≤ n) (hn9 : n ≤ 1000) (hlen : len = 64 * n) (hv : View w SD 1 (.slice D len c) len (bys bs)) (hB : Byt bs) (hm : m ≤ 900000) (hti : takeI l (n : Int) < l.length) :
    Calls Tryz.prog 8 #[.pointer (some ⟨lb, 0, none⟩), .slice D len c] w fun e w' => ∃ (okb : Bool) (a : Nat) (p' : Pl) (TP' : Nat → Prop), a = (rn l (takeI l (n : Int))).a ∧ a + n ≤ bl ∧
      e = .returned (.tuple #[.agg #[.int .i64 ((if okb then a else 0 : Nat) : Nat), .int .i64 ((if okb then n else 0 : Nat) : Nat)], .int .i64 (if okb then 0 else 6)]) ∧
      Sl Q TP' w0 w' lb plb sb pb bl N gen (m + 2 * n) p' (uput U ⟨a, n, 1⟩) L H (A ++ [⟨a, n⟩]) (takeL l (n : Int)) ∧ After p p' (fun j => a ≤ j ∧ j < a + n) ∧ (okb = true → ∀ i, i < n → p'.get (a + i) = chunk bs i) ∧ (p.fa = [] → okb = true) ∧ (∀ k, TP' k → TP k ∨ w.heap.size ≤ k) ∧ Fr (fun k => ¬ Q k) w w' := by
  have hr1 : (len : Int) % 64 = 0 := by omega
  have hr2 : Int.tmod (len : Int) 64 = 0 := by rw [Int.tmod_eq_emod_of_nonneg (by omega)]; exact hr1
  have hd1 : (len : Int) / 64 = (n : Int) := by omega
  have hd2 : Int.tdiv (len : Int) 64 = (n : Int) := by rw [Int.tdiv_eq_ediv_of_nonneg (by omega)]; exact hd1
  have hl0 : ((len : Int) == 0) = false := by simp; omega
  have hll : len ≤ 100000 := by omega
  have HL := hid hlen
  have Hn := hid hn
  have HS0 := hid h
  have HD := hid hD
  have HB := hid hB
  have Hti := hid hti
  have Hm := hid hm
  have HN := hid hN
  obtain ⟨db, dO, hDe, -, hdl⟩ : ∃ b o, D = some ⟨b, o, none⟩ ∧ SD b ∧ b < w.heap.size := by
    obtain ⟨_, A', c', e, _, _, _, _, h5⟩ := hv
    injection e with ea _ ec
    obtain ⟨b, o, h1, h2, h3, _⟩ := h5 (by omega)
    exact ⟨b, o, ea.trans h1, h2, h3⟩
  subst hDe
  have hlc : len ≤ c := by obtain ⟨_, _, _, e, h, _⟩ := hv; injection e with _ _ e; omega
  have HV := hid hv
  clear h hD hv hB hti hm hlen hn hN
  go_enter Tryz.func8, Tryz.ntmps8
  go_wp2_with fail
  obtain ⟨W1, hW1⟩ : ∃ W1, W1 = w.alloc (.cells #[.int .i64 0, .int .i64 0] 39) := ⟨_, rfl⟩
  obtain ⟨rb, hrb⟩ : ∃ rb, rb = w.heap.size := ⟨_, rfl⟩
  have f1 : Fr Nil w W1 := by rw [hW1]; exact (Fr.refl _ _).alloc _
  have hR1 : Blk W1 rb #[.int .i64 0, .int .i64 0] 39 := by rw [hW1, hrb]; exact Blk.new _ _ _
  rw [← hW1, ← hrb]
  have H1 := hid (HS0.out.grow (Q2 := fun k => Q k ∨ k = rb) f1 fun k hk => by
    rcases hk with hk | hk
    · exact ⟨.inl hk, Nat.lt_of_lt_of_le (HS0.out.tlt k (.inl hk)) f1.size⟩
    · exact ⟨.inr (by omega), by have := hR1.lt; omega⟩)
  have HR1 := hid hR1
  have F1 := hid f1
  have Hrb := hid hrb
  clear hW1 hrb f1 hR1
  refine (smade_ok H1.out).mono ?_
  rintro e w2 ⟨rfl, rfl⟩
  have c2 : W1.cell? ⟨lb, 2, none⟩ = some (.pointer (some ⟨pb, 0, none⟩)) := H1.out.b.cell 2
  go_wp2_with fail
  refine (sg_take H1.out.g n Hn.out Hti.out).mono ?_
  rintro e w4 ⟨a, rfl, ha8, ha, hH, hf4⟩
  have HH := hid hH
  have HA := hid ha
  have HB4 := hid (H1.out.b.fr hf4 fun hn => hn (.inr (.inr rfl)))
  have HP4 := hid (H1.out.pl.fr hf4 fun k hk hn => hn (.inr (.inl hk)))
  have HR4 := hid (HR1.out.fr hf4 fun hn => hn (.inl (.inr rfl)))
  have F4 := hid hf4
  clear hH ha hf4 c2
  go_upto_region 8 with (fail)
  obtain ⟨W5, hW5⟩ : ∃ W5, W5 = w4.alloc (.cells #[.int .i64 (a : Nat), .int .i64 (n : Nat)] 39) := ⟨_, rfl⟩
  obtain ⟨xb, hxb⟩ : ∃ xb, xb = w4.heap.size := ⟨_, rfl⟩
  have f5 : Fr Nil w4 W5 := by rw [hW5]; exact (Fr.refl _ _).alloc _
  have hX5 : Blk W5 xb #[.int .i64 (a : Nat), .int .i64 (n : Nat)] 39 := by rw [hW5, hxb]; exact Blk.new _ _ _
  rw [← hW5, ← hxb]
  obtain ⟨Q2, hQ2⟩ : ∃ Q2 : Nat → Prop, Q2 = fun k => Q k ∨ k = rb ∨ k = xb := ⟨_, rfl⟩
  have HH5 := hid (HH.out.grow (Q2 := fun k => Q2 k ∨ TP k ∨ k = lb) f5 fun k hk => by
    rw [hQ2] at hk
    have hlt : ∀ k, (Q k ∨ k = rb) ∨ TP k ∨ k = lb → k < W5.heap.size := fun k hk => Nat.lt_of_lt_of_le (H1.out.tlt k hk) (Nat.le_trans F4.out.size f5.size)
    rcases hk with (hk | hk | hk) | hk
    · exact ⟨.inl (.inl (.inl hk)), hlt k (.inl (.inl hk))⟩
    · exact ⟨.inl (.inl (.inr hk)), hlt k (.inl (.inr hk))⟩
    · exact ⟨.inr (by omega), by have := hX5.lt; omega⟩
    · exact ⟨.inl (.inr hk), hlt k (.inr hk)⟩)
  have HX5 := hid hX5
  have HB5 := hid (HB4.out.fr f5 fun h => h)
  have HP5 := hid (HP4.out.fr f5 fun _ _ h => h)
  have HR5 := hid (HR4.out.fr f5 fun h => h)
  have F5 := hid (F4.out.then f5.nil)
  have Hxb := hid hxb
  have HQ2 := hid hQ2
  clear hW5 hxb hX5 f5 HH HB4 HP4 HR4
  have hS8 : (fun w' : World => w'.cell? ⟨lb, 1, none⟩ = some (.pointer (some ⟨sb, 0, none⟩)) ∧ w'.cell? ⟨xb, 0, none⟩ = some (.int .i64 (a : Nat)) ∧ w'.cell? ⟨xb, 1, none⟩ = some (.int .i64 (n : Nat))) W5.drew := ⟨HB5.out.drew.cell 1, HX5.out.drew.cell 0, HX5.out.drew.cell 1⟩
  refine wpU_region (k := 5) (S := (fun w' : World => w'.cell? ⟨lb, 1, none⟩ = some (.pointer (some ⟨sb, 0, none⟩)) ∧ w'.cell? ⟨xb, 0, none⟩ = some (.int .i64 (a : Nat)) ∧ w'.cell? ⟨xb, 1, none⟩ = some (.int .i64 (n : Nat)))) (by kernel_rfl) ?_
  refine wpU_take (i := 0) (v := ?_) rfl (by kernel_rfl) (by kernel_rfl) (fun _ _ _ h => h) _ _ _ _ (by kernel_rfl) (by kernel_rfl) (by kernel_rfl) (Or.inl ⟨by kernel_rfl, ?_⟩) hS8 ?_
  rotate_left
  · (intro w9 hS9; obtain ⟨s0, s1, s2⟩ := hS9; go_simp); (try with_reducible rfl)
  try simp only [Act.put, List.getElem_toArray, List.getElem_cons_succ, List.getElem_cons_zero, List.setIfInBounds_toArray, List.set_cons_zero, List.set_cons_succ]
  refine wpU_take (i := 1) (v := ?_) rfl (by kernel_rfl) (by kernel_rfl) (fun _ _ _ h => h) _ _ _ _ (by kernel_rfl) (by kernel_rfl) (by kernel_rfl) (Or.inl ⟨by kernel_rfl, ?_⟩) hS8 ?_
  rotate_left
  · (intro w9 hS9; obtain ⟨s0, s1, s2⟩ := hS9; go_simp); (try with_reducible rfl)
  try simp only [Act.put, List.getElem_toArray, List.getElem_cons_succ, List.getElem_cons_zero, List.setIfInBounds_toArray, List.set_cons_zero, List.set_cons_succ]
  refine wpU_take (i := 2) (v := ?_) rfl (by kernel_rfl) (by kernel_rfl) (fun _ _ _ h => h) _ _ _ _ (by kernel_rfl) (by kernel_rfl) (by kernel_rfl) (Or.inl ⟨by kernel_rfl, ?_⟩) hS8 ?_
  rotate_left
  · (intro w9 hS9; obtain ⟨s0, s1, s2⟩ := hS9; go_simp); (try with_reducible rfl)
  try simp only [Act.put, List.getElem_toArray, List.getElem_cons_succ, List.getElem_cons_zero, List.setIfInBounds_toArray, List.set_cons_zero, List.set_cons_succ]
  refine wpU_take (i := 3) (v := ?_) rfl (by kernel_rfl) (by kernel_rfl) (fun _ _ _ h => h) _ _ _ _ (by kernel_rfl) (by kernel_rfl) (by kernel_rfl) (Or.inl ⟨by kernel_rfl, ?_⟩) hS8 ?_
  rotate_left
  · (intro w9 hS9; obtain ⟨s0, s1, s2⟩ := hS9; go_simp); (try with_reducible rfl)
  try simp only [Act.put, List.getElem_toArray, List.getElem_cons_succ, List.getElem_cons_zero, List.setIfInBounds_toArray, List.set_cons_zero, List.set_cons_succ]
  refine wpU_take (i := 4) (v := ?_) rfl (by kernel_rfl) (by kernel_rfl) (fun _ _ _ h => h) _ _ _ _ (by kernel_rfl) (by kernel_rfl) (by kernel_rfl) (Or.inl ⟨by kernel_rfl, ?_⟩) hS8 ?_
  rotate_left
  · (intro w9 hS9; obtain ⟨s0, s1, s2⟩ := hS9; go_simp); (try with_reducible rfl)
  try simp only [Act.put, List.getElem_toArray, List.getElem_cons_succ, List.getElem_cons_zero, List.setIfInBounds_toArray, List.set_cons_zero, List.set_cons_succ]
  clear hS8
  refine wpU_next (i := 5) rfl (by kernel_rfl) (fun K hK => ?_)
  go_simp
  refine (sg_add (HH5.out.nilf (Fr.refl Nil W5).drew) HN.out).mono ?_
  rintro e w6 ⟨rfl, hG, hf⟩
  have hTPq : ∀ k, TP k ∨ k = lb → w0.heap.size ≤ k ∧ ¬ Q2 k := fun k hk => ⟨(H1.out.q k hk).1, fun h2 => by
    rw [HQ2.out] at h2
    rcases h2 with h2 | h2 | h2
    · exact (H1.out.q k hk).2 (.inl h2)
    · exact (H1.out.q k hk).2 (.inr h2)
    · have h3 := H1.out.tlt k (.inr hk); have h4 := F4.out.size; have h5 := Hxb.out; omega⟩
  have H6 := hid (show Sl Q2 TP w0 w6 lb plb sb pb bl N gen m p (uput U ⟨a, n, 1⟩) L H (A ++ [⟨a, n⟩]) (takeL l (n : Int)) from
    ⟨hG, HB5.out.drew.fr hf fun hn => hn (.inr (.inr rfl)), (HP5.out.fr (Fr.refl Nil W5).drew fun _ _ h => h).fr hf fun k hk hn => hn (.inr (.inl hk)), H1.out.ok, hTPq, H1.out.tl, H1.out.pbl⟩)
  have HX6 := hid (HX5.out.drew.fr hf fun hn => hn (.inl (by rw [HQ2.out]; exact .inr (.inr rfl))))
  have HR6 := hid (HR5.out.drew.fr hf fun hn => hn (.inl (by rw [HQ2.out]; exact .inr (.inl rfl))))
  have F6 := hid (show Fr (fun k => ¬ Q k) w w6 from by
    refine (F1.out.nil (S := fun k => ¬ Q k)).then ((F5.out.mono (S' := fun k => ¬ Q k) fun k hk hq => hk (.inl (.inl hq))).drew.then (hf.mono fun k hk hq => hk (.inl (by rw [HQ2.out]; exact .inl hq))))
    )
  refine hK.out _ _ (fun h => absurd rfl h.1) ?_
  refine wpU_done (by kernel_rfl) ?_ _
  clear hK K hG hf HH5 HB5 HP5 HR5 HX5 hTPq F5 F4
  have Hbl := hid (show a + n ≤ bl from (H6.out.g.inv.b.pos ⟨a, n⟩ (List.mem_append_right _ (List.mem_append_right _ (List.mem_singleton.2 rfl)))).2)
  have hbl8 : bl ≤ 8192 := H6.out.g.le8
  have Hbl8 := hid hbl8
  have ha9 : a ≤ 8192 := by omega
  clear hbl8
  go_upto_region 10 with (fail)
  go_loopw [52] (fun v52 wx => ∃ (i : Nat) (pi : Pl) (TPi : Nat → Prop), v52 = .int .i64 i ∧ i ≤ n ∧ Hid (Sl Q2 TPi w0 wx lb plb sb pb bl N gen (m + 2 * i) pi (uput U ⟨a, n, 1⟩) L H (A ++ [⟨a, n⟩]) (takeL l (n : Int)) ∧ After p pi (fun j => a ≤ j ∧ j < a + n) ∧ (∀ j, j < i → pi.get (a + j) = chunk bs j) ∧ (∀ k, TPi k → TP k ∨ w.heap.size ≤ k)) ∧ Fr (fun k => ¬ Q2 k) w6 wx) (fun v52 _ => n - (intOf v52).toNat)
  case atStart => exact ⟨0, p, TP, rfl, by omega, hid ⟨H6.out, After.refl _ _, fun j hj => by omega, fun k hk => .inl hk⟩, Fr.refl _ _⟩
  case round =>
    obtain ⟨i, pi, TPi, rfl, hi, hI, hfw⟩ := hrel
    by_cases hlt : i < n
    · obtain ⟨q, hq⟩ : ∃ q, q = 64 * i := ⟨_, rfl⟩
      have hql : q + 64 ≤ len := by have := HL.out; omega
      have hq1 : (i : Int) * 64 = (q : Int) := by omega
      have hq2 : ((i : Int) + 1) * 64 = (q : Int) + 64 := by omega
      have hcq : ¬ c = q := by omega
      have hDv : View wr SD 1 (.slice (some ⟨db, dO, none⟩) len c) len (bys bs) := ((HV.out.fr F6.out fun k hk _ hn => hn (HD.out k hk))).fr hfw fun k hk _ hn => hn (by rw [HQ2.out]; exact .inl (HD.out k hk))
      have hcut := hDv.cut (l := q) (h := q + 64) (by omega) hql
      rw [show sliced (some ⟨db, dO, none⟩) q (q + 64) c 1 = .slice (some ⟨db, dO + q, none⟩) 64 (c - q) from by simp [sliced, hcq, Addr.add_lit], show q + 64 - q = 64 by omega] at hcut
      have hcut2 : View wr SD 1 (.slice (some ⟨db, dO + q, none⟩) 64 (c - q)) 64 (bys (chunk bs i)) := by
        have e : ((bys bs).drop (q * 1)).take (64 * 1) = bys (chunk bs i) := by unfold chunk; rw [hq]; simp [bys, List.map_take, List.map_drop]
        rwa [e] at hcut
      have HC := hid hcut2
      have Hq := hid hq
      have hb0 : wr.cell? ⟨lb, 0, none⟩ = some (.pointer (some ⟨plb, 0, none⟩)) := hI.out.1.b.cell 0
      have Hf := hid hfw
      clear hDv hcut hcut2 hq hfw
      go_upto_region 12 with (fail)
      have hS : (fun w' : World => w'.cell? ⟨lb, 0, none⟩ = some (.pointer (some ⟨plb, 0, none⟩))) wr.drew := hb0
      clear hb0
      have hx1 : (q : Int) ≤ (q : Int) + 64 := by omega
      have hx2 : (q : Int) + 64 ≤ (c : Int) := by omega
      have hx3 : (0 : Int) ≤ (q : Int) := by omega
      have hw1 : IntKind.i64.wrap (q : Int) = (q : Int) := by rw [IntKind.wrap_i64]; omega
      have hw2 : IntKind.i64.wrap ((i : Int) + 1) = (i : Int) + 1 := by rw [IntKind.wrap_i64]; omega
      have hw3 : IntKind.i64.wrap ((q : Int) + 64) = (q : Int) + 64 := by rw [IntKind.wrap_i64]; omega
      obtain ⟨y, hy⟩ : ∃ y, y = a + i := ⟨_, rfl⟩
      have hy1 : (a : Int) + (i : Int) = (y : Int) := by omega
      have hw4 : IntKind.i64.wrap (y : Int) = (y : Int) := by rw [IntKind.wrap_i64]; omega
      have Hy := hid hy
      have hm1 : max ((q : Int) + 64) 0 = (q : Int) + 64 := by omega
      have ht1 : ((q : Int) + 64).toNat = q + 64 := by omega
      clear hy
      refine wpU_region (k := 15) (S := fun w' : World => w'.cell? ⟨lb, 0, none⟩ = some (.pointer (some ⟨plb, 0, none⟩))) (by kernel_rfl) ?_
      refine wpU_take (i := 0) (v := ?_) rfl (by kernel_rfl) (by kernel_rfl) (fun _ _ _ h => h) _ _ _ _ (by kernel_rfl) (by kernel_rfl) (by kernel_rfl) (Or.inl ⟨by kernel_rfl, ?_⟩) hS ?_
      rotate_left
      · (intro w9 hS9; obtain s0 := hS9; go_simp); (try with_reducible rfl)
      try simp only [Act.put, List.getElem_toArray, List.getElem_cons_succ, List.getElem_cons_zero, List.setIfInBounds_toArray, List.set_cons_zero, List.set_cons_succ]
      refine wpU_take (i := 1) (v := ?_) rfl (by kernel_rfl) (by kernel_rfl) (fun _ _ _ h => h) _ _ _ _ (by kernel_rfl) (by kernel_rfl) (by kernel_rfl) (Or.inl ⟨by kernel_rfl, ?_⟩) hS ?_
      rotate_left
      · (intro w9 hS9; obtain s0 := hS9; go_simp); (try with_reducible rfl)
      try simp only [Act.put, List.getElem_toArray, List.getElem_cons_succ, List.getElem_cons_zero, List.setIfInBounds_toArray, List.set_cons_zero, List.set_cons_succ]
      refine wpU_take (i := 2) (v := ?_) rfl (by kernel_rfl) (by kernel_rfl) (fun _ _ _ h => h) _ _ _ _ (by kernel_rfl) (by kernel_rfl) (by kernel_rfl) (Or.inl ⟨by kernel_rfl, ?_⟩) hS ?_
      rotate_left
      · (intro w9 hS9; obtain s0 := hS9; go_simp); (try with_reducible rfl)
      try simp only [Act.put, List.getElem_toArray, List.getElem_cons_succ, List.getElem_cons_zero, List.setIfInBounds_toArray, List.set_cons_zero, List.set_cons_succ]
      refine wpU_take (i := 3) (v := ?_) rfl (by kernel_rfl) (by kernel_rfl) (fun _ _ _ h => h) _ _ _ _ (by kernel_rfl) (by kernel_rfl) (by kernel_rfl) (Or.inl ⟨by kernel_rfl, ?_⟩) hS ?_
      rotate_left
      · (intro w9 hS9; obtain s0 := hS9; go_simp); (try with_reducible rfl)
      try simp only [Act.put, List.getElem_toArray, List.getElem_cons_succ, List.getElem_cons_zero, List.setIfInBounds_toArray, List.set_cons_zero, List.set_cons_succ]
      refine wpU_take (i := 4) (v := ?_) rfl (by kernel_rfl) (by kernel_rfl) (fun _ _ _ h => h) _ _ _ _ (by kernel_rfl) (by kernel_rfl) (by kernel_rfl) (Or.inl ⟨by kernel_rfl, ?_⟩) hS ?_
      rotate_left
      · (intro w9 hS9; obtain s0 := hS9; go_simp); (try with_reducible rfl)
      try simp only [Act.put, List.getElem_toArray, List.getElem_cons_succ, List.getElem_cons_zero, List.setIfInBounds_toArray, List.set_cons_zero, List.set_cons_succ]
      refine wpU_take (i := 5) (v := ?_) rfl (by kernel_rfl) (by kernel_rfl) (fun _ _ _ h => h) _ _ _ _ (by kernel_rfl) (by kernel_rfl) (by kernel_rfl) (Or.inl ⟨by kernel_rfl, ?_⟩) hS ?_
      rotate_left
      · (intro w9 hS9; obtain s0 := hS9; go_simp); (try with_reducible rfl)
      try simp only [Act.put, List.getElem_toArray, List.getElem_cons_succ, List.getElem_cons_zero, List.setIfInBounds_toArray, List.set_cons_zero, List.set_cons_succ]
      refine wpU_take (i := 6) (v := ?_) rfl (by kernel_rfl) (by kernel_rfl) (fun _ _ _ h => h) _ _ _ _ (by kernel_rfl) (by kernel_rfl) (by kernel_rfl) (Or.inl ⟨by kernel_rfl, ?_⟩) hS ?_
      rotate_left
      · (intro w9 hS9; obtain s0 := hS9; go_simp); (try with_reducible rfl)
      try simp only [Act.put, List.getElem_toArray, List.getElem_cons_succ, List.getElem_cons_zero, List.setIfInBounds_toArray, List.set_cons_zero, List.set_cons_succ]
      refine wpU_take (i := 7) (v := ?_) rfl (by kernel_rfl) (by kernel_rfl) (fun _ _ _ h => h) _ _ _ _ (by kernel_rfl) (by kernel_rfl) (by kernel_rfl) (Or.inl ⟨by kernel_rfl, ?_⟩) hS ?_
      rotate_left
      · (intro w9 hS9; obtain s0 := hS9; go_simp); (try with_reducible rfl)
      try simp only [Act.put, List.getElem_toArray, List.getElem_cons_succ, List.getElem_cons_zero, List.setIfInBounds_toArray, List.set_cons_zero, List.set_cons_succ]
      refine wpU_take (i := 8) (v := ?_) rfl (by kernel_rfl) (by kernel_rfl) (fun _ _ _ h => h) _ _ _ _ (by kernel_rfl) (by kernel_rfl) (by kernel_rfl) (Or.inl ⟨by kernel_rfl, ?_⟩) hS ?_
      rotate_left
      · (intro w9 hS9; obtain s0 := hS9; go_simp); (try with_reducible rfl)
      try simp only [Act.put, List.getElem_toArray, List.getElem_cons_succ, List.getElem_cons_zero, List.setIfInBounds_toArray, List.set_cons_zero, List.set_cons_succ]
      refine wpU_take (i := 9) (v := ?_) rfl (by kernel_rfl) (by kernel_rfl) (fun _ _ _ h => h) _ _ _ _ (by kernel_rfl) (by kernel_rfl) (by kernel_rfl) (Or.inl ⟨by kernel_rfl, ?_⟩) hS ?_
      rotate_left
      · (intro w9 hS9; obtain s0 := hS9; go_simp); (try with_reducible rfl)
      try simp only [Act.put, List.getElem_toArray, List.getElem_cons_succ, List.getElem_cons_zero, List.setIfInBounds_toArray, List.set_cons_zero, List.set_cons_succ]
      refine wpU_take (i := 10) (v := ?_) rfl (by kernel_rfl) (by kernel_rfl) (fun _ _ _ h => h) _ _ _ _ (by kernel_rfl) (by kernel_rfl) (by kernel_rfl) (Or.inl ⟨by kernel_rfl, ?_⟩) hS ?_
      rotate_left
      · (intro w9 hS9; obtain s0 := hS9; go_simp); (try with_reducible rfl)
      try simp only [Act.put, List.getElem_toArray, List.getElem_cons_succ, List.getElem_cons_zero, List.setIfInBounds_toArray, List.set_cons_zero, List.set_cons_succ]
      refine wpU_take (i := 11) (v := ?_) rfl (by kernel_rfl) (by kernel_rfl) (fun _ _ _ h => h) _ _ _ _ (by kernel_rfl) (by kernel_rfl) (by kernel_rfl) (Or.inl ⟨by kernel_rfl, ?_⟩) hS ?_
      rotate_left
      · (intro w9 hS9; obtain s0 := hS9; go_simp); (try with_reducible rfl)
      try simp only [Act.put, List.getElem_toArray, List.getElem_cons_succ, List.getElem_cons_zero, List.setIfInBounds_toArray, List.set_cons_zero, List.set_cons_succ]
      refine wpU_take (i := 12) (v := ?_) rfl (by kernel_rfl) (by kernel_rfl) (fun _ _ _ h => h) _ _ _ _ (by kernel_rfl) (by kernel_rfl) (by kernel_rfl) (Or.inl ⟨by kernel_rfl, ?_⟩) hS ?_
      rotate_left
      · (intro w9 hS9; obtain s0 := hS9; go_simp); (try with_reducible rfl)
      try simp only [Act.put, List.getElem_toArray, List.getElem_cons_succ, List.getElem_cons_zero, List.setIfInBounds_toArray, List.set_cons_zero, List.set_cons_succ]
      refine wpU_take (i := 13) (v := ?_) rfl (by kernel_rfl) (by kernel_rfl) (fun _ _ _ h => h) _ _ _ _ (by kernel_rfl) (by kernel_rfl) (by kernel_rfl) (Or.inl ⟨by kernel_rfl, ?_⟩) hS ?_
      rotate_left
      · (intro w9 hS9; obtain s0 := hS9; go_simp); (try with_reducible rfl)
      try simp only [Act.put, List.getElem_toArray, List.getElem_cons_succ, List.getElem_cons_zero, List.setIfInBounds_toArray, List.set_cons_zero, List.set_cons_succ]
      refine wpU_next (i := 14) rfl (by kernel_rfl) (fun K hK => ?_)
      go_simp
      try rw [show q + 64 - q = 64 from by omega]
      obtain ⟨bb, hbb⟩ : ∃ bb : Bool, bb = true ↔ pi.bad 2 := by classical exact ⟨decide (pi.bad 2), by simp⟩
      have hI2 := hI.out.1.nil (Fr.refl Nil wr).drew
      have hpbl := hI2.pbl
      refine (write_any TPi SD plb pi y (chunk bs i) _ wr.drew bb hbb hI2.pl (hI2.ok.ok (by clear hw1 hw2 hw3 hw4; have := Hm.out; omega)) (by clear hw1 hw2 hw3 hw4; have := Hy.out; have := Hbl.out; omega) HC.out.drew (fun x hx => HB.out x (List.mem_of_mem_drop (List.mem_of_mem_take hx))) (fun k hk hT => (hI2.q k (.inl hT)).2 (by rw [HQ2.out]; exact .inl (HD.out k hk)))).mono ?_
      rintro e w7 ⟨rfl, hp7, hf7⟩
      have hI7 := hI2.plat (m' := m + 2 * i + 2) (p' := wrote bb pi y (chunk bs i)) hp7.bd (fun k hk => hk) hf7 (okm_wrote hI2.ok bb _ (by clear hw1 hw2 hw3 hw4; have := Hy.out; have := Hbl.out; omega)) (After.wrote bb pi y _).bl
      have HI7 := hid hI7
      have F7 := hid (show Fr (fun k => ¬ Q2 k) w6 w7 from Hf.out.drew.then (hf7.mono fun k hk hq => (hI2.q k (.inl hk)).2 hq))
      have HT7 := hid (show ∀ k, (fun k => Grow wr.drew TPi k ∧ k < w7.heap.size) k → TP k ∨ w.heap.size ≤ k from fun k hk => by
        rcases hk.1 with h1 | h1
        · exact hI.out.2.2.2 k h1
        · exact .inr (Nat.le_trans (Nat.le_trans F6.out.size Hf.out.size) h1))
      have HA7 := hid (show After p (wrote bb pi y (chunk bs i)) (fun j => a ≤ j ∧ j < a + n) from hI.out.2.1.trans ((After.wrote bb pi y _).mono fun j hj => by have := Hy.out; omega))
      have Hbb := hid hbb
      have hS7 : (fun w' : World => w'.cell? ⟨lb, 0, none⟩ = some (.pointer (some ⟨plb, 0, none⟩))) w7 := hI7.b.cell 0
      clear hS hI2 hpbl hp7 hf7 hI7 hbb
      refine hK.out _ _ (fun _ => hS7) ?_
      clear hK K
      try simp only [Act.put, List.getElem_toArray, List.getElem_cons_succ, List.getElem_cons_zero, List.setIfInBounds_toArray, List.set_cons_zero, List.set_cons_succ]
      refine wpU_next (i := 15) rfl (by kernel_rfl) (fun K hK => ?_)
      go_simp
      refine hK.out _ _ (fun h => absurd rfl h.1) ?_
      refine wpU_done (by kernel_rfl) ?_ _
      clear hK K
      clear hS7 hw1 hw2 hw3 hw4 hx1 hx2 hx3 hm1 ht1 hq1 hq2 hy1
      cases bb with
      | false =>
        go_wp2_with fail
        go_roundw
        case rel =>
          refine ⟨i + 1, _, _, by go_num, by omega, hid ⟨HI7.out, HA7.out, fun j hj => ?_, HT7.out⟩, F7.out⟩
          unfold wrote
          rw [if_neg (by decide), get_put]
          by_cases hji : j = i
          · rw [if_pos (by rw [hji]; exact Hy.out), hji]
          · rw [if_neg (by have := Hy.out; omega), get_ask]; exact hI.out.2.2.1 j (by omega)
        case measure => simp [intOf]; omega
      | true =>
        have hr7 := HR6.out.fr F7.out fun hn => hn (by rw [HQ2.out]; exact .inr (.inl rfl))
        have k0 := hr7.cell 0
        have k1 := hr7.cell 1
        have z0 := hr7.frozen 0
        have z1 := hr7.frozen 1
        have hrl := hr7.lt
        have HR7 := hid hr7
        clear hr7
        go_wp2
        have hfs : Fr (fun k => k = rb) w7 ((w7.setCell ⟨rb, 0, none⟩ (.int .i64 0)).setCell ⟨rb, 1, none⟩ (.int .i64 0)) := ((Fr.refl (fun k => k = rb) w7).setCell (a := ⟨rb, 0, none⟩) (.inl rfl) _).setCell (a := ⟨rb, 1, none⟩) (.inl rfl) _
        have hb9 := (HR7.out.set 0 (.int .i64 0)).set 1 (.int .i64 0)
        generalize (w7.setCell ⟨rb, 0, none⟩ (.int .i64 0)).setCell ⟨rb, 1, none⟩ (.int .i64 0) = W9 at *
        have r0 : W9.cell? ⟨rb, 0, none⟩ = some (.int .i64 0) := hb9.cell 0
        have r1 : W9.cell? ⟨rb, 1, none⟩ = some (.int .i64 0) := hb9.cell 1
        have HFS := hid hfs
        have Hb9 := hid hb9
        clear hfs hb9
        simp [bodyPost, results, Tryz.results8, go_sem, r0, r1]
        have hrq : ¬ Q rb := fun hq => by have := HS0.out.tlt rb (.inl hq); have := Hrb.out; omega
        have hwq : w0.heap.size ≤ rb := by have := HS0.out.g.fr0.size; have := Hrb.out; omega
        rw [← HA.out]
        refine ⟨Hbl.out, _, _, (HI7.out.own (Q := Q) HFS.out (fun k hk => by rw [HQ2.out, hk]; exact .inr (.inl rfl)) (fun k hk => by rw [hk]; exact hwq) fun k hk => by rw [HQ2.out]; exact .inl hk).mmono (by omega), HA7.out, ?_, HT7.out, ?_⟩
        · intro h0
          have h1 := Hbb.out.1 trivial
          unfold Pl.bad at h1
          rw [hI.out.2.1.fa, h0] at h1
          simp at h1
        · exact (F6.out.then (F7.out.mono fun k hk hq => hk (by rw [HQ2.out]; exact .inl hq))).then (HFS.out.mono fun k hk => by rw [hk]; exact hrq)
    · have hin : i = n := by omega
      subst hin
      have hr7 := HR6.out.fr hfw fun hn => hn (by rw [HQ2.out]; exact .inr (.inl rfl))
      have hx7 := HX6.out.fr hfw fun hn => hn (by rw [HQ2.out]; exact .inr (.inr rfl))
      have k0 := hr7.cell 0
      have k1 := hr7.cell 1
      have z0 := hr7.frozen 0
      have z1 := hr7.frozen 1
      have hrl := hr7.lt
      have x0 : wr.cell? ⟨xb, 0, none⟩ = some (.int .i64 (a : Nat)) := hx7.cell 0
      have x1 : wr.cell? ⟨xb, 1, none⟩ = some (.int .i64 (i : Nat)) := hx7.cell 1
      have HR7 := hid hr7
      have Hf := hid hfw
      clear hr7 hx7 hfw
      go_wp2
      have hfs : Fr (fun k => k = rb) wr ((wr.setCell ⟨rb, 0, none⟩ (.int .i64 (a : Nat))).setCell ⟨rb, 1, none⟩ (.int .i64 (i : Nat))) := ((Fr.refl (fun k => k = rb) wr).setCell (a := ⟨rb, 0, none⟩) (.inl rfl) _).setCell (a := ⟨rb, 1, none⟩) (.inl rfl) _
      have hb9 := (HR7.out.set 0 (.int .i64 (a : Nat))).set 1 (.int .i64 (i : Nat))
      generalize (wr.setCell ⟨rb, 0, none⟩ (.int .i64 (a : Nat))).setCell ⟨rb, 1, none⟩ (.int .i64 (i : Nat)) = W9 at *
      have r0 : W9.cell? ⟨rb, 0, none⟩ = some (.int .i64 (a : Nat)) := hb9.cell 0
      have r1 : W9.cell? ⟨rb, 1, none⟩ = some (.int .i64 (i : Nat)) := hb9.cell 1
      have HFS := hid hfs
      have Hb9 := hid hb9
      clear hfs hb9
      simp [bodyPost, results, Tryz.results8, go_sem, r0, r1]
      have hrq : ¬ Q rb := fun hq => by have := HS0.out.tlt rb (.inl hq); have := Hrb.out; omega
      have hwq : w0.heap.size ≤ rb := by have := HS0.out.g.fr0.size; have := Hrb.out; omega
      rw [← HA.out]
      refine ⟨Hbl.out, rfl, _, _, (hI.out.1.own (Q := Q) HFS.out (fun k hk => by rw [HQ2.out, hk]; exact .inr (.inl rfl)) (fun k hk => by rw [hk]; exact hwq) fun k hk => by rw [HQ2.out]; exact .inl hk).mmono (by omega), hI.out.2.1, hI.out.2.2.1, hI.out.2.2.2, ?_⟩
      exact (F6.out.then (Hf.out.mono fun k hk hq => hk (by rw [HQ2.out]; exact .inl hq))).then (HFS.out.mono fun k hk => by rw [hk]; exact hrq)
end Go.Proofs.YtgoghmblfdlnbaaGreat
end

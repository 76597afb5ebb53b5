/- The texts VPlatA, VPlatF, SlI of this proof, one behind the other. Conditions: those of each. -/
import Derived.Test.YtgoghmblfdlnbaaGW5
import Derived.Test.YtgoghmblfdlnbaaGW17
import Derived.Test.YtgoghmblfdlnbaaGW20
section
/- awake of chapter 2. Conditions: none. -/
set_option linter.unusedSimpArgs false
set_option linter.unusedVariables false
namespace Go.Proofs.Ytgoghmblfdlnbaa
open Go.RowKit

/-- A platter of few operations, m of them at most. -/
def Pl.okm (p : Pl) (m : Nat) : Prop := (∀ op, p.co op ≤ m ∧ p.si op ≤ m) ∧ p.fa.length ≤ 1000 ∧ 0 < p.bl.length ∧ p.ca.length ≤ m ∧ ∀ q ∈ p.ca, q.1 < p.bl.length
section
variable {p : Pl} {m : Nat}
theorem Pl.okm.ok (h : p.okm m) (hm : m ≤ 1000000 := by omega) : p.ok := ⟨fun op => ⟨by have := (h.1 op).1; omega, by have := (h.1 op).2; omega⟩, by have := h.2.1; omega, h.2.2.1, by have := h.2.2.2.1; omega, h.2.2.2.2⟩
theorem Pl.okm.mono (h : p.okm m) {n : Nat} (hn : m ≤ n) : p.okm n := ⟨fun op => ⟨by have := (h.1 op).1; omega, by have := (h.1 op).2; omega⟩, h.2.1, h.2.2.1, by have := h.2.2.2.1; omega, h.2.2.2.2⟩
theorem Pl.okm.ask (h : p.okm m) (op : Nat) : (p.ask op).okm (m + 1) := by
  refine ⟨fun k => ?_, h.2.1, h.2.2.1, Nat.le_succ_of_le h.2.2.2.1, h.2.2.2.2⟩
  have h1 := h.1 k
  constructor
  · show (if k = op then p.co k + 1 else p.co k) ≤ m + 1
    split <;> omega
  · show (if k = op then p.si k + 1 else p.si k) ≤ m + 1
    split <;> omega
theorem Pl.okm.put (h : p.okm m) {n : Nat} (xs : List Nat) (hn : n < p.bl.length) : (p.put n xs).okm (m + 1) := by
  refine ⟨fun k => ⟨Nat.le_succ_of_le (h.1 k).1, Nat.le_succ_of_le (h.1 k).2⟩, h.2.1, h.2.2.1, ?_, ?_⟩
  · show (p.ca ++ [(n, xs)]).length ≤ m + 1
    have := h.2.2.2.1
    simp; omega
  · intro q hq
    rcases List.mem_append.1 hq with hq | hq
    · exact h.2.2.2.2 q hq
    · rw [List.mem_singleton] at hq; rw [hq]; exact hn
theorem Pl.okm.settle (h : p.okm m) (kept : Nat → Bool) : (p.settle kept).okm m := by
  refine ⟨h.1, h.2.1, ?_, Nat.zero_le _, by intro q hq; cases hq⟩
  show 0 < (setB p.ca kept p.bl p.ca.length).length
  rw [setB_len]; exact h.2.2.1
theorem Pl.okm.crash (h : p.okm m) (keep : List Bool) : (p.crash keep).okm m :=
  let h2 := h.settle (keptOf keep)
  ⟨h2.1, Nat.zero_le _, h2.2.2.1, h2.2.2.2.1, h2.2.2.2.2⟩
theorem okm_fresh (n : Nat) (hn : 0 < n) : (fresh n).okm 0 := ⟨fun _ => ⟨Nat.le_refl _, Nat.le_refl _⟩, by simp [fresh], by simpa [fresh] using hn, by simp [fresh], by simp [fresh]⟩
theorem settle_bl (kept : Nat → Bool) : (p.settle kept).bl.length = p.bl.length := setB_len _ _ _ _
theorem crash_bl (keep : List Bool) : (p.crash keep).bl.length = p.bl.length := setB_len _ _ _ _
theorem not_bad (h : p.fa = []) (op : Nat) : ¬ p.bad op := by simp [Pl.bad, h]
end

theorem byt_rep (n b : Nat) (hb : b < 256) : Byt (List.replicate n b) := by intro c hc; simp at hc; omega
theorem conv_row {w : World} {S : Nat → Prop} {v : Value} {n : Nat} {xs : List Nat} (h : View w S 1 v n (bys xs)) : (convert 22 9 v).run Try.prog w = .ok (.string (str xs)) w :=
  h.str Try.underlying22 Try.underlying5 Try.underlying9

/-- A block of one byte. -/
@[irreducible] def rep (b : Nat) : List Nat := List.replicate 64 b
theorem rep_eq (b : Nat) : rep b = List.replicate 64 b := by unfold rep; rfl
theorem byt_full {b : Nat} (hb : b < 256) : Byt (rep b) := by rw [rep_eq]; exact byt_rep _ _ hb

end Go.Proofs.Ytgoghmblfdlnbaa
end

section
/- platter's Fail; Write, Read, Sync whether or not a fault is planned. Conditions: the platter is a block of the program's own. -/
set_option linter.unusedSimpArgs false
set_option linter.unusedVariables false
namespace Go.Proofs.Ytgoghmblfdlnbaa
open Go.RowKit

theorem info_fault : (Try.prog.info? 92).map (fun i => (i.zero, i.size, i.bytes)) = some (some (.agg #[.int .i64 0, .int .i64 0]), 2, 16) := by kernel_rfl
theorem flatF_cell (fa : List (Int × Int)) : ∀ u ∈ flatF fa, u.oneCell' = true := by
  intro u hu
  obtain ⟨q, _, hq⟩ := List.mem_flatMap.1 hu
  simp only [List.mem_cons, List.not_mem_nil, or_false] at hq
  rcases hq with rfl | rfl <;> rfl

theorem clonef_ok (S : Nat → Prop) (v : Value) (n : Nat) (fa : List (Int × Int)) (hn : n < 1000000) (w : World) (hv : View w S 2 v n (flatF fa)) :
    Calls Try.prog 34 #[v] w fun e w' => ∃ A c, e = .returned (.slice A n c) ∧ Row w' (New w) 92 2 (.slice A n c) n (flatF fa) ∧ Fr Nil w w' := by
  have hv0 := hv
  obtain ⟨hl, A, c, rfl, e1, e2, e3, e4, e5⟩ := hv
  cases A with
  | none =>
    obtain rfl := e3 rfl
    obtain rfl : n = 0 := by omega
    have hx : flatF fa = [] := List.eq_nil_of_length_eq_zero (by simpa using hl)
    go_enter Try.func34, Try.ntmps34
    go_wp2
    go_ret
    exact ⟨none, 0, rfl, Row.nil _ _ _ _, Fr.refl _ _⟩
  | some ad =>
    clear e3 e4 e5
    go_enter Try.func34, Try.ntmps34
    go_wp2_with (at_builtin; refine wp_app_view rfl _ _ 44 rfl (.agg #[.int .i64 0, .int .i64 0]) 16 Try.underlying44 info_fault rfl (by decide) (Row.made w #[] 92 2 0 0 rfl (Nat.le_refl _) (by decide)) rfl (hv0.alloc _) rfl (flatF_cell _) (by omega) (by decide) ?_)
    intro A cap w' r1 r2 _
    have r4 : Row w' (New w) 92 2 (.slice A (0 + n) cap) (0 + n) (flatF fa) := by
      refine Row.mono (by simpa using r1) fun k hk => ?_
      rcases hk with hk | hk
      · simp [Value.ownBlock] at hk
        unfold New; omega
      · unfold New; omega
    have r5 : Fr Nil w w' := ((Fr.refl Nil w).alloc _).trans r2 (fun k hk => by simp [Value.ownBlock] at hk; exact .inr (by omega))
    clear r1 r2
    rw [Nat.zero_add] at r4 ⊢
    go_wp2
    go_ret
    exact ⟨A, cap, rfl, r4, r5⟩

def Pl.fail (p : Pl) (fl : List (Int × Int)) : Pl := { p with fa := fl, si := fun _ => 0 }

set_option maxHeartbeats 1600000 in
theorem fail_ok (T S : Nat → Prop) (pb : Nat) (p : Pl) (v : Value) (n : Nat) (fl : List (Int × Int)) (hn : n = fl.length) (hl : n < 1000000) (w : World) (h : IsP w T pb p) (hv : View w S 2 v n (flatF fl)) :
    Calls Try.prog 13 #[.pointer (some ⟨pb, 0, none⟩), v] w fun e w' => e = .returned (.tuple #[]) ∧ IsP w' (Grow w T) pb (p.fail fl) ∧ Fr T w w' := by
  subst hn
  go_enter Try.func13, Try.ntmps13
  go_wp2_with fail
  refine (clonef_ok S v _ fl hl w hv).mono ?_
  rintro e w1 ⟨A, c, rfl, hR1, hf1⟩
  have hP1 := h.fr hf1 fun _ _ h => h
  obtain ⟨g0, vb, vc, vf, g1, g2, g3, g4⟩ := hP1
  have c2 : w1.cell? ⟨pb, 2, none⟩ = some vf := g1.cell 2
  have z2 : w1.frozen? ⟨pb, 2, none⟩ = false := g1.frozen 2
  have g12 := g1.set 2 (.slice A fl.length c)
  have c7 : (w1.setCell ⟨pb, 2, none⟩ (.slice A fl.length c)).cell? ⟨pb, 7, none⟩ = some (.int .i64 (p.si 0)) := g12.cell 7
  have c8 : (w1.setCell ⟨pb, 2, none⟩ (.slice A fl.length c)).cell? ⟨pb, 8, none⟩ = some (.int .i64 (p.si 1)) := g12.cell 8
  have c9 : (w1.setCell ⟨pb, 2, none⟩ (.slice A fl.length c)).cell? ⟨pb, 9, none⟩ = some (.int .i64 (p.si 2)) := g12.cell 9
  have c10 : (w1.setCell ⟨pb, 2, none⟩ (.slice A fl.length c)).cell? ⟨pb, 10, none⟩ = some (.int .i64 (p.si 3)) := g12.cell 10
  have z7 : (w1.setCell ⟨pb, 2, none⟩ (.slice A fl.length c)).frozen? ⟨pb, 7, none⟩ = false := g12.frozen 7
  have z8 : (w1.setCell ⟨pb, 2, none⟩ (.slice A fl.length c)).frozen? ⟨pb, 8, none⟩ = false := g12.frozen 8
  have z9 : (w1.setCell ⟨pb, 2, none⟩ (.slice A fl.length c)).frozen? ⟨pb, 9, none⟩ = false := g12.frozen 9
  have z10 : (w1.setCell ⟨pb, 2, none⟩ (.slice A fl.length c)).frozen? ⟨pb, 10, none⟩ = false := g12.frozen 10
  go_wp2
  go_end0
  have hfp : Fr (fun k => k = pb) w1 (((((w1.setCell ⟨pb, 2, none⟩ (.slice A fl.length c)).setCell ⟨pb, 7, none⟩ (.int .i64 0)).setCell ⟨pb, 8, none⟩ (.int .i64 0)).setCell ⟨pb, 9, none⟩ (.int .i64 0)).setCell ⟨pb, 10, none⟩ (.int .i64 0)) :=
    ((((((Fr.refl (fun k => k = pb) w1).setCell (a := ⟨pb, 2, none⟩) (.inl rfl) _).setCell (a := ⟨pb, 7, none⟩) (.inl rfl) _).setCell (a := ⟨pb, 8, none⟩) (.inl rfl) _).setCell (a := ⟨pb, 9, none⟩) (.inl rfl) _).setCell (a := ⟨pb, 10, none⟩) (.inl rfl) _)
  have hb := (((g12.set 7 (.int .i64 0)).set 8 (.int .i64 0)).set 9 (.int .i64 0)).set 10 (.int .i64 0)
  have hF : VT w1 (Grow w T) 92 2 (.slice A fl.length c) fl.length (flatF fl) := hR1.vt.mono fun k hk => .inr hk
  exact ⟨rfl, IsP.own (p := p.fail fl) (T := Grow w T) (.inl g0) g1 hfp hb (g2.mono fun k hk => .inl hk) (g3.mono fun k hk => .inl hk) hF, hf1.nil.then (hfp.mono fun k hk => by rw [hk]; exact g0)⟩

/-! ### whether or not a fault is planned -/
def wrote (b : Bool) (p : Pl) (n : Nat) (xs : List Nat) : Pl := if b then p.ask 2 else (p.ask 2).put n xs
def synced (b : Bool) (p : Pl) : Pl := if b then p.ask 3 else (p.ask 3).settle fun _ => true
theorem write_any (T S1 : Nat → Prop) (pb : Nat) (p : Pl) (n : Nat) (xs : List Nat) (v : Value) (w : World) (b : Bool) (hb : b = true ↔ p.bad 2) (h : IsP w T pb p) (hok : p.ok) (hn : n < p.bl.length) (hv : View w S1 1 v 64 (bys xs)) (hB : Byt xs) (hS : ∀ k, S1 k → ¬ T k) :
    Calls Try.prog 28 #[.pointer (some ⟨pb, 0, none⟩), .int .i64 n, v] w fun e w' => e = .returned (.int .i64 (if b then 6 else 0)) ∧ IsP w' (Grow w T) pb (wrote b p n xs) ∧ Fr T w w' := by
  cases b with
  | false => exact write_ok T S1 pb p n xs v w h hok (fun hh => by simpa using hb.2 hh) hn hv hB hS
  | true =>
    obtain ⟨A, c, rfl⟩ : ∃ A c, v = .slice A 64 c := let ⟨_, A, c, e, _⟩ := hv; ⟨A, c, e⟩
    exact (write_fault T pb p n 64 c A w h hok (hb.1 rfl)).mono fun e w' ⟨h1, h2, h3⟩ => ⟨h1, h2.mono fun k hk => .inl hk, h3.mono fun k hk => by rw [hk]; exact h.1⟩
theorem read_any (T : Nat → Prop) (pb : Nat) (p : Pl) (n : Nat) (w : World) (b : Bool) (hb : b = true ↔ p.bad 1) (h : IsP w T pb p) (hok : p.ok) (hn : n < p.bl.length) :
    Calls Try.prog 31 #[.pointer (some ⟨pb, 0, none⟩), .int .i64 (n : Int)] w fun e w' => ∃ A c, e = .returned (.tuple #[.slice A (if b then 0 else 64) c, .int .i64 (if b then 6 else 0)]) ∧ View w' (New w) 1 (.slice A (if b then 0 else 64) c) (if b then 0 else 64) (bys (if b then [] else p.get n)) ∧ IsP w' T pb (p.ask 1) ∧ Fr T w w' := by
  cases b with
  | false => exact (read_ok T pb p n w h hok (fun hh => by simpa using hb.2 hh) hn).mono fun e w' ⟨A, c, h1, h2, _, _, h3, h4⟩ => ⟨A, c, h1, h2.view, h3, h4⟩
  | true => exact (read_fault T pb p n w h hok (hb.1 rfl)).mono fun e w' ⟨h1, h2, h3⟩ => ⟨none, 0, h1, View.nil _ _ _, h2, h3⟩
end Go.Proofs.Ytgoghmblfdlnbaa
end

section
/- Slab: its shape; made, New. Conditions: the bounds of its lists. -/
set_option linter.unusedSimpArgs false
set_option linter.unusedVariables false
namespace Go.Proofs.Ytgoghmblfdlnbaa
open Go.RowKit
theorem lastC_snoc (ca : List (Nat × List Nat)) (n : Nat) (x : List Nat) (q : Nat × List Nat) : lastC (ca ++ [q]) n x = if q.1 = n then q.2 else lastC ca n x := by
  unfold lastC; rw [List.foldl_append]; rfl
theorem get_put (p : Pl) (n : Nat) (xs : List Nat) (j : Nat) : (p.put n xs).get j = if n = j then xs else p.get j := lastC_snoc _ _ _ _
theorem get_ask (p : Pl) (op j : Nat) : (p.ask op).get j = p.get j := rfl
/-- A Platter after some work: what the blocks outside D hold, and which faults are planned, is as it was. -/
structure After (p p' : Pl) (D : Nat → Prop) : Prop where
  bl : p'.bl.length = p.bl.length
  fa : p'.fa = p.fa
  get : ∀ j, ¬ D j → p'.get j = p.get j
theorem After.refl (p : Pl) (D : Nat → Prop) : After p p D := ⟨rfl, rfl, fun _ _ => rfl⟩
theorem After.trans {p p1 p2 : Pl} {D : Nat → Prop} (h : After p p1 D) (h2 : After p1 p2 D) : After p p2 D := ⟨h2.bl.trans h.bl, h2.fa.trans h.fa, fun j hj => (h2.get j hj).trans (h.get j hj)⟩
theorem After.mono {p p1 : Pl} {D D' : Nat → Prop} (h : After p p1 D) (hd : ∀ j, D j → D' j) : After p p1 D' := ⟨h.bl, h.fa, fun j hj => h.get j fun h => hj (hd j h)⟩
theorem After.ask (p : Pl) (op : Nat) (D : Nat → Prop) : After p (p.ask op) D := ⟨rfl, rfl, fun _ _ => rfl⟩
theorem After.wrote (b : Bool) (p : Pl) (n : Nat) (xs : List Nat) : After p (Go.Proofs.Ytgoghmblfdlnbaa.wrote b p n xs) (fun j => j = n) := by
  unfold Go.Proofs.Ytgoghmblfdlnbaa.wrote
  cases b
  · rw [if_neg (by decide)]
    exact ⟨rfl, rfl, fun j hj => by rw [get_put, if_neg (fun h => hj h.symm)]; rfl⟩
  · rw [if_pos rfl]; exact After.ask p 2 _
theorem okm_wrote {p : Pl} {m : Nat} (h : p.okm m) (b : Bool) {n : Nat} (xs : List Nat) (hn : n < p.bl.length) : (wrote b p n xs).okm (m + 2) := by
  unfold wrote
  cases b
  · rw [if_neg (by decide)]; exact (h.ask 2).put xs hn
  · rw [if_pos rfl]; exact (h.ask 2).mono (by omega)
/-- A Slab beside the blocks Q. TP: its Platter's blocks. -/
structure Sl (Q TP : Nat → Prop) (w0 w : World) (lb plb sb pb bl N gen m : Nat) (p : Pl) (U L H : List Us) (A l : List Rn) : Prop where
  g : Sg (fun k => Q k ∨ TP k ∨ k = lb) w0 w sb pb bl N U L H A l
  b : Blk w lb #[.pointer (some ⟨plb, 0, none⟩), .pointer (some ⟨sb, 0, none⟩), .pointer (some ⟨pb, 0, none⟩), .int .i64 (gen : Nat)] 74
  pl : IsP w TP plb p
  ok : p.okm m
  q : ∀ k, TP k ∨ k = lb → w0.heap.size ≤ k ∧ ¬ Q k
  tl : ¬ TP lb
  pbl : p.bl.length = bl
section
variable {Q TP S : Nat → Prop} {w0 w w' : World} {lb plb sb pb bl N gen m : Nat} {p p' : Pl} {U L H U' L' H' : List Us} {A l A' l' : List Rn}
theorem Sl.tlt (h : Sl Q TP w0 w lb plb sb pb bl N gen m p U L H A l) : ∀ k, Q k ∨ TP k ∨ k = lb → k < w.heap.size := by
  obtain ⟨V, h1, h2, h3, h4, h5⟩ := h.g
  exact h4
theorem Sl.nil (h : Sl Q TP w0 w lb plb sb pb bl N gen m p U L H A l) (hf : Fr Nil w w') : Sl Q TP w0 w' lb plb sb pb bl N gen m p U L H A l :=
  ⟨h.g.nil hf, h.b.fr hf fun h => h, h.pl.fr hf fun _ _ h => h, h.ok, h.q, h.tl, h.pbl⟩
/-- An operation of the runs or the shares. -/
theorem Sl.runs {N' : Nat} (h : Sl Q TP w0 w lb plb sb pb bl N gen m p U L H A l) (hg : Sg (fun k => Q k ∨ TP k ∨ k = lb) w0 w' sb pb bl N' U' L' H' A' l') (hf : Fr (fun k => ¬ (Q k ∨ TP k ∨ k = lb)) w w') : Sl Q TP w0 w' lb plb sb pb bl N' gen m p U' L' H' A' l' :=
  ⟨hg, h.b.fr hf fun hn => hn (.inr (.inr rfl)), h.pl.fr hf fun k hk hn => hn (.inr (.inl hk)), h.ok, h.q, h.tl, h.pbl⟩
/-- An operation of the Platter. -/
theorem Sl.plat {TP' : Nat → Prop} {m' : Nat} (h : Sl Q TP w0 w lb plb sb pb bl N gen m p U L H A l) (hp : IsP w' TP' plb p') (hT : ∀ k, TP' k → (TP k ∨ w.heap.size ≤ k) ∧ k < w'.heap.size) (hf : Fr TP w w') (hok : p'.okm m') (hbl : p'.bl.length = p.bl.length) : Sl Q TP' w0 w' lb plb sb pb bl N gen m' p' U L H A l := by
  have hlt := h.tlt
  have hs := h.g.fr0.size
  refine ⟨h.g.fr hf (fun k hk => .inr (.inl hk)) (fun k hk => (h.q k (.inl hk)).1) fun k hk => ?_, h.b.fr hf h.tl, hp, hok, fun k hk => ?_, fun hk => ?_, by rw [hbl, h.pbl]⟩
  · rcases hk with hk | hk | hk
    · exact ⟨.inl (.inl hk), Nat.lt_of_lt_of_le (hlt k (.inl hk)) hf.size⟩
    · exact ⟨(hT k hk).1.imp (fun h => .inr (.inl h)) id, (hT k hk).2⟩
    · exact ⟨.inl (.inr (.inr hk)), Nat.lt_of_lt_of_le (hlt k (.inr (.inr hk))) hf.size⟩
  · rcases hk with hk | hk
    · rcases (hT k hk).1 with h1 | h1
      · exact h.q k (.inl h1)
      · exact ⟨Nat.le_trans hs h1, fun hq => by have := hlt k (.inl hq); omega⟩
    · exact h.q k (.inr hk)
  · rcases (hT lb hk).1 with h1 | h1
    · exact h.tl h1
    · have := hlt lb (.inr (.inr rfl)); omega
/-- The law's own new blocks. -/
theorem Sl.grow {Q2 : Nat → Prop} (h : Sl Q TP w0 w lb plb sb pb bl N gen m p U L H A l) (hf : Fr Nil w w') (hQ : ∀ k, Q2 k → (Q k ∨ w.heap.size ≤ k) ∧ k < w'.heap.size) : Sl Q2 TP w0 w' lb plb sb pb bl N gen m p U L H A l := by
  have hlt := h.tlt
  refine ⟨h.g.fr hf (fun k h => h.elim) (fun k h => h.elim) fun k hk => ?_, h.b.fr hf fun h => h, h.pl.fr hf fun _ _ h => h, h.ok, fun k hk => ⟨(h.q k hk).1, fun h2 => ?_⟩, h.tl, h.pbl⟩
  · rcases hk with hk | hk
    · exact ⟨(hQ k hk).1.imp .inl id, (hQ k hk).2⟩
    · exact ⟨.inl (.inr hk), Nat.lt_of_lt_of_le (hlt k (.inr hk)) hf.size⟩
  · rcases (hQ k h2).1 with h3 | h3
    · exact (h.q k hk).2 h3
    · have := hlt k (.inr hk); omega
theorem Sl.mmono {m' : Nat} (h : Sl Q TP w0 w lb plb sb pb bl N gen m p U L H A l) (hm : m ≤ m') : Sl Q TP w0 w lb plb sb pb bl N gen m' p U L H A l := ⟨h.g, h.b, h.pl, h.ok.mono hm, h.q, h.tl, h.pbl⟩
/-- What the law writes itself; it may leave out some of its own. -/
theorem Sl.own {Q2 : Nat → Prop} (h : Sl Q2 TP w0 w lb plb sb pb bl N gen m p U L H A l) (hf : Fr S w w') (hS : ∀ k, S k → Q2 k) (hS0 : ∀ k, S k → w0.heap.size ≤ k) (hQ : ∀ k, Q k → Q2 k) : Sl Q TP w0 w' lb plb sb pb bl N gen m p U L H A l := by
  have hlt := h.tlt
  refine ⟨h.g.fr hf (fun k hk => .inl (hS k hk)) hS0 fun k hk => ⟨.inl (hk.imp (hQ k) id), Nat.lt_of_lt_of_le (hlt k (hk.imp (hQ k) id)) hf.size⟩, h.b.fr hf fun hs => (h.q lb (.inr rfl)).2 (hS _ hs), h.pl.fr hf fun k hk hs => (h.q k (.inl hk)).2 (hS k hs), h.ok, fun k hk => ⟨(h.q k hk).1, fun h2 => (h.q k hk).2 (hQ k h2)⟩, h.tl, h.pbl⟩
theorem Half.grow {Q Q2 : Nat → Prop} {a n : Nat} (h : Half Q w0 w sb pb bl N U L H A l a n) (hf : Fr Nil w w') (hQ : ∀ k, Q2 k → (Q k ∨ w.heap.size ≤ k) ∧ k < w'.heap.size) : Half Q2 w0 w' sb pb bl N U L H A l a n := by
  obtain ⟨⟨V, h1, h2, h3, h4⟩, h5, h6, h7, h8⟩ := h
  refine ⟨⟨V, h1.nil hf, fun k hk => ⟨(h2 k hk).1, fun h9 => ?_⟩, h3.then hf, fun k hk => (hQ k hk).2⟩, h5, h6, h7, h8⟩
  rcases (hQ k h9).1 with h | h
  · exact (h2 k hk).2 h
  · have := h1.lt k hk; omega
theorem Half.nilf {Q : Nat → Prop} {a n : Nat} (h : Half Q w0 w sb pb bl N U L H A l a n) (hf : Fr Nil w w') : Half Q w0 w' sb pb bl N U L H A l a n :=
  h.grow hf fun k hk => ⟨.inl hk, by
    obtain ⟨⟨V, h1, h2, h3, h4⟩, _⟩ := h
    exact Nat.lt_of_lt_of_le (h4 k hk) hf.size⟩
end
set_option maxRecDepth 20000 in
theorem smade_ok {Q TP : Nat → Prop} {w0 w : World} {lb plb sb pb bl N gen m : Nat} {p : Pl} {U L H : List Us} {A l : List Rn} (h : Sl Q TP w0 w lb plb sb pb bl N gen m p U L H A l) :
    Calls Try.prog 25 #[.pointer (some ⟨lb, 0, none⟩)] w fun e w' => e = .returned (.bool true) ∧ w = w' := by
  have hc : w.cell? ⟨lb, 0, none⟩ = some (.pointer (some ⟨plb, 0, none⟩)) := h.b.cell 0
  clear h
  go_enter Try.func25, Try.ntmps25
  go_wp2
  go_ret
  exact ⟨rfl, rfl⟩
set_option maxRecDepth 20000 in
theorem slnew_ok (plb sb pb gen : Nat) (w : World) :
    Calls Try.prog 24 #[.pointer (some ⟨plb, 0, none⟩), .pointer (some ⟨sb, 0, none⟩), .pointer (some ⟨pb, 0, none⟩), .int .i64 (gen : Nat)] w fun e w' => ∃ lb, e = .returned (.pointer (some ⟨lb, 0, none⟩)) ∧ lb = w.heap.size ∧ Blk w' lb #[.pointer (some ⟨plb, 0, none⟩), .pointer (some ⟨sb, 0, none⟩), .pointer (some ⟨pb, 0, none⟩), .int .i64 (gen : Nat)] 74 ∧ Fr Nil w w' := by
  go_enter Try.func24, Try.ntmps24
  go_wp2
  go_ret
  exact ⟨_, rfl, rfl, Blk.new _ _ _, (Fr.refl _ _).alloc _⟩
end Go.Proofs.Ytgoghmblfdlnbaa
end

/- The contracts of cell.Writer: Num, Bytes, Out. Conditions: the writer is a block of the program's own. -/
import Derived.Test.YtidpabcfcdiecaaProg
import Derived.Test.YtidpabcfcdiecaaBase
import Derived.Test.YtidpabcfcdiecaaCellP
set_option linter.unusedSimpArgs false
set_option linter.unusedVariables false
namespace Go.Proofs.Ytidpabcfcdiecaa
open Go.RowKit

theorem info_u8 : (Try.prog.info? 5).map (fun i => (i.zero, i.size, i.bytes)) = some (some (.int .u8 0), 1, 1) := by kernel_rfl

@[go_sem] theorem conv_str (w : World) (s : ByteArray) : (convert 9 29 (.string s)).run Try.prog w = .ok (.slice (some ⟨w.heap.size, 0, none⟩) s.size (grownCap w s.size 0 5)) (strW w 5 s) :=
  run_str_bytes w s Try.underlying9 Try.underlying29 Try.underlying5

/-- A Writer at block pb that has written xs; its blocks are among S. -/
def IsW (w : World) (S : Nat → Prop) (pb : Nat) (xs : List Nat) : Prop :=
  S pb ∧ ∃ v, Blk w pb #[v] 61 ∧ Row w S 5 1 v xs.length (bys xs)

/-- x = append(x, u) of a byte, its cell just made. -/
theorem app_u8 {ops : Array Oper} {rest : List Oper} {o : Oper} {a : Act} {Q : Exit → Act → World → Prop} {w : World} {S : Nat → Prop} {v : Value} {xs : List Nat} (hgd : o.guard = none) (x y : Operand)
    (ho : o.op = .call { callee := .builtin .append, args := #[x, y], argTypes := #[29, 29] }) (u : Int) (n : Nat) (hu : u = n)
    (hrow : Row w S 5 1 v xs.length (bys xs)) (hs : a.eval x = v) (hx : a.eval y = .slice (some ⟨w.heap.size, 0, none⟩) 1 1) (hb : xs.length < 1000000000)
    (h : Stop (∀ g cap w', Row w' (fun k => k = g) 5 1 (.slice (some ⟨g, 0, none⟩) (xs.length + 1) cap) (xs.length + 1) (bys (xs ++ [n])) → (v.ownBlock = some g ∨ w.heap.size ≤ g) → Fr (fun k => v.ownBlock = some k) w w' → g < w'.heap.size →
      wpList Try.prog ops Q rest (a.put o.dst (.slice (some ⟨g, 0, none⟩) (xs.length + 1) cap)) w') .mk) : wpList Try.prog ops Q (o :: rest) a (w.alloc (.cells #[.int .u8 u] 5)) := by
  subst hu
  refine wp_app hgd x y 29 ho (.int .u8 0) 1 Try.underlying29 info_u8 rfl (by decide) (hrow.alloc _) hs _ 1 1 [.int .u8 n] hx (by decide) rfl (cell_one_new _ _ _) (by simp [Value.oneCell']) (by omega) (by decide) ?_
  intro g cap w' h1 h2 h3 h4 _
  rw [← bys_one] at h1
  refine h g cap w' h1 (h2.imp id fun h => by simp at h; omega) ?_ h4
  exact ((Fr.refl _ w).alloc _).trans h3 (fun _ h => .inl h)

theorem IsW.mono {w : World} {S S' : Nat → Prop} {pb : Nat} {xs : List Nat} (h : IsW w S pb xs) (hs : ∀ k, S k → S' k) : IsW w S' pb xs :=
  ⟨hs _ h.1, h.2.elim fun v h => ⟨v, h.1, h.2.mono hs⟩⟩
theorem IsW.fr {w w1 : World} {S S1 : Nat → Prop} {pb : Nat} {xs : List Nat} (h : IsW w S pb xs) (hf : Fr S1 w w1) (hn : ∀ k, S k → ¬ S1 k) : IsW w1 S pb xs :=
  ⟨h.1, h.2.elim fun v h' => ⟨v, h'.1.fr hf (hn _ h.1), h'.2.frS hf hn⟩⟩

/-- Its blocks are there. -/
theorem IsW.bd {w : World} {S : Nat → Prop} {pb : Nat} {xs : List Nat} (h : IsW w S pb xs) : IsW w (fun k => S k ∧ k < w.heap.size) pb xs :=
  ⟨⟨h.1, h.2.elim fun v h' => h'.1.lt⟩, h.2.elim fun v h' => ⟨v, h'.1, h'.2.1, fun k hk => ⟨h'.2.2 k hk, h'.2.lt k hk⟩⟩⟩
/-- A row that was appended to is stored back. -/
theorem stored_view {w w1 w2 : World} {S : Nat → Prop} {pb n' cap n : Nat} {A : Option Addr} {v : Value} {xs ys : List Nat} (hl : ys.length = n') (hfr : Fr S w w1) (hSp : Grow w S pb) (hb : Blk w1 pb #[v] 61) (hrow : Row w1 (Grow w S) 5 1 v n (bys xs))
    (h1 : Row w2 (fun k => v.ownBlock = some k ∨ w1.heap.size ≤ k) 5 1 (.slice A n' cap) n' (bys ys)) (h3 : Fr (fun k => v.ownBlock = some k) w1 w2) :
    w2.cell? ⟨pb, 0, none⟩ = some v ∧ w2.frozen? ⟨pb, 0, none⟩ = false ∧ IsW (w2.setCell ⟨pb, 0, none⟩ (.slice A n' cap)) (Grow w S) pb ys ∧ Fr S w (w2.setCell ⟨pb, 0, none⟩ (.slice A n' cap)) := by
  subst hl
  have hne := hrow.apart_blk hb (by decide)
  have hb2 := hb.fr h3 hne
  have hf : Fr S w w2 := hfr.trans h3 (fun k hk => hrow.2 k hk)
  refine ⟨hb2.cell 0, hb2.frozen 0, ⟨hSp, _, hb2.set 0 _, ?_⟩, hf.setCell (a := ⟨pb, 0, none⟩) hSp _⟩
  exact (h1.setCell (h1.apart_blk hb2 (by decide)) _).mono (fun k hk => hk.elim (fun h => hrow.2 k h) (fun h => .inr (Nat.le_trans hfr.size h)))
theorem stored_row {w w1 w2 : World} {S : Nat → Prop} {pb g n' cap n : Nat} {v : Value} {xs ys : List Nat} (hl : ys.length = n') (hfr : Fr S w w1) (hSp : Grow w S pb) (hb : Blk w1 pb #[v] 61) (hrow : Row w1 (Grow w S) 5 1 v n (bys xs))
    (h1 : Row w2 (fun k => k = g) 5 1 (.slice (some ⟨g, 0, none⟩) n' cap) n' (bys ys)) (h2 : v.ownBlock = some g ∨ w1.heap.size ≤ g) (h3 : Fr (fun k => v.ownBlock = some k) w1 w2) :
    w2.cell? ⟨pb, 0, none⟩ = some v ∧ w2.frozen? ⟨pb, 0, none⟩ = false ∧ IsW (w2.setCell ⟨pb, 0, none⟩ (.slice (some ⟨g, 0, none⟩) n' cap)) (Grow w S) pb ys ∧ Fr S w (w2.setCell ⟨pb, 0, none⟩ (.slice (some ⟨g, 0, none⟩) n' cap)) :=
  stored_view hl hfr hSp hb hrow (h1.mono fun k hk => by rw [hk]; exact h2) h3

set_option maxRecDepth 100000 in
set_option maxHeartbeats 800000 in
theorem num_ok (S : Nat → Prop) (pb : Nat) (xs : List Nat) (x : Nat) (h1 : x < 268435456) (hx : xs.length ≤ 1000000) (w : World) (hW : IsW w S pb xs) :
    Calls Try.prog 22 #[.pointer (some ⟨pb, 0, none⟩), .int .i64 x] w fun e w' => e = .returned (.tuple #[]) ∧ Fr S w w' ∧ IsW w' (Grow w S) pb (xs ++ enc x) := by
  have hA : decide ((268435456 : Int) ≤ (x : Int)) = false := by simp; omega
  have hB : decide ((x : Int) < 0) = false := by simp
  go_enter Try.func22, Try.ntmps22
  go_wp2_with fail
  go_loopw [1] (fun xv wr => ∃ (x' : Nat) (xs' : List Nat), xv = .int .i64 x' ∧ IsW wr (Grow w S) pb xs' ∧ Fr S w wr ∧ xs' ++ enc x' = xs ++ enc x ∧ xs'.length + x' ≤ xs.length + x) (fun xv _ => (intOf xv).toNat)
  case atStart => exact ⟨x, xs, rfl, ⟨.inl hW.1, hW.2.elim fun v h => ⟨v, h.1, h.2.mono fun _ h => .inl h⟩⟩, Fr.refl _ _, rfl, Nat.le_refl _⟩
  case round =>
    obtain ⟨x', xs', rfl, ⟨hSp, v, hb, hrow⟩, hfr, heq, hle⟩ := hrel
    have Heq := hid heq; clear heq
    have hc : wr.cell? ⟨pb, 0, none⟩ = some v := hb.cell 0
    have hf := hb.frozen 0
    by_cases hlt : x' < 128
    · go_wp2_with (at_builtin; refine app_u8 rfl _ _ rfl _ x' rfl hrow rfl rfl (by omega) ?_)
      intro g cap w' r1 r2 r3 _
      obtain ⟨c1, f1, i1, i2⟩ := stored_row (by simp) hfr hSp hb hrow r1 r2 r3
      go_wp2
      go_end0
      refine ⟨rfl, ?_, ?_⟩
      · exact i2
      · rw [← Heq.out, enc_lo hlt]; exact i1
    · go_wp2_with (at_builtin; refine app_u8 rfl _ _ rfl _ (x' % 128 + 128) (or128 x') hrow rfl rfl (by omega) ?_)
      intro g cap w' r1 r2 r3 _
      obtain ⟨c1, f1, i1, i2⟩ := stored_row (by simp) hfr hSp hb hrow r1 r2 r3
      go_wp2
      go_roundw
      case rel =>
        exact ⟨x' / 128, xs' ++ [x' % 128 + 128], by go_num, i1, i2, (enc_step xs' hlt).trans Heq.out, by simp; omega⟩
      case measure => simp [intOf]; omega

/-- A number that may not be: it panics, and nothing has turned. -/
theorem num_bad (p : Option Addr) (x : Int) (h1 : x < 0 ∨ 268435456 ≤ x) (w : World) :
    Calls Try.prog 22 #[.pointer p, .int .i64 x] w fun e w' => (∃ v, e = .panicked [{ v := .iface 9 v, recovered := false }]) ∧ w = w' := by
  by_cases h0 : x < 0
  · go_enter Try.func22, Try.ntmps22
    go_wp2
    exact ⟨rfl, ⟨_, rfl⟩, rfl⟩
  · have h2 : 268435456 ≤ x := by omega
    go_enter Try.func22, Try.ntmps22
    go_wp2
    exact ⟨rfl, ⟨_, rfl⟩, rfl⟩

/-- bytes.Clone: a copy of its own; nil stays nil. -/
theorem clone_ok (S : Nat → Prop) (v : Value) (n : Nat) (xs : List Nat) (hn : n < 1000000000) (w : World) (hv : View w S 1 v n (bys xs)) :
    Calls Try.prog 37 #[v] w fun e w' => ∃ A c, e = .returned (.slice A n c) ∧ Row w' (New w) 5 1 (.slice A n c) n (bys xs) ∧ Fr Nil w w' ∧ (A = none ↔ v = .slice none 0 0) := by
  have hv0 := hv
  obtain ⟨hl, A, c, rfl, e1, e2, e3, e4, e5⟩ := hv
  cases A with
  | none =>
    obtain rfl := e3 rfl
    obtain rfl : n = 0 := by omega
    have hx : bys xs = [] := List.eq_nil_of_length_eq_zero (by simpa using hl)
    go_enter Try.func37, Try.ntmps37
    go_wp2
    go_ret
    exact ⟨none, 0, rfl, Row.nil _ _ _ _, Fr.refl _ _, by simp⟩
  | some ad =>
    go_enter Try.func37, Try.ntmps37
    go_wp2_with (at_builtin; refine wp_app_view rfl _ _ 29 rfl (.int .u8 0) 1 Try.underlying29 info_u8 rfl (by decide) (Row.made w #[] 5 1 0 0 rfl (Nat.le_refl _) (by decide)) rfl (hv0.alloc _) rfl (bys_cell _) (by omega) (by decide) ?_)
    intro A cap w' r1 r2 r3
    have r4 : Row w' (New w) 5 1 (.slice A (0 + n) cap) (0 + n) (bys xs) := by
      refine Row.mono (by simpa using r1) fun k hk => ?_
      rcases hk with hk | hk
      · simp [Value.ownBlock] at hk
        unfold New; omega
      · unfold New; omega
    have r5 : Fr Nil w w' := ((Fr.refl Nil w).alloc _).trans r2 (fun k hk => by simp [Value.ownBlock] at hk; exact .inr (by omega))
    have r6 : A = none ↔ Value.slice (some ad) n c = .slice none 0 0 := by
      constructor
      · intro hA; exact absurd (r3.1 hA).1 (by simp)
      · intro hA; simp at hA
    clear r1 r2 r3
    rw [Nat.zero_add] at r4 ⊢
    have R6 := hid r6; clear r6
    go_wp2
    go_ret
    exact ⟨A, cap, rfl, r4, r5, R6.out⟩

/-- Writer.Out: a copy. -/
theorem out_ok (S : Nat → Prop) (pb : Nat) (xs : List Nat) (hx : xs.length ≤ 100000000) (w : World) (hW : IsW w S pb xs) :
    Calls Try.prog 23 #[.pointer (some ⟨pb, 0, none⟩)] w fun e w' => ∃ A c, e = .returned (.slice A xs.length c) ∧ Row w' (New w) 5 1 (.slice A xs.length c) xs.length (bys xs) ∧ Fr Nil w w' := by
  obtain ⟨hSp, v1, hb, hrow⟩ := hW
  have hc : w.cell? ⟨pb, 0, none⟩ = some v1 := hb.cell 0
  go_enter Try.func23, Try.ntmps23
  go_wp2_with fail
  refine (clone_ok S v1 xs.length xs (by omega) w hrow.view).mono ?_
  rintro e w1 ⟨A, c, rfl, r1, r2, r3⟩
  go_wp2
  go_ret
  exact ⟨A, c, rfl, r1, r2⟩
end Go.Proofs.Ytidpabcfcdiecaa

/- The texts VNdW, VNdR, VNdQ of this proof, one behind the other. Conditions: those of each. -/
import Derived.Test.YtgoghmblfdlnbaaGreatProg
import Derived.Recover
import Derived.Test.YtgoghmblfdlnbaaGreatGR1
import Derived.Test.YtgoghmblfdlnbaaGreatGR23
section
/- The contracts of cell.Writer: Num, Bytes, Out. Conditions: the writer is a block of the program's own. -/
set_option linter.unusedSimpArgs false
set_option linter.unusedVariables false
namespace Go.Proofs.YtgoghmblfdlnbaaGreat.nd
open Go.RowKit

theorem info_u8 : (Tryz.prog.info? 5).map (fun i => (i.zero, i.size, i.bytes)) = some (some (.int .u8 0), 1, 1) := by kernel_rfl

@[go_sem] theorem conv_str (w : World) (s : ByteArray) : (convert 9 30 (.string s)).run Tryz.prog w = .ok (.slice (some ⟨w.heap.size, 0, none⟩) s.size (grownCap w s.size 0 5)) (strW w 5 s) :=
  run_str_bytes w s Tryz.underlying9 Tryz.underlying30 Tryz.underlying5

/-- A Writer at block pb that has written xs; its blocks are among S. -/
def IsW (w : World) (S : Nat → Prop) (pb : Nat) (xs : List Nat) : Prop :=
  S pb ∧ ∃ v, Blk w pb #[v] 131 ∧ Row w S 5 1 v xs.length (bys xs)

/-- x = append(x, u) of a byte, its cell just made. -/
theorem app_u8 {ops : Array Oper} {rest : List Oper} {o : Oper} {a : Act} {Q : Exit → Act → World → Prop} {w : World} {S : Nat → Prop} {v : Value} {xs : List Nat} (hgd : o.guard = none) (x y : Operand)
    (ho : o.op = .call { callee := .builtin .append, args := #[x, y], argTypes := #[30, 30] }) (u : Int) (n : Nat) (hu : u = n)
    (hrow : Row w S 5 1 v xs.length (bys xs)) (hs : a.eval x = v) (hx : a.eval y = .slice (some ⟨w.heap.size, 0, none⟩) 1 1) (hb : xs.length < 1000000000)
    (h : Stop (∀ g cap w', Row w' (fun k => k = g) 5 1 (.slice (some ⟨g, 0, none⟩) (xs.length + 1) cap) (xs.length + 1) (bys (xs ++ [n])) → (v.ownBlock = some g ∨ w.heap.size ≤ g) → Fr (fun k => v.ownBlock = some k) w w' → g < w'.heap.size →
      wpList Tryz.prog ops Q rest (a.put o.dst (.slice (some ⟨g, 0, none⟩) (xs.length + 1) cap)) w') .mk) : wpList Tryz.prog ops Q (o :: rest) a (w.alloc (.cells #[.int .u8 u] 5)) := by
  subst hu
  refine wp_app hgd x y 30 ho (.int .u8 0) 1 Tryz.underlying30 info_u8 rfl (by decide) (hrow.alloc _) hs _ 1 1 [.int .u8 n] hx (by decide) rfl (cell_one_new _ _ _) (by simp [Value.oneCell']) (by omega) (by decide) ?_
  intro g cap w' h1 h2 h3 h4 _
  rw [← bys_one] at h1
  refine h g cap w' h1 (h2.imp id fun h => by simp at h; omega) ?_ h4
  exact ((Fr.refl _ w).alloc _).trans h3 (fun _ h => .inl h)

theorem IsW.mono {w : World} {S S' : Nat → Prop} {pb : Nat} {xs : List Nat} (h : IsW w S pb xs) (hs : ∀ k, S k → S' k) : IsW w S' pb xs :=
  ⟨hs _ h.1, h.2.elim fun v h => ⟨v, h.1, h.2.mono hs⟩⟩
theorem IsW.fr {w w1 : World} {S S1 : Nat → Prop} {pb : Nat} {xs : List Nat} (h : IsW w S pb xs) (hf : Fr S1 w w1) (hn : ∀ k, S k → ¬ S1 k) : IsW w1 S pb xs :=
  ⟨h.1, h.2.elim fun v h' => ⟨v, h'.1.fr hf (hn _ h.1), h'.2.frS hf hn⟩⟩

/-- Its blocks are there. -/
theorem IsW.bd {w : World} {S : Nat → Prop} {pb : Nat} {xs : List Nat} (h : IsW w S pb xs) : IsW w (fun k => S k ∧ k < w.heap.size) pb xs :=
  ⟨⟨h.1, h.2.elim fun v h' => h'.1.lt⟩, h.2.elim fun v h' => ⟨v, h'.1, h'.2.1, fun k hk => ⟨h'.2.2 k hk, h'.2.lt k hk⟩⟩⟩
/-- A row that was appended to is stored back. -/
theorem stored_view {w w1 w2 : World} {S : Nat → Prop} {pb n' cap n : Nat} {A : Option Addr} {v : Value} {xs ys : List Nat} (hl : ys.length = n') (hfr : Fr S w w1) (hSp : Grow w S pb) (hb : Blk w1 pb #[v] 131) (hrow : Row w1 (Grow w S) 5 1 v n (bys xs))
    (h1 : Row w2 (fun k => v.ownBlock = some k ∨ w1.heap.size ≤ k) 5 1 (.slice A n' cap) n' (bys ys)) (h3 : Fr (fun k => v.ownBlock = some k) w1 w2) :
    w2.cell? ⟨pb, 0, none⟩ = some v ∧ w2.frozen? ⟨pb, 0, none⟩ = false ∧ IsW (w2.setCell ⟨pb, 0, none⟩ (.slice A n' cap)) (Grow w S) pb ys ∧ Fr S w (w2.setCell ⟨pb, 0, none⟩ (.slice A n' cap)) := by
  subst hl
  have hne := hrow.apart_blk hb (by decide)
  have hb2 := hb.fr h3 hne
  have hf : Fr S w w2 := hfr.trans h3 (fun k hk => hrow.2 k hk)
  refine ⟨hb2.cell 0, hb2.frozen 0, ⟨hSp, _, hb2.set 0 _, ?_⟩, hf.setCell (a := ⟨pb, 0, none⟩) hSp _⟩
  exact (h1.setCell (h1.apart_blk hb2 (by decide)) _).mono (fun k hk => hk.elim (fun h => hrow.2 k h) (fun h => .inr (Nat.le_trans hfr.size h)))
theorem stored_row {w w1 w2 : World} {S : Nat → Prop} {pb g n' cap n : Nat} {v : Value} {xs ys : List Nat} (hl : ys.length = n') (hfr : Fr S w w1) (hSp : Grow w S pb) (hb : Blk w1 pb #[v] 131) (hrow : Row w1 (Grow w S) 5 1 v n (bys xs))
    (h1 : Row w2 (fun k => k = g) 5 1 (.slice (some ⟨g, 0, none⟩) n' cap) n' (bys ys)) (h2 : v.ownBlock = some g ∨ w1.heap.size ≤ g) (h3 : Fr (fun k => v.ownBlock = some k) w1 w2) :
    w2.cell? ⟨pb, 0, none⟩ = some v ∧ w2.frozen? ⟨pb, 0, none⟩ = false ∧ IsW (w2.setCell ⟨pb, 0, none⟩ (.slice (some ⟨g, 0, none⟩) n' cap)) (Grow w S) pb ys ∧ Fr S w (w2.setCell ⟨pb, 0, none⟩ (.slice (some ⟨g, 0, none⟩) n' cap)) :=
  stored_view hl hfr hSp hb hrow (h1.mono fun k hk => by rw [hk]; exact h2) h3

set_option maxRecDepth 100000 in
set_option maxHeartbeats 800000 in
theorem num_ok (S : Nat → Prop) (pb : Nat) (xs : List Nat) (x : Nat) (h1 : x < 268435456) (hx : xs.length ≤ 1000000) (w : World) (hW : IsW w S pb xs) :
    Calls Tryz.prog 68 #[.pointer (some ⟨pb, 0, none⟩), .int .i64 x] w fun e w' => e = .returned (.tuple #[]) ∧ Fr S w w' ∧ IsW w' (Grow w S) pb (xs ++ enc x) := by
  have hA : decide ((268435456 : Int) ≤ (x : Int)) = false := by simp; omega
  have hB : decide ((x : Int) < 0) = false := by simp
  go_enter Tryz.func68, Tryz.ntmps68
  go_wp2_with fail
  go_loopw [1] (fun xv wr => ∃ (x' : Nat) (xs' : List Nat), xv = .int .i64 x' ∧ IsW wr (Grow w S) pb xs' ∧ Fr S w wr ∧ xs' ++ enc x' = xs ++ enc x ∧ xs'.length + x' ≤ xs.length + x) (fun xv _ => (intOf xv).toNat)
  case atStart => exact ⟨x, xs, rfl, ⟨.inl hW.1, hW.2.elim fun v h => ⟨v, h.1, h.2.mono fun _ h => .inl h⟩⟩, Fr.refl _ _, rfl, Nat.le_refl _⟩
  case round =>
    obtain ⟨x', xs', rfl, ⟨hSp, v, hb, hrow⟩, hfr, heq, hle⟩ := hrel
    have Heq := hid heq; clear heq
    have hc : wr.cell? ⟨pb, 0, none⟩ = some v := hb.cell 0
    have hf := hb.frozen 0
    by_cases hlt : x' < 128
    · go_wp2_with (at_builtin; refine app_u8 rfl _ _ rfl _ x' rfl hrow rfl rfl (by omega) ?_)
      intro g cap w' r1 r2 r3 _
      obtain ⟨c1, f1, i1, i2⟩ := stored_row (by simp) hfr hSp hb hrow r1 r2 r3
      go_wp2
      go_end0
      refine ⟨rfl, ?_, ?_⟩
      · exact i2
      · rw [← Heq.out, enc_lo hlt]; exact i1
    · go_wp2_with (at_builtin; refine app_u8 rfl _ _ rfl _ (x' % 128 + 128) (or128 x') hrow rfl rfl (by omega) ?_)
      intro g cap w' r1 r2 r3 _
      obtain ⟨c1, f1, i1, i2⟩ := stored_row (by simp) hfr hSp hb hrow r1 r2 r3
      go_wp2
      go_roundw
      case rel =>
        exact ⟨x' / 128, xs' ++ [x' % 128 + 128], by go_num, i1, i2, (enc_step xs' hlt).trans Heq.out, by simp; omega⟩
      case measure => simp [intOf]; omega

/-- A number that may not be: it panics, and nothing has turned. -/
theorem num_bad (p : Option Addr) (x : Int) (h1 : x < 0 ∨ 268435456 ≤ x) (w : World) :
    Calls Tryz.prog 68 #[.pointer p, .int .i64 x] w fun e w' => (∃ v, e = .panicked [{ v := .iface 9 v, recovered := false }]) ∧ w = w' := by
  by_cases h0 : x < 0
  · go_enter Tryz.func68, Tryz.ntmps68
    go_wp2
    exact ⟨rfl, ⟨_, rfl⟩, rfl⟩
  · have h2 : 268435456 ≤ x := by omega
    go_enter Tryz.func68, Tryz.ntmps68
    go_wp2
    exact ⟨rfl, ⟨_, rfl⟩, rfl⟩

/-- bytes.Clone: a copy of its own; nil stays nil. -/
theorem clone_ok (S : Nat → Prop) (v : Value) (n : Nat) (xs : List Nat) (hn : n < 1000000000) (w : World) (hv : View w S 1 v n (bys xs)) :
    Calls Tryz.prog 55 #[v] w fun e w' => ∃ A c, e = .returned (.slice A n c) ∧ Row w' (New w) 5 1 (.slice A n c) n (bys xs) ∧ Fr Nil w w' ∧ (A = none ↔ v = .slice none 0 0) := by
  have hv0 := hv
  obtain ⟨hl, A, c, rfl, e1, e2, e3, e4, e5⟩ := hv
  cases A with
  | none =>
    obtain rfl := e3 rfl
    obtain rfl : n = 0 := by omega
    have hx : bys xs = [] := List.eq_nil_of_length_eq_zero (by simpa using hl)
    go_enter Tryz.func55, Tryz.ntmps55
    go_wp2
    go_ret
    exact ⟨none, 0, rfl, Row.nil _ _ _ _, Fr.refl _ _, by simp⟩
  | some ad =>
    go_enter Tryz.func55, Tryz.ntmps55
    go_wp2_with (at_builtin; refine wp_app_view rfl _ _ 30 rfl (.int .u8 0) 1 Tryz.underlying30 info_u8 rfl (by decide) (Row.made w #[] 5 1 0 0 rfl (Nat.le_refl _) (by decide)) rfl (hv0.alloc _) rfl (bys_cell _) (by omega) (by decide) ?_)
    intro A cap w' r1 r2 r3
    have r4 : Row w' (New w) 5 1 (.slice A (0 + n) cap) (0 + n) (bys xs) := by
      refine Row.mono (by simpa using r1) fun k hk => ?_
      rcases hk with hk | hk
      · simp [Value.ownBlock] at hk
        unfold New; omega
      · unfold New; omega
    have r5 : Fr Nil w w' := ((Fr.refl Nil w).alloc _).trans r2 (fun k hk => by simp [Value.ownBlock] at hk; exact .inr (by omega))
    have r6 : A = none ↔ Value.slice (some ad) n c = .slice none 0 0 := by
      constructor
      · intro hA; exact absurd (r3.1 hA).1 (by simp)
      · intro hA; simp at hA
    clear r1 r2 r3
    rw [Nat.zero_add] at r4 ⊢
    have R6 := hid r6; clear r6
    go_wp2
    go_ret
    exact ⟨A, cap, rfl, r4, r5, R6.out⟩

/-- Writer.Out: a copy. -/
theorem out_ok (S : Nat → Prop) (pb : Nat) (xs : List Nat) (hx : xs.length ≤ 100000000) (w : World) (hW : IsW w S pb xs) :
    Calls Tryz.prog 69 #[.pointer (some ⟨pb, 0, none⟩)] w fun e w' => ∃ A c, e = .returned (.slice A xs.length c) ∧ Row w' (New w) 5 1 (.slice A xs.length c) xs.length (bys xs) ∧ Fr Nil w w' := by
  obtain ⟨hSp, v1, hb, hrow⟩ := hW
  have hc : w.cell? ⟨pb, 0, none⟩ = some v1 := hb.cell 0
  go_enter Tryz.func69, Tryz.ntmps69
  go_wp2_with fail
  refine (clone_ok S v1 xs.length xs (by omega) w hrow.view).mono ?_
  rintro e w1 ⟨A, c, rfl, r1, r2, r3⟩
  go_wp2
  go_ret
  exact ⟨A, c, rfl, r1, r2⟩
end Go.Proofs.YtgoghmblfdlnbaaGreat.nd
end

section
/- The contracts of cell.Reader: Num, Bytes, Left. Conditions: the reader is a block of the program's own. -/
set_option linter.unusedSimpArgs false
set_option linter.unusedVariables false
namespace Go.Proofs.YtgoghmblfdlnbaaGreat.nd
open Go.RowKit

/-- A Reader at block rb that has xs before it; what it reads lies among S. -/
def IsR (w : World) (S : Nat → Prop) (rb : Nat) (xs : List Nat) : Prop :=
  S rb ∧ ∃ v, Blk w rb #[v] 160 ∧ View w (fun k => S k ∧ k ≠ rb) 1 v xs.length (bys xs)

theorem IsR.fr {w w1 : World} {S S1 : Nat → Prop} {rb : Nat} {xs : List Nat} (h : IsR w S rb xs) (hf : Fr S1 w w1) (hn : ∀ k, S k → k < w.heap.size → ¬ S1 k) : IsR w1 S rb xs :=
  ⟨h.1, h.2.elim fun v h' => ⟨v, h'.1.fr hf (hn _ h.1 h'.1.lt), h'.2.fr hf fun k hk hl => hn k hk.1 hl⟩⟩
/-- The reader goes on. -/
theorem IsR.adv {w : World} {S : Nat → Prop} {rb n l cap : Nat} {A : Option Addr} {xs : List Nat} (hS : S rb) (hn : xs.length = n) (hb : Blk w rb #[.slice A n cap] 160) (hv : View w (fun k => S k ∧ k ≠ rb) 1 (.slice A n cap) n (bys xs)) (hl : l ≤ n)
    (A' : Option Addr) (c' : Nat) (hA' : A' = if cap = l then A else A.map (·.add l)) (hc' : c' = cap - l) :
    Fr (fun k => k = rb) w (w.setCell ⟨rb, 0, none⟩ (.slice A' (n - l) c')) ∧ IsR (w.setCell ⟨rb, 0, none⟩ (.slice A' (n - l) c')) S rb (xs.drop l) := by
  have hfr : Fr (fun k => k = rb) w (w.setCell ⟨rb, 0, none⟩ (.slice A' (n - l) c')) := (Fr.refl (fun k => k = rb) w).setCell (a := ⟨rb, 0, none⟩) (.inl rfl) _
  refine ⟨hfr, hS, _, hb.set 0 _, ?_⟩
  have hd1 := (hv.drop (l := l) hl).fr hfr (fun k hk _ => hk.2)
  rw [Nat.mul_one, bys_drop'] at hd1
  have e2' : (xs.drop l).length = n - l := by rw [List.length_drop, hn]
  rw [e2']
  have e3' : sliced A l n cap 1 = .slice A' (n - l) c' := by
    rw [hA', hc', sliced]; simp
  rw [e3'] at hd1
  exact hd1

/-- What a broken reading panics with. -/
def brk (e : Int) : List PanicEntry := [{ v := .iface 158 (.agg #[.int .i64 e]), recovered := false }]

theorem must_ok (e : Int) (w : World) : Calls Tryz.prog 99 #[.bool true, .int .i64 e] w fun en w' => en = .returned (.tuple #[]) ∧ w = w' := by
  go_enter Tryz.func99, Tryz.ntmps99
  go_wp2
  go_end0
  exact ⟨rfl, rfl⟩
theorem must_no (e : Int) (w : World) : Calls Tryz.prog 99 #[.bool false, .int .i64 e] w fun en w' => en = .panicked (brk e) ∧ w = w' := by
  go_enter Tryz.func99, Tryz.ntmps99
  go_wp2
  exact ⟨rfl, rfl, rfl⟩

/-- What Num leaves. -/
def NumPost (w : World) (S : Nat → Prop) (rb : Nat) (e : Ending) (w' : World) : Got Nat → Prop
  | .ok x rest => e = .returned (.int .i64 x) ∧ Fr (fun k => k = rb) w w' ∧ IsR w' S rb rest
  | .bad er => e = .panicked (brk er) ∧ w = w'

set_option maxRecDepth 100000 in
set_option maxHeartbeats 1600000 in
theorem rnum_any (S : Nat → Prop) (rb : Nat) (xs : List Nat) (hx : xs.length ≤ 1000000) (hB : Byt xs) (w : World) (hR : IsR w S rb xs) :
    Calls Tryz.prog 78 #[.pointer (some ⟨rb, 0, none⟩)] w fun e w' => NumPost w S rb e w' (num xs) := by
  obtain ⟨hS, v, hb, hv⟩ := hR
  have hc : w.cell? ⟨rb, 0, none⟩ = some v := hb.cell 0
  have hf : w.frozen? ⟨rb, 0, none⟩ = false := hb.frozen 0
  have hv0 := hv
  obtain ⟨hl, A, cap, rfl, e1, e2, e3, e4, e5⟩ := hv
  have E5 := hid e5; clear e5; have Hl := hid hl; clear hl; clear e3 e4
  go_enter Tryz.func78, Tryz.ntmps78
  go_wp2_with fail
  go_loop [3, 8] (fun a3 a8 => ∃ (i x : Nat) (pre rest : List Nat), a3 = .int .i64 x ∧ a8 = .int .i64 i ∧ i ≤ 4 ∧ Hid (xs = pre ++ rest) ∧ Hid (pre.length = i) ∧ Hid (numF (4 - i) i x rest = num xs) ∧ Hid (x < 128 ^ i)) (fun _ a8 => 4 - (intOf a8).toNat)
  case atStart => exact ⟨0, 0, [], xs, rfl, rfl, by omega, rfl, rfl, rfl, hid (by decide)⟩
  case round =>
    obtain ⟨i, x, pre, rest, rfl, rfl, hi, hxs, hpre, hn, hxi⟩ := hrel
    by_cases hi4 : i < 4
    · cases rest with
      | nil =>
        have hlen : xs.length = i := by rw [hxs.out, List.append_nil, hpre.out]
        have hd : decide (i < xs.length) = false := by simp [hlen]
        have Hlen := hid hlen; clear hlen
        go_wp2_with (go_at_call 99; ((with_reducible refine (must_no _ _).mono ?_); rintro e w1 ⟨rfl, rfl⟩))
        refine ⟨rfl, ?_⟩
        show NumPost w S rb _ w (num xs)
        rw [← hn.out, show 4 - i = (3 - i) + 1 by omega]
        exact ⟨rfl, rfl⟩
      | cons c t =>
        have hlen : xs.length = i + (t.length + 1) := by rw [hxs.out, List.length_append, hpre.out, List.length_cons]
        have hd : decide (i < xs.length) = true := by simp [hlen]
        have hc256 : c < 256 := hB c (by rw [hxs.out]; simp)
        obtain ⟨b, o, rfl, ⟨hSb, hbne⟩, hbl, hcells⟩ := E5.out (by omega)
        have hcell : w.cell? ⟨b, o + i, none⟩ = some (.int .u8 (c : Int)) := hcells i _ (by rw [hxs.out, bys_append, List.getElem?_append_right (by rw [bys_length, hpre.out]; exact Nat.le_refl _), bys_length, hpre.out]; simp [bys])
        have hilt : i < xs.length := by omega
        have Hlen := hid hlen; clear hlen
        clear hcells
        have Hg := hid (grp x c i hxi.out hc256 hi4)
        have hfin : ∀ A' c', A' = (if cap = i + 1 then some ⟨b, o, none⟩ else some ⟨b, o + (i + 1), none⟩) → c' = cap - (i + 1) →
            Fr (fun k => k = rb) w (w.setCell ⟨rb, 0, none⟩ (.slice A' (xs.length - (i + 1)) c')) ∧ IsR (w.setCell ⟨rb, 0, none⟩ (.slice A' (xs.length - (i + 1)) c')) S rb t := by
          intro A' c' hA' hc'
          have hfr : Fr (fun k => k = rb) w (w.setCell ⟨rb, 0, none⟩ (.slice A' (xs.length - (i + 1)) c')) := (Fr.refl (fun k => k = rb) w).setCell (a := ⟨rb, 0, none⟩) (.inl rfl) _
          refine ⟨hfr, hS, _, hb.set 0 _, ?_⟩
          have hd1 := (hv0.drop (l := i + 1) (by omega)).fr hfr (fun k hk _ => hk.2)
          have e1' : (bys xs).drop ((i + 1) * 1) = bys t := by rw [hxs.out]; exact bys_drop pre c t i hpre.out
          rw [e1'] at hd1
          have e2' : xs.length - (i + 1) = t.length := by rw [Hlen.out]; omega
          rw [← e2']
          have e3' : sliced (some ⟨b, o, none⟩) (i + 1) xs.length cap 1 = .slice A' (xs.length - (i + 1)) c' := by
            rw [hA', hc', sliced]; simp [Addr.add_lit]
          rw [e3'] at hd1
          exact hd1
        have Hn := hid hn.out; clear hn
        by_cases h128 : c < 128
        · by_cases hz : c = 0 ∧ 0 < i
          · obtain ⟨rfl, hi0⟩ := hz
            have hb0 : ((i : Int) == 0) = false := by simp; omega
            go_wp2_with (go_at_call 99; first | ((with_reducible refine (must_ok _ _).mono ?_); rintro e w1 ⟨rfl, rfl⟩) | ((with_reducible refine (must_no _ _).mono ?_); rintro e w1 ⟨rfl, rfl⟩))
            refine ⟨rfl, ?_⟩
            show NumPost w S rb _ w (num xs)
            rw [← Hn.out, show 4 - i = (3 - i) + 1 by omega, numF, if_pos (by omega), if_pos ⟨rfl, hi0⟩]
            exact ⟨rfl, rfl⟩
          · have hres : num xs = .ok (x + c % 128 * 128 ^ i) t := by
              rw [← Hn.out, show 4 - i = (3 - i) + 1 by omega, numF, if_pos h128, if_neg hz]
            have Hres := hid hres; clear hres
            by_cases hc0 : 0 < c
            · have hcb : decide (0 < c) = true := by simp [hc0]
              go_wp2_with (go_at_call 99; ((with_reducible refine (must_ok _ _).mono ?_); rintro e w1 ⟨rfl, rfl⟩))
              all_goals
                go_ret
                rw [Hres.out]
                refine ⟨?_, ?_⟩
                · simp; exact Hg.out
                · apply hfin <;> simp [*]
            · have hcb : decide (0 < c) = false := by simp; omega
              have hb0 : ((i : Int) == 0) = true := by simp; omega
              clear hz hc0
              go_wp2_with (go_at_call 99; ((with_reducible refine (must_ok _ _).mono ?_); rintro e w1 ⟨rfl, rfl⟩))
              all_goals
                go_ret
                rw [Hres.out]
                refine ⟨?_, ?_⟩
                · simp; exact Hg.out
                · apply hfin <;> simp [*]
        · go_wp2_with (go_at_call 99; ((with_reducible refine (must_ok _ _).mono ?_); rintro e w1 ⟨rfl, rfl⟩))
          go_round
          case rel =>
            refine ⟨i + 1, x + c % 128 * 128 ^ i, pre ++ [c], t, ?_, by go_num, by omega, hid (by rw [hxs.out]; simp), hid (by rw [List.length_append, hpre.out]; rfl), hid ?_, hid (numF_lt x c i hxi.out)⟩
            · rw [Hg.out]
            · rw [← Hn.out, show 4 - i = (4 - (i + 1)) + 1 by omega, numF, if_neg h128]
          case measure => simp [intOf]; omega
    · have hi44 : i = 4 := by omega
      subst hi44
      go_wp2
      refine ⟨rfl, ?_⟩
      show NumPost w S rb _ w (num xs)
      rw [← hn.out]
      exact ⟨rfl, rfl⟩

/-- What Bytes leaves. -/
def BytPost (w : World) (S : Nat → Prop) (rb : Nat) (e : Ending) (w' : World) : Got (List Nat) → Prop
  | .ok l rest => Fr (fun k => k = rb) w w' ∧ IsR w' S rb rest ∧ ∃ A c, e = .returned (.slice A l.length c) ∧ Row w' (New w) 5 1 (.slice A l.length c) l.length (bys l)
  | .bad er => Fr (fun k => k = rb) w w' ∧ e = .panicked (brk er)

end Go.Proofs.YtgoghmblfdlnbaaGreat.nd
end

section
/- cell.Read: what it answers by what the function that it calls does. -/
set_option linter.unusedSimpArgs false
set_option linter.unusedVariables false
namespace Go.Proofs.YtgoghmblfdlnbaaGreat.nd
open Go.RowKit

@[go_sem] theorem assert_fault (v : Value) (w : World) : (Instr.typeAssert (.iface 158 v) 20 158 true).run Tryz.prog w = .ok (.tuple #[v, .bool true]) w := by kernel_rfl
@[go_sem] theorem assert_text (v : Value) (w : World) : (Instr.typeAssert (.iface 9 v) 20 158 true).run Tryz.prog w = .ok (.tuple #[.agg #[.int .i64 0], .bool false]) w := by kernel_rfl

@[go_sem] theorem eql_func_nil (f : Fn) (a c : Array Value) (w : World) : (binOp .eql 140 (.func f a c) .nilFunc).run Tryz.prog w = .ok (.bool false) w := by kernel_rfl
@[go_sem] theorem eql_nil_func (w : World) : (binOp .eql 140 .nilFunc .nilFunc).run Tryz.prog w = .ok (.bool true) w := by kernel_rfl

/-- The deferred function, where nothing panics. -/
theorem read_rec_ret (eb : Nat) (w : World) : CallsD Tryz.prog 98 #[.pointer (some ⟨eb, 0, none⟩)] .returning w fun e u' w' => e = .returned (.tuple #[]) ∧ u' = .returning ∧ w = w' := by
  refine callsD_of_wpS Tryz.func98 rfl fun c₀ cs hu => ?_
  simp only [Tryz.ntmps98, List.size_toArray, List.length_cons, List.length_nil, Nat.reduceAdd, Nat.reduceSub, Array.replicate_succ, Array.replicate_zero, List.push_toArray, List.append_toArray, List.nil_append, List.cons_append]
  apply wpS_seq
  apply wpS_region
  simp [wpOpsS, go_sem, recoverD, hu, Tryz.ntmps98, Exit.thenS]
  refine wpS_plain (fun e a' w' => e = .normal ∧ a'.defers = [] ∧ w = w') (fun Q' hQ => ?_) ?_
  · go_wp2
  · rintro e a' w' ⟨rfl, h0, rfl⟩
    cases c₀
    simp_all [bodyPostS, results, Tryz.results98]

/-- .. where the reading broke. -/
theorem read_rec_brk (eb : Nat) (er x : Int) (older : List PanicEntry) (w : World) (hb : Blk w eb #[.int .i64 x] 40) : CallsD Tryz.prog 98 #[.pointer (some ⟨eb, 0, none⟩)] (.panicking ({ v := .iface 158 (.agg #[.int .i64 er]), recovered := false } :: older)) w fun e u' w' =>
    e = .returned (.tuple #[]) ∧ u' = .panicking ({ v := .iface 158 (.agg #[.int .i64 er]), recovered := true } :: older) ∧ Fr (fun k => k = eb) w w' ∧ Blk w' eb #[.int .i64 er] 40 := by
  have hc : w.cell? ⟨eb, 0, none⟩ = some (.int .i64 x) := hb.cell 0
  have hf : w.frozen? ⟨eb, 0, none⟩ = false := hb.frozen 0
  have hlt : eb < w.heap.size := hb.lt
  refine callsD_of_wpS Tryz.func98 rfl fun c₀ cs hu => ?_
  simp only [Tryz.ntmps98, List.size_toArray, List.length_cons, List.length_nil, Nat.reduceAdd, Nat.reduceSub, Array.replicate_succ, Array.replicate_zero, List.push_toArray, List.append_toArray, List.nil_append, List.cons_append]
  apply wpS_seq
  apply wpS_region
  simp [wpOpsS, go_sem, recoverD, hu, Tryz.ntmps98, Exit.thenS]
  refine wpS_plain (fun e a' w' => e = .normal ∧ a'.defers = [] ∧ Fr (fun k => k = eb) w w' ∧ Blk w' eb #[.int .i64 er] 40) (fun Q' hQ => ?_) ?_
  · go_wp2
    refine ⟨?_, ?_⟩
    · exact ((Fr.refl (fun k => k = eb) w).setCell (a := ⟨eb, 0, none⟩) (.inl rfl) _).alloc _
    · exact (hb.set 0 _).alloc _
  · rintro e a' w' ⟨rfl, h0, h1, h2⟩
    cases c₀
    simp_all [bodyPostS, results, Tryz.results98]

/-- What cell.Read leaves. -/
def ReadPost (w : World) (T : Nat → Prop) (D : List Nat → World → Prop) (B : Int → World → Prop) (e : Ending) (w' : World) : Prop :=
  ∃ w2, Fr T w w2 ∧ Fr (fun k => k = w.heap.size) w2 w' ∧
      ((∃ rest, D rest w2 ∧ e = .returned (.int .i64 (if rest.isEmpty then 0 else 3))) ∨ (∃ er, B er w2 ∧ e = .returned (.int .i64 er)))

/-- cell.Read of a function that reads: it may write T (elder blocks) and what it makes. -/
theorem read_ok (K : Nat) (caps : Array Value) (v : Value) (n : Nat) (xs : List Nat) (S1 T : Nat → Prop) (hn : n ≤ 900000) (w : World) (hv : View w S1 1 v n (bys xs)) (hT : ∀ k, T k → k < w.heap.size)
    (hK : ∀ args w, (callFunc K args).run Tryz.prog w = .ok (.enter K args) w)
    (D : List Nat → World → Prop) (B : Int → World → Prop)
    (hF : ∀ w1 rb, w.heap.size < rb → rb < w1.heap.size → IsR w1 (fun k => w.heap.size < k) rb xs → Fr Nil w w1 → Calls Tryz.prog K (#[.pointer (some ⟨rb, 0, none⟩)] ++ caps) w1 fun e w2 => Fr (fun k => T k ∨ k = rb) w1 w2 ∧
      ((∃ rest, e = .returned (.tuple #[]) ∧ IsR w2 (fun k => w.heap.size < k) rb rest ∧ D rest w2) ∨ (∃ er, e = .panicked (brk er) ∧ B er w2))) :
    Calls Tryz.prog 76 #[v, .func (.func K) #[] caps] w (ReadPost w T D B) := by
  obtain ⟨A, c, rfl⟩ : ∃ A c, v = .slice A n c := let ⟨_, A, c, e, _⟩ := hv; ⟨A, c, e⟩
  have H := hid hF; clear hF
  go_enter_defers Tryz.func76, Tryz.ntmps76
  go_wp2_with fail
  have hn2 : xs.length = n := by have := hv.length; rwa [bys_length, Nat.mul_one] at this
  refine (clone_ok S1 _ n xs (by omega) _ (hv.alloc _)).mono ?_
  rintro e w1 ⟨A2, c2, rfl, r1, r2, _⟩
  have hb1 : Blk w1 w.heap.size #[.int .i64 0] 40 := (Blk.new w _ _).fr r2 (fun h => h)
  have hsz := r2.size
  rw [World.size_alloc] at hsz
  go_wp2_with fail
  have hf1 : Fr Nil w (w1.alloc (.cells #[.slice A2 n c2] 160)) := (((Fr.refl Nil w).alloc _).thenNil r2).alloc _
  have hb2 : Blk (w1.alloc (.cells #[.slice A2 n c2] 160)) w.heap.size #[.int .i64 0] 40 := hb1.alloc _
  have hR : IsR (w1.alloc (.cells #[.slice A2 n c2] 160)) (fun k => w.heap.size < k) w1.heap.size xs := by
    refine ⟨by omega, _, Blk.new _ _ _, ?_⟩
    rw [hn2]
    exact (View.alloc (r1.view.bd.mono fun k hk => ⟨by have := hk.1; unfold New at this; simp at this; omega, by have := hk.2; omega⟩) _)
  refine (H.out (w1.alloc (.cells #[.slice A2 n c2] 160)) w1.heap.size (by omega) (by simp) hR hf1).mono ?_
  intro e w2 ⟨hf2, hres⟩
  have hb3 := hb2.fr hf2 (fun h => h.elim (fun h => by have := hT _ h; omega) (fun h => by omega))
  have hfT : Fr T w w2 := hf1.nil.trans hf2 (fun k hk => hk.elim .inl (fun h => .inr (by omega)))
  have hc3 : w2.cell? ⟨w.heap.size, 0, none⟩ = some (.int .i64 0) := hb3.cell 0
  have hz3 : w2.frozen? ⟨w.heap.size, 0, none⟩ = false := hb3.frozen 0
  rcases hres with ⟨rest, rfl, hR2, hD⟩ | ⟨er, rfl, hB⟩
  · obtain ⟨hS, v2, hb4, hv4⟩ := hR2
    obtain ⟨hl4, A4, c4, rfl, -, -, -, -, -⟩ := hv4
    have hc4 : w2.cell? ⟨w1.heap.size, 0, none⟩ = some (.slice A4 rest.length c4) := hb4.cell 0
    by_cases hr : rest = []
    · subst hr
      go_wp2_with (go_at_call 99; ((with_reducible refine (must_ok _ _).mono ?_); rintro e w2 ⟨rfl, rfl⟩))
      have hcell : (w2.setCell ⟨w.heap.size, 0, none⟩ (.int .i64 0)).cell? ⟨w.heap.size, 0, none⟩ = some (.int .i64 0) := (hb3.set 0 _).cell 0
      refine leaves_cons (f := 98) (args := #[.pointer (some ⟨w.heap.size, 0, none⟩)]) (by simp) (by simp [go_sem]) ?_
      refine (read_rec_ret w.heap.size _).mono ?_
      rintro e u' w'' ⟨rfl, rfl, rfl⟩
      simp [Leaves, settle, results, Tryz.results76, go_sem, hcell]
      exact ⟨w2, hfT, (Fr.refl (fun k => k = w.heap.size) w2).setCell (a := ⟨w.heap.size, 0, none⟩) (.inl rfl) _, .inl ⟨[], hD, rfl⟩⟩
    · have hlen : ((rest.length : Int) == 0) = false := by
        have : rest.length ≠ 0 := fun h => hr (List.eq_nil_of_length_eq_zero h)
        simp; omega
      go_wp2_with (go_at_call 99; ((with_reducible refine (must_no _ _).mono ?_); rintro e w2 ⟨rfl, rfl⟩))
      show bodyPostD Tryz.prog Tryz.f76 (ReadPost w T D B) (Exit.panic (brk 3)) _ _
      refine leaves_cons (f := 98) (args := #[.pointer (some ⟨w.heap.size, 0, none⟩)]) (by simp) (by simp [go_sem]) ?_
      refine (read_rec_brk w.heap.size 3 0 [] _ hb3).mono ?_
      rintro e u' w'' ⟨rfl, rfl, hf5, hb5⟩
      have hcell : w''.cell? ⟨w.heap.size, 0, none⟩ = some (.int .i64 3) := hb5.cell 0
      simp [Leaves, settle, results, Tryz.results76, go_sem, hcell]
      refine ⟨w2, hfT, hf5, .inl ⟨rest, hD, ?_⟩⟩
      cases rest with
      | nil => exact absurd rfl hr
      | cons => rfl
  · show bodyPostD Tryz.prog Tryz.f76 (ReadPost w T D B) (Exit.panic (brk er)) _ _
    refine leaves_cons (f := 98) (args := #[.pointer (some ⟨w.heap.size, 0, none⟩)]) (by simp) (by simp [go_sem]) ?_
    refine (read_rec_brk w.heap.size er 0 [] _ hb3).mono ?_
    rintro e u' w'' ⟨rfl, rfl, hf5, hb5⟩
    have hcell : w''.cell? ⟨w.heap.size, 0, none⟩ = some (.int .i64 er) := hb5.cell 0
    simp [Leaves, settle, results, Tryz.results76, go_sem, hcell]
    exact ⟨w2, hfT, hf5, .inr ⟨er, hB, rfl⟩⟩

end Go.Proofs.YtgoghmblfdlnbaaGreat.nd
end

/- platter's Fail; Write, Read, Sync whether or not a fault is planned. Conditions: the platter is a block of the program's own. -/
import Derived.Test.YtidjmjfoheagmaaQPlatA
set_option linter.unusedSimpArgs false
set_option linter.unusedVariables false
namespace Go.Proofs.Ytidjmjfoheagmaa
open Go.RowKit

theorem info_fault : (Try.prog.info? 46).map (fun i => (i.zero, i.size, i.bytes)) = some (some (.agg #[.int .i64 0, .int .i64 0]), 2, 16) := by kernel_rfl
theorem flatF_cell (fa : List (Int × Int)) : ∀ u ∈ flatF fa, u.oneCell' = true := by
  intro u hu
  obtain ⟨q, _, hq⟩ := List.mem_flatMap.1 hu
  simp only [List.mem_cons, List.not_mem_nil, or_false] at hq
  rcases hq with rfl | rfl <;> rfl

theorem clonef_ok (S : Nat → Prop) (v : Value) (n : Nat) (fa : List (Int × Int)) (hn : n < 1000000) (w : World) (hv : View w S 2 v n (flatF fa)) :
    Calls Try.prog 35 #[v] w fun e w' => ∃ A c, e = .returned (.slice A n c) ∧ Row w' (New w) 46 2 (.slice A n c) n (flatF fa) ∧ Fr Nil w w' := by
  have hv0 := hv
  obtain ⟨hl, A, c, rfl, e1, e2, e3, e4, e5⟩ := hv
  cases A with
  | none =>
    obtain rfl := e3 rfl
    obtain rfl : n = 0 := by omega
    have hx : flatF fa = [] := List.eq_nil_of_length_eq_zero (by simpa using hl)
    go_enter Try.func35, Try.ntmps35
    go_wp2
    go_ret
    exact ⟨none, 0, rfl, Row.nil _ _ _ _, Fr.refl _ _⟩
  | some ad =>
    clear e3 e4 e5
    go_enter Try.func35, Try.ntmps35
    go_wp2_with (at_builtin; refine wp_app_view rfl _ _ 47 rfl (.agg #[.int .i64 0, .int .i64 0]) 16 Try.underlying47 info_fault rfl (by decide) (Row.made w #[] 46 2 0 0 rfl (Nat.le_refl _) (by decide)) rfl (hv0.alloc _) rfl (flatF_cell _) (by omega) (by decide) ?_)
    intro A cap w' r1 r2 _
    have r4 : Row w' (New w) 46 2 (.slice A (0 + n) cap) (0 + n) (flatF fa) := by
      refine Row.mono (by simpa using r1) fun k hk => ?_
      rcases hk with hk | hk
      · simp [Value.ownBlock] at hk
        unfold New; omega
      · unfold New; omega
    have r5 : Fr Nil w w' := ((Fr.refl Nil w).alloc _).trans r2 (fun k hk => by simp [Value.ownBlock] at hk; exact .inr (by omega))
    clear r1 r2
    rw [Nat.zero_add] at r4 ⊢
    go_wp2
    go_ret
    exact ⟨A, cap, rfl, r4, r5⟩

def Pl.fail (p : Pl) (fl : List (Int × Int)) : Pl := { p with fa := fl, si := fun _ => 0 }

set_option maxHeartbeats 1600000 in
theorem fail_ok (T S : Nat → Prop) (pb : Nat) (p : Pl) (v : Value) (n : Nat) (fl : List (Int × Int)) (hn : n = fl.length) (hl : n < 1000000) (w : World) (h : IsP w T pb p) (hv : View w S 2 v n (flatF fl)) :
    Calls Try.prog 20 #[.pointer (some ⟨pb, 0, none⟩), v] w fun e w' => e = .returned (.tuple #[]) ∧ IsP w' (Grow w T) pb (p.fail fl) ∧ Fr T w w' := by
  subst hn
  go_enter Try.func20, Try.ntmps20
  go_wp2_with fail
  refine (clonef_ok S v _ fl hl w hv).mono ?_
  rintro e w1 ⟨A, c, rfl, hR1, hf1⟩
  have hP1 := h.fr hf1 fun _ _ h => h
  obtain ⟨g0, vb, vc, vf, g1, g2, g3, g4⟩ := hP1
  have c2 : w1.cell? ⟨pb, 2, none⟩ = some vf := g1.cell 2
  have z2 : w1.frozen? ⟨pb, 2, none⟩ = false := g1.frozen 2
  have g12 := g1.set 2 (.slice A fl.length c)
  have c7 : (w1.setCell ⟨pb, 2, none⟩ (.slice A fl.length c)).cell? ⟨pb, 7, none⟩ = some (.int .i64 (p.si 0)) := g12.cell 7
  have c8 : (w1.setCell ⟨pb, 2, none⟩ (.slice A fl.length c)).cell? ⟨pb, 8, none⟩ = some (.int .i64 (p.si 1)) := g12.cell 8
  have c9 : (w1.setCell ⟨pb, 2, none⟩ (.slice A fl.length c)).cell? ⟨pb, 9, none⟩ = some (.int .i64 (p.si 2)) := g12.cell 9
  have c10 : (w1.setCell ⟨pb, 2, none⟩ (.slice A fl.length c)).cell? ⟨pb, 10, none⟩ = some (.int .i64 (p.si 3)) := g12.cell 10
  have z7 : (w1.setCell ⟨pb, 2, none⟩ (.slice A fl.length c)).frozen? ⟨pb, 7, none⟩ = false := g12.frozen 7
  have z8 : (w1.setCell ⟨pb, 2, none⟩ (.slice A fl.length c)).frozen? ⟨pb, 8, none⟩ = false := g12.frozen 8
  have z9 : (w1.setCell ⟨pb, 2, none⟩ (.slice A fl.length c)).frozen? ⟨pb, 9, none⟩ = false := g12.frozen 9
  have z10 : (w1.setCell ⟨pb, 2, none⟩ (.slice A fl.length c)).frozen? ⟨pb, 10, none⟩ = false := g12.frozen 10
  go_wp2
  go_end0
  have hfp : Fr (fun k => k = pb) w1 (((((w1.setCell ⟨pb, 2, none⟩ (.slice A fl.length c)).setCell ⟨pb, 7, none⟩ (.int .i64 0)).setCell ⟨pb, 8, none⟩ (.int .i64 0)).setCell ⟨pb, 9, none⟩ (.int .i64 0)).setCell ⟨pb, 10, none⟩ (.int .i64 0)) :=
    ((((((Fr.refl (fun k => k = pb) w1).setCell (a := ⟨pb, 2, none⟩) (.inl rfl) _).setCell (a := ⟨pb, 7, none⟩) (.inl rfl) _).setCell (a := ⟨pb, 8, none⟩) (.inl rfl) _).setCell (a := ⟨pb, 9, none⟩) (.inl rfl) _).setCell (a := ⟨pb, 10, none⟩) (.inl rfl) _)
  have hb := (((g12.set 7 (.int .i64 0)).set 8 (.int .i64 0)).set 9 (.int .i64 0)).set 10 (.int .i64 0)
  have hF : VT w1 (Grow w T) 46 2 (.slice A fl.length c) fl.length (flatF fl) := hR1.vt.mono fun k hk => .inr hk
  exact ⟨rfl, IsP.own (p := p.fail fl) (T := Grow w T) (.inl g0) g1 hfp hb (g2.mono fun k hk => .inl hk) (g3.mono fun k hk => .inl hk) hF, hf1.nil.then (hfp.mono fun k hk => by rw [hk]; exact g0)⟩

/-! ### whether or not a fault is planned -/
def wrote (b : Bool) (p : Pl) (n : Nat) (xs : List Nat) : Pl := if b then p.ask 2 else (p.ask 2).put n xs
def synced (b : Bool) (p : Pl) : Pl := if b then p.ask 3 else (p.ask 3).settle fun _ => true
theorem write_any (T S1 : Nat → Prop) (pb : Nat) (p : Pl) (n : Nat) (xs : List Nat) (v : Value) (w : World) (b : Bool) (hb : b = true ↔ p.bad 2) (h : IsP w T pb p) (hok : p.ok) (hn : n < p.bl.length) (hv : View w S1 1 v 64 (bys xs)) (hB : Byt xs) (hS : ∀ k, S1 k → ¬ T k) :
    Calls Try.prog 11 #[.pointer (some ⟨pb, 0, none⟩), .int .i64 n, v] w fun e w' => e = .returned (.int .i64 (if b then 6 else 0)) ∧ IsP w' (Grow w T) pb (wrote b p n xs) ∧ Fr T w w' := by
  cases b with
  | false => exact write_ok T S1 pb p n xs v w h hok (fun hh => by simpa using hb.2 hh) hn hv hB hS
  | true =>
    obtain ⟨A, c, rfl⟩ : ∃ A c, v = .slice A 64 c := let ⟨_, A, c, e, _⟩ := hv; ⟨A, c, e⟩
    exact (write_fault T pb p n 64 c A w h hok (hb.1 rfl)).mono fun e w' ⟨h1, h2, h3⟩ => ⟨h1, h2.mono fun k hk => .inl hk, h3.mono fun k hk => by rw [hk]; exact h.1⟩
theorem sync_any (T : Nat → Prop) (pb : Nat) (p : Pl) (w : World) (b : Bool) (hb : b = true ↔ p.bad 3) (h : IsP w T pb p) (hok : p.ok) :
    Calls Try.prog 16 #[.pointer (some ⟨pb, 0, none⟩)] w fun e w' => e = .returned (.int .i64 (if b then 6 else 0)) ∧ IsP w' T pb (synced b p) ∧ Fr T w w' := by
  cases b with
  | false => exact sync_ok T pb p w h hok (fun hh => by simpa using hb.2 hh)
  | true => exact (sync_fault T pb p w h hok (hb.1 rfl)).mono fun e w' ⟨h1, h2, h3⟩ => ⟨h1, h2, h3.mono fun k hk => by rw [hk]; exact h.1⟩
theorem read_any (T : Nat → Prop) (pb : Nat) (p : Pl) (n : Nat) (w : World) (b : Bool) (hb : b = true ↔ p.bad 1) (h : IsP w T pb p) (hok : p.ok) (hn : n < p.bl.length) :
    Calls Try.prog 13 #[.pointer (some ⟨pb, 0, none⟩), .int .i64 (n : Int)] w fun e w' => ∃ A c, e = .returned (.tuple #[.slice A (if b then 0 else 64) c, .int .i64 (if b then 6 else 0)]) ∧ View w' (New w) 1 (.slice A (if b then 0 else 64) c) (if b then 0 else 64) (bys (if b then [] else p.get n)) ∧ IsP w' T pb (p.ask 1) ∧ Fr T w w' := by
  cases b with
  | false => exact (read_ok T pb p n w h hok (fun hh => by simpa using hb.2 hh) hn).mono fun e w' ⟨A, c, h1, h2, _, _, h3, h4⟩ => ⟨A, c, h1, h2.view, h3, h4⟩
  | true => exact (read_fault T pb p n w h hok (hb.1 rfl)).mono fun e w' ⟨h1, h2, h3⟩ => ⟨none, 0, h1, View.nil _ _ _, h2, h3⟩
end Go.Proofs.Ytidjmjfoheagmaa

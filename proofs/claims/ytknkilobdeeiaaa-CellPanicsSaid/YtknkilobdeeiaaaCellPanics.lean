/- CellPanics: a panic of the function's own goes on. -/
import Derived.Test.YtknkilobdeeiaaaCellA
import Derived.Test.YtknkilobdeeiaaaCellP2
set_option linter.unusedSimpArgs false
set_option linter.unusedVariables false
namespace Go.Proofs.Ytknkilobdeeiaaa
open Go.RowKit

@[go_sem] theorem assert_is_text (v : Value) (w : World) : (Instr.typeAssert (.iface 9 v) 20 9 true).run Try.prog w = .ok (.tuple #[v, .bool true]) w := by kernel_rfl

/-- The function that reads and panics. -/
theorem pan2_ok (S : Nat → Prop) (rb xc tc y : Nat) (v0 : Value) (t : ByteArray) (w : World) (hy : y < 268435456) (hR : IsR w S rb (enc y)) (hx : Blk w xc #[v0] 3) (ht : Blk w tc #[.string t] 9) (h1 : ¬ S xc) (h2 : ¬ S tc) (h3 : xc ≠ tc) :
    Calls Try.prog 22 #[.pointer (some ⟨rb, 0, none⟩), .pointer (some ⟨xc, 0, none⟩), .pointer (some ⟨tc, 0, none⟩)] w fun e w' => Fr (fun k => k = xc ∨ k = rb) w w' ∧ e = .panicked [{ v := .iface 9 (.string t), recovered := false }] ∧ Blk w' xc #[.int .i64 y] 3 := by
  have hSr := hR.1
  have hnum := num_enc y hy []
  rw [List.append_nil] at hnum
  have Hn := hid hnum; clear hnum
  have hel := (enc_len y hy).1
  go_enter Try.func22, Try.ntmps22
  go_wp2_with fail
  refine (rnum_any S rb _ (by omega) (enc_byt y) w hR).mono ?_
  intro e w1 hp
  rw [Hn.out] at hp
  obtain ⟨rfl, hf1, hR1⟩ := hp
  have hx1 := hx.fr hf1 (fun h => h1 (h ▸ hSr))
  have ht1 := ht.fr hf1 (fun h => h2 (h ▸ hSr))
  have hcx : w1.cell? ⟨xc, 0, none⟩ = some v0 := hx1.cell 0
  have hzx : w1.frozen? ⟨xc, 0, none⟩ = false := hx1.frozen 0
  have ht2 := ht1.set_other (a := ⟨xc, 0, none⟩) (fun h => h3 h.symm) (.int .i64 y)
  have hct : (w1.setCell ⟨xc, 0, none⟩ (.int .i64 y)).cell? ⟨tc, 0, none⟩ = some (.string t) := ht2.cell 0
  go_wp2
  refine ⟨rfl, ?_, rfl, hx1.set 0 _⟩
  exact (hf1.mono fun _ h => .inr h).setCell (a := ⟨xc, 0, none⟩) (.inl (.inl rfl)) _

/-- The deferred function of the law: the panic is kept. -/
theorem pan1_rec (gc : Nat) (t v0 : Value) (older : List PanicEntry) (w : World) (hg : Blk w gc #[v0] 20) : CallsD Try.prog 21 #[.pointer (some ⟨gc, 0, none⟩)] (.panicking ({ v := .iface 9 t, recovered := false } :: older)) w fun e u' w' =>
    e = .returned (.tuple #[]) ∧ u' = .panicking ({ v := .iface 9 t, recovered := true } :: older) ∧ Fr (fun k => k = gc) w w' ∧ Blk w' gc #[.iface 9 t] 20 := by
  have hc : w.cell? ⟨gc, 0, none⟩ = some v0 := hg.cell 0
  have hz : w.frozen? ⟨gc, 0, none⟩ = false := hg.frozen 0
  refine callsD_of_wpS Try.func21 rfl fun c₀ cs hu => ?_
  simp only [Try.ntmps21, List.size_toArray, List.length_cons, List.length_nil, Nat.reduceAdd, Nat.reduceSub, Array.replicate_succ, Array.replicate_zero, List.push_toArray, List.append_toArray, List.nil_append, List.cons_append]
  apply wpS_region
  simp [wpOpsS, go_sem, recoverD, hu, hc, hz, bodyPostS, results, Try.results21]
  exact ⟨(Fr.refl (fun k => k = gc) w).setCell (a := ⟨gc, 0, none⟩) (.inl rfl) _, hg.set 0 _⟩

theorem call_pan2 (args : Array Value) (w : World) : (callFunc 22 args).run Try.prog w = .ok (.enter 22 args) w := by kernel_rfl

/-- What the reading function leaves: the number is read, the panic kept. -/
def PanPost (w : World) (xc gc y : Nat) (t : ByteArray) (e : Ending) (w' : World) : Prop :=
  e = .returned (.tuple #[]) ∧ Fr (fun k => k = xc ∨ k = gc) w w' ∧ Blk w' xc #[.int .i64 y] 3 ∧ Blk w' gc #[.iface 9 (.string t)] 20

set_option maxRecDepth 100000 in
theorem pan1_ok (S : Nat → Prop) (gc pb xc tc y : Nat) (v0 v1 : Value) (t : ByteArray) (w : World) (hy : y < 268435456) (hW : IsW w S pb (enc y)) (hg : Blk w gc #[v1] 20) (hx : Blk w xc #[v0] 3) (ht : Blk w tc #[.string t] 9) (h3 : xc ≠ tc) (h4 : xc ≠ gc) :
    Calls Try.prog 20 #[.pointer (some ⟨gc, 0, none⟩), .pointer (some ⟨pb, 0, none⟩), .pointer (some ⟨xc, 0, none⟩), .pointer (some ⟨tc, 0, none⟩)] w (PanPost w xc gc y t) := by
  have hel := (enc_len y hy).1
  go_enter_defers Try.func20, Try.ntmps20
  go_wp2_with fail
  refine (out_ok S pb (enc y) (by omega) w hW).mono ?_
  rintro e w1 ⟨A, c, rfl, r1, hf1⟩
  have hg1 := hg.fr hf1 (fun h => h)
  have hx1 := hx.fr hf1 (fun h => h)
  have ht1 := ht.fr hf1 (fun h => h)
  have hgl := hg1.lt
  have hxl := hx1.lt
  have htl := ht1.lt
  go_wp2_with fail
  refine (read_on 22 _ _ (enc y).length (enc y) (New w) (fun k => k = xc) (by omega) w1 r1.view (by rintro k rfl; exact hxl) call_pan2 (.string t) (fun w' => Blk w' xc #[.int .i64 y] 3) ?_).mono ?_
  · intro wa rb g1 g2 hR hfa
    exact pan2_ok (fun k => w1.heap.size < k) rb xc tc y v0 t wa hy hR (hx1.fr hfa (fun h => h)) (ht1.fr hfa (fun h => h)) (by omega) (by omega) h3
  rintro e w3 ⟨w2, hf2, hf3, hx2, rfl⟩
  have hg3 := (hg1.fr hf2 (fun h => h4 h.symm)).fr hf3 (fun h => h)
  have hx3 := hx2.fr hf3 (fun h => h)
  have hfr : Fr (fun k => k = xc ∨ k = gc) w w3 := ((hf1.nil.then hf2).thenNil hf3).mono fun _ h => .inl h
  show bodyPostD Try.prog Try.f20 (PanPost w xc gc y t) (Exit.panic [{ v := .iface 9 (.string t), recovered := false }, { v := .iface 9 (.string t), recovered := true }]) _ _
  refine leaves_cons (f := 21) (args := #[.pointer (some ⟨gc, 0, none⟩)]) (by simp) (by simp [go_sem]) ?_
  refine (pan1_rec gc (.string t) v1 _ _ hg3).mono ?_
  rintro e u' w4 ⟨rfl, rfl, hf4, hg4⟩
  simp [Leaves, settle, results, Try.results20, go_sem]
  exact ⟨rfl, hfr.then (hf4.mono fun _ h => .inr h), hx3.fr hf4 (fun h => h4 h), hg4⟩

set_option maxRecDepth 100000 in
set_option maxHeartbeats 800000 in
/-- The law's walk. -/
theorem panics_ok (n : Int) (wn : (Lit.int .u32 n).wf = true) (t : ByteArray) (wt : t.size ≤ maxLen) (w : World) :
    Calls Try.prog 5 #[.int .u32 n, .string t] w fun e w' => e = .returned (.bool true) ∧ Fr Nil w w' := by
  have hb := bounds_u32 wn
  have hve := val_eq n hb.1 hb.2
  have hvl := val_lt n
  generalize val n = y at *
  have Hve := hid hve; clear hve
  unfold maxLen at wt
  go_enter Try.func5, Try.ntmps5
  go_wp2_with fail
  refine (awake_ok _).mono ?_
  rintro e w1 ⟨rfl, hf1⟩
  have ht1 : Blk w1 w.heap.size #[.string t] 9 := (Blk.new w _ _).fr hf1 (fun h => h)
  have hct1 : w1.cell? ⟨w.heap.size, 0, none⟩ = some (.string t) := ht1.cell 0
  replace hf1 : Fr Nil w w1 := ((Fr.refl Nil w).alloc _).then hf1
  have hsz1 := ht1.lt
  by_cases hlen : 1000 < t.size
  · go_wp2
    go_ret
    exact ⟨rfl, hf1⟩
  have hve := Hve.out
  go_wp2_with fail
  clear hve
  have hW0 : IsW (w1.alloc (.cells #[.slice none 0 0] 26)) (New w1) w1.heap.size [] := ⟨Nat.le_refl _, _, Blk.new _ _ _, Row.nil _ _ _ _⟩
  refine (num_ok (New w1) w1.heap.size [] y hvl (by decide) _ hW0).mono ?_
  rintro e w2 ⟨rfl, hf2, hW2⟩
  replace hf2 : Fr Nil w1 w2 := ((Fr.refl Nil w1).alloc _).thenNew hf2
  replace hW2 : IsW w2 (New w1) w1.heap.size (enc y) := hW2.mono fun k hk => hk.elim id fun h => by unfold New; simp at h; omega
  have hl2 := hW2.bd.1.2
  go_wp2_with fail
  obtain ⟨W3, hW3⟩ : ∃ W3, W3 = (w2.alloc (.cells #[.int .i64 (-1)] 3)).alloc (.cells #[.nilIface] 20) := ⟨_, rfl⟩
  have hf3 : Fr Nil w2 W3 := by rw [hW3]; exact ((Fr.refl _ _).alloc _).alloc _
  have hx3 : Blk W3 w2.heap.size #[.int .i64 (-1)] 3 := by rw [hW3]; exact (Blk.new _ _ _).alloc _
  have hg3 : Blk W3 (w2.heap.size + 1) #[.nilIface] 20 := by
    rw [hW3]
    have := Blk.new (w2.alloc (.cells #[.int .i64 (-1)] 3)) #[.nilIface] 20
    rwa [World.size_alloc] at this
  rw [← hW3]
  clear hW3
  have hsz2 := hf2.size
  refine (pan1_ok _ (w2.heap.size + 1) w1.heap.size w2.heap.size w.heap.size y _ _ t W3 hvl (hW2.fr hf3 (fun _ _ h => h)) hg3 hx3 ((ht1.fr hf2 (fun h => h)).fr hf3 (fun h => h)) (by omega) (by omega)).mono ?_
  rintro e w4 ⟨rfl, hf4, hx4, hg4⟩
  have ht4 := ((ht1.fr hf2 (fun h => h)).fr hf3 (fun h => h)).fr hf4 (fun h => by omega)
  have hcx : w4.cell? ⟨w2.heap.size, 0, none⟩ = some (.int .i64 y) := hx4.cell 0
  have hcg : w4.cell? ⟨w2.heap.size + 1, 0, none⟩ = some (.iface 9 (.string t)) := hg4.cell 0
  have hct : w4.cell? ⟨w.heap.size, 0, none⟩ = some (.string t) := ht4.cell 0
  have hfin : Fr Nil w w4 := ((hf1.thenNil hf2).thenNil hf3).trans hf4 (fun k hk => .inr (by have := hf1.size; omega))
  have hve := Hve.out
  go_wp2
  go_ret
  exact ⟨rfl, hfin⟩
end Go.Proofs.Ytknkilobdeeiaaa

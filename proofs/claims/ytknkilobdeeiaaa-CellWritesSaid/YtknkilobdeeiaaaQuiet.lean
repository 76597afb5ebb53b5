/- quiet: whether a function that is called does not panic. -/
import Derived.Test.YtknkilobdeeiaaaCellQ
set_option linter.unusedSimpArgs false
set_option linter.unusedVariables false
namespace Go.Proofs.Ytknkilobdeeiaaa
open Go.RowKit

@[go_sem] theorem eql_nil_nil (w : World) : (binOp .eql 20 .nilIface .nilIface).run Try.prog w = .ok (.bool true) w := by kernel_rfl
@[go_sem] theorem eql_text_nil (t : Value) (w : World) : (binOp .eql 20 (.iface 9 t) .nilIface).run Try.prog w = .ok (.bool false) w := by kernel_rfl

/-- The deferred function, where nothing panics. -/
theorem quiet_ret (ob : Nat) (b : Bool) (w : World) (hb : Blk w ob #[.bool b] 4) : CallsD Try.prog 35 #[.pointer (some ⟨ob, 0, none⟩)] .returning w fun e u' w' => e = .returned (.tuple #[]) ∧ u' = .returning ∧ Fr (fun k => k = ob) w w' ∧ Blk w' ob #[.bool true] 4 := by
  have hc : w.cell? ⟨ob, 0, none⟩ = some (.bool b) := hb.cell 0
  have hf : w.frozen? ⟨ob, 0, none⟩ = false := hb.frozen 0
  refine callsD_of_wpS Try.func35 rfl fun c₀ cs hu => ?_
  simp only [Try.ntmps35, List.size_toArray, List.length_cons, List.length_nil, Nat.reduceAdd, Nat.reduceSub, Array.replicate_succ, Array.replicate_zero, List.push_toArray, List.append_toArray, List.nil_append, List.cons_append]
  apply wpS_region
  simp [wpOpsS, go_sem, recoverD, hu, Try.ntmps35, Exit.thenS, hc, hf]
  have h1 : Fr (fun k => k = ob) w (w.setCell ⟨ob, 0, none⟩ (.bool true)) := (Fr.refl (fun k => k = ob) w).setCell (a := ⟨ob, 0, none⟩) (.inl rfl) _
  have h2 : Blk (w.setCell ⟨ob, 0, none⟩ (.bool true)) ob #[.bool true] 4 := hb.set 0 _
  cases c₀
  simp_all [bodyPostS, results, Try.results35]

theorem quiet_brk (ob : Nat) (b : Bool) (t : Value) (older : List PanicEntry) (w : World) (hb : Blk w ob #[.bool b] 4) : CallsD Try.prog 35 #[.pointer (some ⟨ob, 0, none⟩)] (.panicking ({ v := .iface 9 t, recovered := false } :: older)) w fun e u' w' =>
    e = .returned (.tuple #[]) ∧ u' = .panicking ({ v := .iface 9 t, recovered := true } :: older) ∧ Fr (fun k => k = ob) w w' ∧ Blk w' ob #[.bool false] 4 := by
  have hc : w.cell? ⟨ob, 0, none⟩ = some (.bool b) := hb.cell 0
  have hf : w.frozen? ⟨ob, 0, none⟩ = false := hb.frozen 0
  refine callsD_of_wpS Try.func35 rfl fun c₀ cs hu => ?_
  simp only [Try.ntmps35, List.size_toArray, List.length_cons, List.length_nil, Nat.reduceAdd, Nat.reduceSub, Array.replicate_succ, Array.replicate_zero, List.push_toArray, List.append_toArray, List.nil_append, List.cons_append]
  apply wpS_region
  simp [wpOpsS, go_sem, recoverD, hu, Try.ntmps35, Exit.thenS, hc, hf]
  have h1 : Fr (fun k => k = ob) w (w.setCell ⟨ob, 0, none⟩ (.bool false)) := (Fr.refl (fun k => k = ob) w).setCell (a := ⟨ob, 0, none⟩) (.inl rfl) _
  have h2 : Blk (w.setCell ⟨ob, 0, none⟩ (.bool false)) ob #[.bool false] 4 := hb.set 0 _
  cases c₀
  simp_all [bodyPostS, results, Try.results35]

/-- quiet: b: the function returned. -/
theorem quiet_ok (K : Nat) (caps : Array Value) (T : Nat → Prop) (D : Bool → World → Prop) (w : World) (hT : ∀ k, T k → k ≠ w.heap.size)
    (hK : ∀ args w, (callFunc K args).run Try.prog w = .ok (.enter K args) w)
    (hF : ∀ w1, Fr Nil w w1 → w1.heap.size = w.heap.size + 1 → Calls Try.prog K caps w1 fun e w2 => Fr T w1 w2 ∧ ((e = .returned (.tuple #[]) ∧ D true w2) ∨ (∃ v, e = .panicked [{ v := .iface 9 v, recovered := false }] ∧ D false w2))) :
    Calls Try.prog 12 #[.func (.func K) #[] caps] w fun e w' => ∃ b w2, e = .returned (.bool b) ∧ D b w2 ∧ Fr (fun k => k = w.heap.size) w2 w' ∧ Fr T w w2 := by
  have H := hid hF; clear hF
  go_enter_defers Try.func12, Try.ntmps12
  go_wp2_with fail
  obtain ⟨W1, hW1⟩ : ∃ W1, W1 = w.alloc (.cells #[.bool false] 4) := ⟨_, rfl⟩
  have ho1 : Blk W1 w.heap.size #[.bool false] 4 := by rw [hW1]; exact Blk.new _ _ _
  have hf1 : Fr Nil w W1 := by rw [hW1]; exact (Fr.refl _ _).alloc _
  have hs1 : W1.heap.size = w.heap.size + 1 := by rw [hW1]; simp
  rw [← hW1]
  clear hW1
  refine (H.out W1 hf1 hs1).mono ?_
  rintro e w2 ⟨hf2, hres⟩
  have ho2 := ho1.fr hf2 (fun h => hT _ h rfl)
  have hc2 : w2.cell? ⟨w.heap.size, 0, none⟩ = some (.bool false) := ho2.cell 0
  have hz2 : w2.frozen? ⟨w.heap.size, 0, none⟩ = false := ho2.frozen 0
  have hfT : Fr T w w2 := hf1.nil.trans hf2 (fun k hk => .inl hk)
  rcases hres with ⟨rfl, hD⟩ | ⟨v, rfl, hD⟩
  · go_wp2
    have ho3 : Blk (w2.setCell ⟨w.heap.size, 0, none⟩ (.bool true)) w.heap.size #[.bool true] 4 := ho2.set 0 _
    refine leaves_cons (f := 35) (args := #[.pointer (some ⟨w.heap.size, 0, none⟩)]) (by simp) (by simp [go_sem]) ?_
    refine (quiet_ret w.heap.size true _ ho3).mono ?_
    rintro e u' w'' ⟨rfl, rfl, hf5, hb5⟩
    have hcell : w''.cell? ⟨w.heap.size, 0, none⟩ = some (.bool true) := hb5.cell 0
    simp [Leaves, settle, results, Try.results12, go_sem, hcell]
    exact ⟨w2, hD, ((Fr.refl (fun k => k = w.heap.size) w2).setCell (a := ⟨w.heap.size, 0, none⟩) (.inl rfl) _).then hf5, hfT⟩
  · show bodyPostD Try.prog Try.f12 _ (Exit.panic [{ v := .iface 9 v, recovered := false }]) _ _
    refine leaves_cons (f := 35) (args := #[.pointer (some ⟨w.heap.size, 0, none⟩)]) (by simp) (by simp [go_sem]) ?_
    refine (quiet_brk w.heap.size false v [] _ ho2).mono ?_
    rintro e u' w'' ⟨rfl, rfl, hf5, hb5⟩
    have hcell : w''.cell? ⟨w.heap.size, 0, none⟩ = some (.bool false) := hb5.cell 0
    simp [Leaves, settle, results, Try.results12, go_sem, hcell]
    exact ⟨w2, hD, hf5, hfT⟩
end Go.Proofs.Ytknkilobdeeiaaa

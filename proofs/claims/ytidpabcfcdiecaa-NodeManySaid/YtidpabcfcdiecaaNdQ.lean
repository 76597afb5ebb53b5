/- cell.Read: what it answers by what the function that it calls does. -/
import Derived.Test.YtidpabcfcdiecaaNdR
import Derived.Recover
set_option linter.unusedSimpArgs false
set_option linter.unusedVariables false
namespace Go.Proofs.Ytidpabcfcdiecaa
open Go.RowKit

@[go_sem] theorem assert_fault (v : Value) (w : World) : (Instr.typeAssert (.iface 84 v) 20 84 true).run Try.prog w = .ok (.tuple #[v, .bool true]) w := by kernel_rfl
@[go_sem] theorem assert_text (v : Value) (w : World) : (Instr.typeAssert (.iface 9 v) 20 84 true).run Try.prog w = .ok (.tuple #[.agg #[.int .i64 0], .bool false]) w := by kernel_rfl

@[go_sem] theorem eql_func_nil (f : Fn) (a c : Array Value) (w : World) : (binOp .eql 73 (.func f a c) .nilFunc).run Try.prog w = .ok (.bool false) w := by kernel_rfl
@[go_sem] theorem eql_nil_func (w : World) : (binOp .eql 73 .nilFunc .nilFunc).run Try.prog w = .ok (.bool true) w := by kernel_rfl

/-- The deferred function, where nothing panics. -/
theorem read_rec_ret (eb : Nat) (w : World) : CallsD Try.prog 43 #[.pointer (some ⟨eb, 0, none⟩)] .returning w fun e u' w' => e = .returned (.tuple #[]) ∧ u' = .returning ∧ w = w' := by
  refine callsD_of_wpS Try.func43 rfl fun c₀ cs hu => ?_
  simp only [Try.ntmps43, List.size_toArray, List.length_cons, List.length_nil, Nat.reduceAdd, Nat.reduceSub, Array.replicate_succ, Array.replicate_zero, List.push_toArray, List.append_toArray, List.nil_append, List.cons_append]
  apply wpS_seq
  apply wpS_region
  simp [wpOpsS, go_sem, recoverD, hu, Try.ntmps43, Exit.thenS]
  refine wpS_plain (fun e a' w' => e = .normal ∧ a'.defers = [] ∧ w = w') (fun Q' hQ => ?_) ?_
  · go_wp2
  · rintro e a' w' ⟨rfl, h0, rfl⟩
    cases c₀
    simp_all [bodyPostS, results, Try.results43]

/-- .. where the reading broke. -/
theorem read_rec_brk (eb : Nat) (er x : Int) (older : List PanicEntry) (w : World) (hb : Blk w eb #[.int .i64 x] 30) : CallsD Try.prog 43 #[.pointer (some ⟨eb, 0, none⟩)] (.panicking ({ v := .iface 84 (.agg #[.int .i64 er]), recovered := false } :: older)) w fun e u' w' =>
    e = .returned (.tuple #[]) ∧ u' = .panicking ({ v := .iface 84 (.agg #[.int .i64 er]), recovered := true } :: older) ∧ Fr (fun k => k = eb) w w' ∧ Blk w' eb #[.int .i64 er] 30 := by
  have hc : w.cell? ⟨eb, 0, none⟩ = some (.int .i64 x) := hb.cell 0
  have hf : w.frozen? ⟨eb, 0, none⟩ = false := hb.frozen 0
  have hlt : eb < w.heap.size := hb.lt
  refine callsD_of_wpS Try.func43 rfl fun c₀ cs hu => ?_
  simp only [Try.ntmps43, List.size_toArray, List.length_cons, List.length_nil, Nat.reduceAdd, Nat.reduceSub, Array.replicate_succ, Array.replicate_zero, List.push_toArray, List.append_toArray, List.nil_append, List.cons_append]
  apply wpS_seq
  apply wpS_region
  simp [wpOpsS, go_sem, recoverD, hu, Try.ntmps43, Exit.thenS]
  refine wpS_plain (fun e a' w' => e = .normal ∧ a'.defers = [] ∧ Fr (fun k => k = eb) w w' ∧ Blk w' eb #[.int .i64 er] 30) (fun Q' hQ => ?_) ?_
  · go_wp2
    refine ⟨?_, ?_⟩
    · exact ((Fr.refl (fun k => k = eb) w).setCell (a := ⟨eb, 0, none⟩) (.inl rfl) _).alloc _
    · exact (hb.set 0 _).alloc _
  · rintro e a' w' ⟨rfl, h0, h1, h2⟩
    cases c₀
    simp_all [bodyPostS, results, Try.results43]

/-- What cell.Read leaves. -/
def ReadPost (w : World) (T : Nat → Prop) (D : List Nat → World → Prop) (B : Int → World → Prop) (e : Ending) (w' : World) : Prop :=
  ∃ w2, Fr T w w2 ∧ Fr (fun k => k = w.heap.size) w2 w' ∧
      ((∃ rest, D rest w2 ∧ e = .returned (.int .i64 (if rest.isEmpty then 0 else 3))) ∨ (∃ er, B er w2 ∧ e = .returned (.int .i64 er)))

/-- cell.Read of a function that reads: it may write T (elder blocks) and what it makes. -/
theorem read_ok (K : Nat) (caps : Array Value) (v : Value) (n : Nat) (xs : List Nat) (S1 T : Nat → Prop) (hn : n ≤ 900000) (w : World) (hv : View w S1 1 v n (bys xs)) (hT : ∀ k, T k → k < w.heap.size)
    (hK : ∀ args w, (callFunc K args).run Try.prog w = .ok (.enter K args) w)
    (D : List Nat → World → Prop) (B : Int → World → Prop)
    (hF : ∀ w1 rb, w.heap.size < rb → rb < w1.heap.size → IsR w1 (fun k => w.heap.size < k) rb xs → Fr Nil w w1 → Calls Try.prog K (#[.pointer (some ⟨rb, 0, none⟩)] ++ caps) w1 fun e w2 => Fr (fun k => T k ∨ k = rb) w1 w2 ∧
      ((∃ rest, e = .returned (.tuple #[]) ∧ IsR w2 (fun k => w.heap.size < k) rb rest ∧ D rest w2) ∨ (∃ er, e = .panicked (brk er) ∧ B er w2))) :
    Calls Try.prog 32 #[v, .func (.func K) #[] caps] w (ReadPost w T D B) := by
  obtain ⟨A, c, rfl⟩ : ∃ A c, v = .slice A n c := let ⟨_, A, c, e, _⟩ := hv; ⟨A, c, e⟩
  have H := hid hF; clear hF
  go_enter_defers Try.func32, Try.ntmps32
  go_wp2_with fail
  have hn2 : xs.length = n := by have := hv.length; rwa [bys_length, Nat.mul_one] at this
  refine (clone_ok S1 _ n xs (by omega) _ (hv.alloc _)).mono ?_
  rintro e w1 ⟨A2, c2, rfl, r1, r2, _⟩
  have hb1 : Blk w1 w.heap.size #[.int .i64 0] 30 := (Blk.new w _ _).fr r2 (fun h => h)
  have hsz := r2.size
  rw [World.size_alloc] at hsz
  go_wp2_with fail
  have hf1 : Fr Nil w (w1.alloc (.cells #[.slice A2 n c2] 86)) := (((Fr.refl Nil w).alloc _).thenNil r2).alloc _
  have hb2 : Blk (w1.alloc (.cells #[.slice A2 n c2] 86)) w.heap.size #[.int .i64 0] 30 := hb1.alloc _
  have hR : IsR (w1.alloc (.cells #[.slice A2 n c2] 86)) (fun k => w.heap.size < k) w1.heap.size xs := by
    refine ⟨by omega, _, Blk.new _ _ _, ?_⟩
    rw [hn2]
    exact (View.alloc (r1.view.bd.mono fun k hk => ⟨by have := hk.1; unfold New at this; simp at this; omega, by have := hk.2; omega⟩) _)
  refine (H.out (w1.alloc (.cells #[.slice A2 n c2] 86)) w1.heap.size (by omega) (by simp) hR hf1).mono ?_
  intro e w2 ⟨hf2, hres⟩
  have hb3 := hb2.fr hf2 (fun h => h.elim (fun h => by have := hT _ h; omega) (fun h => by omega))
  have hfT : Fr T w w2 := hf1.nil.trans hf2 (fun k hk => hk.elim .inl (fun h => .inr (by omega)))
  have hc3 : w2.cell? ⟨w.heap.size, 0, none⟩ = some (.int .i64 0) := hb3.cell 0
  have hz3 : w2.frozen? ⟨w.heap.size, 0, none⟩ = false := hb3.frozen 0
  rcases hres with ⟨rest, rfl, hR2, hD⟩ | ⟨er, rfl, hB⟩
  · obtain ⟨hS, v2, hb4, hv4⟩ := hR2
    obtain ⟨hl4, A4, c4, rfl, -, -, -, -, -⟩ := hv4
    have hc4 : w2.cell? ⟨w1.heap.size, 0, none⟩ = some (.slice A4 rest.length c4) := hb4.cell 0
    by_cases hr : rest = []
    · subst hr
      go_wp2_with (go_at_call 44; ((with_reducible refine (must_ok _ _).mono ?_); rintro e w2 ⟨rfl, rfl⟩))
      have hcell : (w2.setCell ⟨w.heap.size, 0, none⟩ (.int .i64 0)).cell? ⟨w.heap.size, 0, none⟩ = some (.int .i64 0) := (hb3.set 0 _).cell 0
      refine leaves_cons (f := 43) (args := #[.pointer (some ⟨w.heap.size, 0, none⟩)]) (by simp) (by simp [go_sem]) ?_
      refine (read_rec_ret w.heap.size _).mono ?_
      rintro e u' w'' ⟨rfl, rfl, rfl⟩
      simp [Leaves, settle, results, Try.results32, go_sem, hcell]
      exact ⟨w2, hfT, (Fr.refl (fun k => k = w.heap.size) w2).setCell (a := ⟨w.heap.size, 0, none⟩) (.inl rfl) _, .inl ⟨[], hD, rfl⟩⟩
    · have hlen : ((rest.length : Int) == 0) = false := by
        have : rest.length ≠ 0 := fun h => hr (List.eq_nil_of_length_eq_zero h)
        simp; omega
      go_wp2_with (go_at_call 44; ((with_reducible refine (must_no _ _).mono ?_); rintro e w2 ⟨rfl, rfl⟩))
      show bodyPostD Try.prog Try.f32 (ReadPost w T D B) (Exit.panic (brk 3)) _ _
      refine leaves_cons (f := 43) (args := #[.pointer (some ⟨w.heap.size, 0, none⟩)]) (by simp) (by simp [go_sem]) ?_
      refine (read_rec_brk w.heap.size 3 0 [] _ hb3).mono ?_
      rintro e u' w'' ⟨rfl, rfl, hf5, hb5⟩
      have hcell : w''.cell? ⟨w.heap.size, 0, none⟩ = some (.int .i64 3) := hb5.cell 0
      simp [Leaves, settle, results, Try.results32, go_sem, hcell]
      refine ⟨w2, hfT, hf5, .inl ⟨rest, hD, ?_⟩⟩
      cases rest with
      | nil => exact absurd rfl hr
      | cons => rfl
  · show bodyPostD Try.prog Try.f32 (ReadPost w T D B) (Exit.panic (brk er)) _ _
    refine leaves_cons (f := 43) (args := #[.pointer (some ⟨w.heap.size, 0, none⟩)]) (by simp) (by simp [go_sem]) ?_
    refine (read_rec_brk w.heap.size er 0 [] _ hb3).mono ?_
    rintro e u' w'' ⟨rfl, rfl, hf5, hb5⟩
    have hcell : w''.cell? ⟨w.heap.size, 0, none⟩ = some (.int .i64 er) := hb5.cell 0
    simp [Leaves, settle, results, Try.results32, go_sem, hcell]
    exact ⟨w2, hfT, hf5, .inr ⟨er, hB, rfl⟩⟩

end Go.Proofs.Ytidpabcfcdiecaa

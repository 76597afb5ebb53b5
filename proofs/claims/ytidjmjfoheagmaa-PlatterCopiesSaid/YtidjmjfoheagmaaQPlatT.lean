/- platter's tried: an operation that is counted, and may fail. Conditions: the platter is a block of the program's own. -/
import Derived.Test.YtidjmjfoheagmaaQPlatC
set_option linter.unusedSimpArgs false
set_option linter.unusedVariables false
namespace Go.Proofs.Ytidjmjfoheagmaa
open Go.RowKit

def brk : List PanicEntry := [{ v := .iface 84 (.agg #[]), recovered := false }]
@[go_sem] theorem assert_broken (w : World) : (Instr.typeAssert (.iface 84 (.agg #[])) 20 84 true).run Try.prog w = .ok (.tuple #[.agg #[], .bool true]) w := by kernel_rfl

/-- The deferred function, where nothing panics. -/
theorem tried_ret (eb : Nat) (w : World) : CallsD Try.prog 44 #[.pointer (some ⟨eb, 0, none⟩)] .returning w fun e u' w' => e = .returned (.tuple #[]) ∧ u' = .returning ∧ w = w' := by
  refine callsD_of_wpS Try.func44 rfl fun c₀ cs hu => ?_
  simp only [Try.ntmps44, List.size_toArray, List.length_cons, List.length_nil, Nat.reduceAdd, Nat.reduceSub, Array.replicate_succ, Array.replicate_zero, List.push_toArray, List.append_toArray, List.nil_append, List.cons_append]
  apply wpS_seq
  apply wpS_region
  simp [wpOpsS, go_sem, recoverD, hu, Try.ntmps44, Exit.thenS]
  refine wpS_plain (fun e a' w' => e = .normal ∧ a'.defers = [] ∧ w = w') (fun Q' hQ => ?_) ?_
  · go_wp2
  · rintro e a' w' ⟨rfl, h0, rfl⟩
    cases c₀
    simp_all [bodyPostS, results, Try.results44]

/-- .. where a fault was. -/
theorem tried_brk (eb : Nat) (x : Int) (older : List PanicEntry) (w : World) (hb : Blk w eb #[.int .i64 x] 26) : CallsD Try.prog 44 #[.pointer (some ⟨eb, 0, none⟩)] (.panicking ({ v := .iface 84 (.agg #[]), recovered := false } :: older)) w fun e u' w' =>
    e = .returned (.tuple #[]) ∧ u' = .panicking ({ v := .iface 84 (.agg #[]), recovered := true } :: older) ∧ Fr (fun k => k = eb) w w' ∧ Blk w' eb #[.int .i64 6] 26 := by
  have hc : w.cell? ⟨eb, 0, none⟩ = some (.int .i64 x) := hb.cell 0
  have hf : w.frozen? ⟨eb, 0, none⟩ = false := hb.frozen 0
  have hlt : eb < w.heap.size := hb.lt
  refine callsD_of_wpS Try.func44 rfl fun c₀ cs hu => ?_
  simp only [Try.ntmps44, List.size_toArray, List.length_cons, List.length_nil, Nat.reduceAdd, Nat.reduceSub, Array.replicate_succ, Array.replicate_zero, List.push_toArray, List.append_toArray, List.nil_append, List.cons_append]
  apply wpS_seq
  apply wpS_region
  simp [wpOpsS, go_sem, recoverD, hu, Try.ntmps44, Exit.thenS]
  refine wpS_plain (fun e a' w' => e = .normal ∧ a'.defers = [] ∧ Fr (fun k => k = eb) w w' ∧ Blk w' eb #[.int .i64 6] 26) (fun Q' hQ => ?_) ?_
  · go_wp2
    exact ⟨((Fr.refl (fun k => k = eb) w).setCell (a := ⟨eb, 0, none⟩) (.inl rfl) _).alloc _, (hb.set 0 _).alloc _⟩
  · rintro e a' w' ⟨rfl, h0, h1, h2⟩
    cases c₀
    simp_all [bodyPostS, results, Try.results44]

/-- What tried leaves. -/
def TriedPost (w : World) (T : Nat → Prop) (R : Int → World → Prop) (e : Ending) (w' : World) : Prop :=
  ∃ r w3, e = .returned (.int .i64 r) ∧ R r w3 ∧ Fr (fun k => k = w.heap.size) w3 w' ∧ Fr T w w3 ∧ Typ w3 w.heap.size 26

/-- tried, where no fault is planned: the function that is given is called. -/
theorem tried_gen (K : Nat) (caps : Array Value) (T U : Nat → Prop) (pb : Nat) (p : Pl) (op : Nat) (hop : op = 1 ∨ op = 2 ∨ op = 3) (hc : p.co op ≤ 1000000 ∧ p.si op ≤ 1000000 ∧ p.fa.length ≤ 1000000 ∧ 0 < p.bl.length) (w : World) (h : IsP w T pb p)
    (hT : ∀ k, T k → k < w.heap.size) (hU : ∀ k, U k → k < w.heap.size) (hno : ((op : Int), ((p.si op + 1 : Nat) : Int)) ∉ p.fa)
    (hK : ∀ args w, (callFunc K args).run Try.prog w = .ok (.enter K args) w) (R : Int → World → Prop)
    (hF : ∀ w2, Fr T w w2 → w.heap.size < w2.heap.size → IsP w2 T pb (p.ask op) → Calls Try.prog K caps w2 fun e w3 => ∃ r, e = .returned (.int .i64 r) ∧ R r w3 ∧ Fr (fun k => T k ∨ U k) w2 w3) :
    Calls Try.prog 26 #[.pointer (some ⟨pb, 0, none⟩), .int .i64 (op : Int), .func (.func K) #[] caps] w (TriedPost w (fun k => T k ∨ U k) R) := by
  have H := hid hF; clear hF
  have HC := hid hc; clear hc
  have HNO := hid hno; clear hno
  go_enter_defers Try.func26, Try.ntmps26
  go_wp2_with fail
  obtain ⟨W1, hW1⟩ : ∃ W1, W1 = w.alloc (.cells #[.int .i64 0] 26) := ⟨_, rfl⟩
  have hb1 : Blk W1 w.heap.size #[.int .i64 0] 26 := by rw [hW1]; exact Blk.new _ _ _
  have hf1 : Fr Nil w W1 := by rw [hW1]; exact (Fr.refl _ _).alloc _
  have hs1 : W1.heap.size = w.heap.size + 1 := by rw [hW1]; simp
  rw [← hW1]
  clear hW1
  have hP1 := h.fr hf1 fun _ _ h => h
  refine (blocks_ok T pb p W1 hP1).mono ?_
  rintro e w2 ⟨rfl, rfl⟩
  have hz : ((p.bl.length : Int) == 0) = false := by have := HC.out; rw [beq_eq_false_iff_ne]; omega
  go_wp2_with fail
  refine (asked_ok T pb p op hop ⟨HC.out.1, HC.out.2.1, HC.out.2.2.1⟩ W1 hP1).mono ?_
  rintro e w2 ⟨hP2, hf2, he⟩
  rw [if_neg HNO.out] at he
  subst he
  have hpT : ∀ k, k = pb → T k := fun k hk => by rw [hk]; exact h.1
  have hb2 := hb1.fr hf2 (fun e => by have := hT _ h.1; omega)
  go_wp2_with fail
  refine (H.out w2 (hf1.nil.then (hf2.mono hpT)) (by have := hf2.size; omega) hP2).mono ?_
  rintro e w3 ⟨r, rfl, hR, hf3⟩
  have hb3 := hb2.fr hf3 (fun h => h.elim (fun h => by have := hT _ h; omega) (fun h => by have := hU _ h; omega))
  have hc3 : w3.cell? ⟨w.heap.size, 0, none⟩ = some (.int .i64 0) := hb3.cell 0
  have hz3 : w3.frozen? ⟨w.heap.size, 0, none⟩ = false := hb3.frozen 0
  have hfT : Fr (fun k => T k ∨ U k) w w3 := (hf1.nil.then (hf2.mono fun k hk => .inl (hpT k hk))).then hf3
  go_wp2
  have hcell : (w3.setCell ⟨w.heap.size, 0, none⟩ (.int .i64 r)).cell? ⟨w.heap.size, 0, none⟩ = some (.int .i64 r) := (hb3.set 0 _).cell 0
  refine leaves_cons (f := 44) (args := #[.pointer (some ⟨w.heap.size, 0, none⟩)]) (by simp) (by simp [go_sem]) ?_
  refine (tried_ret w.heap.size _).mono ?_
  rintro e u' w'' ⟨rfl, rfl, rfl⟩
  simp [Leaves, settle, results, Try.results26, go_sem, hcell]
  exact ⟨r, w3, rfl, hR, (Fr.refl (fun k => k = w.heap.size) w3).setCell (a := ⟨w.heap.size, 0, none⟩) (.inl rfl) _, hfT, hb3.typ⟩

theorem tried_ok (K : Nat) (caps : Array Value) (T : Nat → Prop) (pb : Nat) (p : Pl) (op : Nat) (hop : op = 1 ∨ op = 2 ∨ op = 3) (hc : p.co op ≤ 1000000 ∧ p.si op ≤ 1000000 ∧ p.fa.length ≤ 1000000 ∧ 0 < p.bl.length) (w : World) (h : IsP w T pb p)
    (hT : ∀ k, T k → k < w.heap.size) (hno : ((op : Int), ((p.si op + 1 : Nat) : Int)) ∉ p.fa)
    (hK : ∀ args w, (callFunc K args).run Try.prog w = .ok (.enter K args) w) (R : Int → World → Prop)
    (hF : ∀ w2, Fr T w w2 → w.heap.size < w2.heap.size → IsP w2 T pb (p.ask op) → Calls Try.prog K caps w2 fun e w3 => ∃ r, e = .returned (.int .i64 r) ∧ R r w3 ∧ Fr T w2 w3) :
    Calls Try.prog 26 #[.pointer (some ⟨pb, 0, none⟩), .int .i64 (op : Int), .func (.func K) #[] caps] w (TriedPost w T R) :=
  (tried_gen K caps T Nil pb p op hop hc w h hT (fun _ h => h.elim) hno hK R fun w2 a b c => (hF w2 a b c).mono fun e w3 ⟨r, h1, h2, h3⟩ => ⟨r, h1, h2, h3.mono fun _ h => .inl h⟩).mono
    fun e w' ⟨r, w3, h1, h2, h3, h4, h5⟩ => ⟨r, w3, h1, h2, h3, h4.mono fun _ h => h.elim id False.elim, h5⟩

/-- tried, where a fault is planned: the function that is given is not called. -/
theorem tried_fault (K : Nat) (caps : Array Value) (T : Nat → Prop) (pb : Nat) (p : Pl) (op : Nat) (hop : op = 1 ∨ op = 2 ∨ op = 3) (hc : p.co op ≤ 1000000 ∧ p.si op ≤ 1000000 ∧ p.fa.length ≤ 1000000 ∧ 0 < p.bl.length) (w : World) (h : IsP w T pb p)
    (hT : ∀ k, T k → k < w.heap.size) (hno : ((op : Int), ((p.si op + 1 : Nat) : Int)) ∈ p.fa) :
    Calls Try.prog 26 #[.pointer (some ⟨pb, 0, none⟩), .int .i64 (op : Int), .func (.func K) #[] caps] w fun e w' => e = .returned (.int .i64 6) ∧ IsP w' T pb (p.ask op) ∧ Fr (fun k => k = pb) w w' := by
  have HC := hid hc; clear hc
  have HNO := hid hno; clear hno
  go_enter_defers Try.func26, Try.ntmps26
  go_wp2_with fail
  obtain ⟨W1, hW1⟩ : ∃ W1, W1 = w.alloc (.cells #[.int .i64 0] 26) := ⟨_, rfl⟩
  have hb1 : Blk W1 w.heap.size #[.int .i64 0] 26 := by rw [hW1]; exact Blk.new _ _ _
  have hf1 : Fr Nil w W1 := by rw [hW1]; exact (Fr.refl _ _).alloc _
  have hs1 : W1.heap.size = w.heap.size + 1 := by rw [hW1]; simp
  rw [← hW1]
  clear hW1
  have hP1 := h.fr hf1 fun _ _ h => h
  refine (blocks_ok T pb p W1 hP1).mono ?_
  rintro e w2 ⟨rfl, rfl⟩
  have hz : ((p.bl.length : Int) == 0) = false := by have := HC.out; rw [beq_eq_false_iff_ne]; omega
  go_wp2_with fail
  refine (asked_ok T pb p op hop ⟨HC.out.1, HC.out.2.1, HC.out.2.2.1⟩ W1 hP1).mono ?_
  rintro e w2 ⟨hP2, hf2, he⟩
  rw [if_pos HNO.out] at he
  subst he
  have hb2 := hb1.fr hf2 (fun e => by have := hT _ h.1; omega)
  show bodyPostD Try.prog Try.f26 (fun e w' => e = .returned (.int .i64 6) ∧ IsP w' T pb (p.ask op) ∧ Fr (fun k => k = pb) w w') (Exit.panic brk) _ _
  refine leaves_cons (f := 44) (args := #[.pointer (some ⟨w.heap.size, 0, none⟩)]) (by simp) (by simp [go_sem]) ?_
  refine (tried_brk w.heap.size 0 [] _ hb2).mono ?_
  rintro e u' w'' ⟨rfl, rfl, hf5, hb5⟩
  have hcell : w''.cell? ⟨w.heap.size, 0, none⟩ = some (.int .i64 6) := hb5.cell 0
  have hP5 := hP2.fr hf5 (fun k hk (e : k = w.heap.size) => by have := hT _ hk; omega)
  have hF5 : Fr (fun k => k = pb) w w'' := (hf1.nil.then hf2).trans hf5 (fun k hk => .inr (by omega))
  simp [Leaves, settle, results, Try.results26, go_sem, hcell]
  exact ⟨hP5, hF5⟩
end Go.Proofs.Ytidjmjfoheagmaa

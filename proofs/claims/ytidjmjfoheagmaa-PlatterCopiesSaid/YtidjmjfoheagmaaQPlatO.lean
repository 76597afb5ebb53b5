/- platter's Write as a whole. Conditions: the platter is a block of the program's own; the bytes can be read and are none of its own. -/
import Derived.Test.YtidjmjfoheagmaaQPlatW
set_option linter.unusedSimpArgs false
set_option linter.unusedVariables false
namespace Go.Proofs.Ytidjmjfoheagmaa
open Go.RowKit

theorem call_write1 (args : Array Value) (w : World) : (callFunc 27 args).run Try.prog w = .ok (.enter 27 args) w := by kernel_rfl

/-- Few operations, few faults, blocks there, and what waits is for blocks that are there. -/
def Pl.ok (p : Pl) : Prop := (∀ op, p.co op ≤ 1000000 ∧ p.si op ≤ 1000000) ∧ p.fa.length ≤ 1000000 ∧ 0 < p.bl.length ∧ p.ca.length ≤ 1000000 ∧ ∀ q ∈ p.ca, q.1 < p.bl.length
def Pl.bad (p : Pl) (op : Nat) : Prop := ((op : Int), ((p.si op + 1 : Nat) : Int)) ∈ p.fa

/-- The boxes of a call's arguments. -/
theorem box3 (w : World) (a b c : Value) (ta tb tc : TypeId) (W : World) (hW : W = ((w.alloc (.cells #[a] ta)).alloc (.cells #[b] tb)).alloc (.cells #[c] tc)) :
    Fr Nil w W ∧ W.heap.size = w.heap.size + 3 ∧ Blk W w.heap.size #[a] ta ∧ Blk W (w.heap.size + 1) #[b] tb ∧ Blk W (w.heap.size + 2) #[c] tc := by
  subst hW
  refine ⟨(((Fr.refl _ _).alloc _).alloc _).alloc _, by simp, ((Blk.new _ _ _).alloc _).alloc _, ?_, ?_⟩
  · rw [show w.heap.size + 1 = (w.alloc (.cells #[a] ta)).heap.size by simp]; exact (Blk.new _ _ _).alloc _
  · rw [show w.heap.size + 2 = ((w.alloc (.cells #[a] ta)).alloc (.cells #[b] tb)).heap.size by simp]; exact Blk.new _ _ _

theorem write_fault (T : Nat → Prop) (pb : Nat) (p : Pl) (n : Int) (m c : Nat) (A : Option Addr) (w : World) (h : IsP w T pb p) (hok : p.ok) (hbad : p.bad 2) :
    Calls Try.prog 11 #[.pointer (some ⟨pb, 0, none⟩), .int .i64 n, .slice A m c] w fun e w' => e = .returned (.int .i64 6) ∧ IsP w' T pb (p.ask 2) ∧ Fr (fun k => k = pb) w w' := by
  have HOK := hid hok; clear hok
  have HB := hid hbad; clear hbad
  go_enter Try.func11, Try.ntmps11
  go_wp2_with fail
  obtain ⟨W1, hW1⟩ : ∃ W1, W1 = ((w.alloc (.cells #[.pointer (some ⟨pb, 0, none⟩)] 25)).alloc (.cells #[.int .i64 n] 3)).alloc (.cells #[.slice A m c] 22) := ⟨_, rfl⟩
  obtain ⟨hf1, hs1, b1, b2, b3⟩ := box3 w _ _ _ _ _ _ W1 hW1
  rw [← hW1]
  clear hW1
  refine (tried_fault 27 _ (fun k => T k ∧ k < w.heap.size) pb p 2 (.inr (.inl rfl)) ⟨(HOK.out.1 2).1, (HOK.out.1 2).2, HOK.out.2.1, HOK.out.2.2.1⟩ W1 (h.bd.fr hf1 fun _ _ h => h) (fun k hk => by omega) HB.out).mono ?_
  rintro e w2 ⟨rfl, hP2, hf2⟩
  go_wp2
  go_ret
  exact ⟨rfl, hP2.mono fun k hk => hk.1, hf1.nil.then hf2⟩

theorem write_bad (T : Nat → Prop) (pb : Nat) (p : Pl) (n : Int) (m c : Nat) (A : Option Addr) (w : World) (h : IsP w T pb p) (hok : p.ok) (hno : ¬ p.bad 2) (hb : ¬ (0 ≤ n ∧ n < p.bl.length) ∨ m ≠ 64) :
    Calls Try.prog 11 #[.pointer (some ⟨pb, 0, none⟩), .int .i64 n, .slice A m c] w fun e w' => e = .returned (.int .i64 1) ∧ IsP w' T pb (p.ask 2) ∧ Fr T w w' := by
  have HOK := hid hok; clear hok
  have HNO := hid hno; clear hno
  have HB := hid hb; clear hb
  go_enter Try.func11, Try.ntmps11
  go_wp2_with fail
  obtain ⟨W1, hW1⟩ : ∃ W1, W1 = ((w.alloc (.cells #[.pointer (some ⟨pb, 0, none⟩)] 25)).alloc (.cells #[.int .i64 n] 3)).alloc (.cells #[.slice A m c] 22) := ⟨_, rfl⟩
  obtain ⟨hf1, hs1, b1, b2, b3⟩ := box3 w _ _ _ _ _ _ W1 hW1
  rw [← hW1]
  clear hW1
  refine (tried_ok 27 _ (fun k => T k ∧ k < w.heap.size) pb p 2 (.inr (.inl rfl)) ⟨(HOK.out.1 2).1, (HOK.out.1 2).2, HOK.out.2.1, HOK.out.2.2.1⟩ W1 (h.bd.fr hf1 fun _ _ h => h) (fun k hk => by omega) HNO.out call_write1
    (fun r w3 => r = 1 ∧ IsP w3 (fun k => T k ∧ k < w.heap.size) pb (p.ask 2)) ?_).mono ?_
  · intro w2 hf2 hs2 hP2
    refine (write1_bad (fun k => T k ∧ k < w.heap.size) Nil pb (p.ask 2) n m A c _ _ _ w2 hP2 (b1.fr hf2 fun h => by omega) (b2.fr hf2 fun h => by omega) (b3.fr hf2 fun h => by omega) HB.out).mono ?_
    rintro e w3 ⟨rfl, rfl⟩
    exact ⟨1, rfl, ⟨rfl, hP2⟩, Fr.refl _ _⟩
  rintro e w4 ⟨r, w3, rfl, ⟨rfl, hP3⟩, hf4, hf3, hty⟩
  go_wp2
  go_ret
  refine ⟨rfl, (hP3.fr hf4 (fun k hk (e : k = W1.heap.size) => by omega) (fun k (hk : k = W1.heap.size) _ => by rw [hk]; exact ⟨fun h => absurd (hty.one h) (by decide), fun h => absurd (hty.one h) (by decide)⟩)).mono fun k hk => hk.1, ?_⟩
  exact (hf1.nil.then (hf3.mono fun k hk => hk.1)).trans hf4 (fun k hk => .inr (by omega))

theorem write_ok (T S1 : Nat → Prop) (pb : Nat) (p : Pl) (n : Nat) (xs : List Nat) (v : Value) (w : World) (h : IsP w T pb p) (hok : p.ok) (hno : ¬ p.bad 2) (hn : n < p.bl.length) (hv : View w S1 1 v 64 (bys xs)) (hB : Byt xs) (hS : ∀ k, S1 k → ¬ T k) :
    Calls Try.prog 11 #[.pointer (some ⟨pb, 0, none⟩), .int .i64 n, v] w fun e w' => e = .returned (.int .i64 0) ∧ IsP w' (Grow w T) pb ((p.ask 2).put n xs) ∧ Fr T w w' := by
  obtain ⟨A, c, rfl⟩ : ∃ A c, v = .slice A 64 c := let ⟨_, A, c, e, _⟩ := hv; ⟨A, c, e⟩
  have HOK := hid hok; clear hok
  have HNO := hid hno; clear hno
  have HN := hid hn; clear hn
  go_enter Try.func11, Try.ntmps11
  go_wp2_with fail
  obtain ⟨W1, hW1⟩ : ∃ W1, W1 = ((w.alloc (.cells #[.pointer (some ⟨pb, 0, none⟩)] 25)).alloc (.cells #[.int .i64 (n : Int)] 3)).alloc (.cells #[.slice A 64 c] 22) := ⟨_, rfl⟩
  obtain ⟨hf1, hs1, b1, b2, b3⟩ := box3 w _ _ _ _ _ _ W1 hW1
  rw [← hW1]
  clear hW1
  refine (tried_ok 27 _ (fun k => T k ∧ k < w.heap.size) pb p 2 (.inr (.inl rfl)) ⟨(HOK.out.1 2).1, (HOK.out.1 2).2, HOK.out.2.1, HOK.out.2.2.1⟩ W1 (h.bd.fr hf1 fun _ _ h => h) (fun k hk => by omega) HNO.out call_write1
    (fun r w3 => r = 0 ∧ ∃ s, W1.heap.size < s ∧ IsP w3 (fun k => (T k ∧ k < w.heap.size) ∨ s ≤ k) pb ((p.ask 2).put n xs)) ?_).mono ?_
  · intro w2 hf2 hs2 hP2
    refine (write1_ok (fun k => T k ∧ k < w.heap.size) S1 pb (p.ask 2) n xs _ _ _ _ w2 hP2 (b1.fr hf2 fun h => by omega) (b2.fr hf2 fun h => by omega) (b3.fr hf2 fun h => by omega) HN.out ((hv.fr hf1 fun _ _ _ h => h).fr hf2 fun k hk _ h => hS k hk h.1) hB HOK.out.2.2.2.1).mono ?_
    rintro e w3 ⟨rfl, hP3, hf3⟩
    exact ⟨0, rfl, ⟨rfl, _, hs2, hP3⟩, hf3⟩
  rintro e w4 ⟨r, w3, rfl, ⟨rfl, s, hs, hP3⟩, hf4, hf3, hty⟩
  go_wp2
  go_ret
  refine ⟨rfl, (hP3.fr hf4 (fun k hk (e : k = W1.heap.size) => by omega) (fun k (hk : k = W1.heap.size) _ => by rw [hk]; exact ⟨fun h => absurd (hty.one h) (by decide), fun h => absurd (hty.one h) (by decide)⟩)).mono fun k hk => hk.elim (fun h => .inl h.1) (fun h => .inr (by omega)), ?_⟩
  exact (hf1.nil.then (hf3.mono fun k hk => hk.1)).trans hf4 (fun k hk => .inr (by omega))
end Go.Proofs.Ytidjmjfoheagmaa

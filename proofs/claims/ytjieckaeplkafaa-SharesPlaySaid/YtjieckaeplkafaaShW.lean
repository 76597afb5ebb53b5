/- Shares: what it is in memory; made, Uses, More, Less, Add. Conditions: the bounds of its lists. -/
import Derived.Test.YtjieckaeplkafaaShS
import Derived.Test.YtjieckaeplkafaaUntil
import Derived.Test.YtjieckaeplkafaaStep
import Derived.Deep.QuietTactic
import Derived.BigQuiet
set_option linter.unusedSimpArgs false
set_option linter.unusedVariables false
namespace Go.Proofs.Ytjieckaeplkafaa
open Go.RowKit
theorem zero_use (w : World) : (zeroValue 60).run Try.prog w = .ok (.agg #[.int .i64 0, .int .i64 0, .int .i64 0]) w := by kernel_rfl
theorem wf_i64 {z : Int} (h : -9223372036854775808 ≤ z ∧ z < 9223372036854775808) : (Lit.int .i64 z).wf = true := by
  simp [Lit.wf, IntKind.min, IntKind.max, IntKind.signed, IntKind.bits]; omega
theorem wrap64_fit (n : Int) (h : -9223372036854775808 ≤ n ∧ n ≤ 9223372036854775807) : wrap64 n = n := by unfold wrap64; omega
@[go_sem] theorem field_k (w : World) (x y z : Int) : (Instr.field 60 (.agg #[.int .i64 x, .int .i64 y, .int .i64 z]) 1).run Try.prog w = .ok (.int .i64 z) w := by kernel_rfl
@[go_sem] theorem field_x (w : World) (x y z : Int) : (Instr.field 60 (.agg #[.int .i64 x, .int .i64 y, .int .i64 z]) 0).run Try.prog w = .ok (.agg #[.int .i64 x, .int .i64 y]) w := by kernel_rfl
structure Shp (w : World) (T : Nat → Prop) (sb pb ub lb hb : Nat) (v : Value) (U L H : List Us) (A : List Rn) : Prop where
  blk : Blk w sb #[.pointer (some ⟨pb, 0, none⟩), .map (some ub), .map (some lb), .map (some hb), v] 57
  u : KV w ub (U.map ent)
  l : KV w lb (L.map ent)
  h : KV w hb (H.map ent)
  r : Row w T 33 2 v A.length (dbl A)
  ul : ub ≠ lb
  uh : ub ≠ hb
  lh : lb ≠ hb
  ts : T sb
  tu : T ub
  tl : T lb
  th : T hb
theorem blk_kv {w : World} {g b : Nat} {cs : Array Value} {t : TypeId} {l : List (Int × Value)} (h : Blk w g cs t) (hk : KV w b l) : g ≠ b := by
  intro e
  obtain ⟨es, c, he, _⟩ := hk
  unfold Blk at h
  rw [e, he] at h
  cases h
theorem row_kv {w : World} {T : Nat → Prop} {b s n : Nat} {e : TypeId} {v : Value} {xs : List Value} {l : List (Int × Value)} (h : Row w T e s v n xs) (hk : KV w b l) : v.ownBlock ≠ some b := by
  intro e
  obtain ⟨es, c, he, _⟩ := hk
  rcases h.1.2 with ⟨rfl, _⟩ | ⟨g, cap, cur, rfl, _, hh, _⟩
  · simp [Value.ownBlock] at e
  · simp only [Value.ownBlock, Option.some.injEq] at e
    rw [e, he] at hh
    cases hh
section
variable {w w1 : World} {T T' S1 : Nat → Prop} {sb pb ub lb hb : Nat} {v : Value} {U L H : List Us} {A : List Rn}
theorem Shp.mono (h : Shp w T sb pb ub lb hb v U L H A) (ht : ∀ k, T k → T' k) : Shp w T' sb pb ub lb hb v U L H A :=
  ⟨h.blk, h.u, h.l, h.h, h.r.mono ht, h.ul, h.uh, h.lh, ht _ h.ts, ht _ h.tu, ht _ h.tl, ht _ h.th⟩
theorem Shp.fr (h : Shp w T sb pb ub lb hb v U L H A) (hf : Fr S1 w w1) (hn : ∀ k, T k → ¬ S1 k) : Shp w1 T sb pb ub lb hb v U L H A :=
  ⟨h.blk.fr hf (hn _ h.ts), h.u.fr hf (hn _ h.tu), h.l.fr hf (hn _ h.tl), h.h.fr hf (hn _ h.th), h.r.frS hf hn, h.ul, h.uh, h.lh, h.ts, h.tu, h.tl, h.th⟩
theorem Shp.bd (h : Shp w T sb pb ub lb hb v U L H A) : Shp w (fun k => T k ∧ k < w.heap.size) sb pb ub lb hb v U L H A :=
  ⟨h.blk, h.u, h.l, h.h, ⟨h.r.1, fun k hk => ⟨h.r.2 k hk, h.r.lt k hk⟩⟩, h.ul, h.uh, h.lh, ⟨h.ts, h.blk.lt⟩, ⟨h.tu, h.u.lt⟩, ⟨h.tl, h.l.lt⟩, ⟨h.th, h.h.lt⟩⟩
/-- Shares that have just the blocks T. -/
structure IsS (w : World) (T : Nat → Prop) (sb pb : Nat) (U L H : List Us) (A : List Rn) : Prop where
  ex : ∃ ub lb hb v, Shp w T sb pb ub lb hb v U L H A
  lt : ∀ k, T k → k < w.heap.size
theorem IsS.fr (h : IsS w T sb pb U L H A) (hf : Fr S1 w w1) (hn : ∀ k, T k → ¬ S1 k) : IsS w1 T sb pb U L H A := by
  obtain ⟨⟨ub, lb, hb, v, hs⟩, hl⟩ := h
  exact ⟨⟨ub, lb, hb, v, hs.fr hf hn⟩, fun k hk => Nat.lt_of_lt_of_le (hl k hk) hf.size⟩
theorem IsS.nil (h : IsS w T sb pb U L H A) (hf : Fr Nil w w1) : IsS w1 T sb pb U L H A := h.fr hf fun _ _ h => h
theorem Shp.of {w1 : World} (h : Shp w1 (fun j => T j ∨ w.heap.size ≤ j) sb pb ub lb hb v U L H A) : ∃ T', IsS w1 T' sb pb U L H A ∧ ∀ k, T' k → T k ∨ w.heap.size ≤ k :=
  ⟨_, ⟨⟨ub, lb, hb, v, h.bd⟩, fun k hk => hk.2⟩, fun k hk => hk.1⟩
theorem IsS.keep (h : IsS w T sb pb U L H A) (hf : Fr Nil w w1) : ∃ T', IsS w1 T' sb pb U L H A ∧ ∀ k, T' k → T k ∨ w.heap.size ≤ k := ⟨T, h.nil hf, fun _ h => .inl h⟩
end
/-- The use of a run; none: nought. -/
def ux (U : List Us) (i : Int) : Us := (uget U i).getD ⟨0, 0, 0⟩
theorem usesI_ux (U : List Us) (i : Int) : usesI U i = (ux U i).k := by
  unfold usesI ux
  cases uget U i <;> rfl
theorem look_use {w : World} {b : Nat} {U : List Us} (h : KV w b (U.map ent)) {i : Int} (hi : (Lit.int .i64 i).wf = true) :
    (Instr.lookup 55 (.map (some b)) (.int .i64 i) false).run Try.prog w = .ok (.agg #[.int .i64 ((ux U i).a : Nat), .int .i64 ((ux U i).n : Nat), .int .i64 ((ux U i).k : Nat)]) w := by
  have h1 := h.look (P := Try.prog) Try.underlying3 Try.underlying55 (zero_use w) false hi
  rw [h1, mget_ent]
  unfold ux
  cases uget U i <;> rfl
theorem KV.drewN {w : World} {b : Nat} {l : List (Int × Value)} (h : KV w b l) (n : Nat) : KV (w.drewN n) b l := h
set_option maxRecDepth 20000 in
theorem made_ok (T : Nat → Prop) (sb pb ub lb hb : Nat) (v : Value) (U L H : List Us) (A : List Rn) (w : World) (h : Shp w T sb pb ub lb hb v U L H A) :
    Calls Try.prog 34 #[.pointer (some ⟨sb, 0, none⟩)] w fun e w' => e = .returned (.bool true) ∧ w = w' := by
  have hc : w.cell? ⟨sb, 0, none⟩ = some (.pointer (some ⟨pb, 0, none⟩)) := h.blk.cell 0
  go_enter Try.func34, Try.ntmps34
  go_wp2
  go_ret
  exact ⟨rfl, rfl⟩
set_option maxRecDepth 20000 in
theorem uses_ok (T : Nat → Prop) (sb pb : Nat) (U L H : List Us) (A : List Rn) (w : World) (h : IsS w T sb pb U L H A) (i : Int) (hi : (Lit.int .i64 i).wf = true) :
    Calls Try.prog 14 #[.pointer (some ⟨sb, 0, none⟩), .int .i64 i] w fun e w' => e = .returned (.int .i64 (usesI U i : Nat)) ∧ w = w' := by
  obtain ⟨⟨ub, lb, hb, v, hs⟩, _⟩ := h
  have hc : w.cell? ⟨sb, 1, none⟩ = some (.map (some ub)) := hs.blk.cell 1
  have hlk := look_use hs.u hi
  rw [usesI_ux]
  go_enter Try.func14, Try.ntmps14
  go_wp2_with fail
  refine (made_ok T sb pb ub lb hb v U L H A w hs).mono ?_
  rintro e w1 ⟨rfl, rfl⟩
  go_wp2
  go_ret
  exact ⟨rfl, rfl⟩
set_option maxRecDepth 20000 in
/-- Shares of no uses. -/
theorem snew_ok (pb : Nat) (w : World) :
    Calls Try.prog 9 #[.pointer (some ⟨pb, 0, none⟩)] w fun e w' => ∃ sb T, e = .returned (.pointer (some ⟨sb, 0, none⟩)) ∧ IsS w' T sb pb [] [] [] [] ∧ (∀ k, T k → w.heap.size ≤ k) ∧ Fr Nil w w' := by
  go_enter Try.func9, Try.ntmps9
  go_wp2
  go_ret
  obtain ⟨W1, hW1⟩ : ∃ W1, W1 = w.alloc (.map #[] 0) := ⟨_, rfl⟩
  obtain ⟨W2, hW2⟩ : ∃ W2, W2 = W1.alloc (.map #[] 0) := ⟨_, rfl⟩
  obtain ⟨W3, hW3⟩ : ∃ W3, W3 = W2.alloc (.map #[] 0) := ⟨_, rfl⟩
  have k1 : KV W1 w.heap.size [] := by rw [hW1]; exact KV.made w
  have k2 : KV W2 W1.heap.size [] := by rw [hW2]; exact KV.made W1
  have k3 : KV W3 W2.heap.size [] := by rw [hW3]; exact KV.made W2
  have s1 : W1.heap.size = w.heap.size + 1 := by rw [hW1]; simp
  have s2 : W2.heap.size = w.heap.size + 2 := by rw [hW2]; simp [s1]
  have s3 : W3.heap.size = w.heap.size + 3 := by rw [hW3]; simp [s2]
  have f3 : Fr Nil w W3 := by rw [hW3, hW2, hW1]; exact (((Fr.refl _ _).alloc _).alloc _).alloc _
  obtain ⟨W4, hW4⟩ : ∃ W4, W4 = W3.alloc (.cells #[.pointer (some ⟨pb, 0, none⟩), .map (some w.heap.size), .map (some W1.heap.size), .map (some W2.heap.size), .slice none 0 0] 57) := ⟨_, rfl⟩
  have f4 : Fr Nil w W4 := by rw [hW4]; exact f3.alloc _
  have hS : Shp W4 (fun k => w.heap.size ≤ k) W3.heap.size pb w.heap.size W1.heap.size W2.heap.size (.slice none 0 0) [] [] [] [] := by
    refine ⟨by rw [hW4]; exact Blk.new _ _ _, ?_, ?_, ?_, Row.nil _ _ _ _, by omega, by omega, by omega, by omega, by omega, by omega, by omega⟩
    · rw [hW4, hW3, hW2]; exact ((k1.alloc _).alloc _).alloc _
    · rw [hW4, hW3]; exact (k2.alloc _).alloc _
    · rw [hW4]; exact k3.alloc _
  rw [s1, s2, s3] at hS
  rw [s1, s2] at hW4
  subst hW4 hW3 hW2 hW1
  exact ⟨_, _, rfl, ⟨⟨_, _, _, _, hS.bd⟩, fun k hk => hk.2⟩, fun k hk => hk.1, f4⟩
end Go.Proofs.Ytjieckaeplkafaa

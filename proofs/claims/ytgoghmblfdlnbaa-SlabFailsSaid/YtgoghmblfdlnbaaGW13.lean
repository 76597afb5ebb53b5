/- The texts VShS, VStep, VShW, VShA of this proof, one behind the other. Conditions: those of each. -/
import Derived.Shelf.SlMaps.Clone
import Derived.WideShapes
import Derived.Deep.AppendLies
import Derived.Deep.QuietTactic
import Derived.BigQuiet
import Derived.Test.YtgoghmblfdlnbaaGW1
import Derived.Test.YtgoghmblfdlnbaaGW3
import Derived.Test.YtgoghmblfdlnbaaGW12
section
/- Shares: maps.Keys, slices.Sorted, maps.Clone at this program's map; listed. -/
set_option linter.unusedSimpArgs false
set_option linter.unusedVariables false
namespace Go.Proofs.Ytgoghmblfdlnbaa
open Go.RowKit Go.Maps Go.MapKept
set_option maxRecDepth 20000 in
theorem mclone_ok (b : Nat) (l : List (Int × Value)) (w : World) (h : KV w b l) :
    Calls Try.prog 33 #[.map (some b)] w fun e w' =>
      e = .returned (.map (some w.heap.size)) ∧ KV w' w.heap.size l ∧ Fr Nil w w' := by
  obtain ⟨es, clock, hb, hr⟩ := h
  have hq := fun w => run_eql_map_nil_sl (P := Try.prog) w 81 _ _ (some b) Try.underlying81
  go_enter Try.func33, Try.ntmps33
  go_wp2
  rw [run_callFunc_extern Try.func48 (by kernel_rfl) (by kernel_rfl) (by kernel_rfl) (e := Extern.MapsClone.clone) (by kernel_rfl), run_maps_clone_sl w 81 hb]
  simp only [Result.andThen]
  rw [Oper.upon_value]
  go_wp2
  rw [run_typeAssert_map_sl _ 81 _ _ _ _ Try.underlying81]
  simp only [Result.andThen]
  rw [Oper.upon_value]
  go_wp2
  go_ret
  exact ⟨rfl, ⟨es, clock, (MapKept.heap_alloc w _).1, hr⟩, (Fr.refl _ _).alloc _⟩
end Go.Proofs.Ytgoghmblfdlnbaa
end

section
/- Append of a slice read anywhere, at a step of a region that draws its order. -/
set_option linter.unusedSimpArgs false
set_option linter.unusedVariables false
namespace Go.Proofs.Ytgoghmblfdlnbaa
open Go.RowKit
section
variable {P : Program} {ops : Array Oper} {rest : List Oper} {o : Oper} {a : Act} {K : Act → World → Prop} {Q : Exit → Act → World → Prop} {E : Prop} {e : TypeId} {s n m : Nat} {v y : Value} {xs ys : List Value} {w : World} {S S1 : Nat → Prop}
theorem step_app_view (hgd : o.guard = none) (x z : Operand) (t : TypeId)
    (ho : o.op = .call { callee := .builtin .append, args := #[x, z], argTypes := #[t, t] })
    (zero : Value) (bytes : Nat) (ht : P.underlying t = some (.slice e)) (hi : (P.info? e).map (fun i => (i.zero, i.size, i.bytes)) = some (some zero, s, bytes))
    (hzs : zero.cells.size = s) (hsz : 0 < s) (hrow : Row w S e s v n xs) (hs : a.eval x = v) (hy : View w S1 s y m ys) (hx : a.eval z = y) (h1 : ∀ u ∈ ys, u.oneCell' = true)
    (hbytes : (n + m) * bytes ≤ 140737488355328) (hb0 : 0 < bytes)
    (h : Stop (∀ A cap w', Row w' (fun k => v.ownBlock = some k ∨ w.heap.size ≤ k) e s (.slice A (n + m) cap) (n + m) (xs ++ ys) → Fr (fun k => v.ownBlock = some k) w w' →
      K (a.put o.dst (.slice A (n + m) cap)) w') .mk) : if Region.wanted o (yielded ops a.tmps) = true then Oper.wp P o a w K Q else E := by
  have hw : Region.wanted o (yielded ops a.tmps) = true := by simp [Region.wanted, hgd]
  rw [if_pos hw]
  obtain ⟨i, hi1, hi2, hi3, hi4⟩ := info_parts hi
  have hle : n + m ≤ 140737488355328 := Nat.le_trans (Nat.le_mul_of_pos_right _ hb0) hbytes
  obtain ⟨hl, A, c, rfl, e1, e2, e3, e4, e5⟩ := hy
  cases A with
  | none =>
    obtain rfl := e3 rfl
    obtain rfl : m = 0 := by omega
    have hys : ys = [] := List.eq_nil_of_length_eq_zero (by simpa using hl)
    subst hys
    have hrun := run_append_owned_none (P := P) w 0 t o.type e i s ht hi1 _ n xs hrow.1
    obtain ⟨A, cap, rfl⟩ := hrow.slice
    unfold Oper.wp
    simp [execOp, ho, resolve, invoke, builtin, hs, hx, hrun, Result.andThen]
    refine h A cap w ?_ (Fr.refl _ _)
    rw [List.append_nil]; exact ⟨hrow.1, fun k hk => .inl hk⟩
  | some ad =>
    have hcells : ∀ j u, ys[j]? = some u → w.cell? (ad.add j) = some u := by
      intro j u hu
      have hj := (List.getElem?_eq_some_iff.1 hu).1
      have hm : 0 < m := Nat.pos_of_ne_zero (fun h0 => by rw [h0] at hl; simp at hl; rw [hl] at hj; simp at hj)
      obtain ⟨b, o', ha, _, _, q⟩ := e5 hm
      injection ha with ha
      rw [ha, Addr.add_lit]
      exact q j u hu
    obtain ⟨v', w', hr, hown, hg, _, hat⟩ := run_append_own_at (P := P) w 0 t o.type e i zero s bytes ht hi1 hi2 hi3 hi4 hzs hsz v n xs hrow.1 ad m c ys hl hcells h1 (by unfold maxLen; omega) hbytes (Nat.zero_le _)
    have hr2 : Row w' (fun k => v.ownBlock = some k ∨ w.heap.size ≤ k) e s v' (n + m) (xs ++ ys) := by
      refine ⟨hown, fun k hk => ?_⟩
      rcases hat with hat | hat
      · exact .inl (by rw [← hat]; exact hk)
      · rw [hat] at hk; injection hk with hk; exact .inr (by omega)
    obtain ⟨A, cap, rfl⟩ := hr2.slice
    unfold Oper.wp execOp
    simp only [ho, resolve, invoke, builtin, Sem.run_bind, Sem.run_pure, Result.andThen_ok, List.map_toArray, List.map_cons, List.map_nil, hs, hx, hr]
    exact h A cap w' hr2 (Fr.of_grown hg)
end
end Go.Proofs.Ytgoghmblfdlnbaa
end

section
/- Shares: what it is in memory; made, Uses, More, Less, Add. Conditions: the bounds of its lists. -/
set_option linter.unusedSimpArgs false
set_option linter.unusedVariables false
namespace Go.Proofs.Ytgoghmblfdlnbaa
open Go.RowKit
theorem zero_use (w : World) : (zeroValue 80).run Try.prog w = .ok (.agg #[.int .i64 0, .int .i64 0, .int .i64 0]) w := by kernel_rfl
theorem wf_i64 {z : Int} (h : -9223372036854775808 ≤ z ∧ z < 9223372036854775808) : (Lit.int .i64 z).wf = true := by
  simp [Lit.wf, IntKind.min, IntKind.max, IntKind.signed, IntKind.bits]; omega
theorem wrap64_fit (n : Int) (h : -9223372036854775808 ≤ n ∧ n ≤ 9223372036854775807) : wrap64 n = n := by unfold wrap64; omega
@[go_sem] theorem field_k (w : World) (x y z : Int) : (Instr.field 80 (.agg #[.int .i64 x, .int .i64 y, .int .i64 z]) 1).run Try.prog w = .ok (.int .i64 z) w := by kernel_rfl
@[go_sem] theorem field_x (w : World) (x y z : Int) : (Instr.field 80 (.agg #[.int .i64 x, .int .i64 y, .int .i64 z]) 0).run Try.prog w = .ok (.agg #[.int .i64 x, .int .i64 y]) w := by kernel_rfl
structure Shp (w : World) (T : Nat → Prop) (sb pb ub lb hb : Nat) (v : Value) (U L H : List Us) (A : List Rn) : Prop where
  blk : Blk w sb #[.pointer (some ⟨pb, 0, none⟩), .map (some ub), .map (some lb), .map (some hb), v] 83
  u : KV w ub (U.map ent)
  l : KV w lb (L.map ent)
  h : KV w hb (H.map ent)
  r : Row w T 33 2 v A.length (dbl A)
  ul : ub ≠ lb
  uh : ub ≠ hb
  lh : lb ≠ hb
  ts : T sb
  tu : T ub
  tl : T lb
  th : T hb
theorem blk_kv {w : World} {g b : Nat} {cs : Array Value} {t : TypeId} {l : List (Int × Value)} (h : Blk w g cs t) (hk : KV w b l) : g ≠ b := by
  intro e
  obtain ⟨es, c, he, _⟩ := hk
  unfold Blk at h
  rw [e, he] at h
  cases h
theorem row_kv {w : World} {T : Nat → Prop} {b s n : Nat} {e : TypeId} {v : Value} {xs : List Value} {l : List (Int × Value)} (h : Row w T e s v n xs) (hk : KV w b l) : v.ownBlock ≠ some b := by
  intro e
  obtain ⟨es, c, he, _⟩ := hk
  rcases h.1.2 with ⟨rfl, _⟩ | ⟨g, cap, cur, rfl, _, hh, _⟩
  · simp [Value.ownBlock] at e
  · simp only [Value.ownBlock, Option.some.injEq] at e
    rw [e, he] at hh
    cases hh
section
variable {w w1 : World} {T T' S1 : Nat → Prop} {sb pb ub lb hb : Nat} {v : Value} {U L H : List Us} {A : List Rn}
theorem Shp.mono (h : Shp w T sb pb ub lb hb v U L H A) (ht : ∀ k, T k → T' k) : Shp w T' sb pb ub lb hb v U L H A :=
  ⟨h.blk, h.u, h.l, h.h, h.r.mono ht, h.ul, h.uh, h.lh, ht _ h.ts, ht _ h.tu, ht _ h.tl, ht _ h.th⟩
theorem Shp.fr (h : Shp w T sb pb ub lb hb v U L H A) (hf : Fr S1 w w1) (hn : ∀ k, T k → ¬ S1 k) : Shp w1 T sb pb ub lb hb v U L H A :=
  ⟨h.blk.fr hf (hn _ h.ts), h.u.fr hf (hn _ h.tu), h.l.fr hf (hn _ h.tl), h.h.fr hf (hn _ h.th), h.r.frS hf hn, h.ul, h.uh, h.lh, h.ts, h.tu, h.tl, h.th⟩
theorem Shp.bd (h : Shp w T sb pb ub lb hb v U L H A) : Shp w (fun k => T k ∧ k < w.heap.size) sb pb ub lb hb v U L H A :=
  ⟨h.blk, h.u, h.l, h.h, ⟨h.r.1, fun k hk => ⟨h.r.2 k hk, h.r.lt k hk⟩⟩, h.ul, h.uh, h.lh, ⟨h.ts, h.blk.lt⟩, ⟨h.tu, h.u.lt⟩, ⟨h.tl, h.l.lt⟩, ⟨h.th, h.h.lt⟩⟩
/-- Shares that have just the blocks T. -/
structure IsS (w : World) (T : Nat → Prop) (sb pb : Nat) (U L H : List Us) (A : List Rn) : Prop where
  ex : ∃ ub lb hb v, Shp w T sb pb ub lb hb v U L H A
  lt : ∀ k, T k → k < w.heap.size
theorem IsS.fr (h : IsS w T sb pb U L H A) (hf : Fr S1 w w1) (hn : ∀ k, T k → ¬ S1 k) : IsS w1 T sb pb U L H A := by
  obtain ⟨⟨ub, lb, hb, v, hs⟩, hl⟩ := h
  exact ⟨⟨ub, lb, hb, v, hs.fr hf hn⟩, fun k hk => Nat.lt_of_lt_of_le (hl k hk) hf.size⟩
theorem IsS.nil (h : IsS w T sb pb U L H A) (hf : Fr Nil w w1) : IsS w1 T sb pb U L H A := h.fr hf fun _ _ h => h
theorem Shp.of {w1 : World} (h : Shp w1 (fun j => T j ∨ w.heap.size ≤ j) sb pb ub lb hb v U L H A) : ∃ T', IsS w1 T' sb pb U L H A ∧ ∀ k, T' k → T k ∨ w.heap.size ≤ k :=
  ⟨_, ⟨⟨ub, lb, hb, v, h.bd⟩, fun k hk => hk.2⟩, fun k hk => hk.1⟩
theorem IsS.keep (h : IsS w T sb pb U L H A) (hf : Fr Nil w w1) : ∃ T', IsS w1 T' sb pb U L H A ∧ ∀ k, T' k → T k ∨ w.heap.size ≤ k := ⟨T, h.nil hf, fun _ h => .inl h⟩
end
/-- The use of a run; none: nought. -/
def ux (U : List Us) (i : Int) : Us := (uget U i).getD ⟨0, 0, 0⟩
theorem usesI_ux (U : List Us) (i : Int) : usesI U i = (ux U i).k := by
  unfold usesI ux
  cases uget U i <;> rfl
theorem look_use {w : World} {b : Nat} {U : List Us} (h : KV w b (U.map ent)) {i : Int} (hi : (Lit.int .i64 i).wf = true) :
    (Instr.lookup 81 (.map (some b)) (.int .i64 i) false).run Try.prog w = .ok (.agg #[.int .i64 ((ux U i).a : Nat), .int .i64 ((ux U i).n : Nat), .int .i64 ((ux U i).k : Nat)]) w := by
  have h1 := h.look (P := Try.prog) Try.underlying3 Try.underlying81 (zero_use w) false hi
  rw [h1, mget_ent]
  unfold ux
  cases uget U i <;> rfl
theorem KV.drewN {w : World} {b : Nat} {l : List (Int × Value)} (h : KV w b l) (n : Nat) : KV (w.drewN n) b l := h
set_option maxRecDepth 20000 in
theorem made_ok (T : Nat → Prop) (sb pb ub lb hb : Nat) (v : Value) (U L H : List Us) (A : List Rn) (w : World) (h : Shp w T sb pb ub lb hb v U L H A) :
    Calls Try.prog 30 #[.pointer (some ⟨sb, 0, none⟩)] w fun e w' => e = .returned (.bool true) ∧ w = w' := by
  have hc : w.cell? ⟨sb, 0, none⟩ = some (.pointer (some ⟨pb, 0, none⟩)) := h.blk.cell 0
  go_enter Try.func30, Try.ntmps30
  go_wp2
  go_ret
  exact ⟨rfl, rfl⟩
set_option maxRecDepth 20000 in
theorem uses_ok (T : Nat → Prop) (sb pb : Nat) (U L H : List Us) (A : List Rn) (w : World) (h : IsS w T sb pb U L H A) (i : Int) (hi : (Lit.int .i64 i).wf = true) :
    Calls Try.prog 9 #[.pointer (some ⟨sb, 0, none⟩), .int .i64 i] w fun e w' => e = .returned (.int .i64 (usesI U i : Nat)) ∧ w = w' := by
  obtain ⟨⟨ub, lb, hb, v, hs⟩, _⟩ := h
  have hc : w.cell? ⟨sb, 1, none⟩ = some (.map (some ub)) := hs.blk.cell 1
  have hlk := look_use hs.u hi
  rw [usesI_ux]
  go_enter Try.func9, Try.ntmps9
  go_wp2_with fail
  refine (made_ok T sb pb ub lb hb v U L H A w hs).mono ?_
  rintro e w1 ⟨rfl, rfl⟩
  go_wp2
  go_ret
  exact ⟨rfl, rfl⟩
set_option maxRecDepth 20000 in
/-- Shares of no uses. -/
theorem snew_ok (pb : Nat) (w : World) :
    Calls Try.prog 23 #[.pointer (some ⟨pb, 0, none⟩)] w fun e w' => ∃ sb T, e = .returned (.pointer (some ⟨sb, 0, none⟩)) ∧ IsS w' T sb pb [] [] [] [] ∧ (∀ k, T k → w.heap.size ≤ k) ∧ Fr Nil w w' := by
  go_enter Try.func23, Try.ntmps23
  go_wp2
  go_ret
  obtain ⟨W1, hW1⟩ : ∃ W1, W1 = w.alloc (.map #[] 0) := ⟨_, rfl⟩
  obtain ⟨W2, hW2⟩ : ∃ W2, W2 = W1.alloc (.map #[] 0) := ⟨_, rfl⟩
  obtain ⟨W3, hW3⟩ : ∃ W3, W3 = W2.alloc (.map #[] 0) := ⟨_, rfl⟩
  have k1 : KV W1 w.heap.size [] := by rw [hW1]; exact KV.made w
  have k2 : KV W2 W1.heap.size [] := by rw [hW2]; exact KV.made W1
  have k3 : KV W3 W2.heap.size [] := by rw [hW3]; exact KV.made W2
  have s1 : W1.heap.size = w.heap.size + 1 := by rw [hW1]; simp
  have s2 : W2.heap.size = w.heap.size + 2 := by rw [hW2]; simp [s1]
  have s3 : W3.heap.size = w.heap.size + 3 := by rw [hW3]; simp [s2]
  have f3 : Fr Nil w W3 := by rw [hW3, hW2, hW1]; exact (((Fr.refl _ _).alloc _).alloc _).alloc _
  obtain ⟨W4, hW4⟩ : ∃ W4, W4 = W3.alloc (.cells #[.pointer (some ⟨pb, 0, none⟩), .map (some w.heap.size), .map (some W1.heap.size), .map (some W2.heap.size), .slice none 0 0] 83) := ⟨_, rfl⟩
  have f4 : Fr Nil w W4 := by rw [hW4]; exact f3.alloc _
  have hS : Shp W4 (fun k => w.heap.size ≤ k) W3.heap.size pb w.heap.size W1.heap.size W2.heap.size (.slice none 0 0) [] [] [] [] := by
    refine ⟨by rw [hW4]; exact Blk.new _ _ _, ?_, ?_, ?_, Row.nil _ _ _ _, by omega, by omega, by omega, by omega, by omega, by omega, by omega⟩
    · rw [hW4, hW3, hW2]; exact ((k1.alloc _).alloc _).alloc _
    · rw [hW4, hW3]; exact (k2.alloc _).alloc _
    · rw [hW4]; exact k3.alloc _
  rw [s1, s2, s3] at hS
  rw [s1, s2] at hW4
  subst hW4 hW3 hW2 hW1
  exact ⟨_, _, rfl, ⟨⟨_, _, _, _, hS.bd⟩, fun k hk => hk.2⟩, fun k hk => hk.1, f4⟩
end Go.Proofs.Ytgoghmblfdlnbaa
end

section
/- Shares: More, Less. Conditions: the bounds of its lists. -/
set_option linter.unusedSimpArgs false
set_option linter.unusedVariables false
namespace Go.Proofs.Ytgoghmblfdlnbaa
open Go.RowKit
def moreU (U : List Us) (i : Int) : List Us := if usesI U i = 0 then U else uput U ⟨(ux U i).a, (ux U i).n, (ux U i).k + 1⟩
def lessU (U : List Us) (i : Int) : List Us := if usesI U i = 0 then U else if usesI U i = 1 then udel U i else uput U ⟨(ux U i).a, (ux U i).n, (ux U i).k - 1⟩
def lessL (U L : List Us) (i : Int) : List Us := if usesI U i = 1 then uput L (ux U i) else L
theorem uput_length (U : List Us) (u : Us) : (uput U u).length ≤ U.length + 1 := by unfold uput; split <;> simp
theorem udel_length (U : List Us) (i : Int) : (udel U i).length ≤ U.length := List.length_filter_le _ _
theorem ux_pos {U : List Us} {i : Int} (h : usesI U i ≠ 0) : uget U i = some (ux U i) ∧ ((ux U i).a : Int) = i ∧ ux U i ∈ U := by
  cases hg : uget U i with
  | none => exact absurd (by unfold usesI; rw [hg]) h
  | some u =>
    have : ux U i = u := by unfold ux; rw [hg]; rfl
    rw [this]
    exact ⟨rfl, (uget_mem hg).2, (uget_mem hg).1⟩
end Go.Proofs.Ytgoghmblfdlnbaa
end

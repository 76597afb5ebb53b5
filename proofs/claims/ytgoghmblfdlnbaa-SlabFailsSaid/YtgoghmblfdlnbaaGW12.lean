/- The texts VRnA, VShPL of this proof, one behind the other. Conditions: those of each. -/
import Derived.Maps.Range
import Derived.Test.YtgoghmblfdlnbaaGW5
import Derived.Test.YtgoghmblfdlnbaaGW11
section
/- Runs: contracts with an allowed set; the law's awake. -/
set_option linter.unusedSimpArgs false
set_option linter.unusedVariables false
namespace Go.Proofs.Ytgoghmblfdlnbaa
open Go.RowKit
/-- Runs that lie in the set A. -/
def RsA (w : World) (A : Nat → Prop) (pb bl : Nat) (l : List Rn) : Prop := Rs w (fun k => A k ∧ k < w.heap.size) pb bl l ∧ Wf bl l
theorem RsA.mono {w : World} {A A' : Nat → Prop} {pb bl : Nat} {l : List Rn} (h : RsA w A pb bl l) (ha : ∀ k, A k → k < w.heap.size → A' k) : RsA w A' pb bl l :=
  ⟨h.1.mono fun k hk => ⟨ha k hk.1 hk.2, hk.2⟩, h.2⟩
theorem RsA.fr {w w1 : World} {A S1 : Nat → Prop} {pb bl : Nat} {l : List Rn} (h : RsA w A pb bl l) (hf : Fr S1 w w1) (hn : ∀ k, A k → k < w.heap.size → ¬ S1 k) : RsA w1 A pb bl l :=
  ⟨(h.1.fr hf fun k hk _ => hn k hk.1 hk.2).mono fun k hk => ⟨hk.1, Nat.lt_of_lt_of_le hk.2 hf.size⟩, h.2⟩
theorem RsA.nil {w w1 : World} {A : Nat → Prop} {pb bl : Nat} {l : List Rn} (h : RsA w A pb bl l) (hf : Fr Nil w w1) : RsA w1 A pb bl l := h.fr hf fun _ _ _ h => h
theorem RsA.of {w w1 : World} {A T : Nat → Prop} {pb bl : Nat} {l : List Rn} (h : Rs w1 T pb bl l) (hw : Wf bl l) (ha : ∀ k, T k → A k) : RsA w1 A pb bl l :=
  ⟨h.bd.mono fun k hk => ⟨ha k hk.1, hk.2⟩, hw⟩
/-- What an operation may change. -/
def Own (w : World) (A : Nat → Prop) : Nat → Prop := fun k => A k ∧ k < w.heap.size
theorem newL_wf (b : Int) : Wf (newBl b) (newL b) := by
  unfold newBl newL
  split
  · rename_i h
    exact ⟨by omega, ⟨Nat.le_refl _, by dsimp only; omega, trivial⟩, fun r hr => by rw [List.mem_singleton] at hr; subst hr; dsimp only; omega⟩
  · exact ⟨by omega, trivial, fun r hr => by simp at hr⟩
section
variable {w : World} {A : Nat → Prop} {pb bl : Nat} {l : List Rn}
theorem new_a (b : Int) (w : World) : Calls Try.prog 21 #[.int .i64 b] w fun e w' => ∃ pb, e = .returned (.pointer (some ⟨pb, 0, none⟩)) ∧ RsA w' (New w) pb (newBl b) (newL b) ∧ Fr Nil w w' :=
  (new_ok b w).mono fun e w' ⟨pb, h1, h2, h3⟩ => ⟨pb, h1, RsA.of h2 (newL_wf b) (w := w) fun _ h => h, h3⟩
theorem take_a (h : RsA w A pb bl l) (hA : ∀ k, w.heap.size ≤ k → A k) (n : Int) :
    Calls Try.prog 26 #[.pointer (some ⟨pb, 0, none⟩), .int .i64 n] w fun e w' => e = .returned (.tuple #[.int .i64 (takeR l n).1, .bool (takeR l n).2]) ∧ RsA w' A pb bl (takeL l n) ∧ Fr (Own w A) w w' :=
  (take_ok _ pb bl l n w h.1 h.2.lok fun k hk => hk.2).mono fun e w' ⟨h1, h2, h3⟩ => ⟨h1, RsA.of h2 (take_wf h.2 n) (w := w) fun k hk => hk.elim (fun h => h.1) (hA k), h3⟩
theorem mark_wf' (h : Wf bl l) (a n : Int) : Wf bl (markL bl l a n) := by
  cases hr : markR bl l a n with
  | false => unfold markL; rw [if_neg (by rw [hr]; decide)]; exact h
  | true =>
    have hk : knownB bl a n = true := by unfold markR at hr; rw [Bool.and_eq_true] at hr; exact hr.1
    have hk := known_iff.1 hk
    obtain ⟨X, rfl⟩ : ∃ X : Nat, a = X := ⟨a.toNat, by omega⟩
    obtain ⟨N, rfl⟩ : ∃ N : Nat, n = N := ⟨n.toNat, by omega⟩
    exact mark_wf h X N
theorem give_wf' (h : Wf bl l) (a n : Int) : Wf bl (giveL bl l a n) := by
  cases hr : giveR bl l a n with
  | false => unfold giveL; rw [if_neg (by rw [hr]; decide)]; exact h
  | true =>
    have hk : knownB bl a n = true := by unfold giveR at hr; rw [Bool.and_eq_true] at hr; exact hr.1
    have hk := known_iff.1 hk
    obtain ⟨X, rfl⟩ : ∃ X : Nat, a = X := ⟨a.toNat, by omega⟩
    obtain ⟨N, rfl⟩ : ∃ N : Nat, n = N := ⟨n.toNat, by omega⟩
    exact give_wf h X N
theorem mark_a (h : RsA w A pb bl l) (hA : ∀ k, w.heap.size ≤ k → A k) (a n : Int) :
    Calls Try.prog 22 #[.pointer (some ⟨pb, 0, none⟩), .int .i64 a, .int .i64 n] w fun e w' => e = .returned (.bool (markR bl l a n)) ∧ RsA w' A pb bl (markL bl l a n) ∧ Fr (Own w A) w w' :=
  (mark_ok _ pb bl l a n w h.1 h.2.lok fun k hk => hk.2).mono fun e w' ⟨h1, h2, h3⟩ => ⟨h1, RsA.of h2 (mark_wf' h.2 a n) (w := w) fun k hk => hk.elim (fun h => h.1) (hA k), h3⟩
theorem give_a (h : RsA w A pb bl l) (hA : ∀ k, w.heap.size ≤ k → A k) (a n : Int) :
    Calls Try.prog 32 #[.pointer (some ⟨pb, 0, none⟩), .int .i64 a, .int .i64 n] w fun e w' => e = .returned (.bool (giveR bl l a n)) ∧ RsA w' A pb bl (giveL bl l a n) ∧ Fr (Own w A) w w' :=
  (give_ok _ pb bl l a n w h.1 h.2.lok fun k hk => hk.2).mono fun e w' ⟨h1, h2, h3⟩ => ⟨h1, RsA.of h2 (give_wf' h.2 a n) (w := w) fun k hk => hk.elim (fun h => h.1) (hA k), h3⟩
theorem list_a (h : RsA w A pb bl l) : Calls Try.prog 29 #[.pointer (some ⟨pb, 0, none⟩)] w fun e w' => ∃ A c, e = .returned (.slice A l.length c) ∧ Row w' (New w) 33 2 (.slice A l.length c) l.length (dbl l) ∧ Fr Nil w w' :=
  list_ok _ pb bl l w h.1 (Nat.le_trans h.2.lok.2.1 (by decide))
theorem free_a (h : RsA w A pb bl l) : Calls Try.prog 8 #[.pointer (some ⟨pb, 0, none⟩)] w fun e w' => e = .returned (.int .i64 (sumN l : Nat)) ∧ Fr Nil w w' := free_ok _ pb bl l w h.1 h.2.lok
end
/-- From w on: what is new since w. -/
theorem Own.new {w w1 w2 : World} (h : Fr (Own w1 (New w)) w1 w2) (h1 : Fr Nil w w1) : Fr Nil w w2 := h1.trans h (fun k hk => .inr hk.1)
theorem New.up {w w1 : World} (h : Fr Nil w w1) : ∀ k, w1.heap.size ≤ k → New w k := fun k hk => Nat.le_trans h.size hk
/-- Runs that have just the blocks T (all of them are there). -/
structure RsT (w : World) (T : Nat → Prop) (pb bl : Nat) (l : List Rn) : Prop where
  rs : Rs w T pb bl l
  wf : Wf bl l
  lt : ∀ k, T k → k < w.heap.size
theorem RsT.fr {w w1 : World} {T S1 : Nat → Prop} {pb bl : Nat} {l : List Rn} (h : RsT w T pb bl l) (hf : Fr S1 w w1) (hn : ∀ k, T k → ¬ S1 k) : RsT w1 T pb bl l :=
  ⟨h.rs.fr hf fun k hk _ => hn k hk, h.wf, fun k hk => Nat.lt_of_lt_of_le (h.lt k hk) hf.size⟩
theorem RsT.nil {w w1 : World} {T : Nat → Prop} {pb bl : Nat} {l : List Rn} (h : RsT w T pb bl l) (hf : Fr Nil w w1) : RsT w1 T pb bl l := h.fr hf fun _ _ h => h
theorem RsT.of {w w1 : World} {T : Nat → Prop} {pb bl : Nat} {l : List Rn} (h : Rs w1 (fun j => T j ∨ w.heap.size ≤ j) pb bl l) (hw : Wf bl l) : ∃ T', RsT w1 T' pb bl l ∧ ∀ k, T' k → T k ∨ w.heap.size ≤ k :=
  ⟨_, ⟨h.bd, hw, fun k hk => hk.2⟩, fun k hk => hk.1⟩
theorem new_t (b : Int) (w : World) : Calls Try.prog 21 #[.int .i64 b] w fun e w' => ∃ pb T, e = .returned (.pointer (some ⟨pb, 0, none⟩)) ∧ RsT w' T pb (newBl b) (newL b) ∧ (∀ k, T k → w.heap.size ≤ k) ∧ Fr Nil w w' :=
  (new_ok b w).mono fun e w' ⟨pb, h1, h2, h3⟩ => ⟨pb, _, h1, ⟨h2.bd, newL_wf b, fun k hk => hk.2⟩, fun k hk => hk.1, h3⟩
section
variable {w : World} {T : Nat → Prop} {pb bl : Nat} {l : List Rn}
theorem take_t (h : RsT w T pb bl l) (n : Int) : Calls Try.prog 26 #[.pointer (some ⟨pb, 0, none⟩), .int .i64 n] w fun e w' =>
    e = .returned (.tuple #[.int .i64 (takeR l n).1, .bool (takeR l n).2]) ∧ (∃ T', RsT w' T' pb bl (takeL l n) ∧ ∀ k, T' k → T k ∨ w.heap.size ≤ k) ∧ Fr T w w' :=
  (take_ok T pb bl l n w h.rs h.wf.lok h.lt).mono fun e w' ⟨h1, h2, h3⟩ => ⟨h1, RsT.of h2 (take_wf h.wf n), h3⟩
theorem mark_t (h : RsT w T pb bl l) (a n : Int) : Calls Try.prog 22 #[.pointer (some ⟨pb, 0, none⟩), .int .i64 a, .int .i64 n] w fun e w' =>
    e = .returned (.bool (markR bl l a n)) ∧ (∃ T', RsT w' T' pb bl (markL bl l a n) ∧ ∀ k, T' k → T k ∨ w.heap.size ≤ k) ∧ Fr T w w' :=
  (mark_ok T pb bl l a n w h.rs h.wf.lok h.lt).mono fun e w' ⟨h1, h2, h3⟩ => ⟨h1, RsT.of h2 (mark_wf' h.wf a n), h3⟩
theorem give_t (h : RsT w T pb bl l) (a n : Int) : Calls Try.prog 32 #[.pointer (some ⟨pb, 0, none⟩), .int .i64 a, .int .i64 n] w fun e w' =>
    e = .returned (.bool (giveR bl l a n)) ∧ (∃ T', RsT w' T' pb bl (giveL bl l a n) ∧ ∀ k, T' k → T k ∨ w.heap.size ≤ k) ∧ Fr T w w' :=
  (give_ok T pb bl l a n w h.rs h.wf.lok h.lt).mono fun e w' ⟨h1, h2, h3⟩ => ⟨h1, RsT.of h2 (give_wf' h.wf a n), h3⟩
theorem list_t (h : RsT w T pb bl l) : Calls Try.prog 29 #[.pointer (some ⟨pb, 0, none⟩)] w fun e w' => ∃ A c, e = .returned (.slice A l.length c) ∧ Row w' (New w) 33 2 (.slice A l.length c) l.length (dbl l) ∧ Fr Nil w w' :=
  list_ok _ pb bl l w h.rs (Nat.le_trans h.wf.lok.2.1 (by decide))
theorem free_t (h : RsT w T pb bl l) : Calls Try.prog 8 #[.pointer (some ⟨pb, 0, none⟩)] w fun e w' => e = .returned (.int .i64 (sumN l : Nat)) ∧ Fr Nil w w' := free_ok _ pb bl l w h.rs h.wf.lok
end
end Go.Proofs.Ytgoghmblfdlnbaa
end

section
/- Shares: uses of runs as entries of a map; deletion; what is sorted. Plain lemmas. -/
set_option linter.unusedSimpArgs false
set_option linter.unusedVariables false
namespace Go.Proofs.Ytgoghmblfdlnbaa
open Go.RowKit Go.ChangeMaps Go.MapKept
/-- What is left without a key. -/
def mdel {α : Type} (l : List (Int × α)) (i : Int) : List (Int × α) := l.filter (fun p => !(p.1 == i))
theorem mdel_of {α : Type} {l l' : List (Int × α)} {i : Int} (hn : (l.map (·.1)).Nodup) (hs : l'.Sublist l) (h1 : ∀ p ∈ l', p.1 ≠ i) (h2 : ∀ p ∈ l, p.1 ≠ i → p ∈ l') : l' = mdel l i := by
  have hn2 : l.Nodup := by
    rw [List.Nodup, List.pairwise_map] at hn
    exact hn.imp (fun h e => h (by rw [e]))
  have e1 : l'.filter (fun p => !(p.1 == i)) = l' := List.filter_eq_self.2 fun p hp => by simpa using h1 p hp
  have hs2 : l'.Sublist (mdel l i) := by
    have := hs.filter (fun p => !(p.1 == i))
    rw [e1] at this
    exact this
  refine hs2.eq_of_length_le ?_
  refine List.Nodup.length_le_of_subset (hn2.filter _) fun p hp => ?_
  rw [mdel, List.mem_filter] at hp
  exact h2 p hp.1 (by simpa using hp.2)
/-- delete(m, i) -/
theorem KV.drop {P : Program} {k t e : TypeId} {w : World} {b : Nat} {l : List (Int × Value)} (h : KV w b l) (hk : P.underlying k = some (.int .i64)) (ht : P.underlying t = some (.map k e)) {i : Int} (hi : (Lit.int .i64 i).wf = true) (ty : TypeId) :
    ∃ w', (Builtin.delete_ #[t, k] ty #[.map (some b), .int .i64 i]).run P w = .ok (.tuple #[]) w' ∧ KV w' b (mdel l i) ∧ Fr (fun k => k = b) w w' := by
  have hnd := h.nodup
  have hlw := h
  obtain ⟨_, _, _, _, _, hlen, hwf⟩ := hlw
  obtain ⟨es, clock, hb, F, hs, he⟩ := h.parts hk
  obtain ⟨es', hrun, F', hle, _, hsub, hmem⟩ := fit_drop_who (ty := ty) (Maps.int_keyed (P := P) hk) ht hb F (Maps.keyOf_int_mk (P := P) hk hi)
  refine ⟨setBlock w b (.map es' clock), hrun, ⟨es', clock, heap_setBlock_same hb _, F'.stamped, ?_, ?_, ?_⟩, ⟨rfl, rfl, rfl, by simp [setBlock], fun k _ hn => heap_setBlock_other hb _ hn⟩⟩
  · have h1 := hsub.map (fun e => (e.key, e.val))
    rw [he] at h1
    obtain ⟨l', hl', e'⟩ := List.sublist_map_iff.1 h1
    rw [e']
    have inj : ∀ p q : Int × Value, ((Value.int .i64 p.1, p.2) : Value × Value) = (Value.int .i64 q.1, q.2) → p = q := fun p q h => by
      injection h with h1 h2
      injection h1 with _ h1
      exact Prod.ext h1 h2
    rw [mdel_of hnd hl' ?_ ?_]
    · intro p hp hpi
      have : (Value.int .i64 p.1, p.2) ∈ es'.toList.map (fun e => (e.key, e.val)) := by rw [e']; exact List.mem_map.2 ⟨p, hp, rfl⟩
      obtain ⟨x, hx, h2⟩ := List.mem_map.1 this
      injection h2 with h2 _
      exact ((hmem x).1 hx).2 (by rw [h2, hpi])
    · intro p hp hpi
      have : (Value.int .i64 p.1, p.2) ∈ es.toList.map (fun e => (e.key, e.val)) := by rw [he]; exact List.mem_map.2 ⟨p, hp, rfl⟩
      obtain ⟨x, hx, h2⟩ := List.mem_map.1 this
      have h3 : x ∈ es'.toList := (hmem x).2 ⟨hx, fun h4 => by
        injection h2 with h2 _
        rw [h2] at h4
        injection h4 with _ h4
        exact hpi h4⟩
      have h4 : (Value.int .i64 p.1, p.2) ∈ l'.map (fun p => (Value.int .i64 p.1, p.2)) := by rw [← e', ← h2]; exact List.mem_map.2 ⟨x, h3, rfl⟩
      obtain ⟨q, hq, h5⟩ := List.mem_map.1 h4
      rw [← inj _ _ h5]; exact hq
  · exact Nat.le_trans (List.length_filter_le _ _) hlen
  · intro p hp
    exact hwf p (List.mem_filter.1 hp).1
/-- delete(m, i) AT THE OPERATION. -/
theorem wp_mapdrop {P : Program} {k t e : TypeId} {w : World} {b : Nat} {l : List (Int × Value)} {ops : Array Oper} {rest : List Oper} {o : Oper} {a : Act} {Q : Exit → Act → World → Prop}
    (hg : o.guard = none) (m x : Operand) (hop : o.op = Op.call { callee := Callee.builtin Builtin.delete, args := #[m, x], argTypes := #[t, k] }) (hk : P.underlying k = some (.int .i64)) (ht : P.underlying t = some (.map k e))
    (h : KV w b l) (hm : a.eval m = .map (some b)) {i : Int} (hx : a.eval x = .int .i64 i) (hi : (Lit.int .i64 i).wf = true)
    (hK : Stop (∀ w', KV w' b (mdel l i) → Fr (fun k => k = b) w w' → wpList P ops Q rest (a.put o.dst (.tuple #[])) w') .mk) : wpList P ops Q (o :: rest) a w := by
  refine wpList_plain hg fun K' hK' => ?_
  obtain ⟨w', hrun, r1, r2⟩ := h.drop hk ht hi o.type
  unfold Oper.wp
  simp [execOp, hop, resolve, invoke, builtin, hm, hx, hrun, Result.andThen]
  exact hK' _ _ (hK w' r1 r2)

/-! ### uses -/
structure Us where
  a : Nat
  n : Nat
  k : Nat
instance : Inhabited Us := ⟨⟨0, 0, 0⟩⟩
def Us.r (u : Us) : Rn := ⟨u.a, u.n⟩
def uv (u : Us) : Value := .agg #[.int .i64 (u.a : Nat), .int .i64 (u.n : Nat), .int .i64 (u.k : Nat)]
def ent (u : Us) : Int × Value := ((u.a : Int), uv u)
def uget (U : List Us) (i : Int) : Option Us := U.find? (fun u => (u.a : Int) == i)
def ukeys (U : List Us) : List Int := U.map (fun u => (u.a : Int))
def uput (U : List Us) (u : Us) : List Us := if (uget U u.a).isSome then U.map (fun x => if (x.a : Int) == (u.a : Int) then u else x) else U ++ [u]
def udel (U : List Us) (i : Int) : List Us := U.filter (fun u => !((u.a : Int) == i))
def usesI (U : List Us) (i : Int) : Nat := match uget U i with | some u => u.k | none => 0
theorem mget_ent (U : List Us) (i : Int) : mget (U.map ent) i = (uget U i).map uv := by
  unfold mget uget
  rw [List.find?_map, Option.map_map]
  rfl
theorem ent_keys (U : List Us) : (U.map ent).map (·.1) = ukeys U := by rw [List.map_map]; rfl
theorem mput_ent (U : List Us) (u : Us) : mput (U.map ent) (u.a : Int) (uv u) = (uput U u).map ent := by
  unfold mput uput
  rw [mget_ent, Option.isSome_map]
  split
  · rw [List.map_map, List.map_map]
    refine List.map_congr_left fun x _ => ?_
    simp only [Function.comp_apply]
    show (if ((x.a : Int) == (u.a : Int)) = true then ((u.a : Int), uv u) else ent x) = ent (if ((x.a : Int) == (u.a : Int)) = true then u else x)
    by_cases h : ((x.a : Int) == (u.a : Int)) = true
    · rw [if_pos h, if_pos h]; rfl
    · rw [if_neg h, if_neg h]
  · rw [List.map_append]; rfl
theorem mdel_ent (U : List Us) (i : Int) : mdel (U.map ent) i = (udel U i).map ent := by
  unfold mdel udel
  rw [List.filter_map]
  rfl
theorem uget_mem {U : List Us} {i : Int} {u : Us} (h : uget U i = some u) : u ∈ U ∧ (u.a : Int) = i := by
  have h1 := List.mem_of_find?_eq_some h
  have h2 := List.find?_some h
  exact ⟨h1, by simpa using h2⟩
theorem uget_none {U : List Us} {i : Int} : uget U i = none ↔ ∀ u ∈ U, (u.a : Int) ≠ i := by
  unfold uget
  rw [List.find?_eq_none]
  exact ⟨fun h u hu => by simpa using h u hu, fun h u hu => by simpa using h u hu⟩
theorem uget_some {U : List Us} {u : Us} (hn : (ukeys U).Nodup) (h : u ∈ U) : uget U u.a = some u := by
  cases hg : uget U u.a with
  | none => exact absurd rfl (uget_none.1 hg u h)
  | some v =>
    obtain ⟨h1, h2⟩ := uget_mem hg
    rw [ukeys, List.Nodup, List.pairwise_map] at hn
    congr 1
    exact Classical.byContradiction fun hne => by
      obtain ⟨i, hi, e1⟩ := List.getElem_of_mem h1
      obtain ⟨j, hj, e2⟩ := List.getElem_of_mem h
      rcases Nat.lt_trichotomy i j with hij | hij | hij
      · exact List.pairwise_iff_getElem.1 hn i j hi hj hij (by rw [e1, e2]; exact h2)
      · subst hij; exact hne (e1.symm.trans e2)
      · exact List.pairwise_iff_getElem.1 hn j i hj hi hij (by rw [e1, e2]; exact h2.symm)
theorem usesI_pos {U : List Us} (hp : ∀ u ∈ U, 1 ≤ u.k) {i : Int} : usesI U i = 0 ↔ uget U i = none := by
  unfold usesI
  cases h : uget U i with
  | none => simp
  | some u => simp; have := hp u (uget_mem h).1; omega
/-! ### sorted -/
def leU (x y : Us) : Bool := decide ((x.a : Int) ≤ (y.a : Int))
def srtU (U : List Us) : List Us := U.mergeSort leU
def lst (U : List Us) : List Rn := (srtU U).map Us.r
theorem srtU_keys (U : List Us) : (ukeys U).mergeSort (fun x y => decide (x ≤ y)) = ukeys (srtU U) := by
  unfold ukeys srtU
  rw [List.map_mergeSort (s := fun x y => decide (x ≤ y))]
  intro a _ b _
  rfl
theorem srtU_perm (U : List Us) : (srtU U).Perm U := List.mergeSort_perm _ _
theorem srtU_length (U : List Us) : (srtU U).length = U.length := (srtU_perm U).length_eq
theorem lst_length (U : List Us) : (lst U).length = U.length := by unfold lst; rw [List.length_map, srtU_length]
theorem leU_trans (a b c : Us) (h1 : leU a b = true) (h2 : leU b c = true) : leU a c = true := by simp [leU] at *; omega
theorem leU_total (a b : Us) : (leU a b || leU b a) = true := by simp [leU]; omega
theorem srtU_sorted (U : List Us) : (srtU U).Pairwise fun a b => a.a ≤ b.a :=
  (List.pairwise_mergeSort leU_trans leU_total U).imp fun h => by simp [leU] at h; omega
theorem ukeys_perm {U V : List Us} (h : U.Perm V) : (ukeys U).Perm (ukeys V) := h.map _
theorem srtU_nodup {U : List Us} (hn : (ukeys U).Nodup) : (ukeys (srtU U)).Nodup := (ukeys_perm (srtU_perm U)).nodup_iff.2 hn
/-- Two lists of the same uses are sorted alike. -/
theorem srtU_unique {U V : List Us} (hn : (ukeys U).Nodup) (hp : U.Perm V) (hs : V.Pairwise fun a b => a.a ≤ b.a) : srtU U = V := by
  refine List.Perm.eq_of_pairwise (le := fun a b => a.a ≤ b.a) (fun a b ha hb h1 h2 => ?_) (srtU_sorted U) hs ((srtU_perm U).trans hp)
  have ha' : a ∈ U := (srtU_perm U).mem_iff.1 ha
  have hb' : b ∈ U := hp.mem_iff.2 hb
  have e1 := uget_some hn ha'
  have e2 := uget_some hn hb'
  rw [show a.a = b.a by omega, e2] at e1
  exact (Option.some.inj e1).symm
end Go.Proofs.Ytgoghmblfdlnbaa
end

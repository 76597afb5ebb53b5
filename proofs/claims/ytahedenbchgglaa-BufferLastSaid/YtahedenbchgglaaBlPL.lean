/- BufferLast: plain laws: the array of what came last against the map. -/
import Derived.Test.YtahedenbchgglaaBufA
set_option linter.unusedSimpArgs false
set_option linter.unusedVariables false
namespace Go.Proofs.Ytahedenbchgglaa
open Go.RowKit
def arr (la : List Int) : Array Value := (ints .i64 la).toArray
theorem arr_size (la : List Int) : (arr la).size = la.length := by simp [arr, ints]
theorem arr_at {la : List Int} {k : Nat} (h : k < la.length) : (arr la)[k]? = some (.int .i64 (la.getD k 0)) := by
  simp [arr, ints, List.getElem?_eq_getElem h]
theorem arr_set (la : List Int) (k : Nat) (v : Int) : (arr la).setIfInBounds k (.int .i64 v) = arr (la.set k v) := by
  simp [arr, ints, List.map_set]
theorem getZ_set {la : List Int} {k : Nat} {v : Int} {j : Nat} (hk : k < la.length) : (la.set k v).getD j 0 = if j = k then v else la.getD j 0 := by
  rw [List.getD_eq_getElem?_getD, List.getD_eq_getElem?_getD, List.getElem?_set]
  by_cases h : k = j
  · subst h; simp [hk]
  · rw [if_neg h, if_neg (fun e => h e.symm)]
/-- How many have come. -/
def cntN (la : List Int) : Nat := la.countP (fun z => z != 0)
theorem cntN_le (la : List Int) : cntN la ≤ la.length := List.countP_le_length
theorem cntN_set : ∀ {la : List Int} {k : Nat} {v : Int}, k < la.length → v ≠ 0 → cntN (la.set k v) = cntN la + if la.getD k 0 = 0 then 1 else 0
  | [], k, v, h, _ => absurd h (by simp)
  | b :: la, 0, v, _, hv => by
    have hv2 : (v != 0) = true := by simpa using hv
    show cntN (v :: la) = cntN (b :: la) + if b = 0 then 1 else 0
    unfold cntN
    rw [List.countP_cons, List.countP_cons, if_pos hv2]
    by_cases hb : b = 0
    · subst hb; simp
    · have : (b != 0) = true := by simpa using hb
      rw [if_pos this, if_neg hb]
  | b :: la, k + 1, v, h, hv => by
    have ih := cntN_set (la := la) (k := k) (v := v) (by simpa using h) hv
    show cntN (b :: la.set k v) = cntN (b :: la) + if la.getD k 0 = 0 then 1 else 0
    unfold cntN at ih ⊢
    rw [List.countP_cons, List.countP_cons, ih]
    omega
/-- What waits of a sector. -/
def Ent (w : World) (S : Nat → Prop) (o : Option Value) (z : Int) : Prop :=
  (z = 0 ∧ o = none) ∨ (z = -1 ∧ o = some (.slice none 0 0)) ∨ ∃ (i : Nat) (v : Value) (xs : List Nat), i < 100 ∧ z = (i : Int) + 1 ∧ o = some v ∧ View w S 1 v 128 (bys xs) ∧ xs[5]? = some i
theorem Ent.fr {w w1 : World} {S S1 : Nat → Prop} {o : Option Value} {z : Int} (h : Ent w S o z) (hf : Fr S1 w w1) (hn : ∀ k, S k → ¬ S1 k) : Ent w1 S o z := by
  rcases h with h | h | ⟨i, v, xs, h1, h2, h3, h4, h5⟩
  · exact .inl h
  · exact .inr (.inl h)
  · exact .inr (.inr ⟨i, v, xs, h1, h2, h3, h4.fr hf fun k hk _ => hn k hk, h5⟩)
structure Lst (w : World) (S : Nat → Prop) (l : List (Int × Value)) (la : List Int) : Prop where
  len : la.length = 32
  nd : (l.map (·.1)).Nodup
  cnt : l.length = cntN la
  rel : ∀ s : Nat, s < 32 → Ent w S (mget l (s : Int)) (la.getD s 0)
theorem Lst.start (w : World) (S : Nat → Prop) : Lst w S [] (List.replicate 32 0) := by
  refine ⟨by simp, by simp, by decide, fun s hs => .inl ⟨?_, by simp [mget]⟩⟩
  rw [List.getD_eq_getElem?_getD, List.getElem?_replicate]; split <;> rfl
theorem Lst.fr {w w1 : World} {S S1 : Nat → Prop} {l : List (Int × Value)} {la : List Int} (h : Lst w S l la) (hf : Fr S1 w w1) (hn : ∀ k, S k → ¬ S1 k) : Lst w1 S l la := ⟨h.len, h.nd, h.cnt, fun s hs => (h.rel s hs).fr hf hn⟩
theorem Lst.in_iff {w : World} {S : Nat → Prop} {l : List (Int × Value)} {la : List Int} (h : Lst w S l la) {s : Nat} (hs : s < 32) : (s : Int) ∈ l.map (·.1) ↔ la.getD s 0 ≠ 0 := by
  have h1 := mget_isSome (l := l) (i := (s : Int))
  rcases h.rel s hs with ⟨h2, h3⟩ | ⟨h2, h3⟩ | ⟨i, v, xs, _, h2, h3, _⟩
  · rw [h3] at h1
    rw [h2]
    simp at h1 ⊢
    exact h1
  · rw [h3] at h1
    rw [h2]
    have h1' : decide ((s : Int) ∈ l.map (·.1)) = true := h1.symm
    exact ⟨fun _ => by decide, fun _ => of_decide_eq_true h1'⟩
  · rw [h3] at h1
    rw [h2]
    have h1' : decide ((s : Int) ∈ l.map (·.1)) = true := h1.symm
    exact ⟨fun _ => by omega, fun _ => of_decide_eq_true h1'⟩
theorem Lst.put {w : World} {S : Nat → Prop} {l : List (Int × Value)} {la : List Int} (h : Lst w S l la) {s : Nat} (hs : s < 32) {v : Value} {z : Int} (hz : z ≠ 0) (he : Ent w S (some v) z) : Lst w S (mput l (s : Int) v) (la.set s z) := by
  refine ⟨by rw [List.length_set]; exact h.len, mput_nodup h.nd, ?_, fun j hj => ?_⟩
  · rw [mput_length, cntN_set (by rw [h.len]; exact hs) hz, ← h.cnt]
    have hi := h.in_iff hs
    by_cases h0 : la.getD s 0 = 0
    · rw [if_neg (fun hh => hi.1 hh h0), if_pos h0]
    · rw [if_pos (hi.2 h0), if_neg h0]; rfl
  · rw [mget_put h.nd, getZ_set (by rw [h.len]; exact hs)]
    by_cases hjs : j = s
    · subst hjs; rw [if_pos rfl, if_pos rfl]; exact he
    · rw [if_neg (by omega), if_neg hjs]; exact h.rel j hj
theorem Lst.room {w : World} {S : Nat → Prop} {l : List (Int × Value)} {la : List Int} (h : Lst w S l la) {s : Nat} (hs : s < 32) : (addKey (l.map (·.1)) (s : Int)).length ≤ 64 := by
  have h1 : (mput l (s : Int) (.bool true)).length = (addKey (l.map (·.1)) (s : Int)).length := by rw [← mput_keys' (v := .bool true), List.length_map]
  rw [← h1, mput_length]
  have h2 := h.cnt
  have h3 := cntN_le la
  rw [h.len] at h3
  split <;> omega
end Go.Proofs.Ytahedenbchgglaa

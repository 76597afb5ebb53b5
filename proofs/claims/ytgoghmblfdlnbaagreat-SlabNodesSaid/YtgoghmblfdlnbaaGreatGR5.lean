/- The texts SlLay, VMap, VRnV of this proof, one behind the other. Conditions: those of each. -/
import Derived.Shelf.SlIterI.Nil
import Derived.Shelf.SortM.Plain
import Derived.Shelf.SortM.SortNone
import Derived.Ground.GgzProg
import Derived.Ground.SlgmProg
import Derived.Test.YtgoghmblfdlnbaaGreatProg
import Derived.Maps.Keyed
import Derived.Maps.OwnSet
import Derived.MapViews
import Derived.Test.YtgoghmblfdlnbaaGreatGR1
import Derived.Test.YtgoghmblfdlnbaaGreatGR2
section
/- The layings of maps.Keys, slices.Sorted, slices.Sort at this program. Conditions: none. -/
namespace Go.Proofs.YtgoghmblfdlnbaaGreat
open Go.Shelf
def keysA_ren : Go.Shelf.Ren := ⟨fun | 7 => 87 | 10 => 107 | n => n, fun | 23 => 92 | 26 => 3 | 3 => 91 | 28 => 149 | 0 => 0 | 27 => 108 | 33 => 44 | 4 => 4 | n => n, fun | n => n⟩
theorem keysA : Go.Proofs.SlLaysZI.n7 Tryz.prog keysA_ren := {
  mixed := by kernel_rfl
  f7 := ⟨Tryz.f87.name, by decide, Tryz.func87.trans (congrArg some (by kernel_rfl))⟩
  f10 := ⟨Tryz.f107.name, by decide, Tryz.func107.trans (congrArg some (by kernel_rfl))⟩
  t0 := Tryz.underlying0
  a0 := Tryz.isAgg0
  z0 := Tryz.sizeOf0
  v0 := Tryz.zeroValue0
  t4 := Tryz.underlying4
  a4 := Tryz.isAgg4
  z4 := Tryz.sizeOf4
  v4 := Tryz.zeroValue4
  t23 := Tryz.underlying92
  a23 := Tryz.isAgg92
  z23 := Tryz.sizeOf92
  v23 := Tryz.zeroValue92
  t26 := Tryz.underlying3
  a26 := Tryz.isAgg3
  z26 := Tryz.sizeOf3
  v26 := Tryz.zeroValue3
  t27 := Tryz.underlying108
  a27 := Tryz.isAgg108
  z27 := Tryz.sizeOf108
  v27 := Tryz.zeroValue108
  t28 := Tryz.underlying149
  a28 := Tryz.isAgg149
  z28 := Tryz.sizeOf149
  v28 := Tryz.zeroValue149
  t33 := Tryz.underlying44
  a33 := Tryz.isAgg44
  z33 := Tryz.sizeOf44
  v33 := Tryz.zeroValue44 }
def sortedA_ren : Go.Shelf.Ren := ⟨fun | 6 => 86 | 8 => 105 | 9 => 106 | 11 => 117 | 13 => 119 | 12 => 118 | 23 => 134 | 24 => 135 | 14 => 125 | 15 => 126 | 16 => 127 | 17 => 128 | 18 => 129 | 19 => 130 | 20 => 131 | 21 => 132 | 22 => 133 | 25 => 145 | 26 => 146 | 27 => 147 | 28 => 148 | 29 => 149 | 30 => 150 | 31 => 155 | n => n, fun | 26 => 3 | 28 => 149 | 24 => 49 | 0 => 0 | 3 => 3 | 37 => 146 | 48 => 25 | 50 => 194 | 4 => 4 | 40 => 187 | 39 => 186 | 45 => 84 | 5 => 5 | 9 => 9 | 51 => 206 | 55 => 210 | 57 => 217 | 58 => 115 | 33 => 44 | n => n, fun | n => n⟩
theorem sortedA : Go.Proofs.SlLaysZI.n6 Tryz.prog sortedA_ren := {
  mixed := by kernel_rfl
  f6 := ⟨Tryz.f86.name, by decide, Tryz.func86.trans (congrArg some (by kernel_rfl))⟩
  f8 := ⟨Tryz.f105.name, by decide, Tryz.func105.trans (congrArg some (by kernel_rfl))⟩
  f11 := ⟨Tryz.f117.name, by decide, Tryz.func117.trans (congrArg some (by kernel_rfl))⟩
  t0 := Tryz.underlying0
  a0 := Tryz.isAgg0
  z0 := Tryz.sizeOf0
  v0 := Tryz.zeroValue0
  t24 := Tryz.underlying49
  a24 := Tryz.isAgg49
  z24 := Tryz.sizeOf49
  v24 := Tryz.zeroValue49
  t26 := Tryz.underlying3
  a26 := Tryz.isAgg3
  z26 := Tryz.sizeOf3
  v26 := Tryz.zeroValue3
  t28 := Tryz.underlying149
  a28 := Tryz.isAgg149
  z28 := Tryz.sizeOf149
  v28 := Tryz.zeroValue149
  i26 := by kernel_rfl }
def sortA_ren : Go.Shelf.Ren := ⟨fun | 5 => 106 | 8 => 119 | 7 => 118 | 19 => 134 | 20 => 135 | 10 => 125 | 11 => 126 | 12 => 127 | 13 => 128 | 14 => 129 | 15 => 130 | 16 => 131 | 17 => 132 | 18 => 133 | 30 => 145 | 31 => 146 | 32 => 147 | 33 => 148 | 34 => 149 | 35 => 150 | 40 => 155 | n => n, fun | 23 => 49 | 25 => 3 | 3 => 3 | 32 => 146 | 22 => 49 | 0 => 0 | 44 => 25 | 46 => 194 | 4 => 4 | 36 => 187 | 35 => 186 | 41 => 84 | 5 => 5 | 9 => 9 | 53 => 206 | 57 => 210 | 63 => 217 | 64 => 115 | n => n, fun | n => n⟩
theorem sortA : Go.Proofs.SlLaysM.n5 Tryz.prog sortA_ren := {
  mixed := by kernel_rfl
  f5 := ⟨Tryz.f106.name, by decide, Tryz.func106.trans (congrArg some (by kernel_rfl))⟩
  f7 := ⟨Tryz.f118.name, by decide, Tryz.func118.trans (congrArg some (by kernel_rfl))⟩
  f8 := Tryz.func119.trans (congrArg some (by kernel_rfl))
  f10 := ⟨Tryz.f125.name, by decide, Tryz.func125.trans (congrArg some (by kernel_rfl))⟩
  f11 := ⟨Tryz.f126.name, by decide, Tryz.func126.trans (congrArg some (by kernel_rfl))⟩
  f12 := ⟨Tryz.f127.name, by decide, Tryz.func127.trans (congrArg some (by kernel_rfl))⟩
  f13 := ⟨Tryz.f128.name, by decide, Tryz.func128.trans (congrArg some (by kernel_rfl))⟩
  f14 := ⟨Tryz.f129.name, by decide, Tryz.func129.trans (congrArg some (by kernel_rfl))⟩
  f15 := ⟨Tryz.f130.name, by decide, Tryz.func130.trans (congrArg some (by kernel_rfl))⟩
  f16 := ⟨Tryz.f131.name, by decide, Tryz.func131.trans (congrArg some (by kernel_rfl))⟩
  f17 := ⟨Tryz.f132.name, by decide, Tryz.func132.trans (congrArg some (by kernel_rfl))⟩
  f18 := ⟨Tryz.f133.name, by decide, Tryz.func133.trans (congrArg some (by kernel_rfl))⟩
  f19 := Tryz.func134.trans (congrArg some (by kernel_rfl))
  f20 := Tryz.func135.trans (congrArg some (by kernel_rfl))
  f30 := ⟨Tryz.f145.name, by decide, Tryz.func145.trans (congrArg some (by kernel_rfl))⟩
  f31 := Tryz.func146.trans (congrArg some (by kernel_rfl))
  f32 := Tryz.func147.trans (congrArg some (by kernel_rfl))
  f33 := ⟨Tryz.f148.name, by decide, Tryz.func148.trans (congrArg some (by kernel_rfl))⟩
  f34 := ⟨Tryz.f149.name, by decide, Tryz.func149.trans (congrArg some (by kernel_rfl))⟩
  f35 := ⟨Tryz.f150.name, by decide, Tryz.func150.trans (congrArg some (by kernel_rfl))⟩
  f40 := ⟨Tryz.f155.name, by decide, Tryz.func155.trans (congrArg some (by kernel_rfl))⟩
  t0 := Tryz.underlying0
  a0 := Tryz.isAgg0
  z0 := Tryz.sizeOf0
  v0 := Tryz.zeroValue0
  t3 := Tryz.underlying3
  a3 := Tryz.isAgg3
  z3 := Tryz.sizeOf3
  v3 := Tryz.zeroValue3
  t4 := Tryz.underlying4
  a4 := Tryz.isAgg4
  z4 := Tryz.sizeOf4
  v4 := Tryz.zeroValue4
  t5 := Tryz.underlying5
  a5 := Tryz.isAgg5
  z5 := Tryz.sizeOf5
  v5 := Tryz.zeroValue5
  t9 := Tryz.underlying9
  a9 := Tryz.isAgg9
  z9 := Tryz.sizeOf9
  v9 := Tryz.zeroValue9
  t22 := Tryz.underlying49
  a22 := Tryz.isAgg49
  z22 := Tryz.sizeOf49
  v22 := Tryz.zeroValue49
  t23 := Tryz.underlying49
  a23 := Tryz.isAgg49
  z23 := Tryz.sizeOf49
  v23 := Tryz.zeroValue49
  t25 := Tryz.underlying3
  a25 := Tryz.isAgg3
  z25 := Tryz.sizeOf3
  v25 := Tryz.zeroValue3
  t32 := Tryz.underlying146
  a32 := Tryz.isAgg146
  z32 := Tryz.sizeOf146
  v32 := Tryz.zeroValue146
  t35 := Tryz.underlying186
  a35 := Tryz.isAgg186
  z35 := Tryz.sizeOf186
  v35 := Tryz.zeroValue186
  t36 := Tryz.underlying187
  a36 := Tryz.isAgg187
  z36 := Tryz.sizeOf187
  v36 := Tryz.zeroValue187
  t41 := Tryz.underlying84
  a41 := Tryz.isAgg84
  z41 := Tryz.sizeOf84
  v41 := Tryz.zeroValue84
  t44 := Tryz.underlying25
  a44 := Tryz.isAgg25
  z44 := Tryz.sizeOf25
  v44 := Tryz.zeroValue25
  t46 := Tryz.underlying194
  a46 := Tryz.isAgg194
  z46 := Tryz.sizeOf194
  v46 := Tryz.zeroValue194
  t53 := Tryz.underlying206
  a53 := Tryz.isAgg206
  z53 := Tryz.sizeOf206
  v53 := Tryz.zeroValue206
  t57 := Tryz.underlying210
  a57 := Tryz.isAgg210
  z57 := Tryz.sizeOf210
  v57 := Tryz.zeroValue210
  t63 := Tryz.underlying217
  a63 := Tryz.isAgg217
  z63 := Tryz.sizeOf217
  v63 := Tryz.zeroValue217
  t64 := Tryz.underlying115
  a64 := Tryz.isAgg115
  z64 := Tryz.sizeOf115
  v64 := Tryz.zeroValue115 }
end Go.Proofs.YtgoghmblfdlnbaaGreat
end

section
/- Maps with integer keys: a map's block read as the list of its entries in the order in which they came; the walk's laws over it. Conditions: none; plain lemmas over any program. -/
set_option linter.unusedSimpArgs false
set_option linter.unusedVariables false
namespace Go.Proofs.YtgoghmblfdlnbaaGreat
open Go.RowKit Go.ChangeMaps Go.MapKept
open Go.WideElems (Fit rd rg pl)
open Go.Maps (Keyed)

/-! ### lists of entries -/
section
variable {α : Type}
def mget (l : List (Int × α)) (i : Int) : Option α := (l.find? (fun p => p.1 == i)).map (·.2)
def mput (l : List (Int × α)) (i : Int) (v : α) : List (Int × α) := if (mget l i).isSome then l.map (fun p => if p.1 == i then (i, v) else p) else l ++ [(i, v)]
theorem mget_none {l : List (Int × α)} {i : Int} (h : ∀ p ∈ l, p.1 ≠ i) : mget l i = none := by
  unfold mget
  rw [List.find?_eq_none.2 (fun p hp => by simpa using h p hp)]
  rfl
theorem mget_some {l : List (Int × α)} {i : Int} {v : α} (hn : (l.map (·.1)).Nodup) (h : (i, v) ∈ l) : mget l i = some v := by
  induction l with
  | nil => simp at h
  | cons p l ih =>
    rw [List.map_cons, List.nodup_cons] at hn
    unfold mget at ih ⊢
    rw [List.find?_cons]
    by_cases hp : p.1 = i
    · rcases List.mem_cons.1 h with rfl | h
      · simp
      · exact absurd (List.mem_map.2 ⟨_, h, hp.symm⟩) hn.1
    · rw [show (p.1 == i) = false by simpa using hp]
      rcases List.mem_cons.1 h with rfl | h
      · exact absurd rfl hp
      · exact ih hn.2 h
theorem mget_mem {l : List (Int × α)} {i : Int} {v : α} (h : mget l i = some v) : (i, v) ∈ l := by
  unfold mget at h
  rw [Option.map_eq_some_iff] at h
  obtain ⟨p, hp, rfl⟩ := h
  have h1 := List.mem_of_find?_eq_some hp
  have h2 := List.find?_some hp
  simp at h2
  subst h2
  exact h1
theorem mget_isSome {l : List (Int × α)} {i : Int} : (mget l i).isSome = decide (i ∈ l.map (·.1)) := by
  cases h : mget l i with
  | none =>
    have : i ∉ l.map (·.1) := by
      intro hi
      obtain ⟨p, hp, rfl⟩ := List.mem_map.1 hi
      unfold mget at h
      rw [Option.map_eq_none_iff, List.find?_eq_none] at h
      exact h p hp (by simp)
    simp [this]
  | some v =>
    have : i ∈ l.map (·.1) := List.mem_map.2 ⟨_, mget_mem h, rfl⟩
    simp [this]
theorem mput_keys {l : List (Int × α)} {i : Int} {v : α} : (mput l i v).map (·.1) = if i ∈ l.map (·.1) then l.map (·.1) else l.map (·.1) ++ [i] := by
  unfold mput
  rw [mget_isSome]
  by_cases h : i ∈ l.map (·.1)
  · rw [if_pos (by simpa using h), if_pos h, List.map_map]
    refine List.map_congr_left fun p _ => ?_
    by_cases hp : p.1 = i <;> simp [hp]
  · rw [if_neg (by simpa using h), if_neg h]
    simp
theorem mput_nodup {l : List (Int × α)} {i : Int} {v : α} (hn : (l.map (·.1)).Nodup) : ((mput l i v).map (·.1)).Nodup := by
  rw [mput_keys]
  split
  · exact hn
  · rename_i h
    rw [List.nodup_append]
    exact ⟨hn, by simp, fun a ha b hb e => by simp at hb; subst hb; subst e; exact h ha⟩
theorem mput_length {l : List (Int × α)} {i : Int} {v : α} : (mput l i v).length = if i ∈ l.map (·.1) then l.length else l.length + 1 := by
  have := congrArg List.length (mput_keys (l := l) (i := i) (v := v))
  rw [List.length_map] at this
  rw [this]
  split <;> simp
theorem mget_put {l : List (Int × α)} {i j : Int} {v : α} (hn : (l.map (·.1)).Nodup) : mget (mput l i v) j = if j = i then some v else mget l j := by
  have hn' := mput_nodup (v := v) (i := i) hn
  by_cases h : j = i
  · subst h
    rw [if_pos rfl]
    refine mget_some hn' ?_
    unfold mput
    split
    · rename_i h
      rw [mget_isSome] at h
      simp only [decide_eq_true_eq, List.mem_map] at h
      obtain ⟨p, hp, h⟩ := h
      exact List.mem_map.2 ⟨p, hp, by simp [h]⟩
    · simp
  · rw [if_neg h]
    cases hg : mget l j with
    | none =>
      refine mget_none fun p hp e => ?_
      have h1 : j ∈ (mput l i v).map (·.1) := List.mem_map.2 ⟨p, hp, e⟩
      have h2 : j ∉ l.map (·.1) := by
        have := mget_isSome (l := l) (i := j)
        rw [hg] at this
        simpa using this
      rw [mput_keys] at h1
      split at h1
      · exact h2 h1
      · simp only [List.mem_append, List.mem_singleton] at h1
        exact h1.elim h2 h
    | some u =>
      refine mget_some hn' ?_
      have := mget_mem hg
      unfold mput
      split
      · exact List.mem_map.2 ⟨_, this, by simp [h]⟩
      · simp [this]
theorem mput_mem {l : List (Int × α)} {i : Int} {v : α} {p : Int × α} (h : p ∈ mput l i v) : p = (i, v) ∨ (p ∈ l) := by
  unfold mput at h
  split at h
  · obtain ⟨q, hq, rfl⟩ := List.mem_map.1 h
    by_cases hqi : q.1 = i <;> simp [hqi, hq]
  · simp only [List.mem_append, List.mem_singleton] at h
    exact h.symm
end

/-! ### a map's block -/
@[go_sem] theorem go_makeMap {P : Program} (t : TypeId) (w : World) : (Instr.makeMap t none).run P w = .ok (.map (some w.heap.size)) (w.alloc (.map #[] 0)) := rfl
/-- Block b is a map whose entries are l, in the order in which they came. -/
def KV (w : World) (b : Nat) (l : List (Int × Value)) : Prop :=
  ∃ es clock, w.heap[b]? = some (.map es clock) ∧ Stamped es clock ∧ es.toList.map (fun e => (e.key, e.val)) = l.map (fun p => (Value.int .i64 p.1, p.2)) ∧ l.length ≤ 1000000 ∧ ∀ p ∈ l, (Lit.int .i64 p.1).wf = true

section
variable {P : Program} {k t e : TypeId} {w w1 : World} {b : Nat} {l : List (Int × Value)}
theorem KV.lt (h : KV w b l) : b < w.heap.size := by
  obtain ⟨es, clock, hb, _⟩ := h
  exact (Array.getElem?_eq_some_iff.1 hb).1
theorem KV.fr {S : Nat → Prop} (h : KV w b l) (hf : Fr S w w1) (hn : ¬ S b) : KV w1 b l := by
  have hlt := h.lt
  obtain ⟨es, clock, hb, r⟩ := h
  exact ⟨es, clock, (hf.block b hlt hn).trans hb, r⟩
theorem KV.drew (h : KV w b l) : KV w.drew b l := h
theorem KV.alloc (h : KV w b l) (o : Obj) : KV (w.alloc o) b l := h.fr ((Fr.refl Nil w).alloc o) id
theorem KV.made (w : World) : KV (w.alloc (.map #[] 0)) w.heap.size [] := ⟨#[], 0, (MapKept.heap_alloc w _).1, stamped_empty 0, rfl, by simp, by simp⟩
theorem KV.nodup (h : KV w b l) : (l.map (·.1)).Nodup := by
  obtain ⟨es, clock, hb, hst, he, _, _⟩ := h
  have h3 := ((stamped_iff es clock).1 hst).2.2
  have h4 : (es.toList.map (fun x => x.key)).Nodup := by rw [List.Nodup, List.pairwise_map]; exact h3
  have h5 : es.toList.map (fun x => x.key) = l.map (fun p => Value.int .i64 p.1) := by
    have := congrArg (List.map Prod.fst) he
    simpa [List.map_map, Function.comp_def] using this
  rw [h5, List.Nodup, List.pairwise_map] at h4
  rw [List.Nodup, List.pairwise_map]
  exact h4.imp (fun h e => h (by rw [e]))
theorem KV.parts (h : KV w b l) (hk : P.underlying k = some (.int .i64)) : ∃ es clock, w.heap[b]? = some (.map es clock) ∧ Fit (H := Unit) P k (fun _ => some (.nil, [])) es clock ∧ es.size = l.length ∧ es.toList.map (fun e => (e.key, e.val)) = l.map (fun p => (Value.int .i64 p.1, p.2)) := by
  obtain ⟨es, clock, hb, hst, he, hl, hw⟩ := h
  have hs : es.size = l.length := by have := congrArg List.length he; simpa using this
  refine ⟨es, clock, hb, ⟨by rw [hs]; unfold maxLen; omega, hst, fun x hx => ?_⟩, hs, he⟩
  have : (x.key, x.val) ∈ l.map (fun p => (Value.int .i64 p.1, p.2)) := by rw [← he]; exact List.mem_map.2 ⟨x, hx, rfl⟩
  obtain ⟨p, hp, h1⟩ := List.mem_map.1 this
  injection h1 with h1 h2
  exact ⟨(.int .i64 p.1, .nil), by simp [Go.WideElems.rd, ← h1, Maps.keyOf_int_mk hk (hw p hp)]⟩
theorem KV.heap (h : KV w b l) : ∃ es clock, w.heap[b]? = some (.map es clock) ∧ es.size = l.length := by
  obtain ⟨es, clock, hb, hst, he, hl, hw⟩ := h
  exact ⟨es, clock, hb, by have := congrArg List.length he; simpa using this⟩

/-- v, ok := m[i] (c = true); m[i] (c = false) -/
theorem KV.look (h : KV w b l) (hk : P.underlying k = some (.int .i64)) (ht : P.underlying t = some (.map k e)) {z : Value} (hz : (zeroValue e).run P w = .ok z w) (c : Bool) {i : Int} (hi : (Lit.int .i64 i).wf = true) :
    (Instr.lookup t (.map (some b)) (.int .i64 i) c).run P w = .ok (if c then .tuple #[(mget l i).getD z, .bool (mget l i).isSome] else (mget l i).getD z) w := by
  have hnd := h.nodup
  obtain ⟨es, clock, hb, F, hs, he⟩ := h.parts hk
  rcases Maps.fit_look c (Maps.int_keyed hk) ht hz hb F (Maps.keyOf_int_mk hk hi) with ⟨hrun, hno, _⟩ | ⟨e0, y, hm, hkey, hrun, _⟩
  · have : mget l i = none := mget_none fun p hp e1 => by
      have : (Value.int .i64 p.1, p.2) ∈ es.toList.map (fun e => (e.key, e.val)) := by rw [he]; exact List.mem_map.2 ⟨p, hp, rfl⟩
      obtain ⟨x, hx, h1⟩ := List.mem_map.1 this
      injection h1 with h1 h2
      exact hno x hx (by rw [h1, e1])
    rw [this, hrun]
    rfl
  · have : (e0.key, e0.val) ∈ l.map (fun p => (Value.int .i64 p.1, p.2)) := by rw [← he]; exact List.mem_map.2 ⟨e0, hm, rfl⟩
    obtain ⟨p, hp, h1⟩ := List.mem_map.1 this
    injection h1 with h1 h2
    rw [hkey] at h1
    injection h1 with _ h1
    have hg : mget l i = some e0.val := mget_some hnd (by rw [← h1, ← h2]; exact hp)
    rw [hg, hrun]
    rfl

/-- m[i] = v -/
theorem KV.store (h : KV w b l) (hk : P.underlying k = some (.int .i64)) (ht : P.underlying t = some (.map k e)) {i : Int} {v : Value} (hi : (Lit.int .i64 i).wf = true) (hl : (mput l i v).length ≤ 1000000) :
    ∃ w', (Instr.mapUpdate t (.map (some b)) (.int .i64 i) v).run P w = .ok () w' ∧ KV w' b (mput l i v) ∧ Fr (fun k => k = b) w w' := by
  have hwf : ∀ p ∈ mput l i v, (Lit.int .i64 p.1).wf = true := by
    obtain ⟨_, _, _, _, _, _, hw⟩ := h
    intro p hp
    rcases mput_mem hp with rfl | hp
    · exact hi
    · exact hw p hp
  have hnd := h.nodup
  obtain ⟨es, clock, hb, F, hs, he⟩ := h.parts hk
  have K := Maps.int_keyed (P := P) hk
  have hkey := Maps.keyOf_int_mk (P := P) hk hi
  have fr : ∀ es' clock', Fr (fun k => k = b) w (setBlock w b (.map es' clock')) := fun es' clock' =>
    ⟨rfl, rfl, rfl, by simp [setBlock], fun k _ hn => heap_setBlock_other hb _ hn⟩
  have hst := F.stamped
  rcases K.find w hkey es.toList F.keys with ⟨h1, h2⟩ | ⟨j, e0, h1, h2, h3⟩
  · have hn : mget l i = none := mget_none fun p hp e1 => by
      have : (Value.int .i64 p.1, p.2) ∈ es.toList.map (fun e => (e.key, e.val)) := by rw [he]; exact List.mem_map.2 ⟨p, hp, rfl⟩
      obtain ⟨x, hx, h1⟩ := List.mem_map.1 this
      injection h1 with h1 h2'
      exact h2 x hx (by rw [h1, e1])
    have hm : mput l i v = l ++ [(i, v)] := by simp [mput, hn]
    refine ⟨setBlock w b (.map (es.push ⟨.int .i64 i, v, clock⟩) (clock + 1)), ?_, ⟨_, _, heap_setBlock_same hb _, stamped_push F.stamped h2, ?_, hl, hwf⟩, fr _ _⟩
    · simp [Instr.mapUpdate, run_underlying ht, MapKept.run_getObj_map hb, K.check w false hkey, h1, MapKept.run_setObj_map _ hb, Result.andThen, setBlock]
    · rw [hm, Array.toList_push, List.map_append, he, List.map_append]
      rfl
  · have hj : es[j]? = some e0 := by simpa using h2
    have hjl : j < es.toList.length := (List.getElem?_eq_some_iff.1 h2).1
    have hkeyf : ∀ e', es[j]? = some e' → ({ e' with key := Value.int .i64 i, val := v } : MapEntry).key = e'.key := fun e' he' => by rw [hj] at he'; cases he'; exact h3.symm
    have hlist : (es.modify j (fun e' => { e' with key := Value.int .i64 i, val := v })).toList = es.toList.set j { e0 with key := Value.int .i64 i, val := v } := by rw [Array.toList_modify, modify_eq_set _ _ _ _ h2]
    have hlj : l[j]? = some (i, e0.val) := by
      have := congrArg (fun x => x[j]?) he
      simp only [List.getElem?_map, h2, Option.map_some] at this
      cases hlj : l[j]? with
      | none => rw [hlj] at this; cases this
      | some p =>
        rw [hlj] at this
        simp only [Option.map_some, Option.some.injEq, Prod.mk.injEq] at this
        obtain ⟨t1, t2⟩ := this
        rw [h3] at t1
        injection t1 with _ t1
        exact congrArg some (Prod.ext t1.symm t2.symm)
    have hmem : i ∈ l.map (·.1) := List.mem_map.2 ⟨_, List.mem_of_getElem? hlj, rfl⟩
    have hm : mput l i v = l.set j (i, v) := by
      unfold mput
      rw [mget_isSome, if_pos (by simpa using hmem)]
      refine List.ext_getElem? fun n => ?_
      rw [List.getElem?_map, List.getElem?_set]
      by_cases hnj : j = n
      · subst hnj
        rw [hlj]
        simp [(List.getElem?_eq_some_iff.1 hlj).1]
      · rw [if_neg hnj]
        cases hln : l[n]? with
        | none => rfl
        | some p =>
          have : p.1 ≠ i := by
            intro hp
            have e1 : (l.map (·.1))[n]? = some i := by rw [List.getElem?_map, hln]; simp [hp]
            have e2 : (l.map (·.1))[j]? = some i := by rw [List.getElem?_map, hlj]; rfl
            have hn1 := (List.getElem?_eq_some_iff.1 e2).1
            exact hnj ((List.getElem?_inj hn1 hnd).1 (by rw [e1, e2]))
          simp [this]
    refine ⟨setBlock w b (.map (es.modify j (fun e' => { e' with key := Value.int .i64 i, val := v })) clock), ?_, ⟨_, _, heap_setBlock_same hb _, stamped_modify F.stamped _ _ (fun _ _ => rfl) (fun e' _ he' => hkeyf e' he'), ?_, hl, hwf⟩, fr _ _⟩
    · simp [Instr.mapUpdate, run_underlying ht, MapKept.run_getObj_map hb, K.check w false hkey, h1, hj, h3, K.stays w hkey, MapKept.run_setObj_map _ hb, Result.andThen, setBlock]
    · rw [hlist, hm, List.map_set, List.map_set, he]

/-- len(m) -/
theorem KV.len (h : KV w b l) (hk : P.underlying t = some (.map (P.mapKeyOf t) (P.mapElemOf t))) (ty : TypeId) : (Builtin.len_ #[t] ty #[.map (some b)]).run P w = .ok (.int .i64 (l.length : Int)) w := by
  obtain ⟨es, clock, hb, hs⟩ := h.heap
  rw [run_len_map w t ty b es clock hk hb, hs]
  rfl

/-- clear(m) -/
theorem KV.clear (h : KV w b l) (ht : P.underlying t = some (.map k e)) (ty : TypeId) : ∃ w', (Builtin.clear_ #[t] ty #[.map (some b)]).run P w = .ok (.tuple #[]) w' ∧ KV w' b [] ∧ Fr (fun k => k = b) w w' := by
  obtain ⟨es, clock, hb, _⟩ := h
  refine ⟨setBlock w b (.map #[] clock), ?_, ⟨#[], clock, heap_setBlock_same hb _, stamped_empty _, rfl, by simp, by simp⟩, ⟨rfl, rfl, rfl, by simp [setBlock], fun k _ hn => heap_setBlock_other hb _ hn⟩⟩
  simp [Builtin.clear_, run_underlying ht, MapKept.run_getObj_map hb, MapKept.run_setObj_map _ hb, Result.andThen, setBlock]

/-- m[i] = v AT THE OPERATION. -/
theorem wp_mapput {ops : Array Oper} {rest : List Oper} {o : Oper} {a : Act} {Q : Exit → Act → World → Prop}
    (hg : o.guard = none) (m x y : Operand) (hop : o.op = Op.mapUpdate t m x y) (hk : P.underlying k = some (.int .i64)) (ht : P.underlying t = some (.map k e))
    (h : KV w b l) (hm : a.eval m = .map (some b)) {i : Int} {v : Value} (hx : a.eval x = .int .i64 i) (hv : a.eval y = v) (hi : (Lit.int .i64 i).wf = true) (hl : (mput l i v).length ≤ 1000000)
    (hK : Stop (∀ w', KV w' b (mput l i v) → Fr (fun k => k = b) w w' → wpList P ops Q rest (a.put o.dst undef) w') .mk) : wpList P ops Q (o :: rest) a w := by
  refine wpList_plain hg fun K' hK' => ?_
  obtain ⟨w', hrun, r1, r2⟩ := h.store hk ht hi hl (v := v)
  unfold Oper.wp
  simp [execOp, hop, hm, hx, hv, hrun, Result.andThen]
  exact hK' _ _ (hK w' r1 r2)
end
end Go.Proofs.YtgoghmblfdlnbaaGreat
end

section
/- Runs of blocks: their abstract shape (no program). -/
set_option linter.unusedSimpArgs false
set_option linter.unusedVariables false
namespace Go.Proofs.YtgoghmblfdlnbaaGreat
open Go.RowKit

/-- A run: its first block, how many. -/
structure Rn where
  a : Nat
  n : Nat
deriving DecidableEq
def rcells (r : Rn) : List Value := [.int .i64 (r.a : Nat), .int .i64 (r.n : Nat)]
def dbl (l : List Rn) : List Value := l.flatMap rcells
def rn (l : List Rn) (i : Nat) : Rn := l.getD i ⟨0, 0⟩
theorem dbl_length (l : List Rn) : (dbl l).length = l.length * 2 := by
  induction l with
  | nil => rfl
  | cons k l ih => simp [dbl, rcells] at ih ⊢; omega
theorem dbl_append (a b : List Rn) : dbl (a ++ b) = dbl a ++ dbl b := by simp [dbl]
theorem dbl_one (a : Rn) : dbl [a] = rcells a := by simp [dbl]
theorem dbl_cell (l : List Rn) : ∀ u ∈ dbl l, u.oneCell' = true := by
  intro u hu
  obtain ⟨r, _, hr⟩ := List.mem_flatMap.1 hu
  simp [rcells] at hr
  rcases hr with rfl | rfl <;> rfl
theorem rcells_cell (r : Rn) : ∀ u ∈ rcells r, u.oneCell' = true := by
  intro u hu
  simp [rcells] at hu
  rcases hu with rfl | rfl <;> rfl
theorem dbl_take : ∀ (l : List Rn) (i : Nat), (dbl l).take (i * 2) = dbl (l.take i)
  | [], i => by simp [dbl]
  | k :: l, 0 => by simp [dbl]
  | k :: l, i + 1 => by
    have := dbl_take l i
    show (rcells k ++ dbl l).take ((i + 1) * 2) = rcells k ++ dbl (l.take i)
    rw [List.take_append, show (i + 1) * 2 - (rcells k).length = i * 2 by simp [rcells]; omega, this, List.take_of_length_le (by simp [rcells]; omega)]
theorem dbl_drop : ∀ (l : List Rn) (i : Nat), (dbl l).drop (i * 2) = dbl (l.drop i)
  | [], i => by simp [dbl]
  | k :: l, 0 => by simp [dbl]
  | k :: l, i + 1 => by
    have := dbl_drop l i
    show (rcells k ++ dbl l).drop ((i + 1) * 2) = dbl (l.drop i)
    rw [List.drop_append, show (i + 1) * 2 - (rcells k).length = i * 2 by simp [rcells]; omega, this, List.drop_of_length_le (by simp [rcells]; omega), List.nil_append]
theorem rn_eq {l : List Rn} {i : Nat} (h : i < l.length) : rn l i = l[i] := by simp [rn, List.getElem?_eq_getElem h]
theorem dbl_get {l : List Rn} {i : Nat} (h : i < l.length) : (dbl l)[i * 2]? = some (.int .i64 ((rn l i).a : Nat)) ∧ (dbl l)[i * 2 + 1]? = some (.int .i64 ((rn l i).n : Nat)) := by
  have hd := dbl_drop l i
  rw [List.drop_eq_getElem_cons h, ← rn_eq h] at hd
  have h0 : ((dbl l).drop (i * 2))[0]? = some (.int .i64 ((rn l i).a : Nat)) := by rw [hd]; rfl
  have h1 : ((dbl l).drop (i * 2))[1]? = some (.int .i64 ((rn l i).n : Nat)) := by rw [hd]; rfl
  rw [List.getElem?_drop] at h0 h1
  exact ⟨h0, h1⟩
theorem take_snoc {α : Type} [Inhabited α] {l : List α} {i : Nat} (h : i < l.length) : l.take (i + 1) = l.take i ++ [l[i]] := List.take_succ_eq_append_getElem h

/-- An element is read. -/
theorem rn_at {w : World} {S : Nat → Prop} {A : Option Addr} {n c : Nat} {l : List Rn} (h : View w S 2 (.slice A n c) n (dbl l)) {i : Nat} (hi : i < n) :
    ∃ b o, A = some ⟨b, o, none⟩ ∧ S b ∧ b < w.heap.size ∧ w.cell? ⟨b, o + i * 2, none⟩ = some (.int .i64 ((rn l i).a : Nat)) ∧ w.cell? ⟨b, o + i * 2 + 1, none⟩ = some (.int .i64 ((rn l i).n : Nat)) := by
  obtain ⟨hl, A', c', e, _, _, _, _, h5⟩ := h
  injection e with ea _ ec
  subst ea; subst ec
  obtain ⟨b, o, hA, hS, hb, hc⟩ := h5 (by omega)
  obtain ⟨g0, g1⟩ := dbl_get (l := l) (i := i) (by rw [dbl_length] at hl; omega)
  exact ⟨b, o, hA, hS, hb, hc _ _ g0, hc _ _ g1⟩
theorem View.len2 {w : World} {S : Nat → Prop} {v : Value} {n : Nat} {l : List Rn} (h : View w S 2 v n (dbl l)) : l.length = n := by
  have := h.length; rw [dbl_length] at this; omega
/-- Those that have blocks. -/
def nz (r : Rn) : Bool := r.n != 0
def zi (l : List Rn) : Nat := (l.takeWhile nz).length
theorem zi_le (l : List Rn) : zi l ≤ l.length := (List.takeWhile_sublist nz).length_le
theorem zi_unique {l : List Rn} {i : Nat} (hi : i ≤ l.length) (h : ∀ j, j < i → nz (rn l j) = true) (h2 : i < l.length → nz (rn l i) = false) : zi l = i := by
  induction l generalizing i with
  | nil => simp at hi; subst hi; rfl
  | cons r l ih =>
    unfold zi
    cases i with
    | zero =>
      have : nz r = false := h2 (by simp)
      simp [List.takeWhile_cons, this]
    | succ i =>
      have h0 : nz r = true := h 0 (by omega)
      have := ih (i := i) (by simpa using hi) (fun j hj => h (j + 1) (by omega)) (fun hl => h2 (by simpa using hl))
      rw [List.takeWhile_cons, if_pos h0, List.length_cons]
      unfold zi at this
      omega
theorem zi_filter (l : List Rn) : (l.take (zi l)).filter nz = l.take (zi l) ∧ (zi l < l.length → nz (rn l (zi l)) = false) ∧ (∀ j, j < zi l → nz (rn l j) = true) := by
  induction l with
  | nil => exact ⟨rfl, fun h => absurd h (by simp [zi]), fun j hj => absurd hj (by simp [zi])⟩
  | cons r l ih =>
    unfold zi at ih ⊢
    by_cases h : nz r = true
    · rw [List.takeWhile_cons, if_pos h, List.length_cons]
      refine ⟨?_, fun hl => ih.2.1 (by simpa using hl), fun j hj => ?_⟩
      · rw [List.take_succ_cons, List.filter_cons, if_pos h, ih.1]
      · cases j with
        | zero => exact h
        | succ j => exact ih.2.2 j (by omega)
    · rw [List.takeWhile_cons, if_neg h]
      exact ⟨rfl, fun _ => (by show nz r = false; simpa using h), fun j hj => absurd hj (by simp)⟩
end Go.Proofs.YtgoghmblfdlnbaaGreat
end

/- The texts VShPL, VShS, VStep, VShW of this proof, one behind the other. Conditions: those of each. -/
import Derived.Maps.Range
import Derived.Shelf.SlMaps.Clone
import Derived.WideShapes
import Derived.Deep.AppendLies
import Derived.Deep.QuietTactic
import Derived.BigQuiet
import Derived.Test.YtgoghmblfdlnbaaGreatGR1
import Derived.Test.YtgoghmblfdlnbaaGreatGR3
import Derived.Test.YtgoghmblfdlnbaaGreatGR5
import Derived.Test.YtgoghmblfdlnbaaGreatGR11
section
/- Shares: uses of runs as entries of a map; deletion; what is sorted. Plain lemmas. -/
set_option linter.unusedSimpArgs false
set_option linter.unusedVariables false
namespace Go.Proofs.YtgoghmblfdlnbaaGreat
open Go.RowKit Go.ChangeMaps Go.MapKept
/-- What is left without a key. -/
def mdel {α : Type} (l : List (Int × α)) (i : Int) : List (Int × α) := l.filter (fun p => !(p.1 == i))
theorem mdel_of {α : Type} {l l' : List (Int × α)} {i : Int} (hn : (l.map (·.1)).Nodup) (hs : l'.Sublist l) (h1 : ∀ p ∈ l', p.1 ≠ i) (h2 : ∀ p ∈ l, p.1 ≠ i → p ∈ l') : l' = mdel l i := by
  have hn2 : l.Nodup := by
    rw [List.Nodup, List.pairwise_map] at hn
    exact hn.imp (fun h e => h (by rw [e]))
  have e1 : l'.filter (fun p => !(p.1 == i)) = l' := List.filter_eq_self.2 fun p hp => by simpa using h1 p hp
  have hs2 : l'.Sublist (mdel l i) := by
    have := hs.filter (fun p => !(p.1 == i))
    rw [e1] at this
    exact this
  refine hs2.eq_of_length_le ?_
  refine List.Nodup.length_le_of_subset (hn2.filter _) fun p hp => ?_
  rw [mdel, List.mem_filter] at hp
  exact h2 p hp.1 (by simpa using hp.2)
/-- delete(m, i) -/
theorem KV.drop {P : Program} {k t e : TypeId} {w : World} {b : Nat} {l : List (Int × Value)} (h : KV w b l) (hk : P.underlying k = some (.int .i64)) (ht : P.underlying t = some (.map k e)) {i : Int} (hi : (Lit.int .i64 i).wf = true) (ty : TypeId) :
    ∃ w', (Builtin.delete_ #[t, k] ty #[.map (some b), .int .i64 i]).run P w = .ok (.tuple #[]) w' ∧ KV w' b (mdel l i) ∧ Fr (fun k => k = b) w w' := by
  have hnd := h.nodup
  have hlw := h
  obtain ⟨_, _, _, _, _, hlen, hwf⟩ := hlw
  obtain ⟨es, clock, hb, F, hs, he⟩ := h.parts hk
  obtain ⟨es', hrun, F', hle, _, hsub, hmem⟩ := fit_drop_who (ty := ty) (Maps.int_keyed (P := P) hk) ht hb F (Maps.keyOf_int_mk (P := P) hk hi)
  refine ⟨setBlock w b (.map es' clock), hrun, ⟨es', clock, heap_setBlock_same hb _, F'.stamped, ?_, ?_, ?_⟩, ⟨rfl, rfl, rfl, by simp [setBlock], fun k _ hn => heap_setBlock_other hb _ hn⟩⟩
  · have h1 := hsub.map (fun e => (e.key, e.val))
    rw [he] at h1
    obtain ⟨l', hl', e'⟩ := List.sublist_map_iff.1 h1
    rw [e']
    have inj : ∀ p q : Int × Value, ((Value.int .i64 p.1, p.2) : Value × Value) = (Value.int .i64 q.1, q.2) → p = q := fun p q h => by
      injection h with h1 h2
      injection h1 with _ h1
      exact Prod.ext h1 h2
    rw [mdel_of hnd hl' ?_ ?_]
    · intro p hp hpi
      have : (Value.int .i64 p.1, p.2) ∈ es'.toList.map (fun e => (e.key, e.val)) := by rw [e']; exact List.mem_map.2 ⟨p, hp, rfl⟩
      obtain ⟨x, hx, h2⟩ := List.mem_map.1 this
      injection h2 with h2 _
      exact ((hmem x).1 hx).2 (by rw [h2, hpi])
    · intro p hp hpi
      have : (Value.int .i64 p.1, p.2) ∈ es.toList.map (fun e => (e.key, e.val)) := by rw [he]; exact List.mem_map.2 ⟨p, hp, rfl⟩
      obtain ⟨x, hx, h2⟩ := List.mem_map.1 this
      have h3 : x ∈ es'.toList := (hmem x).2 ⟨hx, fun h4 => by
        injection h2 with h2 _
        rw [h2] at h4
        injection h4 with _ h4
        exact hpi h4⟩
      have h4 : (Value.int .i64 p.1, p.2) ∈ l'.map (fun p => (Value.int .i64 p.1, p.2)) := by rw [← e', ← h2]; exact List.mem_map.2 ⟨x, h3, rfl⟩
      obtain ⟨q, hq, h5⟩ := List.mem_map.1 h4
      rw [← inj _ _ h5]; exact hq
  · exact Nat.le_trans (List.length_filter_le _ _) hlen
  · intro p hp
    exact hwf p (List.mem_filter.1 hp).1
/-- delete(m, i) AT THE OPERATION. -/
theorem wp_mapdrop {P : Program} {k t e : TypeId} {w : World} {b : Nat} {l : List (Int × Value)} {ops : Array Oper} {rest : List Oper} {o : Oper} {a : Act} {Q : Exit → Act → World → Prop}
    (hg : o.guard = none) (m x : Operand) (hop : o.op = Op.call { callee := Callee.builtin Builtin.delete, args := #[m, x], argTypes := #[t, k] }) (hk : P.underlying k = some (.int .i64)) (ht : P.underlying t = some (.map k e))
    (h : KV w b l) (hm : a.eval m = .map (some b)) {i : Int} (hx : a.eval x = .int .i64 i) (hi : (Lit.int .i64 i).wf = true)
    (hK : Stop (∀ w', KV w' b (mdel l i) → Fr (fun k => k = b) w w' → wpList P ops Q rest (a.put o.dst (.tuple #[])) w') .mk) : wpList P ops Q (o :: rest) a w := by
  refine wpList_plain hg fun K' hK' => ?_
  obtain ⟨w', hrun, r1, r2⟩ := h.drop hk ht hi o.type
  unfold Oper.wp
  simp [execOp, hop, resolve, invoke, builtin, hm, hx, hrun, Result.andThen]
  exact hK' _ _ (hK w' r1 r2)

/-! ### uses -/
structure Us where
  a : Nat
  n : Nat
  k : Nat
instance : Inhabited Us := ⟨⟨0, 0, 0⟩⟩
def Us.r (u : Us) : Rn := ⟨u.a, u.n⟩
def uv (u : Us) : Value := .agg #[.int .i64 (u.a : Nat), .int .i64 (u.n : Nat), .int .i64 (u.k : Nat)]
def ent (u : Us) : Int × Value := ((u.a : Int), uv u)
def uget (U : List Us) (i : Int) : Option Us := U.find? (fun u => (u.a : Int) == i)
def ukeys (U : List Us) : List Int := U.map (fun u => (u.a : Int))
def uput (U : List Us) (u : Us) : List Us := if (uget U u.a).isSome then U.map (fun x => if (x.a : Int) == (u.a : Int) then u else x) else U ++ [u]
def udel (U : List Us) (i : Int) : List Us := U.filter (fun u => !((u.a : Int) == i))
def usesI (U : List Us) (i : Int) : Nat := match uget U i with | some u => u.k | none => 0
theorem mget_ent (U : List Us) (i : Int) : mget (U.map ent) i = (uget U i).map uv := by
  unfold mget uget
  rw [List.find?_map, Option.map_map]
  rfl
theorem ent_keys (U : List Us) : (U.map ent).map (·.1) = ukeys U := by rw [List.map_map]; rfl
theorem mput_ent (U : List Us) (u : Us) : mput (U.map ent) (u.a : Int) (uv u) = (uput U u).map ent := by
  unfold mput uput
  rw [mget_ent, Option.isSome_map]
  split
  · rw [List.map_map, List.map_map]
    refine List.map_congr_left fun x _ => ?_
    simp only [Function.comp_apply]
    show (if ((x.a : Int) == (u.a : Int)) = true then ((u.a : Int), uv u) else ent x) = ent (if ((x.a : Int) == (u.a : Int)) = true then u else x)
    by_cases h : ((x.a : Int) == (u.a : Int)) = true
    · rw [if_pos h, if_pos h]; rfl
    · rw [if_neg h, if_neg h]
  · rw [List.map_append]; rfl
theorem mdel_ent (U : List Us) (i : Int) : mdel (U.map ent) i = (udel U i).map ent := by
  unfold mdel udel
  rw [List.filter_map]
  rfl
theorem uget_mem {U : List Us} {i : Int} {u : Us} (h : uget U i = some u) : u ∈ U ∧ (u.a : Int) = i := by
  have h1 := List.mem_of_find?_eq_some h
  have h2 := List.find?_some h
  exact ⟨h1, by simpa using h2⟩
theorem uget_none {U : List Us} {i : Int} : uget U i = none ↔ ∀ u ∈ U, (u.a : Int) ≠ i := by
  unfold uget
  rw [List.find?_eq_none]
  exact ⟨fun h u hu => by simpa using h u hu, fun h u hu => by simpa using h u hu⟩
theorem uget_some {U : List Us} {u : Us} (hn : (ukeys U).Nodup) (h : u ∈ U) : uget U u.a = some u := by
  cases hg : uget U u.a with
  | none => exact absurd rfl (uget_none.1 hg u h)
  | some v =>
    obtain ⟨h1, h2⟩ := uget_mem hg
    rw [ukeys, List.Nodup, List.pairwise_map] at hn
    congr 1
    exact Classical.byContradiction fun hne => by
      obtain ⟨i, hi, e1⟩ := List.getElem_of_mem h1
      obtain ⟨j, hj, e2⟩ := List.getElem_of_mem h
      rcases Nat.lt_trichotomy i j with hij | hij | hij
      · exact List.pairwise_iff_getElem.1 hn i j hi hj hij (by rw [e1, e2]; exact h2)
      · subst hij; exact hne (e1.symm.trans e2)
      · exact List.pairwise_iff_getElem.1 hn j i hj hi hij (by rw [e1, e2]; exact h2.symm)
theorem usesI_pos {U : List Us} (hp : ∀ u ∈ U, 1 ≤ u.k) {i : Int} : usesI U i = 0 ↔ uget U i = none := by
  unfold usesI
  cases h : uget U i with
  | none => simp
  | some u => simp; have := hp u (uget_mem h).1; omega
/-! ### sorted -/
def leU (x y : Us) : Bool := decide ((x.a : Int) ≤ (y.a : Int))
def srtU (U : List Us) : List Us := U.mergeSort leU
def lst (U : List Us) : List Rn := (srtU U).map Us.r
theorem srtU_keys (U : List Us) : (ukeys U).mergeSort (fun x y => decide (x ≤ y)) = ukeys (srtU U) := by
  unfold ukeys srtU
  rw [List.map_mergeSort (s := fun x y => decide (x ≤ y))]
  intro a _ b _
  rfl
theorem srtU_perm (U : List Us) : (srtU U).Perm U := List.mergeSort_perm _ _
theorem srtU_length (U : List Us) : (srtU U).length = U.length := (srtU_perm U).length_eq
theorem lst_length (U : List Us) : (lst U).length = U.length := by unfold lst; rw [List.length_map, srtU_length]
theorem leU_trans (a b c : Us) (h1 : leU a b = true) (h2 : leU b c = true) : leU a c = true := by simp [leU] at *; omega
theorem leU_total (a b : Us) : (leU a b || leU b a) = true := by simp [leU]; omega
theorem srtU_sorted (U : List Us) : (srtU U).Pairwise fun a b => a.a ≤ b.a :=
  (List.pairwise_mergeSort leU_trans leU_total U).imp fun h => by simp [leU] at h; omega
theorem ukeys_perm {U V : List Us} (h : U.Perm V) : (ukeys U).Perm (ukeys V) := h.map _
theorem srtU_nodup {U : List Us} (hn : (ukeys U).Nodup) : (ukeys (srtU U)).Nodup := (ukeys_perm (srtU_perm U)).nodup_iff.2 hn
/-- Two lists of the same uses are sorted alike. -/
theorem srtU_unique {U V : List Us} (hn : (ukeys U).Nodup) (hp : U.Perm V) (hs : V.Pairwise fun a b => a.a ≤ b.a) : srtU U = V := by
  refine List.Perm.eq_of_pairwise (le := fun a b => a.a ≤ b.a) (fun a b ha hb h1 h2 => ?_) (srtU_sorted U) hs ((srtU_perm U).trans hp)
  have ha' : a ∈ U := (srtU_perm U).mem_iff.1 ha
  have hb' : b ∈ U := hp.mem_iff.2 hb
  have e1 := uget_some hn ha'
  have e2 := uget_some hn hb'
  rw [show a.a = b.a by omega, e2] at e1
  exact (Option.some.inj e1).symm
end Go.Proofs.YtgoghmblfdlnbaaGreat
end

section
/- Shares: maps.Keys, slices.Sorted, maps.Clone at this program's map; listed. -/
set_option linter.unusedSimpArgs false
set_option linter.unusedVariables false
namespace Go.Proofs.YtgoghmblfdlnbaaGreat
open Go.RowKit Go.Maps Go.Sort Go.Shelf Go.MapKept
open Go.WideElems (Fit rd rg pl)
theorem sorts_in (m : Nat) : AnyZI.SortsIn Tryz.prog sortedA_ren Fence.wide m :=
  ⟨fun blk off cap ss W hH hblk hsz => callsIn_wide.2 (AnyM.slices_Sort_int sortA blk off cap ss W hH hblk hsz),
   fun p cap W => callsIn_wide.2 (AnyM.slices_Sort_int_none sortA p cap W)⟩
theorem keys_ok (mb : Option Nat) (W : World) : Calls Tryz.prog 87 #[.map mb] W fun e w' =>
    e = .returned (.func (.func 107) #[] #[.pointer (some ⟨W.heap.size, 0, none⟩)]) ∧ w' = W.alloc (.cells #[.map mb] 92) :=
  callsIn_wide.1 (AnyZI.keys_in keysA Fence.wide 5 trivial rfl mb W)
theorem KV.owns {w : World} {b : Nat} {l : List (Int × Value)} (h : KV w b l) {P : Program} {k : TypeId} (hk : P.underlying k = some (.int .i64)) :
    ∃ D : DataW Unit, w.ownsMap P k (fun _ => some (.nil, [])) b l.length D ∧ Maps.size D = l.length ∧ (intKeys D).Perm (l.map (·.1)) := by
  have hw : ∀ p ∈ l, (Lit.int .i64 p.1).wf = true := by obtain ⟨_, _, _, _, _, _, hw⟩ := h; exact hw
  obtain ⟨es, clock, hb, F, hs, he⟩ := h.parts hk
  refine ⟨_, ⟨es, clock, hb, F, by omega, rfl⟩, by simp [Maps.size, length_sorted, hs], ?_⟩
  refine ((Go.WideShapes.sorted_perm _).map (fun p : Lit × DataW Unit => Go.intOf p.1)).trans (List.Perm.of_eq ?_)
  have h1 : ∀ x ∈ es.toList, Go.intOf (rg P k (H := Unit) (fun _ => some (.nil, [])) x).1 = (match x.key with | .int _ a => a | _ => 0) := by
    intro x hx
    have : (x.key, x.val) ∈ l.map (fun p => (Value.int .i64 p.1, p.2)) := by rw [← he]; exact List.mem_map.2 ⟨x, hx, rfl⟩
    obtain ⟨p, hp, h2⟩ := List.mem_map.1 this
    injection h2 with h2 _
    rw [← h2]
    simp [rg, Go.WideElems.rd, ← h2, Maps.keyOf_int_mk hk (hw p hp), Go.intOf]
  rw [List.map_map]
  have h2 : es.toList.map (fun x => (match x.key with | .int _ a => a | _ => (0 : Int))) = l.map (·.1) := by
    have := congrArg (List.map (fun q : Value × Value => (match q.1 with | .int _ a => a | _ => (0 : Int)))) he
    rw [List.map_map, List.map_map] at this
    exact this
  rw [← h2]
  exact List.map_congr_left h1
theorem sorted_ok (b : Nat) (l : List (Int × Value)) (w : World) (h : KV w b l) (hl : l.length ≤ 1000000) :
    Calls Tryz.prog 86 #[.func (.func 107) #[] #[.pointer (some ⟨w.heap.size, 0, none⟩)]] (w.alloc (.cells #[.map (some b)] 92)) fun e w' =>
      ∃ A c, e = .returned (.slice A l.length c) ∧ Row w' (New w) 3 1 (.slice A l.length c) l.length (ints .i64 ((l.map (·.1)).mergeSort (fun x y => decide (x ≤ y)))) ∧ Fr Nil w w' := by
  refine (callsIn_wide (n := 5)).1 ?_
  obtain ⟨D, hown, hsz, hperm⟩ := h.owns (P := Tryz.prog) (k := 3) Tryz.underlying3
  have hbl := h.lt
  have hseq : SeqGives Fence.wide 2 Tryz.prog 107 #[.pointer (some ⟨w.heap.size, 0, none⟩)] encZ (fun ss => ss.Perm (intKeys D)) (Maps.size D) (w.alloc (.cells #[.map (some b)] 92)) :=
    AnyZI.keys_gives (ρ := keysA_ren) { keysA with } Fence.wide _ trivial rfl (by omega) w.heap.size b l.length D _ (by simp) (by simp) (by
      obtain ⟨es, clock, hb, Ft, hs, hD⟩ := hown
      exact ⟨es, clock, (Below.heap_alloc _ _ b hbl).trans hb, Ft, hs, hD⟩)
  have cS := AnyZI.sorted_in sortedA Fence.wide 5 trivial trivial trivial trivial rfl (by omega) (sorts_in _) (enters_of Tryz.func106 (by kernel_rfl) rfl) 107 #[.pointer (some ⟨w.heap.size, 0, none⟩)] trivial (enters_of Tryz.func107 (by kernel_rfl) rfl) _ _ (by rw [hsz]; unfold maxLen; omega) (by rw [hsz]; omega) _ hseq
  refine (show CallsIn _ _ Tryz.prog 86 _ _ _ from cS).mono ?_
  rintro e w' ⟨v, ss, rfl, hS, hrow, hnil, hb⟩
  have hp : ss.Perm (l.map (·.1)) := hS.trans hperm
  have hlen : ss.length = l.length := by rw [hp.length_eq, List.length_map]
  have hms : ss.mergeSort (fun x y => decide (x ≤ y)) = (l.map (·.1)).mergeSort (fun x y => decide (x ≤ y)) := mergeSort_of_perm_i hp
  rw [hlen, hms] at hrow
  have hR : Row w' (New w) 3 1 v l.length (ints .i64 ((l.map (·.1)).mergeSort (fun x y => decide (x ≤ y)))) := by
    refine ⟨ownsRow_base_a hrow (by omega), fun k hk => ?_⟩
    have := (hrow.lt k hk).1
    simp at this
    unfold New; omega
  obtain ⟨A, c, rfl⟩ := hR.slice
  exact ⟨A, c, rfl, hR, Fr.of_below (((Below.refl _ w).alloc (Nat.le_refl _) _).trans (hb.mono (by simp)))⟩
set_option maxRecDepth 20000 in
theorem mclone_ok (b : Nat) (l : List (Int × Value)) (w : World) (h : KV w b l) :
    Calls Tryz.prog 38 #[.map (some b)] w fun e w' =>
      e = .returned (.map (some w.heap.size)) ∧ KV w' w.heap.size l ∧ Fr Nil w w' := by
  obtain ⟨es, clock, hb, hr⟩ := h
  have hq := fun w => run_eql_map_nil_sl (P := Tryz.prog) w 92 _ _ (some b) Tryz.underlying92
  go_enter Tryz.func38, Tryz.ntmps38
  go_wp2
  rw [run_callFunc_extern Tryz.func65 (by kernel_rfl) (by kernel_rfl) (by kernel_rfl) (e := Extern.MapsClone.clone) (by kernel_rfl), run_maps_clone_sl w 92 hb]
  simp only [Result.andThen]
  rw [Oper.upon_value]
  go_wp2
  rw [run_typeAssert_map_sl _ 92 _ _ _ _ Tryz.underlying92]
  simp only [Result.andThen]
  rw [Oper.upon_value]
  go_wp2
  go_ret
  exact ⟨rfl, ⟨es, clock, (MapKept.heap_alloc w _).1, hr⟩, (Fr.refl _ _).alloc _⟩
end Go.Proofs.YtgoghmblfdlnbaaGreat
end

section
/- Append of a slice read anywhere, at a step of a region that draws its order. -/
set_option linter.unusedSimpArgs false
set_option linter.unusedVariables false
namespace Go.Proofs.YtgoghmblfdlnbaaGreat
open Go.RowKit
section
variable {P : Program} {ops : Array Oper} {rest : List Oper} {o : Oper} {a : Act} {K : Act → World → Prop} {Q : Exit → Act → World → Prop} {E : Prop} {e : TypeId} {s n m : Nat} {v y : Value} {xs ys : List Value} {w : World} {S S1 : Nat → Prop}
theorem step_app_view (hgd : o.guard = none) (x z : Operand) (t : TypeId)
    (ho : o.op = .call { callee := .builtin .append, args := #[x, z], argTypes := #[t, t] })
    (zero : Value) (bytes : Nat) (ht : P.underlying t = some (.slice e)) (hi : (P.info? e).map (fun i => (i.zero, i.size, i.bytes)) = some (some zero, s, bytes))
    (hzs : zero.cells.size = s) (hsz : 0 < s) (hrow : Row w S e s v n xs) (hs : a.eval x = v) (hy : View w S1 s y m ys) (hx : a.eval z = y) (h1 : ∀ u ∈ ys, u.oneCell' = true)
    (hbytes : (n + m) * bytes ≤ 140737488355328) (hb0 : 0 < bytes)
    (h : Stop (∀ A cap w', Row w' (fun k => v.ownBlock = some k ∨ w.heap.size ≤ k) e s (.slice A (n + m) cap) (n + m) (xs ++ ys) → Fr (fun k => v.ownBlock = some k) w w' →
      K (a.put o.dst (.slice A (n + m) cap)) w') .mk) : if Region.wanted o (yielded ops a.tmps) = true then Oper.wp P o a w K Q else E := by
  have hw : Region.wanted o (yielded ops a.tmps) = true := by simp [Region.wanted, hgd]
  rw [if_pos hw]
  obtain ⟨i, hi1, hi2, hi3, hi4⟩ := info_parts hi
  have hle : n + m ≤ 140737488355328 := Nat.le_trans (Nat.le_mul_of_pos_right _ hb0) hbytes
  obtain ⟨hl, A, c, rfl, e1, e2, e3, e4, e5⟩ := hy
  cases A with
  | none =>
    obtain rfl := e3 rfl
    obtain rfl : m = 0 := by omega
    have hys : ys = [] := List.eq_nil_of_length_eq_zero (by simpa using hl)
    subst hys
    have hrun := run_append_owned_none (P := P) w 0 t o.type e i s ht hi1 _ n xs hrow.1
    obtain ⟨A, cap, rfl⟩ := hrow.slice
    unfold Oper.wp
    simp [execOp, ho, resolve, invoke, builtin, hs, hx, hrun, Result.andThen]
    refine h A cap w ?_ (Fr.refl _ _)
    rw [List.append_nil]; exact ⟨hrow.1, fun k hk => .inl hk⟩
  | some ad =>
    have hcells : ∀ j u, ys[j]? = some u → w.cell? (ad.add j) = some u := by
      intro j u hu
      have hj := (List.getElem?_eq_some_iff.1 hu).1
      have hm : 0 < m := Nat.pos_of_ne_zero (fun h0 => by rw [h0] at hl; simp at hl; rw [hl] at hj; simp at hj)
      obtain ⟨b, o', ha, _, _, q⟩ := e5 hm
      injection ha with ha
      rw [ha, Addr.add_lit]
      exact q j u hu
    obtain ⟨v', w', hr, hown, hg, _, hat⟩ := run_append_own_at (P := P) w 0 t o.type e i zero s bytes ht hi1 hi2 hi3 hi4 hzs hsz v n xs hrow.1 ad m c ys hl hcells h1 (by unfold maxLen; omega) hbytes (Nat.zero_le _)
    have hr2 : Row w' (fun k => v.ownBlock = some k ∨ w.heap.size ≤ k) e s v' (n + m) (xs ++ ys) := by
      refine ⟨hown, fun k hk => ?_⟩
      rcases hat with hat | hat
      · exact .inl (by rw [← hat]; exact hk)
      · rw [hat] at hk; injection hk with hk; exact .inr (by omega)
    obtain ⟨A, cap, rfl⟩ := hr2.slice
    unfold Oper.wp execOp
    simp only [ho, resolve, invoke, builtin, Sem.run_bind, Sem.run_pure, Result.andThen_ok, List.map_toArray, List.map_cons, List.map_nil, hs, hx, hr]
    exact h A cap w' hr2 (Fr.of_grown hg)
end
end Go.Proofs.YtgoghmblfdlnbaaGreat
end

section
/- Shares: what it is in memory; made, Uses, More, Less, Add. Conditions: the bounds of its lists. -/
set_option linter.unusedSimpArgs false
set_option linter.unusedVariables false
namespace Go.Proofs.YtgoghmblfdlnbaaGreat
open Go.RowKit
theorem zero_use (w : World) : (zeroValue 91).run Tryz.prog w = .ok (.agg #[.int .i64 0, .int .i64 0, .int .i64 0]) w := by kernel_rfl
theorem wf_i64 {z : Int} (h : -9223372036854775808 ≤ z ∧ z < 9223372036854775808) : (Lit.int .i64 z).wf = true := by
  simp [Lit.wf, IntKind.min, IntKind.max, IntKind.signed, IntKind.bits]; omega
theorem wrap64_fit (n : Int) (h : -9223372036854775808 ≤ n ∧ n ≤ 9223372036854775807) : wrap64 n = n := by unfold wrap64; omega
@[go_sem] theorem field_k (w : World) (x y z : Int) : (Instr.field 91 (.agg #[.int .i64 x, .int .i64 y, .int .i64 z]) 1).run Tryz.prog w = .ok (.int .i64 z) w := by kernel_rfl
@[go_sem] theorem field_x (w : World) (x y z : Int) : (Instr.field 91 (.agg #[.int .i64 x, .int .i64 y, .int .i64 z]) 0).run Tryz.prog w = .ok (.agg #[.int .i64 x, .int .i64 y]) w := by kernel_rfl
structure Shp (w : World) (T : Nat → Prop) (sb pb ub lb hb : Nat) (v : Value) (U L H : List Us) (A : List Rn) : Prop where
  blk : Blk w sb #[.pointer (some ⟨pb, 0, none⟩), .map (some ub), .map (some lb), .map (some hb), v] 94
  u : KV w ub (U.map ent)
  l : KV w lb (L.map ent)
  h : KV w hb (H.map ent)
  r : Row w T 39 2 v A.length (dbl A)
  ul : ub ≠ lb
  uh : ub ≠ hb
  lh : lb ≠ hb
  ts : T sb
  tu : T ub
  tl : T lb
  th : T hb
theorem blk_kv {w : World} {g b : Nat} {cs : Array Value} {t : TypeId} {l : List (Int × Value)} (h : Blk w g cs t) (hk : KV w b l) : g ≠ b := by
  intro e
  obtain ⟨es, c, he, _⟩ := hk
  unfold Blk at h
  rw [e, he] at h
  cases h
theorem row_kv {w : World} {T : Nat → Prop} {b s n : Nat} {e : TypeId} {v : Value} {xs : List Value} {l : List (Int × Value)} (h : Row w T e s v n xs) (hk : KV w b l) : v.ownBlock ≠ some b := by
  intro e
  obtain ⟨es, c, he, _⟩ := hk
  rcases h.1.2 with ⟨rfl, _⟩ | ⟨g, cap, cur, rfl, _, hh, _⟩
  · simp [Value.ownBlock] at e
  · simp only [Value.ownBlock, Option.some.injEq] at e
    rw [e, he] at hh
    cases hh
section
variable {w w1 : World} {T T' S1 : Nat → Prop} {sb pb ub lb hb : Nat} {v : Value} {U L H : List Us} {A : List Rn}
theorem Shp.mono (h : Shp w T sb pb ub lb hb v U L H A) (ht : ∀ k, T k → T' k) : Shp w T' sb pb ub lb hb v U L H A :=
  ⟨h.blk, h.u, h.l, h.h, h.r.mono ht, h.ul, h.uh, h.lh, ht _ h.ts, ht _ h.tu, ht _ h.tl, ht _ h.th⟩
theorem Shp.fr (h : Shp w T sb pb ub lb hb v U L H A) (hf : Fr S1 w w1) (hn : ∀ k, T k → ¬ S1 k) : Shp w1 T sb pb ub lb hb v U L H A :=
  ⟨h.blk.fr hf (hn _ h.ts), h.u.fr hf (hn _ h.tu), h.l.fr hf (hn _ h.tl), h.h.fr hf (hn _ h.th), h.r.frS hf hn, h.ul, h.uh, h.lh, h.ts, h.tu, h.tl, h.th⟩
theorem Shp.bd (h : Shp w T sb pb ub lb hb v U L H A) : Shp w (fun k => T k ∧ k < w.heap.size) sb pb ub lb hb v U L H A :=
  ⟨h.blk, h.u, h.l, h.h, ⟨h.r.1, fun k hk => ⟨h.r.2 k hk, h.r.lt k hk⟩⟩, h.ul, h.uh, h.lh, ⟨h.ts, h.blk.lt⟩, ⟨h.tu, h.u.lt⟩, ⟨h.tl, h.l.lt⟩, ⟨h.th, h.h.lt⟩⟩
/-- Shares that have just the blocks T. -/
structure IsS (w : World) (T : Nat → Prop) (sb pb : Nat) (U L H : List Us) (A : List Rn) : Prop where
  ex : ∃ ub lb hb v, Shp w T sb pb ub lb hb v U L H A
  lt : ∀ k, T k → k < w.heap.size
theorem IsS.fr (h : IsS w T sb pb U L H A) (hf : Fr S1 w w1) (hn : ∀ k, T k → ¬ S1 k) : IsS w1 T sb pb U L H A := by
  obtain ⟨⟨ub, lb, hb, v, hs⟩, hl⟩ := h
  exact ⟨⟨ub, lb, hb, v, hs.fr hf hn⟩, fun k hk => Nat.lt_of_lt_of_le (hl k hk) hf.size⟩
theorem IsS.nil (h : IsS w T sb pb U L H A) (hf : Fr Nil w w1) : IsS w1 T sb pb U L H A := h.fr hf fun _ _ h => h
theorem Shp.of {w1 : World} (h : Shp w1 (fun j => T j ∨ w.heap.size ≤ j) sb pb ub lb hb v U L H A) : ∃ T', IsS w1 T' sb pb U L H A ∧ ∀ k, T' k → T k ∨ w.heap.size ≤ k :=
  ⟨_, ⟨⟨ub, lb, hb, v, h.bd⟩, fun k hk => hk.2⟩, fun k hk => hk.1⟩
theorem IsS.keep (h : IsS w T sb pb U L H A) (hf : Fr Nil w w1) : ∃ T', IsS w1 T' sb pb U L H A ∧ ∀ k, T' k → T k ∨ w.heap.size ≤ k := ⟨T, h.nil hf, fun _ h => .inl h⟩
end
/-- The use of a run; none: nought. -/
def ux (U : List Us) (i : Int) : Us := (uget U i).getD ⟨0, 0, 0⟩
theorem usesI_ux (U : List Us) (i : Int) : usesI U i = (ux U i).k := by
  unfold usesI ux
  cases uget U i <;> rfl
theorem look_use {w : World} {b : Nat} {U : List Us} (h : KV w b (U.map ent)) {i : Int} (hi : (Lit.int .i64 i).wf = true) :
    (Instr.lookup 92 (.map (some b)) (.int .i64 i) false).run Tryz.prog w = .ok (.agg #[.int .i64 ((ux U i).a : Nat), .int .i64 ((ux U i).n : Nat), .int .i64 ((ux U i).k : Nat)]) w := by
  have h1 := h.look (P := Tryz.prog) Tryz.underlying3 Tryz.underlying92 (zero_use w) false hi
  rw [h1, mget_ent]
  unfold ux
  cases uget U i <;> rfl
theorem KV.drewN {w : World} {b : Nat} {l : List (Int × Value)} (h : KV w b l) (n : Nat) : KV (w.drewN n) b l := h
set_option maxRecDepth 20000 in
theorem made_ok (T : Nat → Prop) (sb pb ub lb hb : Nat) (v : Value) (U L H : List Us) (A : List Rn) (w : World) (h : Shp w T sb pb ub lb hb v U L H A) :
    Calls Tryz.prog 37 #[.pointer (some ⟨sb, 0, none⟩)] w fun e w' => e = .returned (.bool true) ∧ w = w' := by
  have hc : w.cell? ⟨sb, 0, none⟩ = some (.pointer (some ⟨pb, 0, none⟩)) := h.blk.cell 0
  go_enter Tryz.func37, Tryz.ntmps37
  go_wp2
  go_ret
  exact ⟨rfl, rfl⟩
set_option maxRecDepth 20000 in
theorem uses_ok (T : Nat → Prop) (sb pb : Nat) (U L H : List Us) (A : List Rn) (w : World) (h : IsS w T sb pb U L H A) (i : Int) (hi : (Lit.int .i64 i).wf = true) :
    Calls Tryz.prog 18 #[.pointer (some ⟨sb, 0, none⟩), .int .i64 i] w fun e w' => e = .returned (.int .i64 (usesI U i : Nat)) ∧ w = w' := by
  obtain ⟨⟨ub, lb, hb, v, hs⟩, _⟩ := h
  have hc : w.cell? ⟨sb, 1, none⟩ = some (.map (some ub)) := hs.blk.cell 1
  have hlk := look_use hs.u hi
  rw [usesI_ux]
  go_enter Tryz.func18, Tryz.ntmps18
  go_wp2_with fail
  refine (made_ok T sb pb ub lb hb v U L H A w hs).mono ?_
  rintro e w1 ⟨rfl, rfl⟩
  go_wp2
  go_ret
  exact ⟨rfl, rfl⟩
set_option maxRecDepth 20000 in
/-- Shares of no uses. -/
theorem snew_ok (pb : Nat) (w : World) :
    Calls Tryz.prog 29 #[.pointer (some ⟨pb, 0, none⟩)] w fun e w' => ∃ sb T, e = .returned (.pointer (some ⟨sb, 0, none⟩)) ∧ IsS w' T sb pb [] [] [] [] ∧ (∀ k, T k → w.heap.size ≤ k) ∧ Fr Nil w w' := by
  go_enter Tryz.func29, Tryz.ntmps29
  go_wp2
  go_ret
  obtain ⟨W1, hW1⟩ : ∃ W1, W1 = w.alloc (.map #[] 0) := ⟨_, rfl⟩
  obtain ⟨W2, hW2⟩ : ∃ W2, W2 = W1.alloc (.map #[] 0) := ⟨_, rfl⟩
  obtain ⟨W3, hW3⟩ : ∃ W3, W3 = W2.alloc (.map #[] 0) := ⟨_, rfl⟩
  have k1 : KV W1 w.heap.size [] := by rw [hW1]; exact KV.made w
  have k2 : KV W2 W1.heap.size [] := by rw [hW2]; exact KV.made W1
  have k3 : KV W3 W2.heap.size [] := by rw [hW3]; exact KV.made W2
  have s1 : W1.heap.size = w.heap.size + 1 := by rw [hW1]; simp
  have s2 : W2.heap.size = w.heap.size + 2 := by rw [hW2]; simp [s1]
  have s3 : W3.heap.size = w.heap.size + 3 := by rw [hW3]; simp [s2]
  have f3 : Fr Nil w W3 := by rw [hW3, hW2, hW1]; exact (((Fr.refl _ _).alloc _).alloc _).alloc _
  obtain ⟨W4, hW4⟩ : ∃ W4, W4 = W3.alloc (.cells #[.pointer (some ⟨pb, 0, none⟩), .map (some w.heap.size), .map (some W1.heap.size), .map (some W2.heap.size), .slice none 0 0] 94) := ⟨_, rfl⟩
  have f4 : Fr Nil w W4 := by rw [hW4]; exact f3.alloc _
  have hS : Shp W4 (fun k => w.heap.size ≤ k) W3.heap.size pb w.heap.size W1.heap.size W2.heap.size (.slice none 0 0) [] [] [] [] := by
    refine ⟨by rw [hW4]; exact Blk.new _ _ _, ?_, ?_, ?_, Row.nil _ _ _ _, by omega, by omega, by omega, by omega, by omega, by omega, by omega⟩
    · rw [hW4, hW3, hW2]; exact ((k1.alloc _).alloc _).alloc _
    · rw [hW4, hW3]; exact (k2.alloc _).alloc _
    · rw [hW4]; exact k3.alloc _
  rw [s1, s2, s3] at hS
  rw [s1, s2] at hW4
  subst hW4 hW3 hW2 hW1
  exact ⟨_, _, rfl, ⟨⟨_, _, _, _, hS.bd⟩, fun k hk => hk.2⟩, fun k hk => hk.1, f4⟩
end Go.Proofs.YtgoghmblfdlnbaaGreat
end

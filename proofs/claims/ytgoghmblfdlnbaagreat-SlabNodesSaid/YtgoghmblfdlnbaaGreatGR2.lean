/- The texts SlT, VWide of this proof, one behind the other. Conditions: those of each. -/
import Derived.Test.YtgoghmblfdlnbaaGreatProg
import Derived.Laws.BitsAllLaws
import Derived.Laws.CopyRow
import Derived.Laws.IdiomCopy
import Derived.Lib.AppendZerosOnto
import Derived.Test.YtgoghmblfdlnbaaGreatGR1
section
/- tally: the sum of bytes as a function of them. Conditions: none. -/
set_option linter.unusedSimpArgs false
set_option linter.unusedVariables false
namespace Go.Proofs.YtgoghmblfdlnbaaGreat
open Go.RowKit
theorem by_at {w : World} {S : Nat → Prop} {A : Option Addr} {n c : Nat} {l : List Nat} (h : View w S 1 (.slice A n c) n (bys l)) {i : Nat} (hi : i < n) :
    ∃ b o, A = some ⟨b, o, none⟩ ∧ S b ∧ b < w.heap.size ∧ w.cell? ⟨b, o + i, none⟩ = some (.int .u8 ((l.getD i 0 : Nat) : Int)) := by
  obtain ⟨hl, A', c', e, _, _, _, _, h5⟩ := h
  injection e with ea _ ec
  subst ea; subst ec
  obtain ⟨b, o, hA, hS, hb, hc⟩ := h5 (by omega)
  have hl' : i < l.length := by unfold bys at hl; rw [List.length_map] at hl; omega
  exact ⟨b, o, hA, hS, hb, hc _ _ (by unfold bys; rw [List.getElem?_map, List.getElem?_eq_getElem hl']; simp [List.getElem?_eq_getElem hl'])⟩
theorem View.lenb {w : World} {S : Nat → Prop} {v : Value} {n : Nat} {l : List Nat} (h : View w S 1 v n (bys l)) : l.length = n := by
  have := h.length
  unfold bys at this
  rw [List.length_map] at this
  omega
def tallyBit (r : Int) : Int := if bits .and .u32 r 2147483648 = 0 then r * 2 % 4294967296 else bits .xor .u32 (r * 2 % 4294967296) 1947962583
def bitsN : Nat → Int → Int
  | 0, r => r
  | k + 1, r => tallyBit (bitsN k r)
def tallyByte (r : Int) (z : Nat) : Int := bitsN 8 (bits .xor .u32 r ((z : Int) % 4294967296 * 16777216 % 4294967296))
def tallyL (r : Int) (xs : List Nat) : Int := xs.foldl tallyByte r
def moreF (s : Int) (xs : List Nat) : Int := bits .xor .u32 IntKind.u32.max (tallyL (bits .xor .u32 IntKind.u32.max s) xs)
theorem tallyL_take (r : Int) {xs : List Nat} {i : Nat} (h : i < xs.length) : tallyL r (xs.take (i + 1)) = tallyByte (tallyL r (xs.take i)) (xs.getD i 0) := by
  unfold tallyL
  rw [List.take_succ_eq_append_getElem h, List.foldl_append]
  simp [List.getElem?_eq_getElem h]
set_option maxRecDepth 20000 in
theorem tmore_ok (S : Nat → Prop) (s : Int) (v : Value) (n : Nat) (xs : List Nat) (w : World) (hv : View w S 1 v n (bys xs)) :
    Calls Tryz.prog 96 #[.int .u32 s, v] w fun e w' => e = .returned (.int .u32 (moreF s xs)) ∧ w = w' := by
  obtain ⟨A, c, rfl⟩ : ∃ A c, v = .slice A n c := let ⟨_, A, c, e, _⟩ := hv; ⟨A, c, e⟩
  have HV := hid hv
  have Hl := hid hv.lenb
  have hnl := hv.le
  clear hv
  go_enter Tryz.func96, Tryz.ntmps96
  go_wp2_with fail
  go_loopw [5, 13] (fun v5 v13 wr => ∃ (i : Nat) (r : Int), v5 = .int .u32 r ∧ v13 = .int .i64 i ∧ i ≤ n ∧ Hid (r = tallyL (bits .xor .u32 IntKind.u32.max s) (xs.take i)) ∧ w = wr) (fun _ v13 _ => n - (intOf v13).toNat)
  case atStart => exact ⟨0, _, rfl, rfl, by omega, hid rfl, rfl⟩
  case round =>
    obtain ⟨i, r, rfl, rfl, hi, hr, rfl⟩ := hrel
    by_cases hlt : i < n
    · obtain ⟨b, o, rfl, -, hbl, hq⟩ := by_at HV.out hlt
      have Hst := hid (tallyL_take (bits .xor .u32 IntKind.u32.max s) (xs := xs) (i := i) (by rw [Hl.out]; exact hlt))
      obtain ⟨z, hz⟩ : ∃ z, z = xs.getD i 0 := ⟨_, rfl⟩
      rw [← hz] at hq Hst
      clear hz
      go_wp2_with fail
      go_loopw [5, 22] (fun v5 v22 wr => ∃ (k : Nat) (q : Int), v5 = .int .u32 q ∧ v22 = .int .i64 k ∧ k ≤ 8 ∧ Hid (q = bitsN k (bits .xor .u32 r ((z : Int) % 4294967296 * 16777216 % 4294967296))) ∧ w = wr) (fun _ v22 _ => 8 - (intOf v22).toNat)
      case atStart => exact ⟨0, _, rfl, rfl, by omega, hid rfl, rfl⟩
      case round =>
        obtain ⟨k, q, rfl, rfl, hk, hq2, rfl⟩ := hrel
        by_cases hk8 : k < 8
        · by_cases hc : bits .and .u32 q 2147483648 = 0
          · have Hn := hid (show q * 2 % 4294967296 = bitsN (k + 1) (bits .xor .u32 r ((z : Int) % 4294967296 * 16777216 % 4294967296)) from by
              show _ = tallyBit _
              rw [← hq2.out]; unfold tallyBit; rw [if_pos hc])
            go_wp2_with fail
            go_roundw
            case rel => exact ⟨k + 1, _, rfl, by go_num, by omega, Hn, by first | trivial | rfl⟩
            case measure => simp [intOf]; omega
          · have Hn := hid (show bits .xor .u32 (q * 2 % 4294967296) 1947962583 = bitsN (k + 1) (bits .xor .u32 r ((z : Int) % 4294967296 * 16777216 % 4294967296)) from by
              show _ = tallyBit _
              rw [← hq2.out]; unfold tallyBit; rw [if_neg hc])
            go_wp2_with fail
            go_roundw
            case rel => exact ⟨k + 1, _, rfl, by go_num, by omega, Hn, by first | trivial | rfl⟩
            case measure => simp [intOf]; omega
        · have hk2 : k = 8 := by omega
          have Hn := hid (show q = tallyL (bits .xor .u32 IntKind.u32.max s) (xs.take (i + 1)) from by
            rw [Hst.out, ← hr.out, hq2.out, hk2]; rfl)
          go_wp2_with fail
          go_roundw
          case rel => exact ⟨i + 1, _, rfl, by go_num, by omega, Hn, by first | trivial | rfl⟩
          case measure => simp [intOf]; omega
    · have hin : i = n := by omega
      have Hn := hid (show r = tallyL (bits .xor .u32 IntKind.u32.max s) xs from by rw [hr.out, List.take_of_length_le (by rw [Hl.out]; omega)])
      clear hr
      go_wp2_with fail
      go_ret
      exact ⟨by unfold moreF; rw [← Hn.out]; rfl, rfl⟩
set_option maxRecDepth 20000 in
theorem tsum_ok (S : Nat → Prop) (v : Value) (n : Nat) (xs : List Nat) (w : World) (hv : View w S 1 v n (bys xs)) :
    Calls Tryz.prog 97 #[v] w fun e w' => e = .returned (.int .u32 (moreF 0 xs)) ∧ w = w' := by
  have HV := hid hv
  clear hv
  go_enter Tryz.func97, Tryz.ntmps97
  go_wp2_with fail
  refine (tmore_ok S 0 v n xs w HV.out).mono ?_
  rintro e w1 ⟨rfl, rfl⟩
  go_wp2
  go_ret
  exact ⟨rfl, rfl⟩
theorem moreF_wf (s : Int) (xs : List Nat) : 0 ≤ moreF s xs ∧ moreF s xs < 4294967296 := by
  unfold moreF
  show 0 ≤ IntKind.u32.wrap _ ∧ IntKind.u32.wrap _ < 4294967296
  rw [IntKind.wrap_u32]
  omega
end Go.Proofs.YtgoghmblfdlnbaaGreat
end

section
/- copy, clear and append-of-make on rows whose elements have any number of cells. Conditions: none; plain lemmas over any program. -/
set_option linter.unusedSimpArgs false
set_option linter.unusedVariables false
namespace Go.Proofs.YtgoghmblfdlnbaaGreat
open Go.RowKit

/-- cs laid over cur from place o on. -/
def laid (cur : Array Value) (o : Nat) (cs : List Value) : Array Value := (cur.toList.take o ++ cs ++ cur.toList.drop (o + cs.length)).toArray
theorem laid_size {cur : Array Value} {o : Nat} {cs : List Value} (h : o + cs.length ≤ cur.size) : (laid cur o cs).size = cur.size := by
  simp [laid]; omega
theorem laid_nil (cur : Array Value) (o : Nat) : laid cur o [] = cur := by simp [laid]
theorem laid_toList (cur : Array Value) (o : Nat) (cs : List Value) : (laid cur o cs).toList = cur.toList.take o ++ cs ++ cur.toList.drop (o + cs.length) := rfl
theorem laid_take {cur : Array Value} {o k : Nat} {cs : List Value} (h : k ≤ o) (ho : o ≤ cur.size) : (laid cur o cs).toList.take k = cur.toList.take k := by
  rw [laid_toList, List.append_assoc, List.take_append]
  rw [List.take_take, Nat.min_eq_left h, show k - (cur.toList.take o).length = 0 by rw [List.length_take, Array.length_toList]; omega]
  simp
theorem laid_fr (w : World) (g : Nat) (cs : Array Value) : Fr (fun k => k = g) w (w.setRow g cs) :=
  ⟨rfl, rfl, rfl, by simp [World.setRow], fun k _ hn => by simp [World.setRow, Array.getElem?_modify]; intro h; exact absurd h.symm hn⟩

section
variable {P : Program}
theorem run_copy_wide (w : World) (dT sT ty elem : TypeId) (g o dLen dCap : Nat) (a : Addr) (sLen sCap : Nat) (cur : Array Value) (t : TypeId) (cs : List Value) (s m : Nat)
    (hu : P.underlying dT = some (.slice elem)) (hs : (P.info? elem).map (·.size) = some s)
    (hg : Blk w g cur t) (hm : m = Nat.min sLen dLen) (hn : cs.length = m * s)
    (hsrc : ∀ j v, cs[j]? = some v → w.cell? (a.add j) = some v) (hfit : o + cs.length ≤ cur.size) (h1 : ∀ v ∈ cs, v.oneCell' = true) :
    (Builtin.copy_ #[dT, sT] ty #[.slice (some ⟨g, o, none⟩) dLen dCap, .slice (some a) sLen sCap]).run P w = .ok (goInt m) (w.setRow g (laid cur o cs)) := by
  have hl := run_loadCells_list (P := P) w a cs hsrc
  have hst := run_storeCells_at P g o t cs 0 cur w hg (by simpa using hfit) h1
  cases hq : P.info? elem with
  | none => simp [hq] at hs
  | some i =>
    have hi : i.size = s := by simpa [hq] using hs
    subst hm
    rw [hn] at hl
    simp [Builtin.copy_, run_underlying hu, Builtin.lenOf, Builtin.firstCells, sizeOf, typeInfo, hq, hi, hl, hst, laid]
theorem run_copy_zero (w : World) (dT sT ty elem : TypeId) (d a : Option Addr) (dLen dCap sLen sCap : Nat) (s : Nat) (hu : P.underlying dT = some (.slice elem)) (hs : (P.info? elem).map (·.size) = some s) (hn : Nat.min sLen dLen = 0) :
    (Builtin.copy_ #[dT, sT] ty #[.slice d dLen dCap, .slice a sLen sCap]).run P w = .ok (goInt 0) w := by
  cases hq : P.info? elem with
  | none => simp [hq] at hs
  | some i =>
    cases a <;> cases d <;> simp [Builtin.copy_, run_underlying hu, Builtin.lenOf, Builtin.firstCells, sizeOf, typeInfo, hq, hn, storeCells, loadCells, loadCellsFrom]

variable {ops : Array Oper} {rest : List Oper} {o : Oper} {a : Act} {w : World} {Q : Exit → Act → World → Prop} {K : Act → World → Prop} {E : Prop} {S1 : Nat → Prop}
/-- copy(d, x): as many elements as the shorter of the two has. -/
theorem run_copy_row {S1 : Nat → Prop} (w : World) (T ty elem : TypeId) (s : Nat) (hu : P.underlying T = some (.slice elem)) (hs : (P.info? elem).map (·.size) = some s)
    (dp : Option Addr) (dLen dCap : Nat) (y : Value) (sLen : Nat) (ys : List Value) (hv : View w S1 s y sLen ys)
    (m g off : Nat) (cur : Array Value) (t : TypeId) (hm : m = min sLen dLen) (hg : Blk w g cur t) (hdp : 0 < m → dp = some ⟨g, off, none⟩) (hfit : off + m * s ≤ cur.size) (h1 : ∀ u ∈ ys.take (m * s), u.oneCell' = true) :
    ∃ w', (Builtin.copy_ #[T, T] ty #[.slice dp dLen dCap, y]).run P w = .ok (.int .i64 m) w' ∧ Blk w' g (laid cur off (ys.take (m * s))) t ∧ Fr (fun k => k = g) w w' := by
  obtain ⟨hl, A, c, rfl, e1, e2, e3, e4, e5⟩ := hv
  by_cases h0 : m = 0
  · subst h0
    refine ⟨w, run_copy_zero (P := P) w T T ty elem dp A dLen dCap sLen c s hu hs hm.symm, ?_, Fr.refl _ _⟩
    rw [Nat.zero_mul, List.take_zero, laid_nil]; exact hg
  · have hms : m ≤ sLen := by rw [hm]; exact Nat.min_le_left _ _
    obtain ⟨b, o', rfl, _, _, q⟩ := e5 (by omega)
    obtain rfl := hdp (by omega)
    have hlen : (ys.take (m * s)).length = m * s := by rw [List.length_take, hl]; exact Nat.min_eq_left (Nat.mul_le_mul_right _ hms)
    have hrun := run_copy_wide (P := P) w T T ty elem g off dLen dCap ⟨b, o', none⟩ sLen c cur t (ys.take (m * s)) s m hu hs hg hm hlen (fun j v hj => by
      rw [Addr.add_lit]
      refine q j v ?_
      rw [List.getElem?_take] at hj
      split at hj
      · exact hj
      · cases hj) (by rw [hlen]; exact hfit) h1
    exact ⟨_, hrun, setRow_heap w g cur _ t _ hg, laid_fr _ _ _⟩

theorem zeroCells_size (z : Array Value) (n : Nat) : (Builtin.zeroCells z n).size = n * z.size := by simp [Builtin.zeroCells]
theorem zeroCells_one (z : Array Value) (n : Nat) (h : ∀ v ∈ z, v.oneCell' = true) (hz : 0 < z.size) : ∀ v ∈ (Builtin.zeroCells z n).toList, v.oneCell' = true := by
  intro v hv
  simp only [Builtin.zeroCells, Array.toList_map, List.mem_map] at hv
  obtain ⟨i, _, rfl⟩ := hv
  have hlt : i % z.size < z.size := Nat.mod_lt _ hz
  rw [getElem!_pos z _ hlt]
  exact h _ (Array.getElem_mem hlt)
/-- clear(x), x a part of a row (or empty): what lies before it stays. -/
theorem run_clear_wide (w : World) (T ty elem : TypeId) (s : Nat) (z : Value) (hu : P.underlying T = some (.slice elem)) (hz : ∀ w, (zeroValue elem).run P w = .ok z w) (hzs : z.cells.size = s) (hs0 : 0 < s) (hz1 : ∀ v ∈ z.cells, v.oneCell' = true)
    (dp : Option Addr) (n c : Nat) (g off : Nat) (cur : Array Value) (t : TypeId) (hg : Blk w g cur t) (hdp : 0 < n → dp = some ⟨g, off, none⟩) (hfit : off + n * s ≤ cur.size) :
    ∃ w' cur', (Builtin.clear_ #[T] ty #[.slice dp n c]).run P w = .ok (.tuple #[]) w' ∧ Blk w' g cur' t ∧ cur'.size = cur.size ∧ cur'.toList.take off = cur.toList.take off ∧ Fr (fun k => k = g) w w' := by
  by_cases h0 : n = 0
  · subst h0
    have hrun : (Builtin.clear_ #[T] ty #[.slice dp 0 c]).run P w = .ok (.tuple #[]) w := by
      cases dp <;> simp [Builtin.clear_, run_underlying hu]
    exact ⟨w, cur, hrun, hg, rfl, rfl, Fr.refl _ _⟩
  · obtain rfl := hdp (by omega)
    have hsz := zeroCells_size z.cells n
    rw [hzs] at hsz
    have hl : (Builtin.zeroCells z.cells n).toList.length = n * s := by rw [Array.length_toList, hsz]
    have hst := run_storeCells_at P g off t (Builtin.zeroCells z.cells n).toList 0 cur w hg (by rw [hl]; simpa using hfit) (zeroCells_one _ _ hz1 (by rw [hzs]; exact hs0))
    obtain ⟨m, rfl⟩ : ∃ m, n = m + 1 := ⟨n - 1, by omega⟩
    have hrun : (Builtin.clear_ #[T] ty #[.slice (some ⟨g, off, none⟩) (m + 1) c]).run P w = .ok (.tuple #[]) (w.setRow g (laid cur off (Builtin.zeroCells z.cells (m + 1)).toList)) := by
      simp [Builtin.clear_, run_underlying hu, hz, hst, laid]
    exact ⟨_, _, hrun, setRow_heap w g cur _ t _ hg, laid_size (by rw [hl]; exact hfit), laid_take (Nat.le_refl _) (by omega), laid_fr _ _ _⟩

/-- append(x, make([]T, k)...) where there is no room: a new row. -/
theorem wp_appz (hgd : o.guard = none) (x y : Operand) (T tn : TypeId) (ho : o.op = .call { callee := .builtin .append, args := #[x, y], argTypes := #[T, tn] }) (elem : TypeId) (s bytes : Nat) (kn : IntKind) (z : Value) (hu : P.underlying T = some (.slice elem)) (htn : P.underlying tn = some (.int kn))
    (hi : (P.info? elem).map (fun i => (i.zero, i.size, i.bytes)) = some (some z, s, bytes)) (hzs : z.cells.size = s) (hs0 : 0 < s)
    (v : Value) (n c k : Nat) (xs : List Value) (A : Option Addr) (hvv : v = .slice A n c) (hx : a.eval x = v) (hv : View w S1 s v n xs) (hy : a.eval y = .int .i64 k) (hk : 0 < k) (hroom : c < n + k) (hbytes : (n + k) * bytes ≤ 140737488355328) (hb0 : 0 < bytes)
    (h : Stop (∀ w' g cur cap, w.heap.size ≤ g → Blk w' g cur elem → cur.size = cap * s → n + k ≤ cap → cap ≤ maxLen → cur.toList.take (n * s) = xs → Fr Nil w w' → wpList P ops Q rest (a.put o.dst (.slice (some ⟨g, 0, none⟩) (n + k) cap)) w') .mk) : wpList P ops Q (o :: rest) a w := by
  refine wpList_plain hgd fun K hK => ?_
  obtain ⟨i, hi1, hi2, hi3, hi4⟩ := info_parts hi
  have hle : n + k ≤ 140737488355328 := Nat.le_trans (Nat.le_mul_of_pos_right _ hb0) hbytes
  obtain ⟨hl, A', c', e, e1, e2, e3, e4, e5⟩ := hv
  have e0 := hvv.symm.trans e
  injection e0 with ea _ ec
  subst ea; subst ec
  subst hvv
  have hold : (Builtin.firstCells i.size n (.slice A n c)).run P w.drew = .ok xs.toArray w.drew := by
    rw [hi3]
    by_cases hn0 : n = 0
    · subst hn0
      have hx0 : xs = [] := List.eq_nil_of_length_eq_zero (by simpa using hl)
      subst hx0
      cases A <;> simp [Builtin.firstCells, loadCells, loadCellsFrom]
    · obtain ⟨b, o', rfl, _, _, q⟩ := e5 (by omega)
      have := run_loadCells_list (P := P) w.drew ⟨b, o', none⟩ xs (fun j u hj => by rw [Addr.add_lit]; exact q j u hj)
      rw [hl] at this
      simpa [Builtin.firstCells] using this
  have hk48 : k * i.bytes ≤ 281474976710656 := by rw [hi4]; have := Nat.mul_le_mul_right bytes (show k ≤ n + k by omega); omega
  have hrun := Lib.run_append_grow_zeros (P := P) w T tn o.type elem i z .i64 kn hu htn hi1 hi2 A n c xs hold k hk (by rw [hi3]; exact hs0) hroom (by omega) hk48 (by rw [hi4]; exact growslice_fits hroom hbytes)
  have hgc := grownCap_ge w (n + k) c elem
  have hgm := grownCap_le_maxLen w (n + k) c elem (by unfold maxLen; omega)
  have hsz : (xs.toArray ++ Builtin.zeroCells z.cells k ++ Builtin.zeroCells z.cells (grownCap w (n + k) c elem - (n + k))).size = grownCap w (n + k) c elem * s := by
    rw [Array.size_append, Array.size_append, zeroCells_size, zeroCells_size, hzs, List.size_toArray, hl, ← Nat.add_mul, ← Nat.add_mul]
    congr 1; omega
  unfold Oper.wp
  simp [execOp, ho, resolve, invoke, builtin, hx, hy, hrun, Result.andThen]
  refine hK _ _ (h _ _ _ _ (Nat.le_refl _) (heap_alloc_new w.drew _) (by simpa using hsz) hgc hgm ?_ (((Fr.refl _ _).drew).alloc _))
  simp [← hl]
end

/-- append(x, y...) where there is room: in place. -/
theorem wp_app_room {P : Program} {ops : Array Oper} {rest : List Oper} {o : Oper} {a : Act} {w : World} {Q : Exit → Act → World → Prop} {S1 : Nat → Prop} (hgd : o.guard = none) (x y : Operand) (T : TypeId) (ho : o.op = .call { callee := .builtin .append, args := #[x, y], argTypes := #[T, T] }) (elem : TypeId) (s : Nat) (hu : P.underlying T = some (.slice elem)) (hs : (P.info? elem).map (·.size) = some s)
    (g n cap : Nat) (cur : Array Value) (hg : Blk w g cur elem) (hx : a.eval x = .slice (some ⟨g, 0, none⟩) n cap) (ad : Addr) (m c : Nat) (ys : List Value) (hy : a.eval y = .slice (some ad) m c) (hv : View w S1 s (.slice (some ad) m c) m ys) (h1 : ∀ u ∈ ys, u.oneCell' = true)
    (hroom : n + m ≤ cap) (hfit : (n + m) * s ≤ cur.size)
    (h : Stop (∀ w', Blk w' g (laid cur (n * s) ys) elem → Fr (fun k => k = g) w w' → wpList P ops Q rest (a.put o.dst (.slice (some ⟨g, 0, none⟩) (n + m) cap)) w') .mk) : wpList P ops Q (o :: rest) a w := by
  refine wpList_plain hgd fun K hK => ?_
  cases hq : P.info? elem with
  | none => simp [hq] at hs
  | some i =>
    have hi : i.size = s := by simpa [hq] using hs
    obtain ⟨hl, A', c', e, e1, e2, e3, e4, e5⟩ := hv
    injection e with ea _ ec
    subst ea; subst ec
    have hcells : ∀ j u, ys[j]? = some u → w.cell? (ad.add j) = some u := by
      intro j u hu'
      have hj := (List.getElem?_eq_some_iff.1 hu').1
      have hm : 0 < m := Nat.pos_of_ne_zero (fun h0 => by rw [h0] at hl; simp at hl; rw [hl] at hj; simp at hj)
      obtain ⟨b, o', ha, _, _, q⟩ := e5 hm
      injection ha with ha
      rw [ha, Addr.add_lit]
      exact q j u hu'
    have hrun := run_append_room (P := P) w T o.type elem i hu hq g n cap cur hg ad m c ys (by rw [hi]; exact hl) hcells h1 hroom (by rw [hi, hl, ← Nat.add_mul]; exact hfit)
    rw [hi] at hrun
    unfold Oper.wp
    simp [execOp, ho, resolve, invoke, builtin, hx, hy, hrun, Result.andThen]
    refine hK _ _ (h _ ?_ (laid_fr _ _ _))
    have := setRow_heap w g cur (laid cur (n * s) ys) elem _ hg
    unfold Blk
    unfold laid at this ⊢
    simpa using this

/-! ### rows and their blocks -/
/-- A part of a block is read. -/
theorem seg_view {w : World} {g s : Nat} {cur : Array Value} {T : TypeId} (hb : Blk w g cur T) (o k c : Nat) (xs : List Value) (hx : (cur.toList.drop (o * s)).take (k * s) = xs) (hsz : (o + k) * s ≤ cur.size) (hc : k ≤ c) (hcm : c ≤ maxLen) :
    View w (fun j => j = g) s (.slice (some ⟨g, o * s, none⟩) k c) k xs := by
  have hl : xs.length = k * s := by rw [← hx, List.length_take, List.length_drop, Array.length_toList]; rw [Nat.add_mul] at hsz; omega
  refine ⟨hl, _, _, rfl, hc, hcm, fun h => (by cases h), fun ad had _ => (by injection had with had; rw [← had]), fun _ => ⟨g, o * s, rfl, rfl, hb.lt, fun j u hu => ?_⟩⟩
  rw [hb.cell, ← Array.getElem?_toList]
  have hj := (List.getElem?_eq_some_iff.1 hu).1
  rw [← hx, List.getElem?_take, if_pos (by omega), List.getElem?_drop] at hu
  exact hu
theorem laid_drop {cur : Array Value} {o k : Nat} {cs : List Value} (h : o + cs.length ≤ k) (ho : o ≤ cur.size) : (laid cur o cs).toList.drop k = cur.toList.drop k := by
  have hl : (cur.toList.take o ++ cs).length = o + cs.length := by rw [List.length_append, List.length_take, Array.length_toList, Nat.min_eq_left ho]
  rw [laid_toList, List.drop_append, List.drop_of_length_le (by rw [hl]; exact h), List.nil_append, List.drop_drop, hl]
  congr 1
  omega
/-- Two parts laid one behind the other, in whatever order. -/
theorem laid_two1 {cur : Array Value} {p q : Nat} {Y D : List Value} (hY : Y.length = q) (hf : p + q + D.length ≤ cur.size) : (laid (laid cur p Y) (p + q) D).toList.take (p + q + D.length) = cur.toList.take p ++ Y ++ D := by
  have h1 : (laid cur p Y).toList.take (p + q) = cur.toList.take p ++ Y := by
    rw [laid_toList, List.take_append_of_le_length (by rw [List.length_append, List.length_take, Array.length_toList, hY]; omega), List.take_of_length_le (by rw [List.length_append, List.length_take, Array.length_toList, hY]; omega)]
  rw [laid_toList, h1, List.take_append_of_le_length (by simp only [List.length_append, List.length_take, Array.length_toList, hY]; omega), List.take_of_length_le (by simp only [List.length_append, List.length_take, Array.length_toList, hY]; omega)]
theorem laid_two2 {cur : Array Value} {p q : Nat} {Y D : List Value} (hY : Y.length = q) (hf : p + q + D.length ≤ cur.size) : (laid (laid cur (p + q) D) p Y).toList.take (p + q + D.length) = cur.toList.take p ++ Y ++ D := by
  have hd : (laid cur (p + q) D).toList.drop (p + q) = D ++ cur.toList.drop (p + q + D.length) := by
    rw [laid_toList, List.append_assoc, List.drop_append, List.drop_of_length_le (by rw [List.length_take, Array.length_toList]; omega), List.nil_append, List.length_take, Array.length_toList, Nat.min_eq_left (by omega), Nat.sub_self, List.drop_zero]
  rw [laid_toList, laid_take (by omega) (by omega), hY, hd]
  rw [← List.append_assoc, List.take_append_of_le_length (by simp only [List.length_append, List.length_take, Array.length_toList, hY]; omega), List.take_of_length_le (by simp only [List.length_append, List.length_take, Array.length_toList, hY]; omega)]

section
variable {w : World} {S : Nat → Prop} {e : TypeId} {s n : Nat} {v : Value} {xs : List Value}
theorem Row.blk (h : Row w S e s v n xs) (hn : v ≠ .slice none 0 0) : ∃ g cap cur, v = .slice (some ⟨g, 0, none⟩) n cap ∧ S g ∧ Blk w g cur e ∧ n ≤ cap ∧ cap ≤ maxLen ∧ cur.size = cap * s ∧ cur.toList.take (n * s) = xs := by
  rcases h.1.2 with ⟨h1, _⟩ | ⟨g, cap, cur, rfl, _, hh, h1, h2, h3, h4⟩
  · exact absurd h1 hn
  · exact ⟨g, cap, cur, rfl, h.2 g rfl, hh, h1, h2, h3, h4⟩
theorem Row.of_blk {g cap : Nat} {cur : Array Value} (hS : S g) (hb : Blk w g cur e) (h1 : n ≤ cap) (h2 : cap ≤ maxLen) (h3 : cur.size = cap * s) (h4 : cur.toList.take (n * s) = xs) : Row w S e s (.slice (some ⟨g, 0, none⟩) n cap) n xs := by
  refine ⟨⟨?_, .inr ⟨g, cap, cur, rfl, Nat.zero_le _, hb, h1, h2, h3, h4⟩⟩, fun k hk => ?_⟩
  · rw [← h4, List.length_take, Array.length_toList, h3]; exact Nat.min_eq_left (Nat.mul_le_mul_right _ h1)
  · simp only [Value.ownBlock, Option.some.injEq] at hk; exact hk ▸ hS
/-- The first k elements of a row. -/
theorem Row.pre {g cap : Nat} (h : Row w S e s (.slice (some ⟨g, 0, none⟩) n cap) n xs) {k : Nat} (hk : k ≤ n) : Row w S e s (.slice (some ⟨g, 0, none⟩) k cap) k (xs.take (k * s)) := by
  obtain ⟨g', cap', cur, he, hS, hb, h1, h2, h3, h4⟩ := h.blk (by simp)
  injection he with ha _ hc
  injection ha with ha
  injection ha with hg _ _
  subst hg; subst hc
  refine Row.of_blk hS hb (by omega) h2 h3 ?_
  rw [← h4, List.take_take, Nat.min_eq_left (Nat.mul_le_mul_right _ hk)]
end
end Go.Proofs.YtgoghmblfdlnbaaGreat
end

/- The texts VMake, VUntil, SlF of this proof, one behind the other. Conditions: those of each. -/
import Derived.Test.YtgoghmblfdlnbaaGreatProg
import Derived.Deep.OwnRows
import Derived.OrdersHeld
import Derived.RegionTactic
import Derived.Deep.QuietTactic
import Derived.BigQuiet
import Derived.RegionCalls
import Derived.Deep.RegionWith
import Derived.Deep.Cut
import Derived.Test.YtgoghmblfdlnbaaGreatGR1
import Derived.Test.YtgoghmblfdlnbaaGreatGR2
section
/- make([]byte, n). Conditions: none; plain lemmas. -/
set_option linter.unusedSimpArgs false
set_option linter.unusedVariables false
namespace Go.Proofs.YtgoghmblfdlnbaaGreat
open Go.RowKit

theorem info_u8m : (Tryz.prog.info? 5).map (fun i => (i.zero, i.size, i.bytes)) = some (some (.int .u8 0), 1, 1) := by kernel_rfl
theorem mk_u8 (n : Nat) (hn : n ≤ 1000000) (w : World) : (Instr.makeSlice 30 (.int .i64 (n : Int)) (.int .i64 (n : Int))).run Tryz.prog w = .ok (.slice (some ⟨w.heap.size, 0, none⟩) n n) (w.alloc (.cells (madeCells #[.int .u8 0] n) 5)) :=
  run_make_row' 30 5 (.int .u8 0) 1 Tryz.underlying30 info_u8m rfl .i64 .i64 n (by omega) (by omega) w
theorem zeros_row (n : Nat) (hn : n ≤ 1000000) (w : World) : Row (w.alloc (.cells (madeCells #[.int .u8 0] n) 5)) (New w) 5 1 (.slice (some ⟨w.heap.size, 0, none⟩) n n) n (bys (List.replicate n 0)) := by
  have hl : (madeCells #[Value.int .u8 0] n).toList = List.replicate n (.int .u8 0) := by
    simp only [madeCells, Array.toList_map, Array.toList_range]
    refine List.ext_getElem? fun i => ?_
    by_cases hi : i < n <;> simp [hi, Nat.mod_one, List.getElem?_replicate]
  have hs : (madeCells #[Value.int .u8 0] n).size = n := by rw [← Array.length_toList, hl, List.length_replicate]
  have h := Row.made w (madeCells #[Value.int .u8 0] n) 5 1 n n (by rw [hs, Nat.mul_one]) (Nat.le_refl _) (by omega)
  rw [hl] at h
  simpa [bys] using h
end Go.Proofs.YtgoghmblfdlnbaaGreat
end

section
/- A region that draws its order and ends in one operation that waits for all others: a load may be taken first where nothing ahead of that last operation writes its cell. Conditions: none; plain lemmas over any program. -/
set_option linter.unusedSimpArgs false
set_option linter.unusedVariables false
namespace Go.Proofs.YtgoghmblfdlnbaaGreat
open Go.RowKit

section
variable {P : Program} {ops : Array Oper} {Q : Exit → Act → World → Prop} {md : Region.Mode} {S : World → Prop} {k : Nat}

/-- Whatever order is drawn; S holds behind each operation ahead of number k. -/
def wpU (P : Program) (md : Region.Mode) (ops : Array Oper) (Q : Exit → Act → World → Prop) (S : World → Prop) (k : Nat) : Nat → Array Bool → Act → World → Prop
  | 0, l, a, w => Region.ready md ops l = [] ∧ Q .normal a w
  | n + 1, l, a, w => (Region.ready md ops l = [] → Q .normal a w) ∧ ∀ i ∈ Region.ready md ops l, wpOp P ops Q i (fun a' w' => (i ≠ k ∧ l.getD k false = false → S w') ∧ wpU P md ops Q S k n (l.setIfInBounds i true) a' w') a w

theorem wpU_any : ∀ (n : Nat) (l : Array Bool) (a : Act) (w : World), wpU P md ops Q S k n l a w → wpAny P md ops Q n l a w
  | 0, _, _, _, h => h
  | n + 1, _, _, _, h => ⟨h.1, fun i hi => wpOp_mono (fun _ _ h' => wpU_any n _ _ _ h'.2) (h.2 i hi)⟩

/-- Does operation k wait for operation i, at once or by others? -/
def waits (md : Region.Mode) (ops : Array Oper) : Nat → Nat → Nat → Bool
  | 0, _, _ => false
  | n + 1, k, i => (ops[k]?).any fun o => o.after.toList.any fun e => Region.binds md e && (e.on == i || waits md ops n e.on i)
/-- What has come up has come up behind what it waits for. -/
def Closed (md : Region.Mode) (ops : Array Oper) (l : Array Bool) : Prop := ∀ j o, ops[j]? = some o → l.getD j false = true → ∀ e ∈ o.after, Region.binds md e = true → l.getD e.on false = true
def closed (md : Region.Mode) (ops : Array Oper) (l : Array Bool) : Bool :=
  (List.range ops.size).all fun j => match ops[j]? with | some o => !(l.getD j false) || o.after.toList.all (fun e => !(Region.binds md e) || l.getD e.on false) | none => true
theorem closed_spec {l : Array Bool} (h : closed md ops l = true) : Closed md ops l := by
  intro j o ho hj e he hb
  unfold closed at h
  rw [List.all_eq_true] at h
  have h1 := h j (List.mem_range.2 (Array.getElem?_eq_some_iff.1 ho).1)
  rw [ho] at h1
  simp only [hj, Bool.not_true, Bool.false_or, List.all_eq_true] at h1
  have h2 := h1 e (by simpa using he)
  rw [hb] at h2
  simpa using h2
theorem waits_listed {l : Array Bool} (hc : Closed md ops l) : ∀ (n : Nat) {k i : Nat}, waits md ops n k i = true → (∀ o, ops[k]? = some o → ∀ e ∈ o.after, Region.binds md e = true → l.getD e.on false = true) → l.getD i false = true
  | 0, _, _, h, _ => by simp [waits] at h
  | n + 1, k, i, h, hk => by
    unfold waits at h
    rw [Option.any_eq_true] at h
    obtain ⟨o, ho, h⟩ := h
    rw [List.any_eq_true] at h
    obtain ⟨e, he, h⟩ := h
    simp only [Bool.and_eq_true, Bool.or_eq_true, beq_iff_eq] at h
    have h1 := hk o ho e (by simpa using he) h.1
    rcases h.2 with h2 | h2
    · rw [← h2]; exact h1
    · exact waits_listed hc n h2 fun o2 ho2 => hc _ o2 ho2 h1
theorem closed_set {l : Array Bool} {j : Nat} (hc : Closed md ops l) (hj : j ∈ Region.ready md ops l) : Closed md ops (l.setIfInBounds j true) := by
  intro m o ho hm e he hb
  obtain ⟨_, oj, hoj, hall⟩ := mem_ready.1 hj
  by_cases ejm : j = m
  · subst ejm
    rw [hoj] at ho
    injection ho with ho
    subst ho
    exact getD_set_true (hall e he hb)
  · rw [getD_set_ne false ejm] at hm
    exact getD_set_true (hc m o ho hm e he hb)
theorem not_ready_k {i n : Nat} {l : Array Bool} (hc : Closed md ops l) (hw : waits md ops n k i = true) (hi : i ∈ Region.ready md ops l) : k ∉ Region.ready md ops l := by
  intro hk
  obtain ⟨_, o, ho, hall⟩ := mem_ready.1 hk
  have h1 := waits_listed hc n hw (fun o2 ho2 => by rw [ho] at ho2; injection ho2 with ho2; subst ho2; exact hall)
  have h0 := (mem_ready.1 hi).1
  rcases Nat.lt_or_ge i l.size with h' | h'
  · simp [h'] at h0 h1; rw [h0] at h1; cases h1
  · simp [Array.getElem?_eq_none h'] at h1

theorem wpU_take {i : Nat} {oi : Oper} {v : Value} (hi : ops[i]? = some oi) (hs : Region.noSelect ops = true) (hw : waits md ops 9 k i = true)
    (hQ : ∀ c a w, Q (.panic c) (a.put oi.dst v) w → Q (.panic c) a w) :
    ∀ (n : Nat) (l : Array Bool) (a : Act) (w : World), closed md ops l = true → Region.free md ops l i = true → (Region.ready md ops l).contains i = true → YieldsIf P ops S oi v a → S w →
      wpU P md ops Q S k n (l.setIfInBounds i true) (a.put oi.dst v) w → wpU P md ops Q S k (n + 1) l a w := by
  have hsel := Region.noSelect_spec hs
  suffices H : ∀ (n : Nat) (l : Array Bool) (a : Act) (w : World), Closed md ops l →
      (∀ j oj, ops[j]? = some oj → j ≠ i → l.getD j true = false → (∀ e ∈ oj.after, Region.binds md e = true → e.on ≠ i) → oi.apart ops oj = true) →
      i ∈ Region.ready md ops l → YieldsIf P ops S oi v a → S w → wpU P md ops Q S k n (l.setIfInBounds i true) (a.put oi.dst v) w → wpU P md ops Q S k (n + 1) l a w from
    fun n l a w hc hf hr => H n l a w (closed_spec hc) (Region.free_spec hi hf) (by simpa using hr)
  intro n
  induction n with
  | zero =>
    intro l a w hc _ hr hy hS h
    refine ⟨fun h0 => (by rw [h0] at hr; cases hr), fun j hj => ?_⟩
    by_cases e : j = i
    · subst e; exact hy.wpOp hi hS ⟨fun _ => hS, h⟩
    · have := ready_mono hj e
      rw [h.1] at this
      cases this
  | succ n ih =>
    intro l a w hc hfree hr hy hS h
    refine ⟨fun h0 => (by rw [h0] at hr; cases hr), fun j hj => ?_⟩
    by_cases e : j = i
    · subst e; exact hy.wpOp hi hS ⟨fun _ => hS, h⟩
    · have hjk : j ≠ k := fun e => not_ready_k hc hw hr (e ▸ hj)
      have hkn : l.getD k false = false := by
        cases hk : l.getD k false with
        | false => rfl
        | true =>
          have h1 := waits_listed hc 9 hw (fun o ho e he hb => hc k o ho hk e he hb)
          have h0 := (mem_ready.1 hr).1
          rcases Nat.lt_or_ge i l.size with h' | h'
          · simp [h'] at h0 h1; rw [h0] at h1; cases h1
          · simp [Array.getElem?_eq_none h'] at h1
      have h1 := h.2 j (ready_mono hj e)
      have hkn2 : (l.setIfInBounds i true).getD k false = false := by rw [getD_set_ne false (fun e : i = k => not_ready_k hc hw hr (by rw [← e]; exact hr))]; exact hkn
      obtain ⟨hun, oj, hoj, hall⟩ := mem_ready.1 hj
      have hno : ∀ e ∈ oj.after, Region.binds md e = true → e.on ≠ i := fun e he hb heq => by
        have h2 := hall e he hb
        have h0 := (mem_ready.1 hr).1
        rw [heq] at h2
        rcases Nat.lt_or_ge i l.size with h' | h'
        · simp [h'] at h0 h2; rw [h0] at h2; cases h2
        · simp [Array.getElem?_eq_none h'] at h2
      have h2 := wpOp_putIf hoj (hfree j oj hoj e hun hno) (fun cs b => hsel i oi cs b hi) (fun cs b => hsel j oj cs b hoj) hQ hy h1
      refine wpOp_mono (fun a' w' h3 => ⟨fun _ => h3.2.1 ⟨hjk, hkn2⟩, ih (l.setIfInBounds j true) a' w' (closed_set hc hj) ?_ (ready_mono hr (Ne.symm e)) h3.1 (h3.2.1 ⟨hjk, hkn2⟩) ?_⟩) h2
      · intro m om hm hmi hmu hmo
        refine hfree m om hm hmi ?_ hmo
        by_cases ejm : j = m
        · subst ejm; exact hun
        · rw [getD_set_ne true ejm] at hmu; exact hmu
      · rw [Array.setIfInBounds_comm _ _ e]
        exact h3.2.2

theorem wpU_next {i : Nat} {o : Oper} {n : Nat} {l : Array Bool} {a : Act} {w : World} (ho : ops[i]? = some o) (hr : Region.ready md ops l = [i])
    (h : ∀ K' : Act → World → Prop, Hid (∀ a w, (i ≠ k ∧ l.getD k false = false → S w) → wpU P md ops Q S k n (l.setIfInBounds i true) a w → K' a w) → if Region.wanted o (yielded ops a.tmps) = true then Oper.wp P o a w K' Q else K' (a.put o.dst undef) w) : wpU P md ops Q S k (n + 1) l a w := by
  refine ⟨fun h0 => absurd (hr ▸ h0) (by simp), hr ▸ ?_⟩
  intro j hj
  obtain rfl := List.mem_singleton.1 hj
  exact wpOp_step ho fun K' hK => h K' (hid fun a w h1 h2 => hK a w ⟨h1, h2⟩)
theorem wpU_done {l : Array Bool} {a : Act} {w : World} (hr : Region.ready md ops l = []) (h : Q .normal a w) : ∀ n, wpU P md ops Q S k n l a w
  | 0 => ⟨hr, h⟩
  | _ + 1 => ⟨fun _ => h, by rw [hr]; simp⟩
theorem wpU_region {id : Nat} {a : Act} {w : World} (hm : P.follows .mixedOrders = true) (h : wpU P .any ops Q S k ops.size (Array.replicate ops.size false) a w.drew) : (Code.region id ops true).wp P Q a w :=
  wp_region_any hm (wpU_any _ _ _ _ h)
end
end Go.Proofs.YtgoghmblfdlnbaaGreat
end

section
/- leaf: frames of data: Blocks, lay, number, sum, Make. Conditions: none. -/
set_option linter.unusedSimpArgs false
set_option linter.unusedVariables false
namespace Go.Proofs.YtgoghmblfdlnbaaGreat
open Go.RowKit
def blkN (n : Nat) : Nat := (n + 79) / 64
theorem lblocks_ok (n : Nat) (h : n ≤ 4096) (w : World) : Calls Tryz.prog 70 #[.int .i64 (n : Nat)] w fun e w' => e = .returned (.int .i64 (blkN n : Nat)) ∧ w = w' := by
  have h1 : ((16 + (n : Int) + 64 - 1) / 64) = (blkN n : Int) := by unfold blkN; omega
  have h2 : Int.tdiv (16 + (n : Int) + 64 - 1) 64 = (blkN n : Int) := by rw [Int.tdiv_eq_ediv_of_nonneg (by omega)]; exact h1
  generalize blkN n = q at *
  go_enter Tryz.func70, Tryz.ntmps70
  go_wp2
  go_ret
  exact ⟨rfl, rfl⟩
def le4 (x : Nat) : List Nat := [x % 256, x / 256 % 256, x / 65536 % 256, x / 16777216 % 256]
theorem laid_snoc {cur : Array Value} {o : Nat} {cs : List Value} {v : Value} (h : o + cs.length < cur.size) : (laid cur o cs).setIfInBounds (o + cs.length) v = laid cur o (cs ++ [v]) := by
  apply Array.toList_inj.1
  rw [Array.toList_setIfInBounds, laid_toList, laid_toList]
  have hl : (cur.toList.take o ++ cs).length = o + cs.length := by rw [List.length_append, List.length_take, Array.length_toList]; omega
  rw [List.set_append_right _ _ (by omega), hl, Nat.sub_self, List.drop_eq_getElem_cons (by rw [Array.length_toList]; exact h), List.set_cons_zero, ← List.append_assoc, List.length_append, List.length_singleton, ← Nat.add_assoc]
  simp
set_option maxRecDepth 20000 in
theorem lay_ok (g o n c : Nat) (cur : Array Value) (x : Nat) (hx : x < 4294967296) (hn : 4 ≤ n) (ho : o + 4 ≤ cur.size) (w : World) (hb : Blk w g cur 5) :
    Calls Tryz.prog 71 #[.slice (some ⟨g, o, none⟩) n c, .int .u32 (x : Nat)] w fun e w' => e = .returned (.tuple #[]) ∧ Blk w' g (laid cur o (bys (le4 x))) 5 ∧ Fr (fun k => k = g) w w' := by
  have HB := hid hb
  have hx2 : (x : Int) < 4294967296 := by omega
  clear hb
  go_enter Tryz.func71, Tryz.ntmps71
  go_wp2_with fail
  go_loopw [5] (fun v5 wr => ∃ i : Nat, v5 = .int .i64 i ∧ i ≤ 4 ∧ Hid (Blk wr g (laid cur o (bys ((le4 x).take i))) 5 ∧ Fr (fun k => k = g) w wr)) (fun v5 _ => 4 - (intOf v5).toNat)
  case atStart => exact ⟨0, rfl, by omega, hid ⟨by simpa [bys, laid_nil] using HB.out, Fr.refl _ _⟩⟩
  case round =>
    obtain ⟨i, rfl, hi, hA⟩ := hrel
    by_cases hlt : i < 4
    · rcases (show i = 0 ∨ i = 1 ∨ i = 2 ∨ i = 3 by omega) with rfl | rfl | rfl | rfl
      · skip
        have hsz : (laid cur o (bys ((le4 x).take 0))).size = cur.size := laid_size (by simp [bys, le4]; omega)
        have hz : wr.frozen? ⟨g, o, none⟩ = false := hA.out.1.frozen (o)
        have hl := hA.out.1.lt
        obtain ⟨v0, hc⟩ : ∃ v, wr.cell? ⟨g, o, none⟩ = some v := ⟨_, by rw [hA.out.1.cell, Array.getElem?_eq_getElem (by rw [hsz]; omega)]⟩
        clear hsz hlt hi
        have hin : (0 : Int) < (n : Int) := by omega
        have Hnew := hid (show Blk (wr.setCell ⟨g, o, none⟩ (.int .u8 ((x : Int) % 256))) g (laid cur o (bys ((le4 x).take (0 + 1)))) 5 from by
          have h1 := hA.out.1.set (o) (.int .u8 ((x : Int) % 256))
          have e : laid cur o (bys ((le4 x).take (0 + 1))) = (laid cur o (bys ((le4 x).take 0))).setIfInBounds (o) (.int .u8 ((x : Int) % 256)) := by
            have h2 := laid_snoc (cur := cur) (o := o) (cs := bys ((le4 x).take 0)) (v := .int .u8 ((x : Int) % 256)) (by simp [bys, le4]; omega)
            rw [show o + (bys ((le4 x).take 0)).length = o from by simp [bys, le4]] at h2
            rw [h2]
            first
              | rfl
              | (congr 1; simp [bys, le4]; omega)
          rw [e]; exact h1)
        have Fnew := hid (show Fr (fun k => k = g) w (wr.setCell ⟨g, o, none⟩ (.int .u8 ((x : Int) % 256))) from hA.out.2.setCell (a := ⟨g, o, none⟩) (.inl rfl) _)
        go_wp2_with fail
        go_roundw
        case rel => exact ⟨0 + 1, rfl, by omega, hid ⟨Hnew.out, Fnew.out⟩⟩
        case measure => simp [intOf]
      · skip
        have hsz : (laid cur o (bys ((le4 x).take 1))).size = cur.size := laid_size (by simp [bys, le4]; omega)
        have hz : wr.frozen? ⟨g, o + 1, none⟩ = false := hA.out.1.frozen (o + 1)
        have hl := hA.out.1.lt
        obtain ⟨v0, hc⟩ : ∃ v, wr.cell? ⟨g, o + 1, none⟩ = some v := ⟨_, by rw [hA.out.1.cell, Array.getElem?_eq_getElem (by rw [hsz]; omega)]⟩
        clear hsz hlt hi
        have hin : (1 : Int) < (n : Int) := by omega
        have Hnew := hid (show Blk (wr.setCell ⟨g, o + 1, none⟩ (.int .u8 ((x : Int) / 256 % 256))) g (laid cur o (bys ((le4 x).take (1 + 1)))) 5 from by
          have h1 := hA.out.1.set (o + 1) (.int .u8 ((x : Int) / 256 % 256))
          have e : laid cur o (bys ((le4 x).take (1 + 1))) = (laid cur o (bys ((le4 x).take 1))).setIfInBounds (o + 1) (.int .u8 ((x : Int) / 256 % 256)) := by
            have h2 := laid_snoc (cur := cur) (o := o) (cs := bys ((le4 x).take 1)) (v := .int .u8 ((x : Int) / 256 % 256)) (by simp [bys, le4]; omega)
            rw [show o + (bys ((le4 x).take 1)).length = o + 1 from by simp [bys, le4]] at h2
            rw [h2]
            first
              | rfl
              | (congr 1; simp [bys, le4]; omega)
          rw [e]; exact h1)
        have Fnew := hid (show Fr (fun k => k = g) w (wr.setCell ⟨g, o + 1, none⟩ (.int .u8 ((x : Int) / 256 % 256))) from hA.out.2.setCell (a := ⟨g, o + 1, none⟩) (.inl rfl) _)
        go_wp2_with fail
        go_roundw
        case rel => exact ⟨1 + 1, rfl, by omega, hid ⟨Hnew.out, Fnew.out⟩⟩
        case measure => simp [intOf]
      · skip
        have hsz : (laid cur o (bys ((le4 x).take 2))).size = cur.size := laid_size (by simp [bys, le4]; omega)
        have hz : wr.frozen? ⟨g, o + 2, none⟩ = false := hA.out.1.frozen (o + 2)
        have hl := hA.out.1.lt
        obtain ⟨v0, hc⟩ : ∃ v, wr.cell? ⟨g, o + 2, none⟩ = some v := ⟨_, by rw [hA.out.1.cell, Array.getElem?_eq_getElem (by rw [hsz]; omega)]⟩
        clear hsz hlt hi
        have hin : (2 : Int) < (n : Int) := by omega
        have Hnew := hid (show Blk (wr.setCell ⟨g, o + 2, none⟩ (.int .u8 ((x : Int) / 65536 % 256))) g (laid cur o (bys ((le4 x).take (2 + 1)))) 5 from by
          have h1 := hA.out.1.set (o + 2) (.int .u8 ((x : Int) / 65536 % 256))
          have e : laid cur o (bys ((le4 x).take (2 + 1))) = (laid cur o (bys ((le4 x).take 2))).setIfInBounds (o + 2) (.int .u8 ((x : Int) / 65536 % 256)) := by
            have h2 := laid_snoc (cur := cur) (o := o) (cs := bys ((le4 x).take 2)) (v := .int .u8 ((x : Int) / 65536 % 256)) (by simp [bys, le4]; omega)
            rw [show o + (bys ((le4 x).take 2)).length = o + 2 from by simp [bys, le4]] at h2
            rw [h2]
            first
              | rfl
              | (congr 1; simp [bys, le4]; omega)
          rw [e]; exact h1)
        have Fnew := hid (show Fr (fun k => k = g) w (wr.setCell ⟨g, o + 2, none⟩ (.int .u8 ((x : Int) / 65536 % 256))) from hA.out.2.setCell (a := ⟨g, o + 2, none⟩) (.inl rfl) _)
        go_wp2_with fail
        go_roundw
        case rel => exact ⟨2 + 1, rfl, by omega, hid ⟨Hnew.out, Fnew.out⟩⟩
        case measure => simp [intOf]
      · skip
        have hsz : (laid cur o (bys ((le4 x).take 3))).size = cur.size := laid_size (by simp [bys, le4]; omega)
        have hz : wr.frozen? ⟨g, o + 3, none⟩ = false := hA.out.1.frozen (o + 3)
        have hl := hA.out.1.lt
        obtain ⟨v0, hc⟩ : ∃ v, wr.cell? ⟨g, o + 3, none⟩ = some v := ⟨_, by rw [hA.out.1.cell, Array.getElem?_eq_getElem (by rw [hsz]; omega)]⟩
        clear hsz hlt hi
        have hin : (3 : Int) < (n : Int) := by omega
        have Hnew := hid (show Blk (wr.setCell ⟨g, o + 3, none⟩ (.int .u8 ((x : Int) / 16777216))) g (laid cur o (bys ((le4 x).take (3 + 1)))) 5 from by
          have h1 := hA.out.1.set (o + 3) (.int .u8 ((x : Int) / 16777216))
          have e : laid cur o (bys ((le4 x).take (3 + 1))) = (laid cur o (bys ((le4 x).take 3))).setIfInBounds (o + 3) (.int .u8 ((x : Int) / 16777216)) := by
            have h2 := laid_snoc (cur := cur) (o := o) (cs := bys ((le4 x).take 3)) (v := .int .u8 ((x : Int) / 16777216)) (by simp [bys, le4]; omega)
            rw [show o + (bys ((le4 x).take 3)).length = o + 3 from by simp [bys, le4]] at h2
            rw [h2]
            first
              | rfl
              | (congr 1; simp [bys, le4]; omega)
          rw [e]; exact h1)
        have Fnew := hid (show Fr (fun k => k = g) w (wr.setCell ⟨g, o + 3, none⟩ (.int .u8 ((x : Int) / 16777216))) from hA.out.2.setCell (a := ⟨g, o + 3, none⟩) (.inl rfl) _)
        go_wp2_with fail
        go_roundw
        case rel => exact ⟨3 + 1, rfl, by omega, hid ⟨Hnew.out, Fnew.out⟩⟩
        case measure => simp [intOf]
    · have hi4 : i = 4 := by omega
      subst hi4
      go_wp2
      go_end0
      exact ⟨rfl, hA.out.1, hA.out.2⟩
def num4 (xs : List Nat) : Nat := xs.getD 0 0 + 256 * xs.getD 1 0 + 65536 * xs.getD 2 0 + 16777216 * xs.getD 3 0
theorem or_hi (a b k : Nat) (h : a < 2 ^ k) : a ||| (b * 2 ^ k) = a + b * 2 ^ k := by
  rw [Nat.mul_comm, Nat.or_comm, ← Nat.two_pow_add_eq_or_of_lt h]; omega
theorem or4 (a b c d : Nat) (ha : a < 256) (hb : b < 256) (hc : c < 256) (hd : d < 256) :
    bits .or .u32 (bits .or .u32 (bits .or .u32 (a : Int) ((b : Int) * 256)) ((c : Int) * 65536)) ((d : Int) * 16777216) = ((a + 256 * b + 65536 * c + 16777216 * d : Nat) : Int) := by
  have h1 := u32_or_nat a (b * 256) (by omega) (by omega)
  rw [or_hi a b 8 ha] at h1
  have h2 := u32_or_nat (a + b * 2 ^ 8) (c * 65536) (by omega) (by omega)
  rw [or_hi (a + b * 2 ^ 8) c 16 (by omega)] at h2
  have h3 := u32_or_nat (a + b * 2 ^ 8 + c * 2 ^ 16) (d * 16777216) (by omega) (by omega)
  rw [or_hi (a + b * 2 ^ 8 + c * 2 ^ 16) d 24 (by omega)] at h3
  rw [show ((b : Int) * 256) = ((b * 256 : Nat) : Int) from by omega, h1, show ((c : Int) * 65536) = ((c * 65536 : Nat) : Int) from by omega, h2, show ((d : Int) * 16777216) = ((d * 16777216 : Nat) : Int) from by omega, h3]
  omega
theorem byt_get {xs : List Nat} (h : Byt xs) {i : Nat} (hi : i < xs.length) : xs.getD i 0 < 256 := by
  have := h _ (List.getElem_mem hi)
  simpa [List.getElem?_eq_getElem hi] using this
set_option maxRecDepth 20000 in
theorem number_ok (S : Nat → Prop) (v : Value) (n : Nat) (xs : List Nat) (hn : 4 ≤ n) (w : World) (hv : View w S 1 v n (bys xs)) (hB : Byt xs) :
    Calls Tryz.prog 74 #[v] w fun e w' => e = .returned (.int .u32 (num4 xs : Nat)) ∧ Fr Nil w w' := by
  obtain ⟨A, c, rfl⟩ : ∃ A c, v = .slice A n c := let ⟨_, A, c, e, _⟩ := hv; ⟨A, c, e⟩
  have hl := hv.lenb
  obtain ⟨b, o, rfl, -, hbl, q0⟩ := by_at hv (i := 0) (by omega)
  obtain ⟨b', o', e1, -, -, q1⟩ := by_at hv (i := 1) (by omega)
  obtain ⟨b2, o2, e2, -, -, q2⟩ := by_at hv (i := 2) (by omega)
  obtain ⟨b3, o3, e3, -, -, q3⟩ := by_at hv (i := 3) (by omega)
  injection e1 with e1; injection e1 with e1 f1; subst e1; subst f1
  injection e2 with e2; injection e2 with e2 f2; subst e2; subst f2
  injection e3 with e3; injection e3 with e3 f3; subst e3; subst f3
  have g0 := byt_get hB (i := 0) (by omega)
  have g1 := byt_get hB (i := 1) (by omega)
  have g2 := byt_get hB (i := 2) (by omega)
  have g3 := byt_get hB (i := 3) (by omega)
  have Hn := hid (show num4 xs = xs.getD 0 0 + 256 * xs.getD 1 0 + 65536 * xs.getD 2 0 + 16777216 * xs.getD 3 0 from rfl)
  generalize xs.getD 0 0 = x0 at *
  generalize xs.getD 1 0 = x1 at *
  generalize xs.getD 2 0 = x2 at *
  generalize xs.getD 3 0 = x3 at *
  have i1 : (1 : Int) < (n : Int) := by omega
  have i2 : (2 : Int) < (n : Int) := by omega
  have i3 : (3 : Int) < (n : Int) := by omega
  have q00 : w.cell? ⟨b, o, none⟩ = some (.int .u8 (x0 : Int)) := q0
  clear hv hl q0 hB
  go_enter Tryz.func74, Tryz.ntmps74
  go_upto_region 1 with (fail)
  go_quiet (fail)
  go_wp2
  go_ret
  refine ⟨?_, (Fr.refl _ _).drewN _⟩
  rw [show num4 xs = x0 + 256 * x1 + 65536 * x2 + 16777216 * x3 from Hn.out, ← or4 x0 x1 x2 x3 g0 g1 g2 g3]
  rfl
end Go.Proofs.YtgoghmblfdlnbaaGreat
end

/- A region that draws its order and ends in one operation that waits for all others: a load may be taken first where nothing ahead of that last operation writes its cell. Conditions: none; plain lemmas over any program. -/
import Derived.Test.YtjieckaeplkafaaBase
import Derived.OrdersHeld
import Derived.RegionTactic
set_option linter.unusedSimpArgs false
set_option linter.unusedVariables false
namespace Go.Proofs.Ytjieckaeplkafaa
open Go.RowKit

section
variable {P : Program} {ops : Array Oper} {Q : Exit → Act → World → Prop} {md : Region.Mode} {S : World → Prop} {k : Nat}

/-- Whatever order is drawn; S holds behind each operation ahead of number k. -/
def wpU (P : Program) (md : Region.Mode) (ops : Array Oper) (Q : Exit → Act → World → Prop) (S : World → Prop) (k : Nat) : Nat → Array Bool → Act → World → Prop
  | 0, l, a, w => Region.ready md ops l = [] ∧ Q .normal a w
  | n + 1, l, a, w => (Region.ready md ops l = [] → Q .normal a w) ∧ ∀ i ∈ Region.ready md ops l, wpOp P ops Q i (fun a' w' => (i ≠ k ∧ l.getD k false = false → S w') ∧ wpU P md ops Q S k n (l.setIfInBounds i true) a' w') a w

theorem wpU_any : ∀ (n : Nat) (l : Array Bool) (a : Act) (w : World), wpU P md ops Q S k n l a w → wpAny P md ops Q n l a w
  | 0, _, _, _, h => h
  | n + 1, _, _, _, h => ⟨h.1, fun i hi => wpOp_mono (fun _ _ h' => wpU_any n _ _ _ h'.2) (h.2 i hi)⟩

/-- Does operation k wait for operation i, at once or by others? -/
def waits (md : Region.Mode) (ops : Array Oper) : Nat → Nat → Nat → Bool
  | 0, _, _ => false
  | n + 1, k, i => (ops[k]?).any fun o => o.after.toList.any fun e => Region.binds md e && (e.on == i || waits md ops n e.on i)
/-- What has come up has come up behind what it waits for. -/
def Closed (md : Region.Mode) (ops : Array Oper) (l : Array Bool) : Prop := ∀ j o, ops[j]? = some o → l.getD j false = true → ∀ e ∈ o.after, Region.binds md e = true → l.getD e.on false = true
def closed (md : Region.Mode) (ops : Array Oper) (l : Array Bool) : Bool :=
  (List.range ops.size).all fun j => match ops[j]? with | some o => !(l.getD j false) || o.after.toList.all (fun e => !(Region.binds md e) || l.getD e.on false) | none => true
theorem closed_spec {l : Array Bool} (h : closed md ops l = true) : Closed md ops l := by
  intro j o ho hj e he hb
  unfold closed at h
  rw [List.all_eq_true] at h
  have h1 := h j (List.mem_range.2 (Array.getElem?_eq_some_iff.1 ho).1)
  rw [ho] at h1
  simp only [hj, Bool.not_true, Bool.false_or, List.all_eq_true] at h1
  have h2 := h1 e (by simpa using he)
  rw [hb] at h2
  simpa using h2
theorem waits_listed {l : Array Bool} (hc : Closed md ops l) : ∀ (n : Nat) {k i : Nat}, waits md ops n k i = true → (∀ o, ops[k]? = some o → ∀ e ∈ o.after, Region.binds md e = true → l.getD e.on false = true) → l.getD i false = true
  | 0, _, _, h, _ => by simp [waits] at h
  | n + 1, k, i, h, hk => by
    unfold waits at h
    rw [Option.any_eq_true] at h
    obtain ⟨o, ho, h⟩ := h
    rw [List.any_eq_true] at h
    obtain ⟨e, he, h⟩ := h
    simp only [Bool.and_eq_true, Bool.or_eq_true, beq_iff_eq] at h
    have h1 := hk o ho e (by simpa using he) h.1
    rcases h.2 with h2 | h2
    · rw [← h2]; exact h1
    · exact waits_listed hc n h2 fun o2 ho2 => hc _ o2 ho2 h1
theorem closed_set {l : Array Bool} {j : Nat} (hc : Closed md ops l) (hj : j ∈ Region.ready md ops l) : Closed md ops (l.setIfInBounds j true) := by
  intro m o ho hm e he hb
  obtain ⟨_, oj, hoj, hall⟩ := mem_ready.1 hj
  by_cases ejm : j = m
  · subst ejm
    rw [hoj] at ho
    injection ho with ho
    subst ho
    exact getD_set_true (hall e he hb)
  · rw [getD_set_ne false ejm] at hm
    exact getD_set_true (hc m o ho hm e he hb)
theorem not_ready_k {i n : Nat} {l : Array Bool} (hc : Closed md ops l) (hw : waits md ops n k i = true) (hi : i ∈ Region.ready md ops l) : k ∉ Region.ready md ops l := by
  intro hk
  obtain ⟨_, o, ho, hall⟩ := mem_ready.1 hk
  have h1 := waits_listed hc n hw (fun o2 ho2 => by rw [ho] at ho2; injection ho2 with ho2; subst ho2; exact hall)
  have h0 := (mem_ready.1 hi).1
  rcases Nat.lt_or_ge i l.size with h' | h'
  · simp [h'] at h0 h1; rw [h0] at h1; cases h1
  · simp [Array.getElem?_eq_none h'] at h1

theorem wpU_take {i : Nat} {oi : Oper} {v : Value} (hi : ops[i]? = some oi) (hs : Region.noSelect ops = true) (hw : waits md ops 9 k i = true)
    (hQ : ∀ c a w, Q (.panic c) (a.put oi.dst v) w → Q (.panic c) a w) :
    ∀ (n : Nat) (l : Array Bool) (a : Act) (w : World), closed md ops l = true → Region.free md ops l i = true → (Region.ready md ops l).contains i = true → YieldsIf P ops S oi v a → S w →
      wpU P md ops Q S k n (l.setIfInBounds i true) (a.put oi.dst v) w → wpU P md ops Q S k (n + 1) l a w := by
  have hsel := Region.noSelect_spec hs
  suffices H : ∀ (n : Nat) (l : Array Bool) (a : Act) (w : World), Closed md ops l →
      (∀ j oj, ops[j]? = some oj → j ≠ i → l.getD j true = false → (∀ e ∈ oj.after, Region.binds md e = true → e.on ≠ i) → oi.apart ops oj = true) →
      i ∈ Region.ready md ops l → YieldsIf P ops S oi v a → S w → wpU P md ops Q S k n (l.setIfInBounds i true) (a.put oi.dst v) w → wpU P md ops Q S k (n + 1) l a w from
    fun n l a w hc hf hr => H n l a w (closed_spec hc) (Region.free_spec hi hf) (by simpa using hr)
  intro n
  induction n with
  | zero =>
    intro l a w hc _ hr hy hS h
    refine ⟨fun h0 => (by rw [h0] at hr; cases hr), fun j hj => ?_⟩
    by_cases e : j = i
    · subst e; exact hy.wpOp hi hS ⟨fun _ => hS, h⟩
    · have := ready_mono hj e
      rw [h.1] at this
      cases this
  | succ n ih =>
    intro l a w hc hfree hr hy hS h
    refine ⟨fun h0 => (by rw [h0] at hr; cases hr), fun j hj => ?_⟩
    by_cases e : j = i
    · subst e; exact hy.wpOp hi hS ⟨fun _ => hS, h⟩
    · have hjk : j ≠ k := fun e => not_ready_k hc hw hr (e ▸ hj)
      have hkn : l.getD k false = false := by
        cases hk : l.getD k false with
        | false => rfl
        | true =>
          have h1 := waits_listed hc 9 hw (fun o ho e he hb => hc k o ho hk e he hb)
          have h0 := (mem_ready.1 hr).1
          rcases Nat.lt_or_ge i l.size with h' | h'
          · simp [h'] at h0 h1; rw [h0] at h1; cases h1
          · simp [Array.getElem?_eq_none h'] at h1
      have h1 := h.2 j (ready_mono hj e)
      have hkn2 : (l.setIfInBounds i true).getD k false = false := by rw [getD_set_ne false (fun e : i = k => not_ready_k hc hw hr (by rw [← e]; exact hr))]; exact hkn
      obtain ⟨hun, oj, hoj, hall⟩ := mem_ready.1 hj
      have hno : ∀ e ∈ oj.after, Region.binds md e = true → e.on ≠ i := fun e he hb heq => by
        have h2 := hall e he hb
        have h0 := (mem_ready.1 hr).1
        rw [heq] at h2
        rcases Nat.lt_or_ge i l.size with h' | h'
        · simp [h'] at h0 h2; rw [h0] at h2; cases h2
        · simp [Array.getElem?_eq_none h'] at h2
      have h2 := wpOp_putIf hoj (hfree j oj hoj e hun hno) (fun cs b => hsel i oi cs b hi) (fun cs b => hsel j oj cs b hoj) hQ hy h1
      refine wpOp_mono (fun a' w' h3 => ⟨fun _ => h3.2.1 ⟨hjk, hkn2⟩, ih (l.setIfInBounds j true) a' w' (closed_set hc hj) ?_ (ready_mono hr (Ne.symm e)) h3.1 (h3.2.1 ⟨hjk, hkn2⟩) ?_⟩) h2
      · intro m om hm hmi hmu hmo
        refine hfree m om hm hmi ?_ hmo
        by_cases ejm : j = m
        · subst ejm; exact hun
        · rw [getD_set_ne true ejm] at hmu; exact hmu
      · rw [Array.setIfInBounds_comm _ _ e]
        exact h3.2.2

theorem wpU_next {i : Nat} {o : Oper} {n : Nat} {l : Array Bool} {a : Act} {w : World} (ho : ops[i]? = some o) (hr : Region.ready md ops l = [i])
    (h : ∀ K' : Act → World → Prop, Hid (∀ a w, (i ≠ k ∧ l.getD k false = false → S w) → wpU P md ops Q S k n (l.setIfInBounds i true) a w → K' a w) → if Region.wanted o (yielded ops a.tmps) = true then Oper.wp P o a w K' Q else K' (a.put o.dst undef) w) : wpU P md ops Q S k (n + 1) l a w := by
  refine ⟨fun h0 => absurd (hr ▸ h0) (by simp), hr ▸ ?_⟩
  intro j hj
  obtain rfl := List.mem_singleton.1 hj
  exact wpOp_step ho fun K' hK => h K' (hid fun a w h1 h2 => hK a w ⟨h1, h2⟩)
theorem wpU_done {l : Array Bool} {a : Act} {w : World} (hr : Region.ready md ops l = []) (h : Q .normal a w) : ∀ n, wpU P md ops Q S k n l a w
  | 0 => ⟨hr, h⟩
  | _ + 1 => ⟨fun _ => h, by rw [hr]; simp⟩
theorem wpU_region {id : Nat} {a : Act} {w : World} (hm : P.follows .mixedOrders = true) (h : wpU P .any ops Q S k ops.size (Array.replicate ops.size false) a w.drew) : (Code.region id ops true).wp P Q a w :=
  wp_region_any hm (wpU_any _ _ _ _ h)
end
end Go.Proofs.Ytjieckaeplkafaa

/- The texts VMakers of this proof, one behind the other. Conditions: those of each. -/
import Derived.Test.YtgoghmblfdlnbaaGreatGR3
section
/- Several operations of a drawn region that make memory and wait for none of each other (or for earlier ones of them): whatever their order, each is walked once. Conditions: none; plain lemmas over any program. -/
set_option linter.unusedSimpArgs false
set_option linter.unusedVariables false
namespace Go.Proofs.YtgoghmblfdlnbaaGreat.nd
open Go.RowKit

/-- An operation (number i, its slot d): what must hold ahead of it (E), what holds of its result (D), which blocks it may write (Z). -/
structure Mk where
  i : Nat
  d : Nat
  E : World → Prop
  D : Value → World → Prop
  Z : Nat → Prop

theorem nodup_inj {α : Type} (f : α → Nat) : ∀ (L : List α), (L.map f).Nodup → ∀ a ∈ L, ∀ b ∈ L, f a = f b → a = b
  | [], _, a, ha, _, _, _ => by cases ha
  | x :: L, hn, a, ha, b, hb, e => by
    rw [List.map_cons, List.nodup_cons] at hn
    rcases List.mem_cons.1 ha with h1 | h1
    · rcases List.mem_cons.1 hb with h2 | h2
      · rw [h1, h2]
      · exact absurd (show f x ∈ L.map f from List.mem_map.2 ⟨b, h2, by rw [← e, h1]⟩) hn.1
    · rcases List.mem_cons.1 hb with h2 | h2
      · exact absurd (show f x ∈ L.map f from List.mem_map.2 ⟨a, h1, by rw [e, h2]⟩) hn.1
      · exact nodup_inj f L hn.2 a h1 b h2 e
/-- The results laid in their slots. -/
def puts (a : Act) (us : Nat → Value) : List Mk → Act
  | [] => a
  | m :: M => (puts a us M).put (some m.d) (us m.d)
def upd (us : Nat → Value) (d : Nat) (v : Value) : Nat → Value := fun j => if j = d then v else us j
theorem Act.put_same (a : Act) (d : Nat) (u v : Value) : (a.put (some d) u).put (some d) v = a.put (some d) v := by
  simp [Act.put]
theorem puts_upd (a : Act) (us : Nat → Value) (d : Nat) (v : Value) : ∀ M : List Mk, d ∉ M.map Mk.d → puts a (upd us d v) M = puts a us M
  | [], _ => rfl
  | m :: M, h => by
    rw [List.map_cons, List.mem_cons, not_or] at h
    unfold puts
    rw [puts_upd a us d v M h.2]
    congr 1
    unfold upd
    rw [if_neg (fun e => h.1 e.symm)]
theorem puts_put (a : Act) (us : Nat → Value) (v : Value) : ∀ (M : List Mk) (m : Mk), m ∈ M → (M.map Mk.d).Nodup → (puts a us M).put (some m.d) v = puts a (upd us m.d v) M
  | [], m, h, _ => by cases h
  | m' :: M, m, h, hn => by
    rw [List.map_cons, List.nodup_cons] at hn
    by_cases e : m.d = m'.d
    · unfold puts
      rw [e, Act.put_same, puts_upd a us _ v M hn.1]
      simp [upd]
    · rcases List.mem_cons.1 h with rfl | h
      · exact absurd rfl e
      · unfold puts
        rw [Act.put_comm _ _ _ (fun d h1 h2 => e (by injection h1 with h1; injection h2 with h2; rw [h1, h2])), puts_put a us v M m h hn.2]
        congr 1
        unfold upd
        rw [if_neg (fun h => e h.symm)]
theorem puts_start (a : Act) : ∀ M : List Mk, puts a (fun d => a.tmps.getD d undef) M = a
  | [] => rfl
  | m :: M => by
    unfold puts
    rw [puts_start a M]
    cases a with
    | mk t ds =>
      simp only [Act.put]
      congr 1
      apply Array.ext
      · simp
      · intro j h1 h2
        rw [Array.getElem_setIfInBounds]
        split
        · rename_i h; subst h; simp [h2]
        · rfl

section
variable {P : Program} {ops : Array Oper} {Q : Exit → Act → World → Prop} {md : Region.Mode} {S : World → Prop} {k : Nat}

def makersOk (md : Region.Mode) (ops : Array Oper) (l : Array Bool) (is : List Nat) : Bool :=
  closed md ops l && (is.all fun i => !(l.getD i true) && match ops[i]? with | some o => o.after.toList.all fun e => !(Region.binds md e) || l.getD e.on false || (is.contains e.on && decide (e.on < i)) | none => false) &&
    ((List.range ops.size).all fun j => l.getD j true || is.contains j || is.all fun i => waits md ops 9 j i)

/-- All listed. -/
def lists (l : Array Bool) : List Nat → Array Bool
  | [] => l
  | i :: is => (lists l is).setIfInBounds i true
theorem lists_get (l : Array Bool) (j : Nat) (d : Bool) : ∀ is : List Nat, (lists l is).getD j d = if j ∈ is ∧ j < l.size then true else l.getD j d
  | [] => by simp [lists]
  | i :: is => by
    have hs : ∀ is, (lists l is).size = l.size := fun is => by
      induction is with
      | nil => rfl
      | cons i is ih => simp [lists, ih]
    have ih := lists_get l j d is
    unfold lists
    by_cases e : i = j
    · subst e
      by_cases h : i < l.size
      · simp [h, hs]
      · simp [h, hs]
    · rw [getD_set_ne d e, ih]
      have : (j ∈ i :: is ∧ j < l.size) ↔ (j ∈ is ∧ j < l.size) := by
        rw [List.mem_cons]
        constructor
        · rintro ⟨h | h, h2⟩
          · exact absurd h.symm e
          · exact ⟨h, h2⟩
        · rintro ⟨h, h2⟩; exact ⟨.inr h, h2⟩
      simp only [this]
theorem lists_size (l : Array Bool) : ∀ is : List Nat, (lists l is).size = l.size
  | [] => rfl
  | i :: is => by simp [lists, lists_size l is]

theorem wpU_makers (M : List Mk) {n : Nat} {l : Array Bool} {a : Act} {w : World} (hok : makersOk md ops l (M.map Mk.i) = true) (hnd : (M.map Mk.d).Nodup) (hni : (M.map Mk.i).Nodup)
    (hS : S w) (hE : ∀ m ∈ M, m.E w)
    (hstab : ∀ m ∈ M, ∀ m' ∈ M, m'.i ≠ m.i → ∀ w w', S w → m.E w → Fr m.Z w w' → (m'.E w → m'.E w') ∧ ∀ v, m'.D v w → m'.D v w')
    (hstep : ∀ m ∈ M, ∀ us a' w o, puts a us M = a' → ops[m.i]? = some o → S w → m.E w → (∀ m' ∈ M, (o.after.toList.any fun e => Region.binds md e && e.on == m'.i) = true → m'.D (us m'.d) w) →
      ∀ K : Act → World → Prop, Hid (∀ v w', S w' → m.D v w' → Fr m.Z w w' → K (a'.put (some m.d) v) w') → if Region.wanted o (yielded ops a'.tmps) = true then Oper.wp P o a' w K Q else K (a'.put o.dst undef) w)
    (h : ∀ us a' w', puts a us M = a' → S w' → (∀ m ∈ M, m.D (us m.d) w') → Fr (fun b => ∃ m ∈ M, m.Z b) w w' → wpU P md ops Q S k n (lists l (M.map Mk.i)) a' w') :
    wpU P md ops Q S k (n + M.length) l a w := by
  unfold makersOk at hok
  simp only [Bool.and_eq_true, List.all_eq_true] at hok
  obtain ⟨⟨hc, hm⟩, hj⟩ := hok
  have hc0 := closed_spec hc
  have hlt : ∀ m ∈ M, l.getD m.i true = false := fun m hmM => by
    have := (hm m.i (List.mem_map.2 ⟨m, hmM, rfl⟩)).1
    simpa using this
  suffices H : ∀ (p : Nat) (l' : Array Bool) (us : Nat → Value) (w' : World), (M.filter fun m => !(l'.getD m.i true)).length = p → l'.size = l.size → Closed md ops l' →
      (∀ j d, j ∉ M.map Mk.i → l'.getD j d = l.getD j d) → S w' → Fr (fun b => ∃ m ∈ M, m.Z b) w w' →
      (∀ m ∈ M, (l'.getD m.i true = false → m.E w') ∧ (l'.getD m.i true = true → m.D (us m.d) w')) → wpU P md ops Q S k (n + p) l' (puts a us M) w' by
    have h0 := H M.length l (fun d => a.tmps.getD d undef) w (by rw [List.filter_eq_self.2 (fun m hmM => by rw [hlt m hmM]; rfl)]) rfl hc0 (fun _ _ _ => rfl) hS (Fr.refl _ _)
      (fun m hmM => ⟨fun _ => hE m hmM, fun h => by rw [hlt m hmM] at h; cases h⟩)
    rwa [puts_start] at h0
  intro p
  induction p with
  | zero =>
    intro l' us w' hp hsz hcl hot hS' hfr hinv
    have hall : ∀ m ∈ M, l'.getD m.i true = true := fun m hmM => by
      rw [List.length_eq_zero_iff, List.filter_eq_nil_iff] at hp
      simpa using hp m hmM
    have hl : l' = lists l (M.map Mk.i) := by
      apply Array.ext
      · rw [lists_size, hsz]
      · intro j h1 h2
        have e1 : l'.getD j true = l'[j] := by simp [h1]
        have e2 : (lists l (M.map Mk.i)).getD j true = (lists l (M.map Mk.i))[j] := by simp [h2]
        rw [← e1, ← e2, lists_get]
        by_cases hjm : j ∈ M.map Mk.i
        · obtain ⟨m, hmM, rfl⟩ := List.mem_map.1 hjm
          rw [if_pos ⟨hjm, by rw [← hsz]; exact h1⟩]
          exact hall m hmM
        · rw [if_neg (fun h => hjm h.1)]
          exact hot j true hjm
    rw [hl, Nat.add_zero]
    exact h us _ w' rfl hS' (fun m hmM => (hinv m hmM).2 (hall m hmM)) hfr
  | succ p ih =>
    intro l' us w' hp hsz hcl hot hS' hfr hinv
    -- one of them is ready
    have hex : ∃ i, i ∈ M.map Mk.i ∧ l'.getD i true = false := by
      have : 0 < (M.filter fun m => !(l'.getD m.i true)).length := by omega
      obtain ⟨m, hmf⟩ := List.exists_mem_of_length_pos this
      rw [List.mem_filter] at hmf
      exact ⟨m.i, List.mem_map.2 ⟨m, hmf.1, rfl⟩, by simpa using hmf.2⟩
    have hleast : ∀ i, i ∈ M.map Mk.i → l'.getD i true = false → ∃ i', i' ∈ Region.ready md ops l' := by
      intro i
      induction i using Nat.strongRecOn with
      | ind i ihi =>
        intro hiM hil
        have h1 := (hm i hiM).2
        cases ho : ops[i]? with
        | none => rw [ho] at h1; cases h1
        | some o =>
          rw [ho] at h1
          simp only [List.all_eq_true] at h1
          by_cases hdep : ∀ e ∈ o.after, Region.binds md e = true → l'.getD e.on false = true
          · exact ⟨i, mem_ready.2 ⟨hil, o, ho, hdep⟩⟩
          · have : ∃ e, e ∈ o.after ∧ Region.binds md e = true ∧ l'.getD e.on false = false := by
              false_or_by_contra
              rename_i hno
              exact hdep fun e he hb => by
                cases hx : l'.getD e.on false with
                | true => rfl
                | false => exact absurd ⟨e, he, hb, hx⟩ hno
            obtain ⟨e, he, hb, hx⟩ := this
            have h2 := h1 e (by simpa using he)
            rw [hb] at h2
            simp only [Bool.not_true, Bool.false_or, Bool.or_eq_true, Bool.and_eq_true, decide_eq_true_eq] at h2
            rcases h2 with h2 | ⟨h2, h3⟩
            · have h4 : e.on ∉ M.map Mk.i ∨ e.on ∈ M.map Mk.i := by by_cases h : e.on ∈ M.map Mk.i <;> simp [h]
              rcases h4 with h4 | h4
              · rw [hot e.on false h4, h2] at hx; cases hx
              · obtain ⟨m, hmM, he2⟩ := List.mem_map.1 h4
                have := hlt m hmM
                rw [he2] at this
                rcases Nat.lt_or_ge e.on l.size with h' | h'
                · simp [h'] at h2 this; rw [h2] at this; cases this
                · simp [Array.getElem?_eq_none h'] at h2
            · have h4 : e.on ∈ M.map Mk.i := by simpa using h2
              refine ihi e.on h3 h4 ?_
              have hlt2 : e.on < l'.size := by
                obtain ⟨m, hmM, he2⟩ := List.mem_map.1 h4
                have := hlt m hmM
                rw [he2] at this
                rcases Nat.lt_or_ge e.on l.size with h' | h'
                · rw [hsz]; exact h'
                · simp [Array.getElem?_eq_none h'] at this
              simp [hlt2] at hx ⊢
              exact hx
    obtain ⟨i0, hi0, hl0⟩ := hex
    obtain ⟨i1, hr1⟩ := hleast i0 hi0 hl0
    refine ⟨fun h0 => (by rw [h0] at hr1; cases hr1), fun j hjr => ?_⟩
    obtain ⟨hjl, o, ho, hdeps⟩ := mem_ready.1 hjr
    have hjM : j ∈ M.map Mk.i := by
      false_or_by_contra
      rename_i hjn
      have h1 := hj j (List.mem_range.2 (Array.getElem?_eq_some_iff.1 ho).1)
      rw [hot j true hjn] at hjl
      have h2 : (M.map Mk.i).contains j = false := by
        cases hcc : (M.map Mk.i).contains j with
        | false => rfl
        | true => exact absurd (by simpa using hcc) hjn
      rw [hjl, h2] at h1
      simp only [Bool.false_or, List.all_eq_true] at h1
      have h3 := waits_listed hcl 9 (h1 i0 hi0) (fun o2 ho2 => by rw [ho] at ho2; injection ho2 with ho2; subst ho2; exact hdeps)
      rcases Nat.lt_or_ge i0 l'.size with h' | h'
      · simp [h'] at h3 hl0; rw [h3] at hl0; cases hl0
      · simp [Array.getElem?_eq_none h'] at hl0
    obtain ⟨m, hmM, rfl⟩ := List.mem_map.1 hjM
    refine wpOp_step ho fun K hK => ?_
    refine hstep m hmM us _ w' o rfl ho hS' ((hinv m hmM).1 hjl) (fun m' hm'M hany => ?_) K (hid fun v w2 hS2 hD2 hf2 => ?_)
    · rw [List.any_eq_true] at hany
      obtain ⟨e, he, he2⟩ := hany
      simp only [Bool.and_eq_true, beq_iff_eq] at he2
      have h1 := hdeps e (by simpa using he) he2.1
      rw [he2.2] at h1
      refine (hinv m' hm'M).2 ?_
      rcases Nat.lt_or_ge m'.i l'.size with h' | h'
      · simp [h'] at h1 ⊢; exact h1
      · simp [Array.getElem?_eq_none h'] at h1
    · have hjlt : m.i < l'.size := by
        rcases Nat.lt_or_ge m.i l'.size with h' | h'
        · exact h'
        · simp [Array.getElem?_eq_none h'] at hjl
      refine hK _ _ ⟨fun _ => hS2, ?_⟩
      rw [puts_put a us v M m hmM hnd]
      have hself : (l'.setIfInBounds m.i true).getD m.i true = true := by simp [hjlt]
      have hinj : ∀ m' ∈ M, m'.i = m.i → m' = m := fun m' hm' he => nodup_inj Mk.i M hni m' hm' m hmM he
      refine ih (l'.setIfInBounds m.i true) (upd us m.d v) w2 ?_ (by simp [hsz]) (closed_set hcl hjr) (fun j d hjn => ?_) hS2 ?_ (fun m' hm' => ?_)
      · -- one pending less
        have key : ∀ (L : List Mk), m ∈ L → (∀ x ∈ L, x ∈ M) → (L.map Mk.i).Nodup → (L.filter fun m' => !(l'.getD m'.i true)).length = (L.filter fun m' => !((l'.setIfInBounds m.i true).getD m'.i true)).length + 1 := by
          intro L
          induction L with
          | nil => intro h; cases h
          | cons x L ihL =>
            intro hmL hsub hnL
            rw [List.map_cons, List.nodup_cons] at hnL
            by_cases hx : x = m
            · subst hx
              have hrest : (L.filter fun m' => !((l'.setIfInBounds x.i true).getD m'.i true)) = L.filter fun m' => !(l'.getD m'.i true) := by
                refine List.filter_congr fun y hy => ?_
                rw [getD_set_ne true (fun e : x.i = y.i => hnL.1 (by rw [e]; exact List.mem_map.2 ⟨y, hy, rfl⟩))]
              simp only [List.filter_cons, hself, hjl, hrest]
              simp
            · have hmL2 : m ∈ L := (List.mem_cons.1 hmL).resolve_left (fun h => hx h.symm)
              have ihL2 := ihL hmL2 (fun y hy => hsub y (List.mem_cons_of_mem _ hy)) hnL.2
              have hxi : m.i ≠ x.i := fun e => hx (hinj x (hsub x (List.mem_cons_self ..)) e.symm)
              simp only [List.filter_cons, getD_set_ne true hxi]
              split
              · simp only [List.length_cons]; omega
              · exact ihL2
        have := key M hmM (fun _ h => h) hni
        omega
      · rw [getD_set_ne d (fun e : m.i = j => hjn (by rw [← e]; exact hjM))]
        exact hot j d hjn
      · exact hfr.then (hf2.mono fun b hb => ⟨m, hmM, hb⟩)
      · by_cases he : m'.i = m.i
        · obtain rfl := hinj m' hm' he
          refine ⟨fun h => (by rw [hself] at h; cases h), fun _ => ?_⟩
          simp only [upd, if_true]
          exact hD2
        · have hst := hstab m hmM m' hm' he w' w2 hS' ((hinv m hmM).1 hjl) hf2
          have hdd : m'.d ≠ m.d := fun e => he (by rw [nodup_inj Mk.d M hnd m' hm' m hmM e])
          rw [getD_set_ne true (fun e => he e.symm)]
          refine ⟨fun h => hst.1 ((hinv m' hm').1 h), fun h => ?_⟩
          have := hst.2 _ ((hinv m' hm').2 h)
          simp only [upd, if_neg hdd]
          exact this
end
end Go.Proofs.YtgoghmblfdlnbaaGreat.nd
end

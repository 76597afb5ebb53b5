/- The texts VNdR, VNdQ, VNdM of this proof, one behind the other. Conditions: those of each. -/
import Derived.Recover
import Derived.Test.YtgoghmblfdlnbaaGW3
import Derived.Test.YtgoghmblfdlnbaaGW24
section
/- The contracts of cell.Reader: Num, Bytes, Left. Conditions: the reader is a block of the program's own. -/
set_option linter.unusedSimpArgs false
set_option linter.unusedVariables false
namespace Go.Proofs.Ytgoghmblfdlnbaa.nd
open Go.RowKit

/-- A Reader at block rb that has xs before it; what it reads lies among S. -/
def IsR (w : World) (S : Nat → Prop) (rb : Nat) (xs : List Nat) : Prop :=
  S rb ∧ ∃ v, Blk w rb #[v] 143 ∧ View w (fun k => S k ∧ k ≠ rb) 1 v xs.length (bys xs)

theorem IsR.fr {w w1 : World} {S S1 : Nat → Prop} {rb : Nat} {xs : List Nat} (h : IsR w S rb xs) (hf : Fr S1 w w1) (hn : ∀ k, S k → k < w.heap.size → ¬ S1 k) : IsR w1 S rb xs :=
  ⟨h.1, h.2.elim fun v h' => ⟨v, h'.1.fr hf (hn _ h.1 h'.1.lt), h'.2.fr hf fun k hk hl => hn k hk.1 hl⟩⟩
/-- The reader goes on. -/
theorem IsR.adv {w : World} {S : Nat → Prop} {rb n l cap : Nat} {A : Option Addr} {xs : List Nat} (hS : S rb) (hn : xs.length = n) (hb : Blk w rb #[.slice A n cap] 143) (hv : View w (fun k => S k ∧ k ≠ rb) 1 (.slice A n cap) n (bys xs)) (hl : l ≤ n)
    (A' : Option Addr) (c' : Nat) (hA' : A' = if cap = l then A else A.map (·.add l)) (hc' : c' = cap - l) :
    Fr (fun k => k = rb) w (w.setCell ⟨rb, 0, none⟩ (.slice A' (n - l) c')) ∧ IsR (w.setCell ⟨rb, 0, none⟩ (.slice A' (n - l) c')) S rb (xs.drop l) := by
  have hfr : Fr (fun k => k = rb) w (w.setCell ⟨rb, 0, none⟩ (.slice A' (n - l) c')) := (Fr.refl (fun k => k = rb) w).setCell (a := ⟨rb, 0, none⟩) (.inl rfl) _
  refine ⟨hfr, hS, _, hb.set 0 _, ?_⟩
  have hd1 := (hv.drop (l := l) hl).fr hfr (fun k hk _ => hk.2)
  rw [Nat.mul_one, bys_drop'] at hd1
  have e2' : (xs.drop l).length = n - l := by rw [List.length_drop, hn]
  rw [e2']
  have e3' : sliced A l n cap 1 = .slice A' (n - l) c' := by
    rw [hA', hc', sliced]; simp
  rw [e3'] at hd1
  exact hd1

/-- What a broken reading panics with. -/
def brk (e : Int) : List PanicEntry := [{ v := .iface 141 (.agg #[.int .i64 e]), recovered := false }]

theorem must_ok (e : Int) (w : World) : Calls Try.prog 76 #[.bool true, .int .i64 e] w fun en w' => en = .returned (.tuple #[]) ∧ w = w' := by
  go_enter Try.func76, Try.ntmps76
  go_wp2
  go_end0
  exact ⟨rfl, rfl⟩
theorem must_no (e : Int) (w : World) : Calls Try.prog 76 #[.bool false, .int .i64 e] w fun en w' => en = .panicked (brk e) ∧ w = w' := by
  go_enter Try.func76, Try.ntmps76
  go_wp2
  exact ⟨rfl, rfl, rfl⟩

/-- What Num leaves. -/
def NumPost (w : World) (S : Nat → Prop) (rb : Nat) (e : Ending) (w' : World) : Got Nat → Prop
  | .ok x rest => e = .returned (.int .i64 x) ∧ Fr (fun k => k = rb) w w' ∧ IsR w' S rb rest
  | .bad er => e = .panicked (brk er) ∧ w = w'

set_option maxRecDepth 100000 in
set_option maxHeartbeats 1600000 in
theorem rnum_any (S : Nat → Prop) (rb : Nat) (xs : List Nat) (hx : xs.length ≤ 1000000) (hB : Byt xs) (w : World) (hR : IsR w S rb xs) :
    Calls Try.prog 60 #[.pointer (some ⟨rb, 0, none⟩)] w fun e w' => NumPost w S rb e w' (num xs) := by
  obtain ⟨hS, v, hb, hv⟩ := hR
  have hc : w.cell? ⟨rb, 0, none⟩ = some v := hb.cell 0
  have hf : w.frozen? ⟨rb, 0, none⟩ = false := hb.frozen 0
  have hv0 := hv
  obtain ⟨hl, A, cap, rfl, e1, e2, e3, e4, e5⟩ := hv
  have E5 := hid e5; clear e5; have Hl := hid hl; clear hl; clear e3 e4
  go_enter Try.func60, Try.ntmps60
  go_wp2_with fail
  go_loop [3, 8] (fun a3 a8 => ∃ (i x : Nat) (pre rest : List Nat), a3 = .int .i64 x ∧ a8 = .int .i64 i ∧ i ≤ 4 ∧ Hid (xs = pre ++ rest) ∧ Hid (pre.length = i) ∧ Hid (numF (4 - i) i x rest = num xs) ∧ Hid (x < 128 ^ i)) (fun _ a8 => 4 - (intOf a8).toNat)
  case atStart => exact ⟨0, 0, [], xs, rfl, rfl, by omega, rfl, rfl, rfl, hid (by decide)⟩
  case round =>
    obtain ⟨i, x, pre, rest, rfl, rfl, hi, hxs, hpre, hn, hxi⟩ := hrel
    by_cases hi4 : i < 4
    · cases rest with
      | nil =>
        have hlen : xs.length = i := by rw [hxs.out, List.append_nil, hpre.out]
        have hd : decide (i < xs.length) = false := by simp [hlen]
        have Hlen := hid hlen; clear hlen
        go_wp2_with (go_at_call 76; ((with_reducible refine (must_no _ _).mono ?_); rintro e w1 ⟨rfl, rfl⟩))
        refine ⟨rfl, ?_⟩
        show NumPost w S rb _ w (num xs)
        rw [← hn.out, show 4 - i = (3 - i) + 1 by omega]
        exact ⟨rfl, rfl⟩
      | cons c t =>
        have hlen : xs.length = i + (t.length + 1) := by rw [hxs.out, List.length_append, hpre.out, List.length_cons]
        have hd : decide (i < xs.length) = true := by simp [hlen]
        have hc256 : c < 256 := hB c (by rw [hxs.out]; simp)
        obtain ⟨b, o, rfl, ⟨hSb, hbne⟩, hbl, hcells⟩ := E5.out (by omega)
        have hcell : w.cell? ⟨b, o + i, none⟩ = some (.int .u8 (c : Int)) := hcells i _ (by rw [hxs.out, bys_append, List.getElem?_append_right (by rw [bys_length, hpre.out]; exact Nat.le_refl _), bys_length, hpre.out]; simp [bys])
        have hilt : i < xs.length := by omega
        have Hlen := hid hlen; clear hlen
        clear hcells
        have Hg := hid (grp x c i hxi.out hc256 hi4)
        have hfin : ∀ A' c', A' = (if cap = i + 1 then some ⟨b, o, none⟩ else some ⟨b, o + (i + 1), none⟩) → c' = cap - (i + 1) →
            Fr (fun k => k = rb) w (w.setCell ⟨rb, 0, none⟩ (.slice A' (xs.length - (i + 1)) c')) ∧ IsR (w.setCell ⟨rb, 0, none⟩ (.slice A' (xs.length - (i + 1)) c')) S rb t := by
          intro A' c' hA' hc'
          have hfr : Fr (fun k => k = rb) w (w.setCell ⟨rb, 0, none⟩ (.slice A' (xs.length - (i + 1)) c')) := (Fr.refl (fun k => k = rb) w).setCell (a := ⟨rb, 0, none⟩) (.inl rfl) _
          refine ⟨hfr, hS, _, hb.set 0 _, ?_⟩
          have hd1 := (hv0.drop (l := i + 1) (by omega)).fr hfr (fun k hk _ => hk.2)
          have e1' : (bys xs).drop ((i + 1) * 1) = bys t := by rw [hxs.out]; exact bys_drop pre c t i hpre.out
          rw [e1'] at hd1
          have e2' : xs.length - (i + 1) = t.length := by rw [Hlen.out]; omega
          rw [← e2']
          have e3' : sliced (some ⟨b, o, none⟩) (i + 1) xs.length cap 1 = .slice A' (xs.length - (i + 1)) c' := by
            rw [hA', hc', sliced]; simp [Addr.add_lit]
          rw [e3'] at hd1
          exact hd1
        have Hn := hid hn.out; clear hn
        by_cases h128 : c < 128
        · by_cases hz : c = 0 ∧ 0 < i
          · obtain ⟨rfl, hi0⟩ := hz
            have hb0 : ((i : Int) == 0) = false := by simp; omega
            go_wp2_with (go_at_call 76; first | ((with_reducible refine (must_ok _ _).mono ?_); rintro e w1 ⟨rfl, rfl⟩) | ((with_reducible refine (must_no _ _).mono ?_); rintro e w1 ⟨rfl, rfl⟩))
            refine ⟨rfl, ?_⟩
            show NumPost w S rb _ w (num xs)
            rw [← Hn.out, show 4 - i = (3 - i) + 1 by omega, numF, if_pos (by omega), if_pos ⟨rfl, hi0⟩]
            exact ⟨rfl, rfl⟩
          · have hres : num xs = .ok (x + c % 128 * 128 ^ i) t := by
              rw [← Hn.out, show 4 - i = (3 - i) + 1 by omega, numF, if_pos h128, if_neg hz]
            have Hres := hid hres; clear hres
            by_cases hc0 : 0 < c
            · have hcb : decide (0 < c) = true := by simp [hc0]
              go_wp2_with (go_at_call 76; ((with_reducible refine (must_ok _ _).mono ?_); rintro e w1 ⟨rfl, rfl⟩))
              all_goals
                go_ret
                rw [Hres.out]
                refine ⟨?_, ?_⟩
                · simp; exact Hg.out
                · apply hfin <;> simp [*]
            · have hcb : decide (0 < c) = false := by simp; omega
              have hb0 : ((i : Int) == 0) = true := by simp; omega
              clear hz hc0
              go_wp2_with (go_at_call 76; ((with_reducible refine (must_ok _ _).mono ?_); rintro e w1 ⟨rfl, rfl⟩))
              all_goals
                go_ret
                rw [Hres.out]
                refine ⟨?_, ?_⟩
                · simp; exact Hg.out
                · apply hfin <;> simp [*]
        · go_wp2_with (go_at_call 76; ((with_reducible refine (must_ok _ _).mono ?_); rintro e w1 ⟨rfl, rfl⟩))
          go_round
          case rel =>
            refine ⟨i + 1, x + c % 128 * 128 ^ i, pre ++ [c], t, ?_, by go_num, by omega, hid (by rw [hxs.out]; simp), hid (by rw [List.length_append, hpre.out]; rfl), hid ?_, hid (numF_lt x c i hxi.out)⟩
            · rw [Hg.out]
            · rw [← Hn.out, show 4 - i = (4 - (i + 1)) + 1 by omega, numF, if_neg h128]
          case measure => simp [intOf]; omega
    · have hi44 : i = 4 := by omega
      subst hi44
      go_wp2
      refine ⟨rfl, ?_⟩
      show NumPost w S rb _ w (num xs)
      rw [← hn.out]
      exact ⟨rfl, rfl⟩

/-- What Bytes leaves. -/
def BytPost (w : World) (S : Nat → Prop) (rb : Nat) (e : Ending) (w' : World) : Got (List Nat) → Prop
  | .ok l rest => Fr (fun k => k = rb) w w' ∧ IsR w' S rb rest ∧ ∃ A c, e = .returned (.slice A l.length c) ∧ Row w' (New w) 5 1 (.slice A l.length c) l.length (bys l)
  | .bad er => Fr (fun k => k = rb) w w' ∧ e = .panicked (brk er)

end Go.Proofs.Ytgoghmblfdlnbaa.nd
end

section
/- cell.Read: what it answers by what the function that it calls does. -/
set_option linter.unusedSimpArgs false
set_option linter.unusedVariables false
namespace Go.Proofs.Ytgoghmblfdlnbaa.nd
open Go.RowKit

@[go_sem] theorem assert_fault (v : Value) (w : World) : (Instr.typeAssert (.iface 141 v) 20 141 true).run Try.prog w = .ok (.tuple #[v, .bool true]) w := by kernel_rfl
@[go_sem] theorem assert_text (v : Value) (w : World) : (Instr.typeAssert (.iface 9 v) 20 141 true).run Try.prog w = .ok (.tuple #[.agg #[.int .i64 0], .bool false]) w := by kernel_rfl

@[go_sem] theorem eql_func_nil (f : Fn) (a c : Array Value) (w : World) : (binOp .eql 127 (.func f a c) .nilFunc).run Try.prog w = .ok (.bool false) w := by kernel_rfl
@[go_sem] theorem eql_nil_func (w : World) : (binOp .eql 127 .nilFunc .nilFunc).run Try.prog w = .ok (.bool true) w := by kernel_rfl

/-- The deferred function, where nothing panics. -/
theorem read_rec_ret (eb : Nat) (w : World) : CallsD Try.prog 75 #[.pointer (some ⟨eb, 0, none⟩)] .returning w fun e u' w' => e = .returned (.tuple #[]) ∧ u' = .returning ∧ w = w' := by
  refine callsD_of_wpS Try.func75 rfl fun c₀ cs hu => ?_
  simp only [Try.ntmps75, List.size_toArray, List.length_cons, List.length_nil, Nat.reduceAdd, Nat.reduceSub, Array.replicate_succ, Array.replicate_zero, List.push_toArray, List.append_toArray, List.nil_append, List.cons_append]
  apply wpS_seq
  apply wpS_region
  simp [wpOpsS, go_sem, recoverD, hu, Try.ntmps75, Exit.thenS]
  refine wpS_plain (fun e a' w' => e = .normal ∧ a'.defers = [] ∧ w = w') (fun Q' hQ => ?_) ?_
  · go_wp2
  · rintro e a' w' ⟨rfl, h0, rfl⟩
    cases c₀
    simp_all [bodyPostS, results, Try.results75]

/-- .. where the reading broke. -/
theorem read_rec_brk (eb : Nat) (er x : Int) (older : List PanicEntry) (w : World) (hb : Blk w eb #[.int .i64 x] 34) : CallsD Try.prog 75 #[.pointer (some ⟨eb, 0, none⟩)] (.panicking ({ v := .iface 141 (.agg #[.int .i64 er]), recovered := false } :: older)) w fun e u' w' =>
    e = .returned (.tuple #[]) ∧ u' = .panicking ({ v := .iface 141 (.agg #[.int .i64 er]), recovered := true } :: older) ∧ Fr (fun k => k = eb) w w' ∧ Blk w' eb #[.int .i64 er] 34 := by
  have hc : w.cell? ⟨eb, 0, none⟩ = some (.int .i64 x) := hb.cell 0
  have hf : w.frozen? ⟨eb, 0, none⟩ = false := hb.frozen 0
  have hlt : eb < w.heap.size := hb.lt
  refine callsD_of_wpS Try.func75 rfl fun c₀ cs hu => ?_
  simp only [Try.ntmps75, List.size_toArray, List.length_cons, List.length_nil, Nat.reduceAdd, Nat.reduceSub, Array.replicate_succ, Array.replicate_zero, List.push_toArray, List.append_toArray, List.nil_append, List.cons_append]
  apply wpS_seq
  apply wpS_region
  simp [wpOpsS, go_sem, recoverD, hu, Try.ntmps75, Exit.thenS]
  refine wpS_plain (fun e a' w' => e = .normal ∧ a'.defers = [] ∧ Fr (fun k => k = eb) w w' ∧ Blk w' eb #[.int .i64 er] 34) (fun Q' hQ => ?_) ?_
  · go_wp2
    refine ⟨?_, ?_⟩
    · exact ((Fr.refl (fun k => k = eb) w).setCell (a := ⟨eb, 0, none⟩) (.inl rfl) _).alloc _
    · exact (hb.set 0 _).alloc _
  · rintro e a' w' ⟨rfl, h0, h1, h2⟩
    cases c₀
    simp_all [bodyPostS, results, Try.results75]

/-- What cell.Read leaves. -/
def ReadPost (w : World) (T : Nat → Prop) (D : List Nat → World → Prop) (B : Int → World → Prop) (e : Ending) (w' : World) : Prop :=
  ∃ w2, Fr T w w2 ∧ Fr (fun k => k = w.heap.size) w2 w' ∧
      ((∃ rest, D rest w2 ∧ e = .returned (.int .i64 (if rest.isEmpty then 0 else 3))) ∨ (∃ er, B er w2 ∧ e = .returned (.int .i64 er)))

/-- cell.Read of a function that reads: it may write T (elder blocks) and what it makes. -/
theorem read_ok (K : Nat) (caps : Array Value) (v : Value) (n : Nat) (xs : List Nat) (S1 T : Nat → Prop) (hn : n ≤ 900000) (w : World) (hv : View w S1 1 v n (bys xs)) (hT : ∀ k, T k → k < w.heap.size)
    (hK : ∀ args w, (callFunc K args).run Try.prog w = .ok (.enter K args) w)
    (D : List Nat → World → Prop) (B : Int → World → Prop)
    (hF : ∀ w1 rb, w.heap.size < rb → rb < w1.heap.size → IsR w1 (fun k => w.heap.size < k) rb xs → Fr Nil w w1 → Calls Try.prog K (#[.pointer (some ⟨rb, 0, none⟩)] ++ caps) w1 fun e w2 => Fr (fun k => T k ∨ k = rb) w1 w2 ∧
      ((∃ rest, e = .returned (.tuple #[]) ∧ IsR w2 (fun k => w.heap.size < k) rb rest ∧ D rest w2) ∨ (∃ er, e = .panicked (brk er) ∧ B er w2))) :
    Calls Try.prog 58 #[v, .func (.func K) #[] caps] w (ReadPost w T D B) := by
  obtain ⟨A, c, rfl⟩ : ∃ A c, v = .slice A n c := let ⟨_, A, c, e, _⟩ := hv; ⟨A, c, e⟩
  have H := hid hF; clear hF
  go_enter_defers Try.func58, Try.ntmps58
  go_wp2_with fail
  have hn2 : xs.length = n := by have := hv.length; rwa [bys_length, Nat.mul_one] at this
  refine (clone_ok S1 _ n xs (by omega) _ (hv.alloc _)).mono ?_
  rintro e w1 ⟨A2, c2, rfl, r1, r2, _⟩
  have hb1 : Blk w1 w.heap.size #[.int .i64 0] 34 := (Blk.new w _ _).fr r2 (fun h => h)
  have hsz := r2.size
  rw [World.size_alloc] at hsz
  go_wp2_with fail
  have hf1 : Fr Nil w (w1.alloc (.cells #[.slice A2 n c2] 143)) := (((Fr.refl Nil w).alloc _).thenNil r2).alloc _
  have hb2 : Blk (w1.alloc (.cells #[.slice A2 n c2] 143)) w.heap.size #[.int .i64 0] 34 := hb1.alloc _
  have hR : IsR (w1.alloc (.cells #[.slice A2 n c2] 143)) (fun k => w.heap.size < k) w1.heap.size xs := by
    refine ⟨by omega, _, Blk.new _ _ _, ?_⟩
    rw [hn2]
    exact (View.alloc (r1.view.bd.mono fun k hk => ⟨by have := hk.1; unfold New at this; simp at this; omega, by have := hk.2; omega⟩) _)
  refine (H.out (w1.alloc (.cells #[.slice A2 n c2] 143)) w1.heap.size (by omega) (by simp) hR hf1).mono ?_
  intro e w2 ⟨hf2, hres⟩
  have hb3 := hb2.fr hf2 (fun h => h.elim (fun h => by have := hT _ h; omega) (fun h => by omega))
  have hfT : Fr T w w2 := hf1.nil.trans hf2 (fun k hk => hk.elim .inl (fun h => .inr (by omega)))
  have hc3 : w2.cell? ⟨w.heap.size, 0, none⟩ = some (.int .i64 0) := hb3.cell 0
  have hz3 : w2.frozen? ⟨w.heap.size, 0, none⟩ = false := hb3.frozen 0
  rcases hres with ⟨rest, rfl, hR2, hD⟩ | ⟨er, rfl, hB⟩
  · obtain ⟨hS, v2, hb4, hv4⟩ := hR2
    obtain ⟨hl4, A4, c4, rfl, -, -, -, -, -⟩ := hv4
    have hc4 : w2.cell? ⟨w1.heap.size, 0, none⟩ = some (.slice A4 rest.length c4) := hb4.cell 0
    by_cases hr : rest = []
    · subst hr
      go_wp2_with (go_at_call 76; ((with_reducible refine (must_ok _ _).mono ?_); rintro e w2 ⟨rfl, rfl⟩))
      have hcell : (w2.setCell ⟨w.heap.size, 0, none⟩ (.int .i64 0)).cell? ⟨w.heap.size, 0, none⟩ = some (.int .i64 0) := (hb3.set 0 _).cell 0
      refine leaves_cons (f := 75) (args := #[.pointer (some ⟨w.heap.size, 0, none⟩)]) (by simp) (by simp [go_sem]) ?_
      refine (read_rec_ret w.heap.size _).mono ?_
      rintro e u' w'' ⟨rfl, rfl, rfl⟩
      simp [Leaves, settle, results, Try.results58, go_sem, hcell]
      exact ⟨w2, hfT, (Fr.refl (fun k => k = w.heap.size) w2).setCell (a := ⟨w.heap.size, 0, none⟩) (.inl rfl) _, .inl ⟨[], hD, rfl⟩⟩
    · have hlen : ((rest.length : Int) == 0) = false := by
        have : rest.length ≠ 0 := fun h => hr (List.eq_nil_of_length_eq_zero h)
        simp; omega
      go_wp2_with (go_at_call 76; ((with_reducible refine (must_no _ _).mono ?_); rintro e w2 ⟨rfl, rfl⟩))
      show bodyPostD Try.prog Try.f58 (ReadPost w T D B) (Exit.panic (brk 3)) _ _
      refine leaves_cons (f := 75) (args := #[.pointer (some ⟨w.heap.size, 0, none⟩)]) (by simp) (by simp [go_sem]) ?_
      refine (read_rec_brk w.heap.size 3 0 [] _ hb3).mono ?_
      rintro e u' w'' ⟨rfl, rfl, hf5, hb5⟩
      have hcell : w''.cell? ⟨w.heap.size, 0, none⟩ = some (.int .i64 3) := hb5.cell 0
      simp [Leaves, settle, results, Try.results58, go_sem, hcell]
      refine ⟨w2, hfT, hf5, .inl ⟨rest, hD, ?_⟩⟩
      cases rest with
      | nil => exact absurd rfl hr
      | cons => rfl
  · show bodyPostD Try.prog Try.f58 (ReadPost w T D B) (Exit.panic (brk er)) _ _
    refine leaves_cons (f := 75) (args := #[.pointer (some ⟨w.heap.size, 0, none⟩)]) (by simp) (by simp [go_sem]) ?_
    refine (read_rec_brk w.heap.size er 0 [] _ hb3).mono ?_
    rintro e u' w'' ⟨rfl, rfl, hf5, hb5⟩
    have hcell : w''.cell? ⟨w.heap.size, 0, none⟩ = some (.int .i64 er) := hb5.cell 0
    simp [Leaves, settle, results, Try.results58, go_sem, hcell]
    exact ⟨w2, hfT, hf5, .inr ⟨er, hB, rfl⟩⟩

end Go.Proofs.Ytgoghmblfdlnbaa.nd
end

section
/- node.May and what it calls: within, lies, keys, Entry, leaf, inner. -/
set_option linter.unusedSimpArgs false
set_option linter.unusedVariables false
namespace Go.Proofs.Ytgoghmblfdlnbaa.nd
open Go.RowKit

theorem within_ok (a b c : Int) (r : Bool) (hr : decide (b ≤ a ∧ a ≤ c) = r) (w : World) : Calls Try.prog 69 #[.int .i64 a, .int .i64 b, .int .i64 c] w fun e w' => e = .returned (.bool r) ∧ w = w' := by
  subst hr
  by_cases h1 : b ≤ a
  · by_cases h2 : a ≤ c
    · rw [decide_eq_true (show b ≤ a ∧ a ≤ c from ⟨h1, h2⟩)]
      go_enter Try.func69, Try.ntmps69
      go_wp2
      go_ret
      exact ⟨rfl, rfl⟩
    · rw [decide_eq_false (show ¬ (b ≤ a ∧ a ≤ c) from fun h => h2 h.2)]
      go_enter Try.func69, Try.ntmps69
      go_wp2
      go_ret
      exact ⟨rfl, rfl⟩
  · rw [decide_eq_false (show ¬ (b ≤ a ∧ a ≤ c) from fun h => h1 h.1)]
    go_enter Try.func69, Try.ntmps69
    go_wp2
    go_ret
    exact ⟨rfl, rfl⟩


theorem lies_ok (a n g : Int) (r : Bool) (hr : decide (lOk a n g) = r) (w : World) : Calls Try.prog 82 #[.int .i64 a, .int .i64 n, .int .i64 g] w fun e w' => e = .returned (.bool r) ∧ w = w' := by
  subst hr
  by_cases h1 : 0 ≤ a ∧ a ≤ 8191
  · by_cases h2 : 1 ≤ n ∧ n ≤ 128
    · by_cases h3 : a + n ≤ 8192
      · by_cases h4 : 0 ≤ g ∧ g ≤ 268435455
        · rw [decide_eq_true (show lOk a n g from ⟨h1, h2, h3, h4⟩)]
          go_enter Try.func82, Try.ntmps82
          go_wp2_with (go_at_call 69; first | (refine (within_ok _ _ _ true (decide_eq_true (by omega)) _).mono ?_; rintro e w9 ⟨rfl, rfl⟩) | (refine (within_ok _ _ _ false (decide_eq_false (by omega)) _).mono ?_; rintro e w9 ⟨rfl, rfl⟩))
          go_ret
          exact ⟨rfl, rfl⟩
        · rw [decide_eq_false (show ¬ lOk a n g from fun h => h4 h.2.2.2)]
          go_enter Try.func82, Try.ntmps82
          go_wp2_with (go_at_call 69; first | (refine (within_ok _ _ _ true (decide_eq_true (by omega)) _).mono ?_; rintro e w9 ⟨rfl, rfl⟩) | (refine (within_ok _ _ _ false (decide_eq_false (by omega)) _).mono ?_; rintro e w9 ⟨rfl, rfl⟩))
          go_ret
          exact ⟨rfl, rfl⟩
      · rw [decide_eq_false (show ¬ lOk a n g from fun h => h3 h.2.2.1)]
        go_enter Try.func82, Try.ntmps82
        go_wp2_with (go_at_call 69; first | (refine (within_ok _ _ _ true (decide_eq_true (by omega)) _).mono ?_; rintro e w9 ⟨rfl, rfl⟩) | (refine (within_ok _ _ _ false (decide_eq_false (by omega)) _).mono ?_; rintro e w9 ⟨rfl, rfl⟩))
        go_ret
        exact ⟨rfl, rfl⟩
    · rw [decide_eq_false (show ¬ lOk a n g from fun h => h2 h.2.1)]
      go_enter Try.func82, Try.ntmps82
      go_wp2_with (go_at_call 69; first | (refine (within_ok _ _ _ true (decide_eq_true (by omega)) _).mono ?_; rintro e w9 ⟨rfl, rfl⟩) | (refine (within_ok _ _ _ false (decide_eq_false (by omega)) _).mono ?_; rintro e w9 ⟨rfl, rfl⟩))
      go_ret
      exact ⟨rfl, rfl⟩
  · rw [decide_eq_false (show ¬ lOk a n g from fun h => h1 h.1)]
    go_enter Try.func82, Try.ntmps82
    go_wp2_with (go_at_call 69; first | (refine (within_ok _ _ _ true (decide_eq_true (by omega)) _).mono ?_; rintro e w9 ⟨rfl, rfl⟩) | (refine (within_ok _ _ _ false (decide_eq_false (by omega)) _).mono ?_; rintro e w9 ⟨rfl, rfl⟩))
    go_ret
    exact ⟨rfl, rfl⟩

theorem entry_ok (k : Kd) (g : Int) (r : Bool) (hr : decide (eOk k g) = r) (w : World) : Calls Try.prog 80 #[.agg #[.int .i64 k.a, .int .i64 k.n, .int .i64 k.g], .int .i64 g] w fun e w' => e = .returned (.bool r) ∧ Fr Nil w w' := by
  obtain ⟨a, n, s⟩ := k
  subst hr
  have hf : Fr Nil w (w.alloc (.cells #[.int .i64 a, .int .i64 n, .int .i64 s] 49)) := (Fr.refl Nil w).alloc _
  by_cases h1 : lOk a n g
  · by_cases h2 : 0 ≤ s ∧ s ≤ 7
    · rw [decide_eq_true (show eOk ⟨a, n, s⟩ g from ⟨h1, h2⟩)]
      have h1' := decide_eq_true h1
      have H1 := hid h1; clear h1
      go_enter Try.func80, Try.ntmps80
      go_wp2_with (first | (go_at_call 69; first | (refine (within_ok _ _ _ true (decide_eq_true (by omega)) _).mono ?_; rintro e w9 ⟨rfl, rfl⟩) | (refine (within_ok _ _ _ false (decide_eq_false (by omega)) _).mono ?_; rintro e w9 ⟨rfl, rfl⟩)) | (go_at_call 82; refine (lies_ok _ _ _ _ h1' _).mono ?_; rintro e w9 ⟨rfl, rfl⟩))
      go_ret
      exact ⟨rfl, hf⟩
    · rw [decide_eq_false (show ¬ eOk ⟨a, n, s⟩ g from fun h => h2 h.2)]
      have h1' := decide_eq_true h1
      have H1 := hid h1; clear h1
      go_enter Try.func80, Try.ntmps80
      go_wp2_with (first | (go_at_call 69; first | (refine (within_ok _ _ _ true (decide_eq_true (by omega)) _).mono ?_; rintro e w9 ⟨rfl, rfl⟩) | (refine (within_ok _ _ _ false (decide_eq_false (by omega)) _).mono ?_; rintro e w9 ⟨rfl, rfl⟩)) | (go_at_call 82; refine (lies_ok _ _ _ _ h1' _).mono ?_; rintro e w9 ⟨rfl, rfl⟩))
      go_ret
      exact ⟨rfl, hf⟩
  · rw [decide_eq_false (show ¬ eOk ⟨a, n, s⟩ g from fun h => h1 h.1)]
    have h1' := decide_eq_false h1
    have H1 := hid h1; clear h1
    go_enter Try.func80, Try.ntmps80
    go_wp2_with (first | (go_at_call 69; first | (refine (within_ok _ _ _ true (decide_eq_true (by omega)) _).mono ?_; rintro e w9 ⟨rfl, rfl⟩) | (refine (within_ok _ _ _ false (decide_eq_false (by omega)) _).mono ?_; rintro e w9 ⟨rfl, rfl⟩)) | (go_at_call 82; refine (lies_ok _ _ _ _ h1' _).mono ?_; rintro e w9 ⟨rfl, rfl⟩))
    go_ret
    exact ⟨rfl, hf⟩
set_option maxRecDepth 100000 in
theorem keys_ok (S : Nat → Prop) (A : Option Addr) (c : Nat) (ks : List Int) (r : Bool) (hr : decide (keysOk ks) = r) (w : World) (hv : View w S 1 (.slice A ks.length c) ks.length (ints .i64 ks)) :
    Calls Try.prog 70 #[.slice A ks.length c] w fun e w' => e = .returned (.bool r) ∧ w = w' := by
  subst hr
  have hfalse : ∀ i, i < ks.length → ¬ kOk ks i → decide (keysOk ks) = false := fun i hi h => decide_eq_false fun h9 => h (h9.2 i hi)
  obtain ⟨n, hn⟩ : ∃ n, n = ks.length := ⟨_, rfl⟩
  rw [← hn] at hv ⊢
  have Hn := hid hn; clear hn
  by_cases h8 : 8 < n
  · rw [decide_eq_false (show ¬ keysOk ks from fun h => by have := h.1; have := Hn.out; omega)]
    go_enter Try.func70, Try.ntmps70
    go_wp2
    go_ret
    exact ⟨rfl, rfl⟩
  go_enter Try.func70, Try.ntmps70
  go_wp2_with fail
  go_loop [10] (fun v10 => ∃ i : Nat, v10 = .int .i64 i ∧ i ≤ n ∧ Hid (∀ j, j < i → kOk ks j)) (fun v10 => n - (intOf v10).toNat)
  case atStart => exact ⟨0, rfl, by omega, hid fun j hj => absurd hj (by omega)⟩
  case round =>
    obtain ⟨i, rfl, hi, hok⟩ := hrel
    by_cases hlt : i < n
    · obtain ⟨b, o, rfl, -, -, hc⟩ := ints_cells hv (by omega)
      have c0 := hc i hlt
      by_cases hw : 0 ≤ kz ks i ∧ kz ks i ≤ 511
      · cases i with
        | zero =>
          rw [Nat.add_zero] at c0
          clear hc
          go_wp2_with (go_at_call 69; first | (refine (within_ok _ _ _ true (decide_eq_true (by omega)) _).mono ?_; rintro e w9 ⟨rfl, rfl⟩) | (refine (within_ok _ _ _ false (decide_eq_false (by omega)) _).mono ?_; rintro e w9 ⟨rfl, rfl⟩))
          go_round
          case rel => exact ⟨1, by go_num, by omega, hid fun j hj => by obtain rfl : j = 0 := by omega
                                                                        exact ⟨hw, fun h => absurd h (by omega)⟩⟩
          case measure => simp [intOf]; omega
        | succ m =>
          have c1 := hc m (by omega)
          clear hc
          by_cases hlt2 : kz ks m < kz ks (m + 1)
          · go_wp2_with (go_at_call 69; first | (refine (within_ok _ _ _ true (decide_eq_true (by omega)) _).mono ?_; rintro e w9 ⟨rfl, rfl⟩) | (refine (within_ok _ _ _ false (decide_eq_false (by omega)) _).mono ?_; rintro e w9 ⟨rfl, rfl⟩))
            go_round
            case rel => exact ⟨m + 2, by go_num, by omega, hid fun j hj => by
                                rcases Nat.lt_or_ge j (m + 1) with h | h
                                · exact hok.out j h
                                · obtain rfl : j = m + 1 := by omega
                                  exact ⟨hw, fun _ => hlt2⟩⟩
            case measure => simp [intOf]; omega
          · have hF := hid (hfalse (m + 1) (by rw [← Hn.out]; exact hlt) (fun h => hlt2 (h.2 (by omega))))
            clear hfalse
            go_wp2_with (go_at_call 69; first | (refine (within_ok _ _ _ true (decide_eq_true (by omega)) _).mono ?_; rintro e w9 ⟨rfl, rfl⟩) | (refine (within_ok _ _ _ false (decide_eq_false (by omega)) _).mono ?_; rintro e w9 ⟨rfl, rfl⟩))
            go_ret
            rw [hF.out]
            exact ⟨rfl, rfl⟩
      · have hF := hid (hfalse i (by rw [← Hn.out]; exact hlt) (fun h => hw h.1))
        clear hfalse hc
        go_wp2_with (go_at_call 69; first | (refine (within_ok _ _ _ true (decide_eq_true (by omega)) _).mono ?_; rintro e w9 ⟨rfl, rfl⟩) | (refine (within_ok _ _ _ false (decide_eq_false (by omega)) _).mono ?_; rintro e w9 ⟨rfl, rfl⟩))
        go_ret
        rw [hF.out]
        exact ⟨rfl, rfl⟩
    · have hT := hid (show decide (keysOk ks) = true from decide_eq_true ⟨by have := Hn.out; omega, fun j hj => hok.out j (by have := Hn.out; omega)⟩)
      clear hfalse
      go_wp2
      go_ret
      rw [hT.out]
      exact ⟨rfl, rfl⟩

end Go.Proofs.Ytgoghmblfdlnbaa.nd
end

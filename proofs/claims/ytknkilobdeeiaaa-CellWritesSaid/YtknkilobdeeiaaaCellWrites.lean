/- CellWrites: what a Writer writes is what the reference writes. -/
import Derived.Test.YtknkilobdeeiaaaCellParts
import Derived.Test.YtknkilobdeeiaaaRefNum
import Derived.Test.YtknkilobdeeiaaaQuiet
import Derived.Test.YtknkilobdeeiaaaStep
import Derived.Deep.RegionHeld3
import Derived.RegionCalls
import Derived.Deep.RegionWith
set_option linter.unusedSimpArgs false
set_option linter.unusedVariables false
namespace Go.Proofs.Ytknkilobdeeiaaa
open Go.RowKit

/-- What is written of a part: a number that may not be: nothing. -/
def encW (p : Prt) : List Nat := if p.d = 2 then enc p.b.length ++ p.b else if 0 ≤ p.n ∧ p.n < 268435456 then enc p.n.toNat else []
def encsW (ps : List Prt) : List Nat := ps.flatMap encW
theorem encsW_take (ps : List Prt) (i : Nat) (h : i < ps.length) : encsW (ps.take (i + 1)) = encsW (ps.take i) ++ encW ps[i] := by
  rw [encsW, encsW, List.take_succ_eq_append_getElem h, List.flatMap_append, List.flatMap_singleton]
theorem encW_len (p : Prt) (h : p.b.length ≤ 500) : (encW p).length ≤ 504 := by
  unfold encW; split
  · have := enc_len p.b.length (by omega); rw [List.length_append]; omega
  · split
    · have := enc_len p.n.toNat (by omega); omega
    · simp
theorem encsW_len (ps : List Prt) (h : ∀ p ∈ ps, p.b.length ≤ 500) : (encsW ps).length ≤ 504 * ps.length := by
  induction ps with
  | nil => simp [encsW]
  | cons p ps ih =>
    have e : encsW (p :: ps) = encW p ++ encsW ps := by simp [encsW]
    rw [e, List.length_append, List.length_cons]
    have := encW_len p (h p (by simp))
    have := ih (fun m hm => h m (List.mem_cons_of_mem _ hm))
    omega

theorem call_writes1 (args : Array Value) (w : World) : (callFunc 13 args).run Try.prog w = .ok (.enter 13 args) w := by kernel_rfl

theorem writes1_ok (S : Nat → Prop) (pb xb : Nat) (xs : List Nat) (x : Nat) (h1 : x < 268435456) (hx : xs.length ≤ 1000000) (w : World) (hW : IsW w S pb xs) (hc : w.cell? ⟨xb, 1, none⟩ = some (.int .i64 x)) :
    Calls Try.prog 13 #[.pointer (some ⟨pb, 0, none⟩), .pointer (some ⟨xb, 0, none⟩)] w fun e w' => e = .returned (.tuple #[]) ∧ Fr S w w' ∧ IsW w' (Grow w S) pb (xs ++ enc x) := by
  go_enter Try.func13, Try.ntmps13
  go_wp2_with fail
  refine (num_ok S pb xs x h1 hx w hW).mono ?_
  rintro e w1 ⟨rfl, h2, h3⟩
  go_wp2
  go_end0
  exact ⟨rfl, h2, h3⟩

theorem writes1_bad (pb xb : Nat) (x : Int) (h1 : x < 0 ∨ 268435456 ≤ x) (w : World) (hc : w.cell? ⟨xb, 1, none⟩ = some (.int .i64 x)) :
    Calls Try.prog 13 #[.pointer (some ⟨pb, 0, none⟩), .pointer (some ⟨xb, 0, none⟩)] w fun e w' => (∃ v, e = .panicked [{ v := .iface 9 v, recovered := false }]) ∧ w = w' := by
  go_enter Try.func13, Try.ntmps13
  go_wp2_with fail
  refine (num_bad (some ⟨pb, 0, none⟩) x h1 w).mono ?_
  rintro e w1 ⟨⟨v, rfl⟩, rfl⟩
  exact ⟨rfl, ⟨v, rfl⟩, rfl⟩

set_option maxRecDepth 100000 in
set_option maxHeartbeats 4000000 in
theorem writes_ok (v0 : Value) (w : World) (hQ : ∃ n ps, Parts w (fun k => k < w.heap.size) v0 n ps) :
    Calls Try.prog 3 #[v0] w fun e w' => e = .returned (.bool true) ∧ Fr Nil w w' := by
  obtain ⟨n, ps, hP⟩ := hQ
  have hpl := hP.1
  obtain ⟨A, c, rfl, hnm⟩ : ∃ A c, v0 = .slice A n c ∧ n ≤ 9223372036854775807 := let ⟨_, A, c, e, h, _⟩ := hP; ⟨A, c, e, h⟩
  go_enter Try.func3, Try.ntmps3
  go_wp2_with fail
  refine (awake_ok _).mono ?_
  rintro e w1 ⟨rfl, hf1⟩
  by_cases hlen : 100 < n
  · go_wp2
    go_ret
    exact ⟨rfl, hf1⟩
  have hlen' : n ≤ 100 := by omega
  have hP1 := hP.fr hf1 (fun _ _ _ h => h)
  clear hP
  have hszw := hf1.size
  go_wp2_with fail
  have hW0 : IsW (w1.alloc (.cells #[.slice none 0 0] 26)) (fun k => k = w1.heap.size) w1.heap.size [] := ⟨rfl, _, Blk.new _ _ _, Row.nil _ _ _ _⟩
  go_loopw [4, 5] (fun v4 v5 wr => ∃ (i : Nat) (vw : Value) (SW SR : Nat → Prop), v5 = .int .i64 i ∧ v4 = vw ∧ i ≤ n ∧ (∀ p ∈ ps.take i, p.b.length ≤ 500 ∧ Byt p.b) ∧ Fr Nil w1 wr ∧ IsW wr SW w1.heap.size (encsW (ps.take i)) ∧ Row wr SR 5 1 vw (encsW (ps.take i)).length (bys (encsW (ps.take i))) ∧
    (∀ k, SW k → ¬ SR k ∧ w1.heap.size ≤ k ∧ k < wr.heap.size) ∧ (∀ k, SR k → w1.heap.size ≤ k ∧ k < wr.heap.size)) (fun _ v5 _ => n - (intOf v5).toNat)
  case atStart =>
    refine ⟨0, _, (fun k => k = w1.heap.size), Nil, rfl, rfl, by omega, by simp, (Fr.refl _ _).alloc _, hW0, Row.nil _ _ _ _, ?_, fun k h => h.elim⟩
    rintro k rfl
    exact ⟨fun h => h, Nat.le_refl _, by simp⟩
  case round =>
    obtain ⟨i, vw, SW, SR, rfl, hv, hi, hps, hfr, hW, hR, hSW, hSR⟩ := hrel
    have hv' := hv.symm
    subst hv'
    have hPr := hP1.fr hfr (fun _ _ _ h => h)
    have hxl : (encsW (ps.take i)).length ≤ 504 * (ps.take i).length := encsW_len _ (fun p hp => (hps p hp).1)
    have hxl2 : (ps.take i).length ≤ n := by rw [List.length_take]; omega
    by_cases hlt : i < n
    · have hi2 : i < ps.length := by omega
      have ht := encsW_take ps i hi2
      have htk : ps.take (i + 1) = ps.take i ++ [ps[i]] := List.take_succ_eq_append_getElem hi2
      obtain ⟨_, A', c', e, hn9, h5⟩ := hPr
      injection e with ea _ ec
      subst ea; subst ec
      obtain ⟨b, o, rfl, hS1b, hbl2, hcells⟩ := h5 (by omega)
      obtain ⟨p0, p1, Ab, cb, p2, p3, p4, p5, p6⟩ := hcells i ps[i] (List.getElem?_eq_getElem hi2)
      generalize ps[i] = p at *
      clear hcells h5
      generalize hg0 : encsW (ps.take i) = bs0 at *
      generalize hg1 : encsW (ps.take (i + 1)) = bs1 at *
      have Hg0 := hid hg0; have Hg1 := hid hg1; have Ht := hid ht; have Htk := hid htk; have Hps := hid hps
      have HSW := hid hSW; have HSR := hid hSR
      clear hg0 hg1 ht htk hps hSW hSR
      by_cases hbig : 500 < p.b.length
      · go_wp2_with fail
        go_ret
        exact ⟨rfl, hf1.thenNil (hfr.alloc _)⟩
      have hps2 : Hid (∀ p ∈ ps.take (i + 1), p.b.length ≤ 500 ∧ Byt p.b) := hid (by
        rw [Htk.out]
        intro q hq
        rcases List.mem_append.1 hq with hq | hq
        · exact Hps.out q hq
        · rw [List.mem_singleton] at hq; rw [hq]; exact ⟨by omega, p4⟩)
      have hown : Hid (∀ k, vw.ownBlock = some k → w1.heap.size ≤ k ∧ k < wr.heap.size) := hid fun k hk => HSR.out k (hR.2 k hk)
      have hszr := hfr.size
      by_cases hd : p.d = 2
      · have hdb : (p.d == 2) = true := by simpa using hd
        have henc : Hid (encW p = enc p.b.length ++ p.b) := hid (by unfold encW; rw [if_pos hd])
        have Hd := hid hd; clear hd
        have hel := enc_len p.b.length (by omega)
        go_wp2_with fail
        obtain ⟨W2, hW2⟩ : ∃ W2, W2 = wr.alloc (.cells #[.int .i64 p.d, .int .i64 p.n, .slice Ab p.b.length cb] 28) := ⟨_, rfl⟩
        have hx2 : Blk W2 wr.heap.size #[.int .i64 p.d, .int .i64 p.n, .slice Ab p.b.length cb] 28 := by rw [hW2]; exact Blk.new _ _ _
        have hf2 : Fr Nil wr W2 := by rw [hW2]; exact (Fr.refl _ _).alloc _
        have hs2 : W2.heap.size = wr.heap.size + 1 := by rw [hW2]; simp
        rw [← hW2]
        clear hW2
        refine (refnum_ok p.b.length (by omega) W2).mono ?_
        rintro e w3 ⟨An, cn, rfl, r3, hf3⟩
        have hf23 : Fr Nil wr w3 := hf2.thenNil hf3
        have hsz3 := hf3.size
        have hR3 := hR.frS hf23 (fun _ _ h => h)
        have hW3 := hW.fr hf23 (fun _ _ h => h)
        have hx3 := hx2.fr hf3 (fun h => h)
        have hcx : w3.cell? ⟨wr.heap.size, 2, none⟩ = some (.slice Ab p.b.length cb) := hx3.cell 2
        have p33 := p3.fr hf23 (fun _ _ _ h => h)
        have hq5 : Hid (∀ w', Fr (fun k => vw.ownBlock = some k) w3.drew w' → w'.cell? ⟨wr.heap.size, 2, none⟩ = some (.slice Ab p.b.length cb)) := hid fun w' hf => hf.cell (w := w3.drew) hcx (fun h => by have : wr.heap.size < wr.heap.size := (hown.out _ h).2; omega)
        have hq6 : Hid (∀ w', Fr (fun k => vw.ownBlock = some k) w3.drew w' → View w' (fun k => k < w.heap.size) 1 (.slice Ab p.b.length cb) p.b.length (bys p.b)) := hid fun w' hf => (p33.drew).fr hf (fun k hk _ h => by have := (hown.out _ h).1; omega)
        have hq7 : Hid (∀ (v' : Value) (w7 w8 : World), Fr (fun k => vw.ownBlock = some k) w3.drew w7 → (∀ k, v'.ownBlock = some k → vw.ownBlock = some k ∨ w3.heap.size ≤ k) → Fr (fun k => v'.ownBlock = some k) w7 w8 → w8.cell? ⟨wr.heap.size, 2, none⟩ = some (.slice Ab p.b.length cb)) := hid fun v' w7 w8 hf h1 hf2 =>
          hf2.cell (hq5.out w7 hf) (fun h => by
            rcases h1 _ h with h | h
            · have : wr.heap.size < wr.heap.size := (hown.out _ h).2; omega
            · have : w3.heap.size ≤ wr.heap.size := h; omega)
        go_wp2_with fail
        go_region_held3 (fun w' => w'.cell? ⟨wr.heap.size, 2, none⟩ = some (.slice Ab p.b.length cb)) (first | go_keep | exact hq5.out _ q2 | exact hq7.out _ _ _ q2 (fun k hk => q1.2 k hk) q4) (first
          | (refine step_app_view rfl _ _ 24 (by rfl) (.int .u8 0) 1 Try.underlying24 info_u8 rfl (by decide) hR3.drew (by rfl) r3.view.drew (by rfl) (bys_cell _) (by omega) (by decide) ?_; intro A7 cap7 w7 q1 q2)
          | (refine step_app_view rfl _ _ 24 (by rfl) (.int .u8 0) 1 Try.underlying24 info_u8 rfl (by decide) q1 (by rfl) (hq6.out _ q2) (by rfl) (bys_cell _) (by omega) (by decide) ?_; intro A8 cap8 w8 q3 q4))
        have hc8 := hq7.out _ _ _ q2 (fun k hk => q1.2 k hk) q4
        have fr38 : Fr (fun k => vw.ownBlock = some k) w3 w8 := (((Fr.refl (fun k => vw.ownBlock = some k) w3).drew).then q2).trans q4 (fun k hk => q1.2 k hk)
        have hs8 := fr38.size
        have hR8 : Row w8 (fun k => (SR k ∨ w3.heap.size ≤ k) ∧ k < w8.heap.size) 5 1 (.slice A8 (bs0.length + (enc p.b.length).length + p.b.length) cap8) (bs0.length + (enc p.b.length).length + p.b.length) (bys bs0 ++ bys (enc p.b.length) ++ bys p.b) :=
          ⟨q3.1, fun k hk => ⟨by
            rcases q3.2 k hk with h | h
            · rcases q1.2 k h with h | h
              · exact .inl (hR3.2 k h)
              · exact .inr h
            · have := q2.size; exact .inr (Nat.le_trans this h), q3.lt k hk⟩⟩
        have hW8 := hW3.fr fr38 (fun k hk h => (HSW.out k hk).1 (hR3.2 k h))
        have p38 := p33.fr fr38 (fun k hk _ h => by have := (hown.out _ h).1; omega)
        clear q1 q2 q3 q4 hq5 hq6 hq7
        go_wp2_with fail
        refine (bytes_ok SW _ w1.heap.size bs0 _ p.b.length p.b (by omega) (by omega) w8 hW8 p38 (fun k hk _ (h : k < w.heap.size) => by have := (HSW.out k hk).2.1; omega)).mono ?_
        rintro e w9 ⟨rfl, hf9, hW9⟩
        have hs9 := hf9.size
        have hR9 := hR8.frS hf9 (fun k hk h => by have := HSW.out k h; rcases hk.1 with h1 | h1; exact this.1 h1; omega)
        go_wp2
        go_roundw
        case rel =>
          refine ⟨i + 1, _, (fun k => Grow w8 SW k ∧ k < w9.heap.size), (fun k => (SR k ∨ w3.heap.size ≤ k) ∧ k < w8.heap.size), by go_num, rfl, by omega, hps2.out, ?_, ?_, ?_, ?_, ?_⟩
          rotate_left
          · rw [Hg1.out, Ht.out, henc.out, ← List.append_assoc]; exact hW9.bd
          · rw [Hg1.out, Ht.out, henc.out]
            have := hR9
            simp only [List.length_append, bys_append, ← List.append_assoc, ← Nat.add_assoc] at this ⊢
            exact this
          · intro k hk
            obtain ⟨hk1, hk2⟩ := hk
            rcases hk1 with h | h
            · obtain ⟨g1, g2, g3⟩ := HSW.out k h
              refine ⟨fun h2 => ?_, g2, hk2⟩
              obtain ⟨h3, h4⟩ := h2
              rcases h3 with h3 | h3
              · exact g1 h3
              · omega
            · refine ⟨fun h2 => ?_, by omega, hk2⟩
              obtain ⟨h3, h4⟩ := h2
              omega
          · intro k hk
            obtain ⟨hk1, hk2⟩ := hk
            rcases hk1 with h | h
            · obtain ⟨g2, g3⟩ := HSR.out k h
              exact ⟨g2, by omega⟩
            · exact ⟨by omega, by omega⟩
          · exact ((hfr.thenNil hf23).trans fr38 (fun k hk => .inr (hown.out k hk).1)).trans hf9 (fun k hk => .inr (HSW.out k hk).2.1)
        case measure => simp [intOf]; omega
      · have hdb : (p.d == 2) = false := by simpa using hd
        by_cases hr : 0 ≤ p.n ∧ p.n < 268435456
        · obtain ⟨x, hx⟩ : ∃ x : Nat, p.n = x := ⟨p.n.toNat, by omega⟩
          have hxl : x < 268435456 := by omega
          have henc : Hid (encW p = enc x) := hid (by unfold encW; rw [if_neg hd, if_pos hr, hx]; rfl)
          rw [hx] at p1
          have Hd := hid hd; clear hd
          have Hr := hid hr; clear hr
          have hel := enc_len x hxl
          rw [hx] at p5
          clear hx
          go_wp2_with fail
          obtain ⟨W2, hW2⟩ : ∃ W2, W2 = wr.alloc (.cells #[.int .i64 p.d, .int .i64 x, .slice Ab p.b.length cb] 28) := ⟨_, rfl⟩
          have hx2 : Blk W2 wr.heap.size #[.int .i64 p.d, .int .i64 x, .slice Ab p.b.length cb] 28 := by rw [hW2]; exact Blk.new _ _ _
          have hf2 : Fr Nil wr W2 := by rw [hW2]; exact (Fr.refl _ _).alloc _
          have hs2 : W2.heap.size = wr.heap.size + 1 := by rw [hW2]; simp
          rw [← hW2]
          clear hW2
          refine (refnum_ok x hxl W2).mono ?_
          rintro e w3 ⟨An, cn, rfl, r3, hf3⟩
          have hf23 : Fr Nil wr w3 := hf2.thenNil hf3
          have hsz3 := hf3.size
          have hR3 := hR.frS hf23 (fun _ _ h => h)
          have hW3 := hW.fr hf23 (fun _ _ h => h)
          have hx3 := hx2.fr hf3 (fun h => h)
          go_wp2_with fail
          refine (quiet_ok 13 _ SW (fun b w' => b = true ∧ IsW w' (fun k => SW k ∨ w3.heap.size + 1 ≤ k) w1.heap.size (bs0 ++ enc x)) w3 (fun k h => by have := (HSW.out k h).2; omega) call_writes1 ?_).mono ?_
          · intro wa hfa hsa
            refine (writes1_ok SW w1.heap.size wr.heap.size bs0 x hxl (by omega) wa (hW3.fr hfa (fun _ _ h => h)) ((hx3.fr hfa (fun h => h)).cell 1)).mono ?_
            rintro e wb ⟨rfl, g1, g2⟩
            refine ⟨g1, .inl ⟨rfl, rfl, g2.mono fun k hk => ?_⟩⟩
            rcases hk with h | h
            · exact .inl h
            · exact .inr (by omega)
          rintro e w5 ⟨b5, w4, rfl, ⟨rfl, hW4⟩, hf5, hf4⟩
          have hs4 := hf4.size
          have hs5 := hf5.size
          have hR5 := (hR3.frS hf4 (fun k hk h => (HSW.out k h).1 hk)).frS hf5 (fun k hk (h : k = w3.heap.size) => by have := HSR.out k hk; omega)
          have hW5 := (hW4.fr hf5 (fun k hk (h : k = w3.heap.size) => by
            rcases hk with hk | hk
            · have := (HSW.out k hk).2; omega
            · omega)).bd
          have r5 := (r3.view.bd.fr hf4 (fun k hk _ h => by have := (HSW.out k h).2; have h2 : W2.heap.size ≤ k := hk.1; omega)).fr hf5 (fun k hk _ (h : k = w3.heap.size) => by have := hk.2; omega)
          go_wp2_with (at_builtin; refine wp_app_view rfl _ _ 24 rfl (.int .u8 0) 1 Try.underlying24 info_u8 rfl (by decide) hR5 rfl r5 rfl (bys_cell _) (by omega) (by decide) ?_)
          intro A7 cap7 w7 q1 q2 _
          have hs7 := q2.size
          have hR7 : Row w7 (fun k => (SR k ∨ w5.heap.size ≤ k) ∧ k < w7.heap.size) 5 1 (.slice A7 (bs0.length + (enc x).length) cap7) (bs0.length + (enc x).length) (bys (bs0 ++ enc x)) :=
            ⟨by rw [bys_append]; exact q1.1, fun k hk => ⟨(q1.2 k hk).imp (fun h => hR.2 k h) id, q1.lt k hk⟩⟩
          have hW7 := hW5.fr q2 (fun k hk h => by
            obtain ⟨hk1, hk2⟩ := hk
            have h2 := hR.2 k h
            rcases hk1 with hk1 | hk1
            · exact (HSW.out k hk1).1 h2
            · have := HSR.out k h2; omega)
          have hfx : Fr Nil w1 w7 := ((((hfr.thenNil hf23).trans hf4 (fun k hk => .inr (HSW.out k hk).2.1))).trans hf5 (fun k (hk : k = w3.heap.size) => .inr (by omega))).trans q2 (fun k hk => .inr (hown.out k hk).1)
          clear q1 q2
          go_wp2
          go_roundw
          case rel =>
            refine ⟨i + 1, _, (fun k => (SW k ∨ w3.heap.size + 1 ≤ k) ∧ k < w5.heap.size), (fun k => (SR k ∨ w5.heap.size ≤ k) ∧ k < w7.heap.size), by go_num, rfl, by omega, hps2.out, hfx, ?_, ?_, ?_, ?_⟩
            · rw [Hg1.out, Ht.out, henc.out]; exact hW7
            · rw [Hg1.out, Ht.out, henc.out, List.length_append]; exact hR7
            · intro k hk
              obtain ⟨hk1, hk2⟩ := hk
              rcases hk1 with h | h
              · obtain ⟨g1, g2, g3⟩ := HSW.out k h
                refine ⟨fun h2 => ?_, g2, by omega⟩
                obtain ⟨h3, h4⟩ := h2
                rcases h3 with h3 | h3
                · exact g1 h3
                · omega
              · refine ⟨fun h2 => ?_, by omega, by omega⟩
                obtain ⟨h3, h4⟩ := h2
                rcases h3 with h3 | h3
                · have := HSR.out k h3; omega
                · omega
            · intro k hk
              obtain ⟨hk1, hk2⟩ := hk
              rcases hk1 with h | h
              · obtain ⟨g2, g3⟩ := HSR.out k h
                exact ⟨g2, hk2⟩
              · exact ⟨by omega, hk2⟩
          case measure => simp [intOf]; omega
        · have henc : Hid (encW p = []) := hid (by unfold encW; rw [if_neg hd, if_neg hr])
          have hbad : p.n < 0 ∨ 268435456 ≤ p.n := by omega
          have Hd := hid hd; clear hd
          have Hr := hid hr; clear hr
          go_wp2_with fail
          obtain ⟨W2, hW2⟩ : ∃ W2, W2 = wr.alloc (.cells #[.int .i64 p.d, .int .i64 p.n, .slice Ab p.b.length cb] 28) := ⟨_, rfl⟩
          have hx2 : Blk W2 wr.heap.size #[.int .i64 p.d, .int .i64 p.n, .slice Ab p.b.length cb] 28 := by rw [hW2]; exact Blk.new _ _ _
          have hf2 : Fr Nil wr W2 := by rw [hW2]; exact (Fr.refl _ _).alloc _
          have hs2 : W2.heap.size = wr.heap.size + 1 := by rw [hW2]; simp
          rw [← hW2]
          clear hW2
          refine (refnum_bad p.n hbad W2).mono ?_
          rintro e w3 ⟨rfl, rfl⟩
          go_wp2_with fail
          refine (quiet_ok 13 _ Nil (fun b w' => b = false) W2 (fun _ h => h.elim) call_writes1 ?_).mono ?_
          · intro wa hfa hsa
            refine (writes1_bad w1.heap.size wr.heap.size p.n hbad wa ((hx2.fr hfa (fun h => h)).cell 1)).mono ?_
            rintro e wb ⟨⟨v, rfl⟩, rfl⟩
            exact ⟨Fr.refl _ _, .inr ⟨v, rfl, rfl⟩⟩
          rintro e w5 ⟨b5, w4, rfl, rfl, hf5, hf4⟩
          have hs4 := hf4.size
          have hf35 : Fr (fun k => k = W2.heap.size) wr w5 := (hf2.nil.trans hf4 (fun k hk => hk.elim)).trans hf5 (fun k hk => .inl hk)
          have hs5 := hf5.size
          have hR5 := hR.frS hf35 (fun k hk (h : k = W2.heap.size) => by have := HSR.out k hk; omega)
          have hW5 := hW.fr hf35 (fun k hk (h : k = W2.heap.size) => by have := (HSW.out k hk).2; omega)
          go_wp2_with (at_builtin; refine wp_app_view rfl _ _ 24 rfl (.int .u8 0) 1 Try.underlying24 info_u8 rfl (by decide) hR5 rfl (View.nil w5 Nil 1) rfl (by simp) (by omega) (by decide) ?_)
          intro A7 cap7 w7 q1 q2 _
          have hs7 := q2.size
          have hR7 : Row w7 (fun k => (SR k ∨ w5.heap.size ≤ k) ∧ k < w7.heap.size) 5 1 (.slice A7 bs0.length cap7) bs0.length (bys bs0) :=
            ⟨by have := q1.1; rwa [List.append_nil] at this, fun k hk => ⟨(q1.2 k hk).imp (fun h => hR.2 k h) id, q1.lt k hk⟩⟩
          have hW7 := hW5.fr q2 (fun k hk h => (HSW.out k hk).1 (hR.2 k h))
          have hfx : Fr Nil w1 w7 := ((hfr.trans hf35 (fun k (hk : k = W2.heap.size) => .inr (by omega)))).trans q2 (fun k hk => .inr (hown.out k hk).1)
          clear q1 q2
          go_wp2
          go_roundw
          case rel =>
            refine ⟨i + 1, _, SW, (fun k => (SR k ∨ w5.heap.size ≤ k) ∧ k < w7.heap.size), by go_num, rfl, by omega, hps2.out, hfx, ?_, ?_, ?_, ?_⟩
            · rw [Hg1.out, Ht.out, henc.out, List.append_nil]; exact hW7
            · rw [Hg1.out, Ht.out, henc.out, List.append_nil]; exact hR7
            · intro k hk
              obtain ⟨g1, g2, g3⟩ := HSW.out k hk
              refine ⟨fun h2 => ?_, g2, by omega⟩
              obtain ⟨h3, h4⟩ := h2
              rcases h3 with h3 | h3
              · exact g1 h3
              · omega
            · intro k hk
              obtain ⟨hk1, hk2⟩ := hk
              rcases hk1 with h | h
              · obtain ⟨g2, g3⟩ := HSR.out k h
                exact ⟨g2, hk2⟩
              · exact ⟨by omega, hk2⟩
          case measure => simp [intOf]; omega
    · have hin : i = n := by omega
      have hlb : (encsW (ps.take i)).length ≤ 50400 := by omega
      generalize encsW (ps.take i) = xs at *
      have HSW := hid hSW; have HSR := hid hSR; have Hps := hid hps; have Hin := hid hin
      clear hSW hSR hps hin
      have hszr := hfr.size
      have hsd : (convert 24 9 vw).run Try.prog wr.drew = .ok (.string (str xs)) wr.drew := View.str (P := Try.prog) hR.view.drew Try.underlying24 Try.underlying5 Try.underlying9
      go_wp2_with fail
      go_region_with (go_at_call 15; refine (out_ok SW w1.heap.size xs (by omega) wr.drew hW).mono ?_; rintro e w5 ⟨A5, c5, rfl, r5, hf5⟩; have hs3 := View.str (P := Try.prog) (src := 24) (dst := 9) (xs := xs) r5.view Try.underlying24 Try.underlying5 Try.underlying9; have hs4 := View.str (P := Try.prog) (src := 24) (dst := 9) (xs := xs) (hR.view.drew.fr hf5 (fun _ _ _ h => h)) Try.underlying24 Try.underlying5 Try.underlying9)
      all_goals
        go_wp2
        go_ret
        exact ⟨rfl, (hf1.thenNil hfr).trans (((Fr.refl Nil wr).drew).thenNil hf5) (fun _ h => h.elim)⟩
end Go.Proofs.Ytknkilobdeeiaaa

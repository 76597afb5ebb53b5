/- The texts SlM, SlA of this proof, one behind the other. Conditions: those of each. -/
import Derived.Test.YtgoghmblfdlnbaaGreatGR36
section
/- Slab: the law's Make. Conditions: the bounds of its numbers. -/
set_option linter.unusedSimpArgs false
set_option linter.unusedVariables false
namespace Go.Proofs.YtgoghmblfdlnbaaGreat
open Go.RowKit
theorem wf_one {bl : Nat} (h : bl ≤ 8192) (a : Nat) (ha : a < bl) : Wf bl [⟨a, bl - a⟩] :=
  ⟨h, ⟨by dsimp only; omega, by dsimp only; omega, trivial⟩, fun r hr => by rw [List.mem_singleton] at hr; subst hr; dsimp only; omega⟩
theorem mark2 {bl : Nat} (h : bl ≤ 8192) (h2 : 3 ≤ bl) : markR bl [⟨0, bl⟩] ((0 : Nat) : Int) ((2 : Nat) : Int) = true ∧ markL bl [⟨0, bl⟩] ((0 : Nat) : Int) ((2 : Nat) : Int) = [⟨2, bl - 2⟩] := by
  have hw : Wf bl [⟨0, bl⟩] := wf_one h 0 (by omega)
  have hr : markR bl [⟨0, bl⟩] ((0 : Nat) : Int) ((2 : Nat) : Int) = true := (mark_iff hw 0 2).2 ⟨known_iff.2 ⟨by omega, by omega, by omega, by omega⟩, fun k _ hk => by rw [has_cons, has_nil, Bool.or_false]; exact isin_iff.2 ⟨Nat.zero_le _, by dsimp only; omega⟩⟩
  refine ⟨hr, Wf.unique (mark_wf' hw _ _) (wf_one h 2 (by omega)) fun k => ?_⟩
  rw [mark_has hw hr, has_cons, has_nil, Bool.or_false, has_cons, has_nil, Bool.or_false, Bool.eq_iff_iff, isin_iff, Bool.and_eq_true, isin_iff, Bool.not_eq_true', ← Bool.not_eq_true, btw_iff]
  dsimp only
  omega
theorem results_tmp4 {fn : Func} {t u v x : Tmp} (h : fn.results = #[.tmp t, .tmp u, .tmp v, .tmp x]) (tmps : Array Value) (P : Program) (w : World) :
    (results fn tmps).run P w = .ok (.tuple #[tmps.getD t undef, tmps.getD u undef, tmps.getD v undef, tmps.getD x undef]) w := by simp [results, h]
set_option maxRecDepth 20000 in
set_option maxHeartbeats 1000000 in
theorem slawmake_ok (N bl gen : Nat) (h1 : 64 ≤ bl) (h2 : bl ≤ 8192) (hg : gen ≤ 2000000000) (w : World) :
    Calls Tryz.prog 7 #[.int .i64 (bl : Nat), .int .i64 (gen : Nat)] w fun e w' => ∃ lb plb pb sb TP, e = .returned (.tuple #[.pointer (some ⟨lb, 0, none⟩), .pointer (some ⟨plb, 0, none⟩), .pointer (some ⟨pb, 0, none⟩), .pointer (some ⟨sb, 0, none⟩)]) ∧ Sl (fun _ => False) TP w w' lb plb sb pb bl N gen 0 (fresh bl) [] [] [] [] [⟨2, bl - 2⟩] ∧ Fr Nil w w' := by
  go_enter Tryz.func7, Tryz.ntmps7
  go_wp2_with fail
  refine (pnew_ok bl h1 h2 w).mono ?_
  rintro e w1 ⟨plb, rfl, hp, hf1⟩
  have HP1 := hid hp.bd
  have F1 := hid hf1
  clear hp hf1
  go_wp2_with fail
  refine (new_t (bl : Int) w1).mono ?_
  rintro e w2 ⟨pb, T, rfl, hR, hT, hf2⟩
  rw [show newBl (bl : Int) = bl from by unfold newBl; rw [if_pos (by omega)]; omega, show newL (bl : Int) = [⟨0, bl⟩] from by unfold newL; rw [if_pos (by omega)]; rfl] at hR
  have HR2 := hid hR
  have HT := hid hT
  have F2 := hid hf2
  clear hR hT hf2
  go_wp2_with fail
  have hm := mark_t HR2.out ((0 : Nat) : Int) ((2 : Nat) : Int)
  rw [(mark2 h2 (by omega)).1, (mark2 h2 (by omega)).2] at hm
  refine hm.mono ?_
  rintro e w3 ⟨rfl, ⟨T3, hR3, hT3⟩, hf3⟩
  have HR3 := hid hR3
  have HT3 := hid (show ∀ k, T3 k → w1.heap.size ≤ k from fun k hk => (hT3 k hk).elim (HT.out k) fun h => Nat.le_trans F2.out.size h)
  have F3 := hid (show Fr Nil w1 w3 from F2.out.trans hf3 fun k hk => .inr (HT.out k hk))
  clear hm hR3 hT3 hf3
  go_wp2_with fail
  refine (sw_shares HR3.out HT3.out F3.out).mono ?_
  rintro e w4 ⟨sb, rfl, hS⟩
  have HS := hid hS
  clear hS
  go_wp2_with fail
  refine (slnew_ok plb sb pb gen w4).mono ?_
  rintro e w5 ⟨lb, rfl, hlb, hB, hf5⟩
  have HB := hid hB
  have F5 := hid hf5
  have Hlb := hid hlb
  clear hB hf5 hlb
  go_wp2
  refine bodyPost_ret (results_tmp4 rfl _ _ _) rfl ?_
  refine ⟨lb, plb, pb, sb, (fun k => New w k ∧ k < w1.heap.size), rfl, ?_, ?_⟩
  · obtain ⟨V, hSt, hV, hf14⟩ := HS.out
    have hpl := HP1.out.fr hf14 fun _ _ h => h
    have hlbl := HB.out.lt
    have hs1 := F1.out.size
    have hs4 := hf14.size
    have hs5 := F5.out.size
    refine ⟨⟨V, hSt.nil F5.out, fun k hk => ⟨Nat.le_trans hs1 (hV k hk), ?_⟩, (F1.out.then hf14).then F5.out, ?_, Inv.new (by omega) h2⟩, HB.out, hpl.fr F5.out fun _ _ h => h, okm_fresh bl (by omega), ?_, ?_, by simp [fresh]⟩
    · have h3 := hV k hk
      have h4 := hSt.lt k hk
      have h5 := Hlb.out
      rintro (h | h | h)
      · exact h
      · omega
      · omega
    · rintro k (h | h | h)
      · exact h.elim
      · omega
      · omega
    · rintro k (h | h)
      · exact ⟨h.1, fun h => h⟩
      · exact ⟨by have := Hlb.out; omega, fun h => h⟩
    · rintro ⟨_, h⟩
      have := Hlb.out
      omega
  · obtain ⟨V, hSt, hV, hf14⟩ := HS.out
    exact (F1.out.then hf14).then F5.out
end Go.Proofs.YtgoghmblfdlnbaaGreat
end

section
/- Slab: awake. Conditions: none. -/
set_option linter.unusedSimpArgs false
set_option linter.unusedVariables false
namespace Go.Proofs.YtgoghmblfdlnbaaGreat
open Go.RowKit
open nd (Nd Kd Vs MayNd pre ncells)
theorem nd_cells {w : World} {b : Nat} {q : nd.Ptr} {x : Nd} {T : TypeId} (h : Blk w b (ncells x q) T) : w.cell? ⟨b, 0, none⟩ = some (.int .i64 x.h) ∧ w.cell? ⟨b, 1, none⟩ = some (.slice q.A1 x.ks.length q.c1) ∧ w.cell? ⟨b, 2, none⟩ = some (.slice q.A2 x.ps.length q.c2) ∧ w.cell? ⟨b, 3, none⟩ = some (.slice q.A3 x.gs.length q.c3) ∧ w.cell? ⟨b, 4, none⟩ = some (.slice q.A4 x.ds.length q.c4) :=
  ⟨h.cell 0, h.cell 1, h.cell 2, h.cell 3, h.cell 4⟩
theorem nN0 : nN (⟨0, [5], [⟨2, 1, 0⟩], [1], []⟩ : Nd) = 1 := by kernel_rfl
theorem dat0 : (datN (⟨0, [5], [⟨2, 1, 0⟩], [1], []⟩ : Nd)).length = 7 := by kernel_rfl
theorem take0 : takeI [⟨2, 62⟩] ((1 : Nat) : Int) = 0 ∧ takeL [⟨2, 62⟩] ((1 : Nat) : Int) = [⟨3, 61⟩] := by decide
set_option maxRecDepth 100000 in
set_option maxHeartbeats 1600000 in
theorem slawake_ok (w0 : World) : Calls Tryz.prog 5 #[] w0 fun e w' => e = .returned (.bool true) ∧ Fr Nil w0 w' := by
  have hX : MayNd (⟨0, [5], [⟨2, 1, 0⟩], [1], []⟩ : Nd) := by decide
  go_enter Tryz.func5, Tryz.ntmps5
  go_wp2_with fail
  refine (slawmake_ok 1000 64 3 (by decide) (by decide) (by decide) w0).mono ?_
  rintro e w ⟨lb, plb, pb, sb, TP, rfl, hS, hf0⟩
  have HS := hid hS
  have F0 := hid hf0
  clear hS hf0
  go_wp2_with fail
  obtain ⟨q0, hq0⟩ : ∃ q : nd.Ptr, q = ⟨some ⟨w.heap.size, 0, none⟩, 1, some ⟨w.heap.size + 1, 0, none⟩, 1, some ⟨w.heap.size + 1 + 1, 0, none⟩, 1, none, 0⟩ := ⟨_, rfl⟩
  obtain ⟨W1, hW1⟩ : ∃ W1, W1 = (((w.alloc (.cells #[.int .i64 5] 3)).alloc (.cells #[.int .i64 2, .int .i64 1, .int .i64 0] 51)).alloc (.cells #[.int .i64 1] 3)).alloc (.cells (ncells (⟨0, [5], [⟨2, 1, 0⟩], [1], []⟩ : Nd) q0) 55) := ⟨_, rfl⟩
  have hn1 : Blk W1 (w.heap.size + 1 + 1 + 1) (ncells (⟨0, [5], [⟨2, 1, 0⟩], [1], []⟩ : Nd) q0) 55 := by
    rw [hW1]
    have := Blk.new (((w.alloc (.cells #[.int .i64 5] 3)).alloc (.cells #[.int .i64 2, .int .i64 1, .int .i64 0] 51)).alloc (.cells #[.int .i64 1] 3)) (ncells (⟨0, [5], [⟨2, 1, 0⟩], [1], []⟩ : Nd) q0) 55
    rwa [World.size_alloc, World.size_alloc, World.size_alloc] at this
  have hV1 : Vs W1 (New w) q0 (⟨0, [5], [⟨2, 1, 0⟩], [1], []⟩ : Nd) := by
    rw [hW1, hq0]
    refine ⟨?_, ?_, ?_, View.nil _ _ _⟩
    · exact (((View.lit (s := 1) w #[.int .i64 5] 3 (0, 0) 1 rfl (by decide)).alloc _).alloc _).alloc _
    · have := (((View.lit (s := 3) (w.alloc (.cells #[.int .i64 5] 3)) #[.int .i64 2, .int .i64 1, .int .i64 0] 51 (0, 0) 1 rfl (by decide)).alloc (.cells #[.int .i64 1] 3)).alloc (.cells (ncells (⟨0, [5], [⟨2, 1, 0⟩], [1], []⟩ : Nd) q0) 55)).mono (S' := New w) (fun k hk => by unfold New at *; rw [World.size_alloc] at hk; omega)
      rw [World.size_alloc, hq0] at this
      exact this
    · have := ((View.lit (s := 1) ((w.alloc (.cells #[.int .i64 5] 3)).alloc (.cells #[.int .i64 2, .int .i64 1, .int .i64 0] 51)) #[.int .i64 1] 3 (0, 0) 1 rfl (by decide)).alloc (.cells (ncells (⟨0, [5], [⟨2, 1, 0⟩], [1], []⟩ : Nd) q0) 55)).mono (S' := New w) (fun k hk => by unfold New at *; rw [World.size_alloc, World.size_alloc] at hk; omega)
      rw [World.size_alloc, World.size_alloc, hq0] at this
      exact this
  have hf1 : Fr Nil w W1 := by rw [hW1]; exact ((((Fr.refl _ _).alloc _).alloc _).alloc _).alloc _
  rw [hq0] at hW1
  unfold ncells at hW1
  dsimp only [List.length_cons, List.length_nil] at hW1
  rw [← hW1]
  have e1 : Value.slice (some ⟨w.heap.size, 0, none⟩) 1 1 = .slice q0.A1 1 q0.c1 := by rw [hq0]
  have e2 : Value.slice (some ⟨w.heap.size + 1, 0, none⟩) 1 1 = .slice q0.A2 1 q0.c2 := by rw [hq0]
  have e3 : Value.slice (some ⟨w.heap.size + 1 + 1, 0, none⟩) 1 1 = .slice q0.A3 1 q0.c3 := by rw [hq0]
  have e4 : Value.slice none 0 0 = .slice q0.A4 0 q0.c4 := by rw [hq0]
  rw [e1, e2, e3]
  obtain ⟨nb, hnb⟩ : ∃ nb, nb = w.heap.size + 1 + 1 + 1 := ⟨_, rfl⟩
  rw [← hnb] at hn1 ⊢
  have HNB := hid (show w.heap.size ≤ nb ∧ nb < W1.heap.size from ⟨by omega, hn1.lt⟩)
  clear hW1 e1 e2 e3 hnb
  have E4 := hid e4
  clear e4 hq0
  refine Calls.mono (?_ : Calls _ _ _ _ fun e w' => ∃ q', e = .returned (.agg #[.int .i64 0, .slice q'.A1 1 q'.c1, .slice q'.A2 1 q'.c2, .slice q'.A3 1 q'.c3, .slice q'.A4 0 q'.c4]) ∧ Vs w' (New W1) q' (⟨0, [5], [⟨2, 1, 0⟩], [1], []⟩ : Nd) ∧ Fr Nil W1 w') ?_
  · rw [E4.out]; exact nd.lawnode_ok (New w) q0 (⟨0, [5], [⟨2, 1, 0⟩], [1], []⟩ : Nd) (by decide) W1 hV1
  rintro e w1 ⟨q1, rfl, hV2, hf2⟩
  obtain ⟨Q, hQ⟩ : ∃ Q : Nat → Prop, Q = fun k => w.heap.size ≤ k ∧ k < w1.heap.size := ⟨_, rfl⟩
  have HQ := hid hQ
  have H1 := hid (HS.out.drop (Q := Q) (hf1.then hf2) (fun k hk => .inr (by rw [hQ] at hk; exact hk.1)) fun k hk => by rw [hQ] at hk; exact hk.2)
  have HN1 := hid (hn1.fr hf2 fun h => h)
  have HV1 := hid ((hV1.bd.nil hf2).mono (S' := Q) fun k hk => by rw [hQ]; exact ⟨hk.1, Nat.lt_of_lt_of_le hk.2 hf2.size⟩)
  have F1 := hid ((F0.out.then hf1).then hf2)
  have HnQ := hid (show Q nb from by rw [hQ]; exact ⟨HNB.out.1, Nat.lt_of_lt_of_le HNB.out.2 hf2.size⟩)
  clear hQ hf1 hf2 hn1 hV1 HS F0 HNB
  go_wp2_with fail
  refine ssave_k H1.out (by decide) q1 (⟨0, [5], [⟨2, 1, 0⟩], [1], []⟩ : Nd) hX hV2 (by decide) rfl (by decide) (by rw [nN0, take0.1]; decide) _ ?_
  intro a p' TP' w2 hh
  rw [nN0, take0.1, take0.2] at hh
  obtain ⟨ha, -, hS2, hA2, hg2, hf2⟩ := hh
  have ha2 : a = 2 := ha
  subst ha2
  rw [nN0]
  have H2 := hid hS2
  have HA2 := hid hA2
  have HG2 := hid hg2
  have HN2 := hid (HN1.out.fr hf2 fun hn => hn HnQ.out)
  have HV2 := hid (HV1.out.fr hf2 fun k hk _ hn => hn hk)
  clear hS2 hA2 hg2 hf2 ha H1 HN1 HV1 F1 hV2
  go_wp2_with fail
  obtain ⟨W3, hW3⟩ : ∃ W3, W3 = w2.alloc (.cells #[.int .i64 2, .int .i64 1, .int .i64 3] 57) := ⟨_, rfl⟩
  obtain ⟨kb, hkb⟩ : ∃ kb, kb = w2.heap.size := ⟨_, rfl⟩
  have hk3 : Blk W3 kb #[.int .i64 2, .int .i64 1, .int .i64 3] 57 := by rw [hW3, hkb]; exact Blk.new _ _ _
  have hf3 : Fr Nil w2 W3 := by rw [hW3]; exact (Fr.refl _ _).alloc _
  rw [← hW3, ← hkb]
  have H3 := hid (H2.out.drop (Q := fun k => Q k ∨ k = kb) hf3 (fun k hk => hk.imp id fun e => by omega) fun k hk => by
    rcases hk with hk | hk
    · exact Nat.lt_of_lt_of_le (H2.out.tlt k (.inl hk)) hf3.size
    · rw [hk]; exact hk3.lt)
  have HK3 := hid hk3
  have HN3 := hid (HN2.out.fr hf3 fun h => h)
  have HV3 := hid (HV2.out.nil hf3)
  clear hW3 hkb hk3 hf3 HN2 HV2 H2
  have hld := fun Post => sload_k H3.out 2 3 (⟨0, [5], [⟨2, 1, 0⟩], [1], []⟩ : Nd) hX (by decide) HA2.out.fa (by decide) (by rw [nN0]; decide) (by rw [nN0]; exact HG2.out) (by rw [nN0, dat0]; decide) Post
  rw [nN0] at hld
  refine hld _ ?_
  intro q2 p2 w4 hh
  obtain ⟨hv4, hS4, -, hf4⟩ := hh
  have HT := hid (fun k (hk : TP' k) => (H3.out.q k (.inl hk)).2)
  have H4 := hid hS4
  have HK4 := hid (HK3.out.fr hf4 fun h => HT.out _ h (.inr rfl))
  have HN4 := hid (HN3.out.fr hf4 fun h => HT.out _ h (.inl HnQ.out))
  have HV4 := hid (HV3.out.fr hf4 fun k hk _ h => HT.out _ h (.inl hk))
  have HX4 := hid hv4
  clear hld hv4 hS4 hf4 H3 HK3 HN3 HV3 HT HA2 HG2 hX
  unfold ncells
  dsimp only [List.length_cons, List.length_nil]
  go_wp2_with fail
  obtain ⟨W5, hW5⟩ : ∃ W5, W5 = w4.alloc (.cells #[.int .i64 0, .slice q2.A1 1 q2.c1, .slice q2.A2 1 q2.c2, .slice q2.A3 1 q2.c3, .slice q2.A4 0 q2.c4] 62) := ⟨_, rfl⟩
  have hx5 : Blk W5 w4.heap.size (ncells (⟨0, [5], [⟨2, 1, 0⟩], [1], []⟩ : Nd) q2) 62 := by rw [hW5]; exact Blk.new _ _ _
  have hf5 : Fr Nil w4 W5 := by rw [hW5]; exact (Fr.refl _ _).alloc _
  rw [← hW5]
  clear hW5
  obtain ⟨xb, hxb⟩ : ∃ xb, xb = w4.heap.size := ⟨_, rfl⟩
  rw [← hxb] at hx5 ⊢
  clear hxb
  have hS : (fun w' : World => (w'.cell? ⟨xb, 0, none⟩ = some (.int .i64 0) ∧ w'.cell? ⟨xb, 1, none⟩ = some (.slice q2.A1 1 q2.c1) ∧ w'.cell? ⟨xb, 2, none⟩ = some (.slice q2.A2 1 q2.c2) ∧ w'.cell? ⟨xb, 3, none⟩ = some (.slice q2.A3 1 q2.c3) ∧ w'.cell? ⟨xb, 4, none⟩ = some (.slice q2.A4 0 q2.c4)) ∧ (w'.cell? ⟨nb, 0, none⟩ = some (.int .i64 0) ∧ w'.cell? ⟨nb, 1, none⟩ = some (.slice q0.A1 1 q0.c1) ∧ w'.cell? ⟨nb, 2, none⟩ = some (.slice q0.A2 1 q0.c2) ∧ w'.cell? ⟨nb, 3, none⟩ = some (.slice q0.A3 1 q0.c3) ∧ w'.cell? ⟨nb, 4, none⟩ = some (.slice q0.A4 0 q0.c4)) ∧ (w'.cell? ⟨kb, 0, none⟩ = some (.int .i64 2) ∧ w'.cell? ⟨kb, 1, none⟩ = some (.int .i64 1) ∧ w'.cell? ⟨kb, 2, none⟩ = some (.int .i64 3))) W5.drew := ⟨nd_cells hx5.drew, nd_cells (HN4.out.fr hf5 fun h => h).drew, (HK4.out.fr hf5 fun h => h).drew.cell 0, (HK4.out.fr hf5 fun h => h).drew.cell 1, (HK4.out.fr hf5 fun h => h).drew.cell 2⟩
  have HX5 := hid hx5.drew
  have HN5 := hid (HN4.out.fr hf5 fun h => h).drew
  have HK5 := hid (HK4.out.fr hf5 fun h => h).drew
  have H5 := hid (H4.out.nil hf5.drew)
  have HV5 := hid (HV4.out.nil hf5.drew)
  have HQ5 := hid (HX4.out.nil hf5.drew)
  clear hx5 hf5 HX4 HN4 HK4 HV4 H4
  refine wpU_region (k := 37) (S := (fun w' : World => (w'.cell? ⟨xb, 0, none⟩ = some (.int .i64 0) ∧ w'.cell? ⟨xb, 1, none⟩ = some (.slice q2.A1 1 q2.c1) ∧ w'.cell? ⟨xb, 2, none⟩ = some (.slice q2.A2 1 q2.c2) ∧ w'.cell? ⟨xb, 3, none⟩ = some (.slice q2.A3 1 q2.c3) ∧ w'.cell? ⟨xb, 4, none⟩ = some (.slice q2.A4 0 q2.c4)) ∧ (w'.cell? ⟨nb, 0, none⟩ = some (.int .i64 0) ∧ w'.cell? ⟨nb, 1, none⟩ = some (.slice q0.A1 1 q0.c1) ∧ w'.cell? ⟨nb, 2, none⟩ = some (.slice q0.A2 1 q0.c2) ∧ w'.cell? ⟨nb, 3, none⟩ = some (.slice q0.A3 1 q0.c3) ∧ w'.cell? ⟨nb, 4, none⟩ = some (.slice q0.A4 0 q0.c4)) ∧ (w'.cell? ⟨kb, 0, none⟩ = some (.int .i64 2) ∧ w'.cell? ⟨kb, 1, none⟩ = some (.int .i64 1) ∧ w'.cell? ⟨kb, 2, none⟩ = some (.int .i64 3)))) (by kernel_rfl) ?_
  refine wpU_take (i := 0) (v := ?_) rfl (by kernel_rfl) (by kernel_rfl) (fun _ _ _ h => h) _ _ _ _ (by kernel_rfl) (by kernel_rfl) (by kernel_rfl) (Or.inl ⟨by kernel_rfl, ?_⟩) hS ?_
  rotate_left
  · (intro w9 hS9; obtain ⟨s0, s1, s2⟩ := hS9; go_simp); (try with_reducible rfl)
  try simp only [Act.put, List.getElem_toArray, List.getElem_cons_succ, List.getElem_cons_zero, List.setIfInBounds_toArray, List.set_cons_zero, List.set_cons_succ]
  refine wpU_take (i := 1) (v := ?_) rfl (by kernel_rfl) (by kernel_rfl) (fun _ _ _ h => h) _ _ _ _ (by kernel_rfl) (by kernel_rfl) (by kernel_rfl) (Or.inl ⟨by kernel_rfl, ?_⟩) hS ?_
  rotate_left
  · (intro w9 hS9; obtain ⟨s0, s1, s2⟩ := hS9; go_simp); (try with_reducible rfl)
  try simp only [Act.put, List.getElem_toArray, List.getElem_cons_succ, List.getElem_cons_zero, List.setIfInBounds_toArray, List.set_cons_zero, List.set_cons_succ]
  refine wpU_take (i := 2) (v := ?_) rfl (by kernel_rfl) (by kernel_rfl) (fun _ _ _ h => h) _ _ _ _ (by kernel_rfl) (by kernel_rfl) (by kernel_rfl) (Or.inl ⟨by kernel_rfl, ?_⟩) hS ?_
  rotate_left
  · (intro w9 hS9; obtain ⟨s0, s1, s2⟩ := hS9; go_simp); (try with_reducible rfl)
  try simp only [Act.put, List.getElem_toArray, List.getElem_cons_succ, List.getElem_cons_zero, List.setIfInBounds_toArray, List.set_cons_zero, List.set_cons_succ]
  refine wpU_take (i := 3) (v := ?_) rfl (by kernel_rfl) (by kernel_rfl) (fun _ _ _ h => h) _ _ _ _ (by kernel_rfl) (by kernel_rfl) (by kernel_rfl) (Or.inl ⟨by kernel_rfl, ?_⟩) hS ?_
  rotate_left
  · (intro w9 hS9; obtain ⟨s0, s1, s2⟩ := hS9; go_simp); (try with_reducible rfl)
  try simp only [Act.put, List.getElem_toArray, List.getElem_cons_succ, List.getElem_cons_zero, List.setIfInBounds_toArray, List.set_cons_zero, List.set_cons_succ]
  refine wpU_take (i := 4) (v := ?_) rfl (by kernel_rfl) (by kernel_rfl) (fun _ _ _ h => h) _ _ _ _ (by kernel_rfl) (by kernel_rfl) (by kernel_rfl) (Or.inl ⟨by kernel_rfl, ?_⟩) hS ?_
  rotate_left
  · (intro w9 hS9; obtain ⟨s0, s1, s2⟩ := hS9; go_simp); (try with_reducible rfl)
  try simp only [Act.put, List.getElem_toArray, List.getElem_cons_succ, List.getElem_cons_zero, List.setIfInBounds_toArray, List.set_cons_zero, List.set_cons_succ]
  refine wpU_take (i := 5) (v := ?_) rfl (by kernel_rfl) (by kernel_rfl) (fun _ _ _ h => h) _ _ _ _ (by kernel_rfl) (by kernel_rfl) (by kernel_rfl) (Or.inl ⟨by kernel_rfl, ?_⟩) hS ?_
  rotate_left
  · (intro w9 hS9; obtain ⟨s0, s1, s2⟩ := hS9; go_simp); (try with_reducible rfl)
  try simp only [Act.put, List.getElem_toArray, List.getElem_cons_succ, List.getElem_cons_zero, List.setIfInBounds_toArray, List.set_cons_zero, List.set_cons_succ]
  refine wpU_take (i := 6) (v := ?_) rfl (by kernel_rfl) (by kernel_rfl) (fun _ _ _ h => h) _ _ _ _ (by kernel_rfl) (by kernel_rfl) (by kernel_rfl) (Or.inl ⟨by kernel_rfl, ?_⟩) hS ?_
  rotate_left
  · (intro w9 hS9; obtain ⟨s0, s1, s2⟩ := hS9; go_simp); (try with_reducible rfl)
  try simp only [Act.put, List.getElem_toArray, List.getElem_cons_succ, List.getElem_cons_zero, List.setIfInBounds_toArray, List.set_cons_zero, List.set_cons_succ]
  refine wpU_take (i := 7) (v := ?_) rfl (by kernel_rfl) (by kernel_rfl) (fun _ _ _ h => h) _ _ _ _ (by kernel_rfl) (by kernel_rfl) (by kernel_rfl) (Or.inl ⟨by kernel_rfl, ?_⟩) hS ?_
  rotate_left
  · (intro w9 hS9; obtain ⟨s0, s1, s2⟩ := hS9; go_simp); (try with_reducible rfl)
  try simp only [Act.put, List.getElem_toArray, List.getElem_cons_succ, List.getElem_cons_zero, List.setIfInBounds_toArray, List.set_cons_zero, List.set_cons_succ]
  refine wpU_take (i := 8) (v := ?_) rfl (by kernel_rfl) (by kernel_rfl) (fun _ _ _ h => h) _ _ _ _ (by kernel_rfl) (by kernel_rfl) (by kernel_rfl) (Or.inl ⟨by kernel_rfl, ?_⟩) hS ?_
  rotate_left
  · (intro w9 hS9; obtain ⟨s0, s1, s2⟩ := hS9; go_simp); (try with_reducible rfl)
  try simp only [Act.put, List.getElem_toArray, List.getElem_cons_succ, List.getElem_cons_zero, List.setIfInBounds_toArray, List.set_cons_zero, List.set_cons_succ]
  refine wpU_take (i := 9) (v := ?_) rfl (by kernel_rfl) (by kernel_rfl) (fun _ _ _ h => h) _ _ _ _ (by kernel_rfl) (by kernel_rfl) (by kernel_rfl) (Or.inl ⟨by kernel_rfl, ?_⟩) hS ?_
  rotate_left
  · (intro w9 hS9; obtain ⟨s0, s1, s2⟩ := hS9; go_simp); (try with_reducible rfl)
  try simp only [Act.put, List.getElem_toArray, List.getElem_cons_succ, List.getElem_cons_zero, List.setIfInBounds_toArray, List.set_cons_zero, List.set_cons_succ]
  refine wpU_take (i := 10) (v := ?_) rfl (by kernel_rfl) (by kernel_rfl) (fun _ _ _ h => h) _ _ _ _ (by kernel_rfl) (by kernel_rfl) (by kernel_rfl) (Or.inl ⟨by kernel_rfl, ?_⟩) hS ?_
  rotate_left
  · (intro w9 hS9; obtain ⟨s0, s1, s2⟩ := hS9; go_simp); (try with_reducible rfl)
  try simp only [Act.put, List.getElem_toArray, List.getElem_cons_succ, List.getElem_cons_zero, List.setIfInBounds_toArray, List.set_cons_zero, List.set_cons_succ]
  refine wpU_take (i := 11) (v := ?_) rfl (by kernel_rfl) (by kernel_rfl) (fun _ _ _ h => h) _ _ _ _ (by kernel_rfl) (by kernel_rfl) (by kernel_rfl) (Or.inl ⟨by kernel_rfl, ?_⟩) hS ?_
  rotate_left
  · (intro w9 hS9; obtain ⟨s0, s1, s2⟩ := hS9; go_simp); (try with_reducible rfl)
  try simp only [Act.put, List.getElem_toArray, List.getElem_cons_succ, List.getElem_cons_zero, List.setIfInBounds_toArray, List.set_cons_zero, List.set_cons_succ]
  refine wpU_take (i := 12) (v := ?_) rfl (by kernel_rfl) (by kernel_rfl) (fun _ _ _ h => h) _ _ _ _ (by kernel_rfl) (by kernel_rfl) (by kernel_rfl) (Or.inl ⟨by kernel_rfl, ?_⟩) hS ?_
  rotate_left
  · (intro w9 hS9; obtain ⟨s0, s1, s2⟩ := hS9; go_simp); (try with_reducible rfl)
  try simp only [Act.put, List.getElem_toArray, List.getElem_cons_succ, List.getElem_cons_zero, List.setIfInBounds_toArray, List.set_cons_zero, List.set_cons_succ]
  refine wpU_take (i := 13) (v := ?_) rfl (by kernel_rfl) (by kernel_rfl) (fun _ _ _ h => h) _ _ _ _ (by kernel_rfl) (by kernel_rfl) (by kernel_rfl) (Or.inl ⟨by kernel_rfl, ?_⟩) hS ?_
  rotate_left
  · (intro w9 hS9; obtain ⟨s0, s1, s2⟩ := hS9; go_simp); (try with_reducible rfl)
  try simp only [Act.put, List.getElem_toArray, List.getElem_cons_succ, List.getElem_cons_zero, List.setIfInBounds_toArray, List.set_cons_zero, List.set_cons_succ]
  refine wpU_take (i := 14) (v := ?_) rfl (by kernel_rfl) (by kernel_rfl) (fun _ _ _ h => h) _ _ _ _ (by kernel_rfl) (by kernel_rfl) (by kernel_rfl) (Or.inl ⟨by kernel_rfl, ?_⟩) hS ?_
  rotate_left
  · (intro w9 hS9; obtain ⟨s0, s1, s2⟩ := hS9; go_simp); (try with_reducible rfl)
  try simp only [Act.put, List.getElem_toArray, List.getElem_cons_succ, List.getElem_cons_zero, List.setIfInBounds_toArray, List.set_cons_zero, List.set_cons_succ]
  refine wpU_take (i := 15) (v := ?_) rfl (by kernel_rfl) (by kernel_rfl) (fun _ _ _ h => h) _ _ _ _ (by kernel_rfl) (by kernel_rfl) (by kernel_rfl) (Or.inl ⟨by kernel_rfl, ?_⟩) hS ?_
  rotate_left
  · (intro w9 hS9; obtain ⟨s0, s1, s2⟩ := hS9; go_simp); (try with_reducible rfl)
  try simp only [Act.put, List.getElem_toArray, List.getElem_cons_succ, List.getElem_cons_zero, List.setIfInBounds_toArray, List.set_cons_zero, List.set_cons_succ]
  refine wpU_take (i := 16) (v := ?_) rfl (by kernel_rfl) (by kernel_rfl) (fun _ _ _ h => h) _ _ _ _ (by kernel_rfl) (by kernel_rfl) (by kernel_rfl) (Or.inl ⟨by kernel_rfl, ?_⟩) hS ?_
  rotate_left
  · (intro w9 hS9; obtain ⟨s0, s1, s2⟩ := hS9; go_simp); (try with_reducible rfl)
  try simp only [Act.put, List.getElem_toArray, List.getElem_cons_succ, List.getElem_cons_zero, List.setIfInBounds_toArray, List.set_cons_zero, List.set_cons_succ]
  refine wpU_take (i := 17) (v := ?_) rfl (by kernel_rfl) (by kernel_rfl) (fun _ _ _ h => h) _ _ _ _ (by kernel_rfl) (by kernel_rfl) (by kernel_rfl) (Or.inl ⟨by kernel_rfl, ?_⟩) hS ?_
  rotate_left
  · (intro w9 hS9; obtain ⟨s0, s1, s2⟩ := hS9; go_simp); (try with_reducible rfl)
  try simp only [Act.put, List.getElem_toArray, List.getElem_cons_succ, List.getElem_cons_zero, List.setIfInBounds_toArray, List.set_cons_zero, List.set_cons_succ]
  refine wpU_take (i := 18) (v := ?_) rfl (by kernel_rfl) (by kernel_rfl) (fun _ _ _ h => h) _ _ _ _ (by kernel_rfl) (by kernel_rfl) (by kernel_rfl) (Or.inl ⟨by kernel_rfl, ?_⟩) hS ?_
  rotate_left
  · (intro w9 hS9; obtain ⟨s0, s1, s2⟩ := hS9; go_simp); (try with_reducible rfl)
  try simp only [Act.put, List.getElem_toArray, List.getElem_cons_succ, List.getElem_cons_zero, List.setIfInBounds_toArray, List.set_cons_zero, List.set_cons_succ]
  refine wpU_take (i := 19) (v := ?_) rfl (by kernel_rfl) (by kernel_rfl) (fun _ _ _ h => h) _ _ _ _ (by kernel_rfl) (by kernel_rfl) (by kernel_rfl) (Or.inl ⟨by kernel_rfl, ?_⟩) hS ?_
  rotate_left
  · (intro w9 hS9; obtain ⟨s0, s1, s2⟩ := hS9; go_simp); (try with_reducible rfl)
  try simp only [Act.put, List.getElem_toArray, List.getElem_cons_succ, List.getElem_cons_zero, List.setIfInBounds_toArray, List.set_cons_zero, List.set_cons_succ]
  refine wpU_take (i := 20) (v := ?_) rfl (by kernel_rfl) (by kernel_rfl) (fun _ _ _ h => h) _ _ _ _ (by kernel_rfl) (by kernel_rfl) (by kernel_rfl) (Or.inl ⟨by kernel_rfl, ?_⟩) hS ?_
  rotate_left
  · (intro w9 hS9; obtain ⟨s0, s1, s2⟩ := hS9; go_simp); (try with_reducible rfl)
  try simp only [Act.put, List.getElem_toArray, List.getElem_cons_succ, List.getElem_cons_zero, List.setIfInBounds_toArray, List.set_cons_zero, List.set_cons_succ]
  refine wpU_take (i := 21) (v := ?_) rfl (by kernel_rfl) (by kernel_rfl) (fun _ _ _ h => h) _ _ _ _ (by kernel_rfl) (by kernel_rfl) (by kernel_rfl) (Or.inl ⟨by kernel_rfl, ?_⟩) hS ?_
  rotate_left
  · (intro w9 hS9; obtain ⟨s0, s1, s2⟩ := hS9; go_simp); (try with_reducible rfl)
  try simp only [Act.put, List.getElem_toArray, List.getElem_cons_succ, List.getElem_cons_zero, List.setIfInBounds_toArray, List.set_cons_zero, List.set_cons_succ]
  refine wpU_take (i := 22) (v := ?_) rfl (by kernel_rfl) (by kernel_rfl) (fun _ _ _ h => h) _ _ _ _ (by kernel_rfl) (by kernel_rfl) (by kernel_rfl) (Or.inl ⟨by kernel_rfl, ?_⟩) hS ?_
  rotate_left
  · (intro w9 hS9; obtain ⟨s0, s1, s2⟩ := hS9; go_simp); (try with_reducible rfl)
  try simp only [Act.put, List.getElem_toArray, List.getElem_cons_succ, List.getElem_cons_zero, List.setIfInBounds_toArray, List.set_cons_zero, List.set_cons_succ]
  refine wpU_take (i := 24) (v := ?_) rfl (by kernel_rfl) (by kernel_rfl) (fun _ _ _ h => h) _ _ _ _ (by kernel_rfl) (by kernel_rfl) (by kernel_rfl) (Or.inl ⟨by kernel_rfl, ?_⟩) hS ?_
  rotate_left
  · (intro w9 hS9; obtain ⟨s0, s1, s2⟩ := hS9; go_simp); (try with_reducible rfl)
  try simp only [Act.put, List.getElem_toArray, List.getElem_cons_succ, List.getElem_cons_zero, List.setIfInBounds_toArray, List.set_cons_zero, List.set_cons_succ]
  refine wpU_next (i := 23) rfl (by kernel_rfl) (fun K hK => ?_)
  go_simp
  refine (nd.lawback_ok _ q2 (⟨0, [5], [⟨2, 1, 0⟩], [1], []⟩ : Nd) (by decide) W5.drew HQ5.out).mono ?_
  rintro e w7 ⟨q7, rfl, hV7, hf7⟩
  have HX7 := hid (HX5.out.fr hf7 fun h => h)
  have HN7 := hid (HN5.out.fr hf7 fun h => h)
  have HK7 := hid (HK5.out.fr hf7 fun h => h)
  have H7 := hid (H5.out.nil hf7)
  have HV7 := hid (HV5.out.nil hf7)
  have HQ7 := hid hV7
  have hS7 : (fun w' : World => (w'.cell? ⟨xb, 0, none⟩ = some (.int .i64 0) ∧ w'.cell? ⟨xb, 1, none⟩ = some (.slice q2.A1 1 q2.c1) ∧ w'.cell? ⟨xb, 2, none⟩ = some (.slice q2.A2 1 q2.c2) ∧ w'.cell? ⟨xb, 3, none⟩ = some (.slice q2.A3 1 q2.c3) ∧ w'.cell? ⟨xb, 4, none⟩ = some (.slice q2.A4 0 q2.c4)) ∧ (w'.cell? ⟨nb, 0, none⟩ = some (.int .i64 0) ∧ w'.cell? ⟨nb, 1, none⟩ = some (.slice q0.A1 1 q0.c1) ∧ w'.cell? ⟨nb, 2, none⟩ = some (.slice q0.A2 1 q0.c2) ∧ w'.cell? ⟨nb, 3, none⟩ = some (.slice q0.A3 1 q0.c3) ∧ w'.cell? ⟨nb, 4, none⟩ = some (.slice q0.A4 0 q0.c4)) ∧ (w'.cell? ⟨kb, 0, none⟩ = some (.int .i64 2) ∧ w'.cell? ⟨kb, 1, none⟩ = some (.int .i64 1) ∧ w'.cell? ⟨kb, 2, none⟩ = some (.int .i64 3))) w7 := ⟨nd_cells HX7.out, nd_cells HN7.out, HK7.out.cell 0, HK7.out.cell 1, HK7.out.cell 2⟩
  clear hV7 hf7 HX5 HN5 HK5 H5 HV5 HQ5 hS
  refine hK.out _ _ (fun _ => hS7) ?_
  clear hK K
  try simp only [Act.put, List.getElem_toArray, List.getElem_cons_succ, List.getElem_cons_zero, List.setIfInBounds_toArray, List.set_cons_zero, List.set_cons_succ]
  refine wpU_next (i := 25) rfl (by kernel_rfl) (fun K hK => ?_)
  go_simp
  refine (nd.refsame_ok _ _ q7 q0 (⟨0, [5], [⟨2, 1, 0⟩], [1], []⟩ : Nd) rfl w7 HQ7.out HV7.out).mono ?_
  rintro e w8 ⟨rfl, hf8⟩
  have HX8 := hid (HX7.out.fr hf8 fun h => h)
  have HN8 := hid (HN7.out.fr hf8 fun h => h)
  have HK8 := hid (HK7.out.fr hf8 fun h => h)
  have H8 := hid (H7.out.nil hf8)
  have hS8 : (fun w' : World => (w'.cell? ⟨xb, 0, none⟩ = some (.int .i64 0) ∧ w'.cell? ⟨xb, 1, none⟩ = some (.slice q2.A1 1 q2.c1) ∧ w'.cell? ⟨xb, 2, none⟩ = some (.slice q2.A2 1 q2.c2) ∧ w'.cell? ⟨xb, 3, none⟩ = some (.slice q2.A3 1 q2.c3) ∧ w'.cell? ⟨xb, 4, none⟩ = some (.slice q2.A4 0 q2.c4)) ∧ (w'.cell? ⟨nb, 0, none⟩ = some (.int .i64 0) ∧ w'.cell? ⟨nb, 1, none⟩ = some (.slice q0.A1 1 q0.c1) ∧ w'.cell? ⟨nb, 2, none⟩ = some (.slice q0.A2 1 q0.c2) ∧ w'.cell? ⟨nb, 3, none⟩ = some (.slice q0.A3 1 q0.c3) ∧ w'.cell? ⟨nb, 4, none⟩ = some (.slice q0.A4 0 q0.c4)) ∧ (w'.cell? ⟨kb, 0, none⟩ = some (.int .i64 2) ∧ w'.cell? ⟨kb, 1, none⟩ = some (.int .i64 1) ∧ w'.cell? ⟨kb, 2, none⟩ = some (.int .i64 3))) w8 := ⟨nd_cells HX8.out, nd_cells HN8.out, HK8.out.cell 0, HK8.out.cell 1, HK8.out.cell 2⟩
  clear hf8 HX7 HN7 HK7 H7 HV7 HQ7 hS7
  refine hK.out _ _ (fun _ => hS8) ?_
  clear hK K
  try simp only [Act.put, List.getElem_toArray, List.getElem_cons_succ, List.getElem_cons_zero, List.setIfInBounds_toArray, List.set_cons_zero, List.set_cons_succ]
  refine wpU_take (i := 26) (v := ?_) rfl (by kernel_rfl) (by kernel_rfl) (fun _ _ _ h => h) _ _ _ _ (by kernel_rfl) (by kernel_rfl) (by kernel_rfl) (Or.inl ⟨by kernel_rfl, ?_⟩) hS8 ?_
  rotate_left
  · (intro w9 hS9; obtain ⟨s0, s1, s2⟩ := hS9; go_simp); (try with_reducible rfl)
  try simp only [Act.put, List.getElem_toArray, List.getElem_cons_succ, List.getElem_cons_zero, List.setIfInBounds_toArray, List.set_cons_zero, List.set_cons_succ]
  refine wpU_take (i := 27) (v := ?_) rfl (by kernel_rfl) (by kernel_rfl) (fun _ _ _ h => h) _ _ _ _ (by kernel_rfl) (by kernel_rfl) (by kernel_rfl) (Or.inl ⟨by kernel_rfl, ?_⟩) hS8 ?_
  rotate_left
  · (intro w9 hS9; obtain ⟨s0, s1, s2⟩ := hS9; go_simp); (try with_reducible rfl)
  try simp only [Act.put, List.getElem_toArray, List.getElem_cons_succ, List.getElem_cons_zero, List.setIfInBounds_toArray, List.set_cons_zero, List.set_cons_succ]
  refine wpU_take (i := 28) (v := ?_) rfl (by kernel_rfl) (by kernel_rfl) (fun _ _ _ h => h) _ _ _ _ (by kernel_rfl) (by kernel_rfl) (by kernel_rfl) (Or.inl ⟨by kernel_rfl, ?_⟩) hS8 ?_
  rotate_left
  · (intro w9 hS9; obtain ⟨s0, s1, s2⟩ := hS9; go_simp); (try with_reducible rfl)
  try simp only [Act.put, List.getElem_toArray, List.getElem_cons_succ, List.getElem_cons_zero, List.setIfInBounds_toArray, List.set_cons_zero, List.set_cons_succ]
  refine wpU_next (i := 29) rfl (by kernel_rfl) (fun K hK => ?_)
  go_simp
  refine (sg_free H8.out.g).mono ?_
  rintro e w9 ⟨rfl, hf9⟩
  have HX9 := hid (HX8.out.fr hf9 fun h => h)
  have HN9 := hid (HN8.out.fr hf9 fun h => h)
  have HK9 := hid (HK8.out.fr hf9 fun h => h)
  have H9 := hid (H8.out.nil hf9)
  have hS9 : (fun w' : World => (w'.cell? ⟨xb, 0, none⟩ = some (.int .i64 0) ∧ w'.cell? ⟨xb, 1, none⟩ = some (.slice q2.A1 1 q2.c1) ∧ w'.cell? ⟨xb, 2, none⟩ = some (.slice q2.A2 1 q2.c2) ∧ w'.cell? ⟨xb, 3, none⟩ = some (.slice q2.A3 1 q2.c3) ∧ w'.cell? ⟨xb, 4, none⟩ = some (.slice q2.A4 0 q2.c4)) ∧ (w'.cell? ⟨nb, 0, none⟩ = some (.int .i64 0) ∧ w'.cell? ⟨nb, 1, none⟩ = some (.slice q0.A1 1 q0.c1) ∧ w'.cell? ⟨nb, 2, none⟩ = some (.slice q0.A2 1 q0.c2) ∧ w'.cell? ⟨nb, 3, none⟩ = some (.slice q0.A3 1 q0.c3) ∧ w'.cell? ⟨nb, 4, none⟩ = some (.slice q0.A4 0 q0.c4)) ∧ (w'.cell? ⟨kb, 0, none⟩ = some (.int .i64 2) ∧ w'.cell? ⟨kb, 1, none⟩ = some (.int .i64 1) ∧ w'.cell? ⟨kb, 2, none⟩ = some (.int .i64 3))) w9 := ⟨nd_cells HX9.out, nd_cells HN9.out, HK9.out.cell 0, HK9.out.cell 1, HK9.out.cell 2⟩
  clear hf9 HX8 HN8 HK8 H8 hS8
  rw [show sumN [⟨3, 61⟩] = 61 from rfl]
  refine hK.out _ _ (fun _ => hS9) ?_
  clear hK K
  try simp only [Act.put, List.getElem_toArray, List.getElem_cons_succ, List.getElem_cons_zero, List.setIfInBounds_toArray, List.set_cons_zero, List.set_cons_succ]
  refine wpU_take (i := 30) (v := ?_) rfl (by kernel_rfl) (by kernel_rfl) (fun _ _ _ h => h) _ _ _ _ (by kernel_rfl) (by kernel_rfl) (by kernel_rfl) (Or.inl ⟨by kernel_rfl, ?_⟩) hS9 ?_
  rotate_left
  · (intro w9 hS9; obtain ⟨s0, s1, s2⟩ := hS9; go_simp); (try with_reducible rfl)
  try simp only [Act.put, List.getElem_toArray, List.getElem_cons_succ, List.getElem_cons_zero, List.setIfInBounds_toArray, List.set_cons_zero, List.set_cons_succ]
  refine wpU_take (i := 31) (v := ?_) rfl (by kernel_rfl) (by kernel_rfl) (fun _ _ _ h => h) _ _ _ _ (by kernel_rfl) (by kernel_rfl) (by kernel_rfl) (Or.inl ⟨by kernel_rfl, ?_⟩) hS9 ?_
  rotate_left
  · (intro w9 hS9; obtain ⟨s0, s1, s2⟩ := hS9; go_simp); (try with_reducible rfl)
  try simp only [Act.put, List.getElem_toArray, List.getElem_cons_succ, List.getElem_cons_zero, List.setIfInBounds_toArray, List.set_cons_zero, List.set_cons_succ]
  refine wpU_take (i := 32) (v := ?_) rfl (by kernel_rfl) (by kernel_rfl) (fun _ _ _ h => h) _ _ _ _ (by kernel_rfl) (by kernel_rfl) (by kernel_rfl) (Or.inl ⟨by kernel_rfl, ?_⟩) hS9 ?_
  rotate_left
  · (intro w9 hS9; obtain ⟨s0, s1, s2⟩ := hS9; go_simp); (try with_reducible rfl)
  try simp only [Act.put, List.getElem_toArray, List.getElem_cons_succ, List.getElem_cons_zero, List.setIfInBounds_toArray, List.set_cons_zero, List.set_cons_succ]
  refine wpU_take (i := 33) (v := ?_) rfl (by kernel_rfl) (by kernel_rfl) (fun _ _ _ h => h) _ _ _ _ (by kernel_rfl) (by kernel_rfl) (by kernel_rfl) (Or.inl ⟨by kernel_rfl, ?_⟩) hS9 ?_
  rotate_left
  · (intro w9 hS9; obtain ⟨s0, s1, s2⟩ := hS9; go_simp); (try with_reducible rfl)
  try simp only [Act.put, List.getElem_toArray, List.getElem_cons_succ, List.getElem_cons_zero, List.setIfInBounds_toArray, List.set_cons_zero, List.set_cons_succ]
  refine wpU_next (i := 34) rfl (by kernel_rfl) (fun K hK => ?_)
  go_simp
  refine (sg_uses H9.out.g 2 (by decide)).mono ?_
  rintro e w10 ⟨rfl, rfl⟩
  rw [show usesI (uput [] ⟨2, 1, 1⟩) 2 = 1 from by decide]
  refine hK.out _ _ (fun _ => hS9) ?_
  clear hK K
  try simp only [Act.put, List.getElem_toArray, List.getElem_cons_succ, List.getElem_cons_zero, List.setIfInBounds_toArray, List.set_cons_zero, List.set_cons_succ]
  refine wpU_take (i := 35) (v := ?_) rfl (by kernel_rfl) (by kernel_rfl) (fun _ _ _ h => h) _ _ _ _ (by kernel_rfl) (by kernel_rfl) (by kernel_rfl) (Or.inl ⟨by kernel_rfl, ?_⟩) hS9 ?_
  rotate_left
  · (intro w9 hS9; obtain ⟨s0, s1, s2⟩ := hS9; go_simp); (try with_reducible rfl)
  try simp only [Act.put, List.getElem_toArray, List.getElem_cons_succ, List.getElem_cons_zero, List.setIfInBounds_toArray, List.set_cons_zero, List.set_cons_succ]
  refine wpU_take (i := 36) (v := ?_) rfl (by kernel_rfl) (by kernel_rfl) (fun _ _ _ h => h) _ _ _ _ (by kernel_rfl) (by kernel_rfl) (by kernel_rfl) (Or.inl ⟨by kernel_rfl, ?_⟩) hS9 ?_
  rotate_left
  · (intro w9 hS9; obtain ⟨s0, s1, s2⟩ := hS9; go_simp); (try with_reducible rfl)
  try simp only [Act.put, List.getElem_toArray, List.getElem_cons_succ, List.getElem_cons_zero, List.setIfInBounds_toArray, List.set_cons_zero, List.set_cons_succ]
  refine wpU_next (i := 37) rfl (by kernel_rfl) (fun K hK => ?_)
  go_simp
  refine hK.out _ _ (fun h => absurd rfl h.1) ?_
  refine wpU_done (by kernel_rfl) ?_ _
  clear hK K
  go_wp2
  go_ret
  exact ⟨rfl, H9.out.g.fr0⟩
end Go.Proofs.YtgoghmblfdlnbaaGreat
end

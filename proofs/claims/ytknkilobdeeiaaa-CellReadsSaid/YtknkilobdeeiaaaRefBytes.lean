/- The reference's Cell (chapter 4): Bytes. -/
import Derived.Test.YtknkilobdeeiaaaRefCell
import Derived.Test.YtknkilobdeeiaaaStep
import Derived.Deep.RegionHeld3
set_option linter.unusedSimpArgs false
set_option linter.unusedVariables false
namespace Go.Proofs.Ytknkilobdeeiaaa
open Go.RowKit

theorem bys_take_drop (xs : List Nat) (a n : Nat) : ((bys xs).drop a).take n = bys ((xs.drop a).take n) := by simp [bys, List.map_take, List.map_drop]

set_option maxRecDepth 100000 in
set_option maxHeartbeats 1600000 in
theorem refcellbytes (S : Nat → Prop) (cb : Nat) (xs bs : List Nat) (most : Int) (hx : xs.length ≤ 1000000) (hB : Byt xs) (w : World) (hS : ¬ S cb) (hC : IsC w S cb xs bs 0) :
    Calls Try.prog 30 #[.pointer (some ⟨cb, 0, none⟩), .int .i64 most] w fun e w' => RBytPost w S cb xs e w' (byt most bs) := by
  go_enter Try.func30, Try.ntmps30
  go_wp2_with fail
  refine (refcellnum S cb xs bs hx hB w hS hC).mono ?_
  intro e w1 hp
  cases hn : num bs with
  | bad er =>
    rw [hn] at hp
    obtain ⟨rfl, hf1, A, c, a, hb, hz⟩ := hp
    have hr : byt most bs = .bad er := by simp [byt, hn]
    have Hr := hid hr; clear hr hn
    have c2 : w1.cell? ⟨cb, 2, none⟩ = some (.int .i64 er) := hb.cell 2
    have hd : (er == 0) = false := by simpa using hz
    have Hz := hid hz; clear hz
    go_wp2
    go_ret
    rw [Hr.out]
    exact ⟨rfl, hf1, A, c, a, hb, Hz.out⟩
  | ok n t =>
    rw [hn] at hp
    obtain ⟨rfl, hf1, A, c, a, hb, hv, ha, hdr⟩ := hp
    have hbt : byt most bs = if most < n then .bad 3 else if t.length < n then .bad 2 else .ok (t.take n) (t.drop n) := by simp [byt, hn]
    have hxp : 0 < xs.length := by
      obtain ⟨_, _, _, _, _, h, _⟩ := hC
      have := num_le hn
      omega
    have Hbt := hid hbt; clear hbt hn
    have Hdr := hid hdr; clear hdr
    have c0 : w1.cell? ⟨cb, 0, none⟩ = some (.slice A xs.length c) := hb.cell 0
    have c1 : w1.cell? ⟨cb, 1, none⟩ = some (.int .i64 (a : Int)) := hb.cell 1
    have c2 : w1.cell? ⟨cb, 2, none⟩ = some (.int .i64 0) := hb.cell 2
    have z1 : w1.frozen? ⟨cb, 1, none⟩ = false := hb.frozen 1
    have z2 : w1.frozen? ⟨cb, 2, none⟩ = false := hb.frozen 2
    by_cases h1 : most < n
    · go_wp2
      go_ret
      rw [Hbt.out, if_pos h1]
      exact ⟨rfl, hf1.setCell (a := ⟨cb, 2, none⟩) (.inl rfl) _, A, c, a, hb.set 2 _, by decide⟩
    · by_cases h2 : t.length < n
      · go_wp2_with fail
        go_quiet (fail)
        go_wp2
        go_ret
        rw [Hbt.out, if_neg (by omega), if_pos h2]
        exact ⟨rfl, (hf1.drewN _).setCell (a := ⟨cb, 2, none⟩) (.inl rfl) _, A, c, a, (hb.drewN _).set 2 _, by decide⟩
      · have h3 : n ≤ t.length := by omega
        have hcut := hv.cut (l := a) (h := a + n) (by omega) (by omega)
        have hlc : xs.length ≤ c := by obtain ⟨_, _, _, e9, hlc, _⟩ := hv; injection e9 with _ _ e9; omega
        by_cases hx0 : xs.length = 0
        · omega
        obtain ⟨b, o, rfl, hSb, hbl⟩ : ∃ b o, A = some ⟨b, o, none⟩ ∧ S b ∧ b < w1.heap.size := by
          obtain ⟨_, _, _, e9, _, _, _, _, h9⟩ := hv
          injection e9 with e9 _ _
          obtain ⟨b, o, h10, h11, h12, _⟩ := h9 (by omega)
          exact ⟨b, o, e9.trans h10, h11, h12⟩
        have hca : a < c ∨ a = c := by omega
        rw [show a + n - a = n by omega, Nat.mul_one, Nat.mul_one, bys_take_drop] at hcut
        rcases hca with hca | hca
        · unfold sliced at hcut
          have hi1 : (0 : Int) ≤ (a : Int) := by omega
          have hi2 : (a : Int) ≤ (a : Int) + (n : Int) := by omega
          have hi3 : (a : Int) + (n : Int) ≤ (c : Int) := by omega
          go_wp2_with fail
          go_quiet (fail)
          go_wp2_with fail
          have hb2 : Blk ((w1.drewN nq).setCell ⟨cb, 1, none⟩ (.int .i64 ((a : Int) + (n : Int)))) cb #[.slice (some ⟨b, o, none⟩) xs.length c, .int .i64 ((a : Int) + (n : Int)), .int .i64 0] 52 := (hb.drewN nq).set 1 _
          have hfa : Fr (fun k => k = cb) w1 ((w1.drewN nq).setCell ⟨cb, 1, none⟩ (.int .i64 ((a : Int) + (n : Int)))) := ((Fr.refl (fun k => k = cb) w1).drewN nq).setCell (a := ⟨cb, 1, none⟩) (.inl rfl) _
          generalize (w1.drewN nq).setCell ⟨cb, 1, none⟩ (.int .i64 ((a : Int) + (n : Int))) = W2 at hb2 hfa ⊢
          have d0 : W2.cell? ⟨cb, 0, none⟩ = some (.slice (some ⟨b, o, none⟩) xs.length c) := hb2.cell 0
          have d1 : W2.cell? ⟨cb, 1, none⟩ = some (.int .i64 ((a : Int) + (n : Int))) := hb2.cell 1
          have hcut2 := hcut.fr hfa (fun k hk _ (h : k = cb) => hS (h ▸ hk))
          have hca1 : ¬ c = a := by omega
          have hi4 : (0 : Int) ≤ (a : Int) + (n : Int) := by omega
          have hi5 : a + n ≤ c := by omega
          have hi6 : a ≤ a + n := by omega
          have ha6 : a ≤ 1000000 := by omega
          have hn6 : n ≤ 1000000 := by omega
          have hcut6 : View W2 S 1 (.slice (some ⟨b, o + a, none⟩) (a + n - a) (c - a)) n (bys ((xs.drop a).take n)) := by
            rw [show a + n - a = n by omega] at hcut2 ⊢
            simpa [hca1, Addr.add_lit] using hcut2
          rw [Hdr.out] at hcut6
          have Hcut6 := hid hcut6; clear hcut6
          have hw1 : wrap64 ((a : Int) + (n : Int) - (n : Int)) = (a : Int) := by unfold wrap64; omega
          have hw2 : wrap64 (a : Int) = (a : Int) := by unfold wrap64; omega
          have hw3 : IntKind.i64.wrap ((a : Int) + (n : Int) - (n : Int)) = (a : Int) := by rw [IntKind.wrap_i64]; omega
          have hw4 : IntKind.i64.wrap (a : Int) = (a : Int) := by rw [IntKind.wrap_i64]; omega
          clear hi4 hi5 hi6
          have hb3 := hid hb2; have hb4 := hid hb; have hv4 := hid hv; have hcut4 := hid hcut; have hf4 := hid hf1; have hfa4 := hid hfa; have hC4 := hid hC; have hcut5 := hid hcut2; have ha4 := hid ha; have h34 := hid h3; have h14 := hid h1; have hS4 := hid hS
          clear hb2 hb hv hcut hf1 hfa hC c0 c1 c2 z1 z2 hx0 hcut2 ha h2 h3 h1 hB hS hSb hbl hca hlc
          go_region_held3 (fun w' => w'.cell? ⟨cb, 0, none⟩ = some (.slice (some ⟨b, o, none⟩) xs.length c) ∧ w'.cell? ⟨cb, 1, none⟩ = some (.int .i64 ((a : Int) + (n : Int)))) (first | go_keep | exact ⟨q2.cell (w := W2.drew) d0 (fun h => by simp [Value.ownBlock] at h), q2.cell (w := W2.drew) d1 (fun h => by simp [Value.ownBlock] at h)⟩) ((refine step_app_view rfl _ _ 24 (by rfl) (.int .u8 0) 1 Try.underlying24 info_u8 rfl (by decide) (Row.nil _ Nil _ _) (by rfl) Hcut6.out.drew (by rfl) (bys_cell _) (by clear hw1 hw2 hw3 hw4; omega) (by decide) ?_; intro A7 cap7 w7 q1 q2))
          clear hw1 hw2 hw3 hw4
          have r1 : Row w7 (New w) 5 1 (.slice A7 (0 + n) cap7) (0 + n) (bys (t.take n)) := by
            refine Row.mono (by simpa using q1) fun k hk => ?_
            have hs1 := hf4.out.size
            have hs2 := hfa4.out.size
            rcases hk with hk | hk
            · simp [Value.ownBlock] at hk
            · have hk2 : W2.heap.size ≤ k := hk
              unfold New; omega
          have f2 : Fr Nil W2 w7 := (((Fr.refl Nil W2).drew).trans q2 (fun k hk => by simp [Value.ownBlock] at hk))
          go_wp2
          go_ret
          have hl : (t.take n).length = n := by rw [List.length_take]; have := h34.out; omega
          rw [Nat.zero_add] at r1
          rw [Hbt.out, if_neg (by omega), if_neg (by have := h34.out; omega)]
          refine ⟨(hf4.out.then hfa4.out).thenNil f2, ⟨_, c, a + n, hb3.out.fr f2 (fun h => h), (hv4.out.fr hfa4.out (fun k hk _ (h : k = cb) => hS4.out (h ▸ hk))).fr f2 (fun _ _ _ h => h), ?_, ?_⟩, A7, cap7, by rw [hl]; rfl, by rw [hl]; exact r1⟩
          · rw [List.length_drop]; have := h34.out; have := ha4.out; omega
          · rw [← List.drop_drop, Hdr.out]
        · subst hca
          unfold sliced at hcut
          have hi1 : (0 : Int) ≤ (a : Int) := by omega
          have hi2 : (a : Int) ≤ (a : Int) + (n : Int) := by omega
          have hi3 : (a : Int) + (n : Int) ≤ (a : Int) := by omega
          go_wp2_with fail
          go_quiet (fail)
          go_wp2_with fail
          have hb2 : Blk ((w1.drewN nq).setCell ⟨cb, 1, none⟩ (.int .i64 ((a : Int) + (n : Int)))) cb #[.slice (some ⟨b, o, none⟩) xs.length a, .int .i64 ((a : Int) + (n : Int)), .int .i64 0] 52 := (hb.drewN nq).set 1 _
          have hfa : Fr (fun k => k = cb) w1 ((w1.drewN nq).setCell ⟨cb, 1, none⟩ (.int .i64 ((a : Int) + (n : Int)))) := ((Fr.refl (fun k => k = cb) w1).drewN nq).setCell (a := ⟨cb, 1, none⟩) (.inl rfl) _
          generalize (w1.drewN nq).setCell ⟨cb, 1, none⟩ (.int .i64 ((a : Int) + (n : Int))) = W2 at hb2 hfa ⊢
          have d0 : W2.cell? ⟨cb, 0, none⟩ = some (.slice (some ⟨b, o, none⟩) xs.length a) := hb2.cell 0
          have d1 : W2.cell? ⟨cb, 1, none⟩ = some (.int .i64 ((a : Int) + (n : Int))) := hb2.cell 1
          have hcut2 := hcut.fr hfa (fun k hk _ (h : k = cb) => hS (h ▸ hk))
          have hi4 : (0 : Int) ≤ (a : Int) + (n : Int) := by omega
          have hi5 : a + n ≤ a := by omega
          have hi6 : a ≤ a + n := by omega
          have ha6 : a ≤ 1000000 := by omega
          have hn6 : n ≤ 1000000 := by omega
          have hcut6 : View W2 S 1 (.slice (some ⟨b, o, none⟩) 0 0) n (bys ((xs.drop a).take n)) := by
            have hn0 : n = 0 := by omega
            subst hn0
            simpa using hcut2
          rw [Hdr.out] at hcut6
          have Hcut6 := hid hcut6; clear hcut6
          have hw1 : wrap64 ((a : Int) + (n : Int) - (n : Int)) = (a : Int) := by unfold wrap64; omega
          have hw2 : wrap64 (a : Int) = (a : Int) := by unfold wrap64; omega
          have hw3 : IntKind.i64.wrap ((a : Int) + (n : Int) - (n : Int)) = (a : Int) := by rw [IntKind.wrap_i64]; omega
          have hw4 : IntKind.i64.wrap (a : Int) = (a : Int) := by rw [IntKind.wrap_i64]; omega
          clear hi4 hi5 hi6
          have hb3 := hid hb2; have hb4 := hid hb; have hv4 := hid hv; have hcut4 := hid hcut; have hf4 := hid hf1; have hfa4 := hid hfa; have hC4 := hid hC; have hcut5 := hid hcut2; have ha4 := hid ha; have h34 := hid h3; have h14 := hid h1; have hS4 := hid hS
          clear hb2 hb hv hcut hf1 hfa hC c0 c1 c2 z1 z2 hx0 hcut2 ha h2 h3 h1 hB hS hSb hbl hlc
          go_region_held3 (fun w' => w'.cell? ⟨cb, 0, none⟩ = some (.slice (some ⟨b, o, none⟩) xs.length a) ∧ w'.cell? ⟨cb, 1, none⟩ = some (.int .i64 ((a : Int) + (n : Int)))) (first | go_keep | exact ⟨q2.cell (w := W2.drew) d0 (fun h => by simp [Value.ownBlock] at h), q2.cell (w := W2.drew) d1 (fun h => by simp [Value.ownBlock] at h)⟩) ((refine step_app_view rfl _ _ 24 (by rfl) (.int .u8 0) 1 Try.underlying24 info_u8 rfl (by decide) (Row.nil _ Nil _ _) (by rfl) Hcut6.out.drew (by rfl) (bys_cell _) (by clear hw1 hw2 hw3 hw4; omega) (by decide) ?_; intro A7 cap7 w7 q1 q2))
          clear hw1 hw2 hw3 hw4
          have r1 : Row w7 (New w) 5 1 (.slice A7 (0 + n) cap7) (0 + n) (bys (t.take n)) := by
            refine Row.mono (by simpa using q1) fun k hk => ?_
            have hs1 := hf4.out.size
            have hs2 := hfa4.out.size
            rcases hk with hk | hk
            · simp [Value.ownBlock] at hk
            · have hk2 : W2.heap.size ≤ k := hk
              unfold New; omega
          have f2 : Fr Nil W2 w7 := (((Fr.refl Nil W2).drew).trans q2 (fun k hk => by simp [Value.ownBlock] at hk))
          go_wp2
          go_ret
          have hl : (t.take n).length = n := by rw [List.length_take]; have := h34.out; omega
          rw [Nat.zero_add] at r1
          rw [Hbt.out, if_neg (by omega), if_neg (by have := h34.out; omega)]
          refine ⟨(hf4.out.then hfa4.out).thenNil f2, ⟨_, a, a + n, hb3.out.fr f2 (fun h => h), (hv4.out.fr hfa4.out (fun k hk _ (h : k = cb) => hS4.out (h ▸ hk))).fr f2 (fun _ _ _ h => h), ?_, ?_⟩, A7, cap7, by rw [hl]; rfl, by rw [hl]; exact r1⟩
          · rw [List.length_drop]; have := h34.out; have := ha4.out; omega
          · rw [← List.drop_drop, Hdr.out]
end Go.Proofs.Ytknkilobdeeiaaa

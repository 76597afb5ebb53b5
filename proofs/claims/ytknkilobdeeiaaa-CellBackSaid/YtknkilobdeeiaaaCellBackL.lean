/- The law CellBack: its walk. -/
import Derived.Test.YtknkilobdeeiaaaCellBack
set_option linter.unusedSimpArgs false
set_option linter.unusedVariables false
namespace Go.Proofs.Ytknkilobdeeiaaa
open Go.RowKit

theorem encsP_take (ps : List Prt) (i : Nat) (h : i < ps.length) : encsP (ps.take (i + 1)) = encsP (ps.take i) ++ encP ps[i] := by
  rw [← encsP_snoc]
  congr 1
  rw [List.take_succ_eq_append_getElem h]

theorem encsP_pos (ps : List Prt) (h : ∀ p ∈ ps, p.b.length ≤ 500) (hn : 0 < ps.length) : 0 < (encsP ps).length := by
  cases ps with
  | nil => simp at hn
  | cons p ps => rw [encsP_cons, List.length_append]; have := (encP_len p (h p (by simp))).2; omega

set_option maxRecDepth 100000 in
set_option maxHeartbeats 8000000 in
theorem back_ok (v0 : Value) (cut : Int) (wc : (Lit.int .u16 cut).wf = true) (w : World) (hQ : ∃ n ps, Parts w (fun k => k < w.heap.size) v0 n ps) :
    Calls Try.prog 4 #[v0, .int .u16 cut] w fun e w' => e = .returned (.bool true) ∧ Fr Nil w w' := by
  obtain ⟨n, ps, hP⟩ := hQ
  have hpl := hP.1
  obtain ⟨A, c, rfl, hnm⟩ : ∃ A c, v0 = .slice A n c ∧ n ≤ 9223372036854775807 := let ⟨_, A, c, e, h, _⟩ := hP; ⟨A, c, e, h⟩
  have hbc := bounds_u16 wc
  obtain ⟨k, rfl⟩ : ∃ k : Nat, cut = k := ⟨cut.toNat, by omega⟩
  go_enter Try.func4, Try.ntmps4
  go_wp2_with fail
  refine (awake_ok _).mono ?_
  rintro e w1 ⟨rfl, hf1⟩
  have hl1 : Blk w1 w.heap.size #[.slice A n c] 22 := (Blk.new w _ _).fr hf1 (fun h => h)
  have hcl1 : w1.cell? ⟨w.heap.size, 0, none⟩ = some (.slice A n c) := hl1.cell 0
  replace hf1 : Fr Nil w w1 := ((Fr.refl Nil w).alloc _).then hf1
  by_cases hlen : 100 < n
  · go_wp2
    go_ret
    exact ⟨rfl, hf1⟩
  by_cases hlen0 : n = 0
  · subst hlen0
    go_wp2
    go_ret
    exact ⟨rfl, hf1⟩
  have hlen' : n ≤ 100 := by omega
  have hpos : 0 < n := by omega
  have hz00 : ((n : Int) == 0) = false := by simp; omega
  have hP1 := hP.fr hf1 (fun _ _ _ h => h)
  clear hP
  have hszw : w.heap.size < w1.heap.size := hl1.lt
  go_wp2_with fail
  clear hz00
  have hW0 : IsW (w1.alloc (.cells #[.slice none 0 0] 26)) (New w1) w1.heap.size [] := ⟨Nat.le_refl _, _, Blk.new _ _ _, Row.nil _ _ _ _⟩
  go_loopw [6] (fun v6 wr => ∃ i : Nat, v6 = .int .i64 i ∧ i ≤ n ∧ (∀ p ∈ ps.take i, p.b.length ≤ 500 ∧ Byt p.b) ∧ Fr Nil w1 wr ∧ IsW wr (New w1) w1.heap.size (encsP (ps.take i))) (fun v6 _ => n - (intOf v6).toNat)
  case atStart => exact ⟨0, rfl, by omega, by simp, (Fr.refl _ _).alloc _, hW0⟩
  case round =>
    obtain ⟨i, rfl, hi, hps, hfr, hW⟩ := hrel
    have hlr := hl1.fr hfr (fun h => h)
    have hcl : wr.cell? ⟨w.heap.size, 0, none⟩ = some (.slice A n c) := hlr.cell 0
    have hPr := hP1.fr hfr (fun _ _ _ h => h)
    have hxl : (encsP (ps.take i)).length ≤ 504 * (ps.take i).length := encsP_len _ (fun p hp => (hps p hp).1)
    have hxl2 : (ps.take i).length ≤ n := by rw [List.length_take]; omega
    by_cases hlt : i < n
    · have hi2 : i < ps.length := by omega
      have ht := encsP_take ps i hi2
      have htk : ps.take (i + 1) = ps.take i ++ [ps[i]] := List.take_succ_eq_append_getElem hi2
      obtain ⟨_, A', c', e, hn9, h5⟩ := hPr
      injection e with ea _ ec
      subst ea; subst ec
      obtain ⟨b, o, rfl, hS1b, hbl2, hcells⟩ := h5 (by omega)
      obtain ⟨p0, p1, Ab, cb, p2, p3, p4, p5, p6⟩ := hcells i ps[i] (List.getElem?_eq_getElem hi2)
      generalize ps[i] = p at *
      clear hcells h5
      generalize hg0 : encsP (ps.take i) = bs0 at *
      generalize hg1 : encsP (ps.take (i + 1)) = bs1 at *
      have Hg0 := hid hg0; have Hg1 := hid hg1; have Ht := hid ht; have Htk := hid htk; have Hps := hid hps
      clear hg0 hg1 ht htk hps
      by_cases hbig : 500 < p.b.length
      · go_wp2_with fail
        go_ret
        exact ⟨rfl, hf1.thenNil hfr⟩
      have hps2 : Hid (∀ p ∈ ps.take (i + 1), p.b.length ≤ 500 ∧ Byt p.b) := hid (by
        rw [Htk.out]
        intro q hq
        rcases List.mem_append.1 hq with hq | hq
        · exact Hps.out q hq
        · rw [List.mem_singleton] at hq; rw [hq]; exact ⟨by omega, p4⟩)
      by_cases hd : p.d = 2
      · have hdb : (p.d == 2) = true := by simpa using hd
        have henc : Hid (encP p = enc p.b.length ++ p.b) := hid (by unfold encP; rw [if_pos hd])
        have Hd := hid hd; clear hd
        go_wp2_with fail
        refine (bytes_ok (New w1) _ w1.heap.size bs0 _ p.b.length p.b (by omega) (by omega) wr hW p3 (fun k hk _ (h : k < w.heap.size) => by unfold New at hk; omega)).mono ?_
        rintro e w2 ⟨rfl, hf2, hW2⟩
        go_wp2
        go_roundw
        case rel =>
          refine ⟨i + 1, by go_num, by omega, hps2.out, hfr.thenNew hf2, ?_⟩
          rw [Hg1.out, Ht.out, henc.out, ← List.append_assoc]
          exact hW2.mono fun k hk => hk.elim id fun h => Nat.le_trans hfr.size h
        case measure => simp [intOf]; omega
      · have hdb : (p.d == 2) = false := by simpa using hd
        have henc : Hid (encP p = enc (val p.n)) := hid (by unfold encP; rw [if_neg hd])
        have Hd := hid hd; clear hd
        have hve := val_i64 p.n
        have hvl := val_lt p.n
        go_wp2_with fail
        clear hve
        refine (num_ok (New w1) w1.heap.size bs0 (val p.n) hvl (by omega) wr hW).mono ?_
        rintro e w2 ⟨rfl, hf2, hW2⟩
        go_wp2
        go_roundw
        case rel =>
          refine ⟨i + 1, by go_num, by omega, hps2.out, hfr.thenNew hf2, ?_⟩
          rw [Hg1.out, Ht.out, henc.out]
          exact hW2.mono fun k hk => hk.elim id fun h => Nat.le_trans hfr.size h
        case measure => simp [intOf]; omega
    · have hin : i = n := by omega
      have hall : ps.take i = ps := List.take_of_length_le (by omega)
      rw [hall] at hW hps hxl hxl2
      have hx0 := encsP_pos ps (fun p hp => (hps p hp).1) (by omega)
      have hxB := encsP_byt ps (fun p hp => (hps p hp).2)
      have hRall := fun rest => Rd.all ps (fun p hp => (hps p hp).1) rest
      have hRcut := fun k => Rd.cut ps (fun p hp => (hps p hp).1) k
      generalize encsP ps = xs at *
      have HRall := hid hRall; have HRcut := hid hRcut; have Hin := hid hin; have Hall := hid hall; have Hps := hid hps; have HxB := hid hxB
      clear hin hall hps hRall hRcut hxB
      go_wp2_with fail
      refine (out_ok _ w1.heap.size xs (by omega) wr hW).mono ?_
      rintro e w3 ⟨A3, c3, rfl, r3, hf3⟩
      have HA3 : Hid (∃ g0, A3 = some ⟨g0, 0, none⟩) := hid (by
        obtain ⟨g0, c0, he0, -, -⟩ := r3.form hx0
        injection he0 with he0 _ _
        exact ⟨g0, he0⟩)
      go_wp2_with fail
      obtain ⟨W3, hW3⟩ : ∃ W3, W3 = w3.alloc (.cells #[.bool true] 4) := ⟨_, rfl⟩
      have ho3 : Blk W3 w3.heap.size #[.bool true] 4 := by rw [hW3]; exact Blk.new _ _ _
      have hf4 : Fr Nil w3 W3 := by rw [hW3]; exact (Fr.refl _ _).alloc _
      have hs3 : W3.heap.size = w3.heap.size + 1 := by rw [hW3]; simp
      rw [← hW3]
      clear hW3
      have hsz3 := hf3.size
      have hszr := hfr.size
      have r4 := r3.view.bd.fr hf4 (fun _ _ _ h => h)
      have hlW := (hlr.fr hf3 (fun h => h)).fr hf4 (fun h => h)
      have hPW := (hPr.fr hf3 (fun _ _ _ h => h)).fr hf4 (fun _ _ _ h => h)
      have hfW : Fr Nil w W3 := ((hf1.thenNil hfr).thenNil hf3).thenNil hf4
      have hread : ∀ (D : List Nat → Prop) (B : Int → Prop) (wa : World) (v : Value) (m : Nat) (ys : List Nat) (S1 : Nat → Prop) (out : Got Unit), m ≤ 60000 → ys.length = m → Byt ys → Rd ps ys out → (∀ rest, out = .ok () rest → D rest) → (∀ er, out = .bad er → B er) → View wa S1 1 v m (bys ys) →
          Fr (fun k => k = w3.heap.size) W3 wa → Blk wa w3.heap.size #[.bool true] 4 →
          Calls Try.prog 19 #[v, .func (.func 16) #[] #[.pointer (some ⟨w.heap.size, 0, none⟩), .pointer (some ⟨w3.heap.size, 0, none⟩)]] wa (ReadPost wa (fun k => k = w3.heap.size) (fun rest w' => D rest ∧ Blk w' w3.heap.size #[.bool true] 4) (fun er w' => B er ∧ Blk w' w3.heap.size #[.bool true] 4)) := by
        intro D B wa v m ys S1 out hm hym hB hRd hD hBd hv hfa hoa
        have hsa := hfa.size
        refine read_ok 16 _ v m ys S1 _ (by omega) wa hv (by rintro k rfl; omega) call_back1 _ _ ?_
        intro wb rb h1 h2 hR hfb
        refine (back1_ok (fun k => wa.heap.size < k) (fun k => k < w.heap.size) rb w.heap.size w3.heap.size n c A ps ys out wb hB (by omega) hR hRd ((hPW.fr hfa (fun k hk _ (h : k = w3.heap.size) => by omega)).fr hfb (fun _ _ _ h => h)) ((hlW.fr hfa (fun h => by omega)).fr hfb (fun h => h)) (hoa.fr hfb (fun h => h)) (fun k hk => ⟨by omega, by omega⟩) (by omega) (by omega) (by omega)).mono ?_
        intro e wc hp
        cases out with
        | ok u rest =>
          obtain ⟨g1, g2, rfl, g3⟩ := hp
          exact ⟨g1, .inl ⟨rest, rfl, g3, hD rest rfl, g2⟩⟩
        | bad er =>
          obtain ⟨g1, g2, rfl⟩ := hp
          exact ⟨g1, .inr ⟨er, rfl, hBd er rfl, g2⟩⟩
      have Hread := hid hread; clear hread
      refine (Hread.out (fun rest => rest = []) (fun _ => False) W3 _ _ xs _ (.ok () []) (by omega) rfl HxB.out (by have := HRall.out []; rwa [List.append_nil] at this) (by rintro rest h; injection h with _ h; exact h.symm) (by rintro er h; cases h) r4 (Fr.refl _ _) ho3).mono ?_
      rintro e w5 ⟨w6, hf6, hf5, ⟨rest, ⟨rfl, g3⟩, rfl⟩ | ⟨_, h, _⟩⟩
      rotate_left
      · exact h.1.elim
      have hsz6 := hf6.size
      have hsz5 := hf5.size
      have ho5 := g3.fr hf5 (fun h => by omega)
      have hco5 : w5.cell? ⟨w3.heap.size, 0, none⟩ = some (.bool true) := ho5.cell 0
      have hfx : Fr (fun k => k = w3.heap.size) W3 w5 := hf6.trans hf5 (fun k hk => .inr (by omega))
      have r5 := r4.fr hfx (fun k hk _ (h : k = w3.heap.size) => by have := hk.2; omega)
      have hkm : ((k : Int) % (xs.length : Int)) = ((k % xs.length : Nat) : Int) := by simp
      have hkl : k % xs.length < xs.length := Nat.mod_lt _ hx0
      have hlc : xs.length ≤ c3 := by
        obtain ⟨_, _, _, e9, hlc, _⟩ := r5
        injection e9 with _ _ e9
        omega
      obtain ⟨g0, rfl⟩ := HA3.out
      go_wp2_with fail
      rw [show ((k : Int) % (xs.length : Int)) = ((k % xs.length : Nat) : Int) by simp]
      clear hkm
      have HRc := HRcut.out _ hkl
      generalize k % xs.length = m at *
      have hmc : m ≤ c3 := by omega
      have HRc' := hid HRc; clear HRc
      go_wp2_with fail
      have r5k := r5.pre (m := m) (by omega)
      rw [Nat.mul_one, bys_take] at r5k
      refine (Hread.out (fun _ => False) (fun er => er = 2) w5 _ _ (xs.take m) _ (.bad 2) (by omega) (by rw [List.length_take]; omega) (fun x hx => HxB.out x (List.mem_of_mem_take hx)) HRc'.out (by rintro rest h; cases h) (by rintro er h; injection h with h; exact h.symm) r5k hfx ho5).mono ?_
      rintro e w7 ⟨w8, hf8, hf7, ⟨rest, ⟨h, _⟩, _⟩ | ⟨er, ⟨rfl, g4⟩, rfl⟩⟩
      · exact h.elim
      have hsz8 := hf8.size
      have hsz7 := hf7.size
      have ho7 := g4.fr hf7 (fun h => by omega)
      have hco7 : w7.cell? ⟨w3.heap.size, 0, none⟩ = some (.bool true) := ho7.cell 0
      have hfx7 : Fr (fun k => k = w3.heap.size) W3 w7 := hfx.trans (hf8.trans hf7 (fun k hk => .inr (by omega))) (fun k hk => .inl hk)
      have r7 := r4.fr hfx7 (fun k hk _ (h : k = w3.heap.size) => by have := hk.2; omega)
      go_wp2_with (at_builtin; refine wp_app_view rfl _ _ 24 rfl (.int .u8 0) 1 Try.underlying24 info_u8 rfl (by decide) (Row.made w7 #[] 5 1 0 0 rfl (Nat.le_refl _) (by decide)) rfl (r7.alloc _) rfl (bys_cell _) (by omega) (by decide) ?_)
      intro A9 cap9 w9 q1 q2 _
      have q4 : Row w9 (New w7) 5 1 (.slice A9 (0 + xs.length) cap9) (0 + xs.length) (bys xs) := by
        refine Row.mono (by simpa using q1) fun k hk => ?_
        rcases hk with hk | hk
        · simp [Value.ownBlock] at hk
          unfold New; omega
        · unfold New; omega
      have q5 : Fr Nil w7 w9 := ((Fr.refl Nil w7).alloc _).trans q2 (fun k hk => by simp [Value.ownBlock] at hk; exact .inr (by omega))
      clear q1 q2
      rw [Nat.zero_add] at q4 ⊢
      go_wp2_with (at_builtin; refine app_u8 rfl _ _ rfl 0 0 rfl q4 rfl rfl (by omega) ?_)
      intro g1 cap2 w10 t1 t2 t3 t4
      have t1v := t1.view
      have hne9 : ∀ k, (Value.slice A9 xs.length cap9).ownBlock = some k → w7.heap.size ≤ k := fun k hk => q4.2 k hk
      have t5 : Fr Nil w7 w10 := q5.trans t3 (fun k hk => .inr (hne9 k hk))
      clear t1 t2 t3 t4 q4 q5 hne9
      have hfx10 : Fr (fun k => k = w3.heap.size) W3 w10 := hfx7.thenNil t5
      have ho10 := ho7.fr t5 (fun h => h)
      go_wp2_with fail
      refine (Hread.out (fun rest => rest = [0]) (fun _ => False) w10 _ (xs.length + 1) (xs ++ [0]) _ (.ok () [0]) (by omega) (by simp) (HxB.out.append (by intro x hx; simp at hx; omega)) (HRall.out _) (by rintro rest h; injection h with _ h; exact h.symm) (by rintro er h; cases h) t1v hfx10 ho10).mono ?_
      rintro e w11 ⟨w12, hf12, hf11, ⟨rest, ⟨rfl, g5⟩, rfl⟩ | ⟨_, h, _⟩⟩
      rotate_left
      · exact h.1.elim
      have hsz10 := hfx10.size
      have hsz12 := hf12.size
      have hfx11 : Fr (fun k => k = w3.heap.size) W3 w11 := hfx10.trans (hf12.trans hf11 (fun k hk => .inr (by omega))) (fun k hk => .inl hk)
      go_wp2
      go_ret
      exact ⟨rfl, hfW.trans hfx11 (fun k hk => .inr (by have := hf1.size; omega))⟩
end Go.Proofs.Ytknkilobdeeiaaa

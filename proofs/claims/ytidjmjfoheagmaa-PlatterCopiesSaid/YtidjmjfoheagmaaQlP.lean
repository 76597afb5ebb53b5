/- The law PlatterCopies. -/
import Derived.Test.YtidjmjfoheagmaaQPlO
import Derived.Test.YtidjmjfoheagmaaQPlC
set_option linter.unusedSimpArgs false
set_option linter.unusedVariables false
namespace Go.Proofs.Ytidjmjfoheagmaa
open Go.RowKit
theorem do_any (T TM S : Nat → Prop) (pb mb : Nat) (p : Pl) (m : Nat) (d : Dd) (Ak Af : Option Addr) (ck cf kl fl : Nat) (w : World) (h : Pair2 w T TM pb mb p p) (hok : p.okm m) (hm : m ≤ 900000) (hd : DdOk d kl fl w S Ak Af ck cf) (hS : ∀ k, S k → ¬ T k ∧ ¬ TM k) :
    Calls Try.prog 22 #[.pointer (some ⟨pb, 0, none⟩), .pointer (some ⟨mb, 0, none⟩), .agg #[.int .i64 d.d, .int .i64 d.n, .int .u8 (d.b : Int), .int .u32 (d.mask : Int), .slice Ak kl ck, .slice Af fl cf]] w (DoPost w T TM pb mb d p) := by
  by_cases h0 : d.d = 0
  · exact do_write0 T TM S pb mb p m d Ak Af ck cf kl fl h0 w h hok hm hd hS
  by_cases h1 : d.d = 1
  · exact do_write1 T TM S pb mb p m d Ak Af ck cf kl fl h1 w h hok hm hd hS
  by_cases h2 : d.d = 2
  · exact do_write2 T TM S pb mb p m d Ak Af ck cf kl fl h2 w h hok hm hd hS
  by_cases h3 : d.d = 3
  · exact do_write3 T TM S pb mb p m d Ak Af ck cf kl fl h3 w h hok hm hd hS
  by_cases h4 : d.d = 4
  · exact do_read4 T TM S pb mb p m d Ak Af ck cf kl fl h4 w h hok hm hd hS
  by_cases h5 : d.d = 5
  · exact do_read5 T TM S pb mb p m d Ak Af ck cf kl fl h5 w h hok hm hd hS
  by_cases h6 : d.d = 6
  · exact do_sync T TM S pb mb p m d Ak Af ck cf kl fl h6 w h hok hm hd hS
  by_cases h7 : d.d = 7
  · exact do_crash T TM S pb mb p m d Ak Af ck cf kl fl h7 w h hok hm hd hS
  by_cases h8 : d.d = 8
  · exact do_fail T TM S pb mb p m d Ak Af ck cf kl fl h8 w h hok hm hd hS
  by_cases h9 : d.d = 9
  · exact do_rot T TM S pb mb p m d Ak Af ck cf kl fl h9 w h hok hm hd hS
  exact do_none T TM S pb mb p m d Ak Af ck cf kl fl (by omega) w h hok hm hd hS
/-- What i deeds have made of a new platter. -/
def runA (xs : List Dx) (i : Nat) : Pl := (xs.take i).foldl (fun p x => doP x.d p) (fresh 64)
theorem runA_zero (xs : List Dx) : runA xs 0 = fresh 64 := rfl
theorem runA_succ {xs : List Dx} {i : Nat} {x : Dx} (h : xs[i]? = some x) : runA xs (i + 1) = doP x.d (runA xs i) := by
  unfold runA
  rw [List.take_add_one, h, List.foldl_append]; rfl
theorem runA_bl (xs : List Dx) : ∀ i, (runA xs i).bl.length = 64
  | 0 => by simp [runA_zero, fresh]
  | i + 1 => by
    cases h : xs[i]? with
    | none =>
      have hl : xs.length ≤ i := List.getElem?_eq_none_iff.1 h
      have := runA_bl xs i
      unfold runA at this ⊢
      rw [List.take_of_length_le (by omega)] at this ⊢
      exact this
    | some x => rw [runA_succ h, bl_do]; exact runA_bl xs i
/-- Two pairs that stay apart. -/
structure Two (w wx : World) (pb mb qb kb : Nat) (T TM Tq TK : Nat → Prop) (pA pB : Pl) (m : Nat) : Prop where
  a : Pair2 wx T TM pb mb pA pA
  b : Pair2 wx Tq TK qb kb pB pB
  oa : pA.okm m ∧ pA.co 0 = 0
  ob : pB.okm m ∧ pB.co 0 = 0
  ap : ∀ k, T k ∨ TM k → ¬ (Tq k ∨ TK k)
  lo : ∀ k, (T k ∨ TM k) ∨ (Tq k ∨ TK k) → w.heap.size ≤ k
  fr : Fr Nil w wx
section
variable {w wx w1 : World} {pb mb qb kb : Nat} {T TM Tq TK : Nat → Prop} {pA pB : Pl} {m : Nat}
theorem Two.lt (h : Two w wx pb mb qb kb T TM Tq TK pA pB m) : ∀ k, (T k ∨ TM k) ∨ (Tq k ∨ TK k) → k < wx.heap.size := fun k hk => hk.elim (fun h1 => h1.elim (h.a.lp k) (h.a.lm k)) (fun h1 => h1.elim (h.b.lp k) (h.b.lm k))
theorem Two.up (h : Two w wx pb mb qb kb T TM Tq TK pA pB m) {m' : Nat} (hm : m ≤ m') : Two w wx pb mb qb kb T TM Tq TK pA pB m' := ⟨h.a, h.b, ⟨h.oa.1.mono hm, h.oa.2⟩, ⟨h.ob.1.mono hm, h.ob.2⟩, h.ap, h.lo, h.fr⟩
theorem Two.stepA (h : Two w wx pb mb qb kb T TM Tq TK pA pB m) {d : Dd} (hf : d.fa.length ≤ 1000) (h1 : ∃ T' TM', Pair2 w1 T' TM' pb mb (doP d pA) (doP d pA) ∧ (∀ k, T' k → T k ∨ wx.heap.size ≤ k) ∧ (∀ k, TM' k → TM k ∨ wx.heap.size ≤ k)) (hfr : Fr (fun k => T k ∨ TM k) wx w1) :
    ∃ T' TM', Two w w1 pb mb qb kb T' TM' Tq TK (doP d pA) pB (m + 2) ∧ ∀ k, T' k ∨ TM' k → (T k ∨ TM k) ∨ wx.heap.size ≤ k := by
  obtain ⟨T', TM', p1, t1, t2⟩ := h1
  have hin : ∀ k, T' k ∨ TM' k → (T k ∨ TM k) ∨ wx.heap.size ≤ k := fun k hk => hk.elim (fun h => (t1 k h).imp .inl id) (fun h => (t2 k h).imp .inr id)
  refine ⟨T', TM', ⟨p1, h.b.fr hfr (fun k hk hs => h.ap k hs (.inl hk)) (fun k hk hs => h.ap k hs (.inr hk)) (fun k hk _ => hk.elim (h.a.np k) (h.a.nm k)), ⟨okm_do h.oa.1 hf, co0_do h.oa.2⟩, ⟨h.ob.1.mono (by omega), h.ob.2⟩, fun k hk hq => ?_, fun k hk => ?_, h.fr.trans hfr fun k hk => .inr (h.lo k (.inl hk))⟩, hin⟩
  · rcases hin k hk with h2 | h2
    · exact h.ap k h2 hq
    · have := h.lt k (.inr hq); omega
  · rcases hk with hk | hk
    · rcases hin k hk with h2 | h2
      · exact h.lo k (.inl h2)
      · exact Nat.le_trans h.fr.size h2
    · exact h.lo k (.inr hk)
theorem Two.swap (h : Two w wx pb mb qb kb T TM Tq TK pA pB m) : Two w wx qb kb pb mb Tq TK T TM pB pA m := ⟨h.b, h.a, h.ob, h.oa, fun k hk hq => h.ap k hq hk, fun k hk => h.lo k hk.symm, h.fr⟩
theorem Two.stepB (h : Two w wx pb mb qb kb T TM Tq TK pA pB m) {d : Dd} (hf : d.fa.length ≤ 1000) (h1 : ∃ T' TM', Pair2 w1 T' TM' qb kb (doP d pB) (doP d pB) ∧ (∀ k, T' k → Tq k ∨ wx.heap.size ≤ k) ∧ (∀ k, TM' k → TK k ∨ wx.heap.size ≤ k)) (hfr : Fr (fun k => Tq k ∨ TK k) wx w1) :
    ∃ T' TM', Two w w1 pb mb qb kb T TM T' TM' pA (doP d pB) (m + 2) ∧ ∀ k, T' k ∨ TM' k → (Tq k ∨ TK k) ∨ wx.heap.size ≤ k := by
  obtain ⟨T', TM', h2, h3⟩ := h.swap.stepA hf h1 hfr
  exact ⟨T', TM', h2.swap, h3⟩
theorem Two.nil (h : Two w wx pb mb qb kb T TM Tq TK pA pB m) (hf : Fr Nil wx w1) : Two w w1 pb mb qb kb T TM Tq TK pA pB m := ⟨h.a.nil hf, h.b.nil hf, h.oa, h.ob, h.ap, h.lo, h.fr.then hf⟩
end
/-- One alone. -/
structure LoneM (wx : World) (TK : Nat → Prop) (kb : Nat) (p : Pl) : Prop where
  i : IsM wx TK kb p
  l : ∀ k, TK k → k < wx.heap.size
  n : ∀ k, TK k → NoD wx k
structure LoneP (wx : World) (TK : Nat → Prop) (kb : Nat) (p : Pl) : Prop where
  i : IsP wx TK kb p
  l : ∀ k, TK k → k < wx.heap.size
  n : ∀ k, TK k → NoD wx k
theorem LoneM.fr {wx w1 : World} {TK S : Nat → Prop} {kb : Nat} {p : Pl} (h : LoneM wx TK kb p) (hf : Fr S wx w1) (h1 : ∀ k, TK k → ¬ S k) (hS : ∀ k, S k → k < wx.heap.size → NoD wx k) : LoneM w1 TK kb p :=
  ⟨h.i.fr hf h1 (fun k hk hl => ⟨(hS k hk hl).1, (hS k hk hl).2.2⟩), fun k hk => Nat.lt_of_lt_of_le (h.l k hk) hf.size, fun k hk => (h.n k hk).fr hf (h.l k hk) (h1 k hk)⟩
theorem LoneP.fr {wx w1 : World} {TK S : Nat → Prop} {kb : Nat} {p : Pl} (h : LoneP wx TK kb p) (hf : Fr S wx w1) (h1 : ∀ k, TK k → ¬ S k) (hS : ∀ k, S k → k < wx.heap.size → NoD wx k) : LoneP w1 TK kb p :=
  ⟨h.i.fr hf h1 (fun k hk hl => ⟨(hS k hk hl).1, (hS k hk hl).2.1⟩), fun k hk => Nat.lt_of_lt_of_le (h.l k hk) hf.size, fun k hk => (h.n k hk).fr hf (h.l k hk) (h1 k hk)⟩
theorem LoneM.of {w wx : World} {kb : Nat} {p : Pl} (h : IsM wx (New w) kb p) : LoneM wx (fun k => New w k ∧ k < wx.heap.size ∧ NoD wx k) kb p := ⟨h.bd2.mono fun k hk => ⟨hk.1, hk.2.1, hk.2.2⟩, fun k hk => hk.2.1, fun k hk => hk.2.2⟩
theorem LoneP.of {w wx : World} {kb : Nat} {p : Pl} (h : IsP wx (New w) kb p) : LoneP wx (fun k => New w k ∧ k < wx.heap.size ∧ NoD wx k) kb p := ⟨h.bd2.mono fun k hk => ⟨hk.1, hk.2.1, hk.2.2⟩, fun k hk => hk.2.1, fun k hk => hk.2.2⟩
theorem Pair2.of {wx : World} {T TM : Nat → Prop} {pb mb : Nat} {p q : Pl} (h1 : LoneP wx T pb p) (h2 : LoneM wx TM mb q) (h : ∀ k, T k → ¬ TM k) : Pair2 wx T TM pb mb p q := ⟨h1.i, h2.i, h1.l, h2.l, h, h1.n, h2.n⟩
theorem LoneP.nil {wx w1 : World} {TK : Nat → Prop} {kb : Nat} {p : Pl} (h : LoneP wx TK kb p) (hf : Fr Nil wx w1) : LoneP w1 TK kb p := h.fr hf (fun _ _ h => h) (fun _ h _ => h.elim)
theorem LoneM.nil {wx w1 : World} {TK : Nat → Prop} {kb : Nat} {p : Pl} (h : LoneM wx TK kb p) (hf : Fr Nil wx w1) : LoneM w1 TK kb p := h.fr hf (fun _ _ h => h) (fun _ h _ => h.elim)
set_option maxRecDepth 20000 in
set_option maxHeartbeats 4000000 in
theorem copies_law (v1 v2 v3 : Value) (w : World) (hv1 : ∃ n xs, Dxs w (fun k => k < w.heap.size) v1 n xs) (hv2 : ∃ n xs, Dxs w (fun k => k < w.heap.size) v2 n xs) (hv3 : ∃ n xs, Dxs w (fun k => k < w.heap.size) v3 n xs) :
    Calls Try.prog 8 #[v1, v2, v3] w fun e w' => e = .returned (.bool true) ∧ Fr Nil w w' := by
  obtain ⟨n1, xs1, hl1, A1, c1, rfl, hn1, hd1⟩ := hv1
  obtain ⟨n2, xs2, hl2, A2, c2, rfl, hn2, hd2⟩ := hv2
  obtain ⟨n3, xs3, hl3, A3, c3, rfl, hn3, hd3⟩ := hv3
  have Hl1 := hid hl1
  have Hd1 := hid hd1
  have Hl2 := hid hl2
  have Hd2 := hid hd2
  have Hl3 := hid hl3
  have Hd3 := hid hd3
  clear hl1 hd1 hl2 hd2 hl3 hd3
  go_enter Try.func8, Try.ntmps8
  go_wp2_with fail
  refine (awake_ok w).mono ?_
  rintro e w0 ⟨rfl, f0⟩
  have F0 := hid f0; clear f0
  by_cases hm1 : 50 < n1
  · go_wp2
    go_ret
    exact ⟨rfl, F0.out⟩
  by_cases hm2 : 50 < n2
  · go_wp2
    go_ret
    exact ⟨rfl, F0.out⟩
  by_cases hm3 : 50 < n3
  · go_wp2
    go_ret
    exact ⟨rfl, F0.out⟩
  go_wp2_with fail
  refine (pnew_ok 64 (by omega) (by omega) w0).mono ?_
  rintro e w1 ⟨pb, rfl, h, f1⟩
  have LP := hid (LoneP.of h)
  have F1 := hid f1
  clear h f1
  go_wp2_with fail
  refine (m_new 64 (by omega) (by omega) w1).mono ?_
  rintro e w2 ⟨mb, rfl, h, f2⟩
  have LP2 := hid (LP.out.nil f2)
  have LM := hid (LoneM.of h)
  have F2 := hid f2
  clear h f2
  go_wp2_with fail
  refine (m_new 64 (by omega) (by omega) w2).mono ?_
  rintro e w3 ⟨kb, rfl, h, f3⟩
  have LK := hid (LoneM.of h)
  have HPm := hid (Pair2.of (LP2.out.nil f3) (LM.out.nil f3) fun k hk hm => by have h1 := hk.2.1; have h2 : w1.heap.size ≤ k := hm.1; omega)
  have F3 := hid (((F0.out.then F1.out).then F2.out).then f3)
  have Hs0 := hid F0.out.size
  have Hs1 := hid F1.out.size
  have Hs2 := hid F2.out.size
  obtain ⟨TK, hTK⟩ : ∃ TK : Nat → Prop, TK = fun k => New w2 k ∧ k < w3.heap.size ∧ NoD w3 k := ⟨_, rfl⟩
  rw [← hTK] at LK
  have HTK := hid (show ∀ k, TK k → w2.heap.size ≤ k from fun k hk => by rw [hTK] at hk; exact hk.1)
  clear h f3 hTK
  go_wp2_with fail
  go_loopw [13] (fun v13 wr => ∃ (i : Nat) (T TM : Nat → Prop), v13 = .int .i64 i ∧ i ≤ n1 ∧ Hid (Pair2 wr T TM pb mb (runA xs1 i) (runA xs1 i) ∧ ((runA xs1 i).okm (2 * i) ∧ (runA xs1 i).co 0 = 0) ∧ LoneM wr TK kb (fresh 64) ∧ (∀ k, TK k → ¬ (T k ∨ TM k)) ∧ (∀ k, T k ∨ TM k → w.heap.size ≤ k) ∧ (∀ j x, j < i → xs1[j]? = some x → x.kl ≤ 200 ∧ x.d.fa.length ≤ 20)) ∧ Fr Nil w wr) (fun v13 _ => n1 - (intOf v13).toNat)
  case atStart =>
    refine ⟨0, _, _, rfl, by omega, hid ⟨HPm.out, ⟨okm_fresh 64 (by omega), rfl⟩, LK.out, fun k hk h => ?_, fun k hk => ?_, fun j x hj => absurd hj (Nat.not_lt_zero _)⟩, F3.out⟩
    · have h9 := HTK.out k hk
      have := Hs1.out; have := Hs2.out
      rcases h with h | h
      · have := h.2.1; omega
      · have := h.2.1; omega
    · have := Hs0.out; have := Hs1.out
      rcases hk with h | h
      · have h1 : w0.heap.size ≤ k := h.1; omega
      · have h1 : w1.heap.size ≤ k := h.1; omega
  case round =>
    clear HPm F3 LK LP LP2 LM
    obtain ⟨i, T, TM, rfl, hi, hA, hfw⟩ := hrel
    have HF := hid hfw
    clear hfw
    by_cases hlt : i < n1
    · skip
      obtain ⟨b, o, rfl, hbS, hbl, hat⟩ := Hd1.out (by omega)
      obtain ⟨x, hx⟩ : ∃ x, xs1[i]? = some x := ⟨_, List.getElem?_eq_getElem (by rw [Hl1.out]; exact hlt)⟩
      obtain ⟨⟨q0, q1, q2, q3, q4, q5⟩, hx1, hx2, hx3, hx4, hx5⟩ := hat i x hx
      have q0 := (HF.out).cell q0 fun h => h
      have q1 := (HF.out).cell q1 fun h => h
      have q2 := (HF.out).cell q2 fun h => h
      have q3 := (HF.out).cell q3 fun h => h
      have q4 := (HF.out).cell q4 fun h => h
      have q5 := (HF.out).cell q5 fun h => h
      have X4 := hid (hx4.fr (HF.out) fun _ _ _ h => h)
      have X5 := hid (hx5.fr (HF.out) fun _ _ _ h => h)
      have Xn := hid hx1
      have Xb := hid hx2
      have Xm := hid hx3
      have Hx := hid hx
      obtain ⟨fl, hfl⟩ : ∃ fl, fl = x.d.fa.length := ⟨_, rfl⟩
      rw [← hfl] at q5 X5
      have Hfl := hid hfl
      have hkl9 := X4.out.le
      have hfl9 := X5.out.le
      clear hat hx hx1 hx2 hx3 hx4 hx5 hfl
      by_cases hk : 200 < x.kl
      · go_wp2
        go_ret
        exact ⟨rfl, HF.out⟩
      by_cases hf : 20 < fl
      · go_wp2
        go_ret
        exact ⟨rfl, HF.out⟩
      by_cases h8 : x.d.d = 8
      · have h8b : (x.d.d == 8) = true := by rw [h8]; rfl
        clear h8
        go_wp2
        go_ret
        exact ⟨rfl, HF.out⟩
      have h8b : (x.d.d == 8) = false := by simpa using h8
      clear h8
      go_wp2_with fail
      refine (do_any T TM (fun k => k < w.heap.size) pb mb _ (2 * i) x.d x.Ak x.Af x.ck x.cf x.kl fl wr hA.out.1 hA.out.2.1.1 (by omega) ⟨Xn.out, Xb.out, Xm.out, by omega, ⟨Hfl.out, by omega⟩, X4.out, X5.out⟩ fun k hk => ⟨fun h => by have := hA.out.2.2.2.2.1 k (.inl h); omega, fun h => by have := hA.out.2.2.2.2.1 k (.inr h); omega⟩).mono ?_
      rintro e w5 ⟨rfl, ⟨T', TM', h5, hT5, hTM5⟩, f5⟩
      have HF5 := hid (HF.out.trans f5 fun k hk => .inr (hA.out.2.2.2.2.1 k hk))
      have Hin := hid (show ∀ k, T' k ∨ TM' k → (T k ∨ TM k) ∨ wr.heap.size ≤ k from fun k hk => hk.elim (fun h => (hT5 k h).imp .inl id) (fun h => (hTM5 k h).imp .inr id))
      have Hnew := hid (show Pair2 w5 T' TM' pb mb (runA xs1 (i + 1)) (runA xs1 (i + 1)) ∧ ((runA xs1 (i + 1)).okm (2 * (i + 1)) ∧ (runA xs1 (i + 1)).co 0 = 0) ∧ LoneM w5 TK kb (fresh 64) ∧ (∀ k, TK k → ¬ (T' k ∨ TM' k)) ∧ (∀ k, T' k ∨ TM' k → w.heap.size ≤ k) ∧ (∀ j x, j < i + 1 → xs1[j]? = some x → x.kl ≤ 200 ∧ x.d.fa.length ≤ 20) from by
        rw [runA_succ Hx.out]
        refine ⟨h5, ⟨(okm_do hA.out.2.1.1 (by have := Hfl.out; omega)).mono (by omega), co0_do hA.out.2.1.2⟩, hA.out.2.2.1.fr f5 hA.out.2.2.2.1 (fun k hk _ => hk.elim (hA.out.1.np k) (hA.out.1.nm k)), fun k hk h => ?_, fun k hk => ?_, fun j y hj hy => ?_⟩
        · rcases Hin.out k h with h2 | h2
          · exact hA.out.2.2.2.1 k hk h2
          · have := hA.out.2.2.1.l k hk; omega
        · rcases Hin.out k hk with h2 | h2
          · exact hA.out.2.2.2.2.1 k h2
          · exact Nat.le_trans HF.out.size h2
        · by_cases hji : j = i
          · subst hji
            rw [Hx.out] at hy
            injection hy with hy
            subst hy
            exact ⟨by omega, by have := Hfl.out; omega⟩
          · exact hA.out.2.2.2.2.2 j y (by omega) hy)
      clear h5 f5 hT5 hTM5 hA
      go_wp2_with fail
      go_roundw
      case rel => exact ⟨i + 1, T', TM', by go_num, by omega, Hnew, HF5.out⟩
      case measure => simp [intOf]; omega
    · have hin : Hid (i = n1) := hid (by omega)
      go_wp2_with fail
      refine (copy_ok T pb _ wr hA.out.1.ip (hA.out.2.1.1.ok (by omega)) hA.out.2.1.1.2.1 (by rw [show (runA xs1 i).bl.length = 64 from runA_bl _ _]; omega)).mono ?_
      rintro e w5 ⟨qb, rfl, hq, f5, hqb⟩
      have LQ := hid (LoneP.of hq)
      have HP5 := hid (hA.out.1.nil f5)
      have LK5 := hid (hA.out.2.2.1.nil f5)
      have HF5 := hid (HF.out.then f5)
      have Hs5 := hid f5.size
      clear hq f5
      go_wp2_with fail
      refine (pnew_ok 64 (by omega) (by omega) w5).mono ?_
      rintro e w6 ⟨tb, rfl, ht, f6⟩
      have LQ6 := hid (LQ.out.nil f6)
      have HF6 := hid (HF5.out.then f6)
      obtain ⟨Tq, hTq⟩ : ∃ Tq : Nat → Prop, Tq = fun k => New wr k ∧ k < w5.heap.size ∧ NoD w5 k := ⟨_, rfl⟩
      rw [← hTq] at LQ6
      have HTq := hid (show ∀ k, Tq k → wr.heap.size ≤ k ∧ k < w5.heap.size from fun k hk => by rw [hTq] at hk; exact ⟨hk.1, hk.2.1⟩)
      have LT6 := hid (LoneP.of ht)
      have HPt := hid (Pair2.of LT6.out (LK5.out.nil f6) fun k hk hm => by have h1 : w5.heap.size ≤ k := hk.1; have h2 := LK5.out.l k hm; omega)
      have HTwo := hid (show Two w w6 pb mb tb kb T TM (fun k => New w5 k ∧ k < w6.heap.size ∧ NoD w6 k) TK (runA xs1 i) (fresh 64) 100 from
        ⟨HP5.out.nil f6, HPt.out, ⟨hA.out.2.1.1.mono (by omega), hA.out.2.1.2⟩, ⟨(okm_fresh 64 (by omega)).mono (by omega), rfl⟩, fun k hk hq => by
          rcases hq with hq | hq
          · have h1 : w5.heap.size ≤ k := hq.1
            have := hk.elim (HP5.out.lp k) (HP5.out.lm k); omega
          · exact hA.out.2.2.2.1 k hq hk, fun k hk => by
          rcases hk with hk | hk | hk
          · exact hA.out.2.2.2.2.1 k hk
          · have h1 : w5.heap.size ≤ k := hk.1
            have := HF5.out.size; omega
          · have h1 := HTK.out k hk
            have := Hs0.out; have := Hs1.out; have := Hs2.out; omega, HF6.out⟩)
      have HqT := hid (show ∀ k, Tq k → ¬ (T k ∨ TM k) ∧ ¬ TK k from fun k hk => ⟨fun h => by have h1 := HTq.out k hk; have := h.elim (hA.out.1.lp k) (hA.out.1.lm k); omega, fun h => by have h1 := HTq.out k hk; have := hA.out.2.2.1.l k h; omega⟩)
      have Hgd := hid hA.out.2.2.2.2.2
      have HqT0 := hid (show ∀ k, Tq k → ¬ (fun k => New w5 k ∧ k < w6.heap.size ∧ NoD w6 k) k from fun k hk h => by have h1 := HTq.out k hk; have h2 : w5.heap.size ≤ k := h.1; omega)
      obtain ⟨PA, hPA⟩ : ∃ PA, PA = runA xs1 i := ⟨_, rfl⟩
      have HPA := hid hPA
      rw [← hPA] at HTwo LQ6
      obtain ⟨T6, hT6⟩ : ∃ T6 : Nat → Prop, T6 = fun k => New w5 k ∧ k < w6.heap.size ∧ NoD w6 k := ⟨_, rfl⟩
      rw [← hT6] at HTwo HqT0
      clear hTq hT6 hPA ht f6 LQ LT6 HPt HP5 hA LK5
      go_wp2_with fail
      go_loopw [17] (fun v17 ws => ∃ (j : Nat) (Tt Tk : Nat → Prop), v17 = .int .i64 j ∧ j ≤ n1 ∧ Hid (Two w ws pb mb tb kb T TM Tt Tk PA (runA xs1 j) (100 + 2 * j) ∧ LoneP ws Tq qb PA ∧ (∀ k, Tq k → ¬ (T k ∨ TM k) ∧ ¬ (Tt k ∨ Tk k)) ∧ (∀ k, Tq k → w.heap.size ≤ k))) (fun v17 _ => n1 - (intOf v17).toNat)
      case atStart => exact ⟨0, T6, TK, rfl, by omega, hid ⟨HTwo.out, LQ6.out, fun k hk => ⟨(HqT.out k hk).1, fun h => h.elim (HqT0.out k hk) (HqT.out k hk).2⟩, fun k hk => Nat.le_trans HF.out.size (HTq.out k hk).1⟩⟩
      case round =>
        clear HTwo LQ6 HqT HqT0
        obtain ⟨j, Tt, Tk, rfl, hj, hB⟩ := hrel
        have HBF := hid hB.out.1.fr
        by_cases hlt2 : j < n1
        · skip
          obtain ⟨b, o, rfl, hbS, hbl, hat⟩ := Hd1.out (by omega)
          obtain ⟨x, hx⟩ : ∃ x, xs1[j]? = some x := ⟨_, List.getElem?_eq_getElem (by rw [Hl1.out]; exact hlt2)⟩
          obtain ⟨⟨q0, q1, q2, q3, q4, q5⟩, hx1, hx2, hx3, hx4, hx5⟩ := hat j x hx
          have q0 := (HBF.out).cell q0 fun h => h
          have q1 := (HBF.out).cell q1 fun h => h
          have q2 := (HBF.out).cell q2 fun h => h
          have q3 := (HBF.out).cell q3 fun h => h
          have q4 := (HBF.out).cell q4 fun h => h
          have q5 := (HBF.out).cell q5 fun h => h
          have X4 := hid (hx4.fr (HBF.out) fun _ _ _ h => h)
          have X5 := hid (hx5.fr (HBF.out) fun _ _ _ h => h)
          have Xn := hid hx1
          have Xb := hid hx2
          have Xm := hid hx3
          have Hx := hid hx
          obtain ⟨fl, hfl⟩ : ∃ fl, fl = x.d.fa.length := ⟨_, rfl⟩
          rw [← hfl] at q5 X5
          have Hfl := hid hfl
          have hkl9 := X4.out.le
          have hfl9 := X5.out.le
          clear hat hx hx1 hx2 hx3 hx4 hx5 hfl
          obtain ⟨hk200, hf20⟩ := Hgd.out j x (by have := hin.out; omega) Hx.out
          have hf20 : fl ≤ 20 := by rw [Hfl.out]; exact hf20
          go_wp2_with fail
          refine (do_any Tt Tk (fun k => k < w.heap.size) tb kb _ (100 + 2 * j) x.d x.Ak x.Af x.ck x.cf x.kl fl wr hB.out.1.b hB.out.1.ob.1 (by omega) ⟨Xn.out, Xb.out, Xm.out, hk200, ⟨Hfl.out, hf20⟩, X4.out, X5.out⟩ fun k hk => ⟨fun h => by have := hB.out.1.lo k (.inr (.inl h)); omega, fun h => by have := hB.out.1.lo k (.inr (.inr h)); omega⟩).mono ?_
          rintro e w7 ⟨rfl, h7, f7⟩
          obtain ⟨Tt', Tk', H7, Hin7⟩ := hB.out.1.stepB (by have := Hfl.out; omega) h7 f7
          have Hnew := hid (show Two w w7 pb mb tb kb T TM Tt' Tk' PA (runA xs1 (j + 1)) (100 + 2 * (j + 1)) ∧ LoneP w7 Tq qb PA ∧ (∀ k, Tq k → ¬ (T k ∨ TM k) ∧ ¬ (Tt' k ∨ Tk' k)) ∧ (∀ k, Tq k → w.heap.size ≤ k) from by
            rw [runA_succ Hx.out]
            refine ⟨H7.up (by omega), hB.out.2.1.fr f7 (fun k hk => (hB.out.2.2.1 k hk).2) (fun k hk _ => hk.elim (hB.out.1.b.np k) (hB.out.1.b.nm k)), fun k hk => ⟨(hB.out.2.2.1 k hk).1, fun h => ?_⟩, hB.out.2.2.2⟩
            rcases Hin7 k h with h2 | h2
            · exact (hB.out.2.2.1 k hk).2 h2
            · have := hB.out.2.1.l k hk; omega)
          clear h7 f7 H7 Hin7 hB
          go_wp2_with fail
          go_roundw
          case rel => exact ⟨j + 1, Tt', Tk', by go_num, by omega, Hnew⟩
          case measure => simp [intOf]; omega
        · have hjn : Hid (j = n1) := hid (by omega)
          have HTw := hid (show Two w wr pb mb qb kb T TM Tq Tk PA PA 300 from by
            have e1 : runA xs1 j = PA := by rw [HPA.out, hjn.out, hin.out]
            have h9 := hB.out.1
            rw [e1] at h9
            exact ⟨h9.a, Pair2.of hB.out.2.1 ⟨h9.b.im, h9.b.lm, h9.b.nm⟩ (fun k hk hm => (hB.out.2.2.1 k hk).2 (.inr hm)), ⟨h9.oa.1.mono (by omega), h9.oa.2⟩, ⟨h9.oa.1.mono (by omega), h9.oa.2⟩, fun k hk hq => by
              rcases hq with hq | hq
              · exact (hB.out.2.2.1 k hq).1 hk
              · exact h9.ap k hk (.inr hq), fun k hk => by
              rcases hk with hk | hk | hk
              · exact h9.lo k (.inl hk)
              · exact hB.out.2.2.2 k hk
              · exact h9.lo k (.inr (.inr hk)), h9.fr⟩)
          clear hB
          go_wp2_with fail
          go_loopw [18] (fun v18 ws => ∃ (i : Nat) (T TM Tq Tk : Nat → Prop) (pA pB : Pl), v18 = .int .i64 i ∧ i ≤ 50 ∧ Hid (Two w ws pb mb qb kb T TM Tq Tk pA pB (300 + 4 * i))) (fun v18 _ => 50 - (intOf v18).toNat)
          case atStart => exact ⟨0, T, TM, Tq, Tk, PA, PA, rfl, by omega, HTw⟩
          case round =>
            clear HTw
            obtain ⟨i, T, TM, Tq, Tk, pA, pB, rfl, hi, hC⟩ := hrel
            go_upto_region 26 with (fail)
            go_cut [117] from 111 to 117 (fun v wx => v = .bool (decide (i < max n2 n3)) ∧ wx = wr)
            case first =>
              rcases Nat.le_total n2 n3 with h23 | h23
              · have hmx : max (n2 : Int) (n3 : Int) = (n3 : Int) := by omega
                have E := hid (show max n2 n3 = n3 by omega)
                go_wp2
                all_goals go_meet
                all_goals exact ⟨congrArg Value.bool (decide_eq_decide.2 (by omega)), rfl⟩
              · have hmx : max (n2 : Int) (n3 : Int) = (n2 : Int) := by omega
                have E := hid (show max n2 n3 = n2 by omega)
                go_wp2
                all_goals go_meet
                all_goals exact ⟨congrArg Value.bool (decide_eq_decide.2 (by omega)), rfl⟩
            case rest =>
              obtain ⟨rfl, rfl⟩ := hcut
              obtain ⟨w8, rfl⟩ : ∃ w8 : World, w8 = wc := ⟨_, rfl⟩
              by_cases hmx : i < max n2 n3
              · rw [decide_eq_true hmx]
                have hi50 : i < 50 := by omega
                clear hmx
                go_upto_region 28 with (fail)
                go_cut [151] from 120 to 151 (fun v wx => v = .bool false ∧ ∃ T' TM' pA', Hid (Two w wx pb mb qb kb T' TM' Tq Tk pA' pB (300 + 4 * i + 2)))
                case first =>
                  by_cases hlt3 : i < n2
                  · skip
                    obtain ⟨b, o, rfl, hbS, hbl, hat⟩ := Hd2.out (by omega)
                    obtain ⟨x, hx⟩ : ∃ x, xs2[i]? = some x := ⟨_, List.getElem?_eq_getElem (by rw [Hl2.out]; exact hlt3)⟩
                    obtain ⟨⟨q0, q1, q2, q3, q4, q5⟩, hx1, hx2, hx3, hx4, hx5⟩ := hat i x hx
                    have q0 := (hC.out.fr).cell q0 fun h => h
                    have q1 := (hC.out.fr).cell q1 fun h => h
                    have q2 := (hC.out.fr).cell q2 fun h => h
                    have q3 := (hC.out.fr).cell q3 fun h => h
                    have q4 := (hC.out.fr).cell q4 fun h => h
                    have q5 := (hC.out.fr).cell q5 fun h => h
                    have X4 := hid (hx4.fr (hC.out.fr) fun _ _ _ h => h)
                    have X5 := hid (hx5.fr (hC.out.fr) fun _ _ _ h => h)
                    have Xn := hid hx1
                    have Xb := hid hx2
                    have Xm := hid hx3
                    have Hx := hid hx
                    obtain ⟨fl, hfl⟩ : ∃ fl, fl = x.d.fa.length := ⟨_, rfl⟩
                    rw [← hfl] at q5 X5
                    have Hfl := hid hfl
                    have hkl9 := X4.out.le
                    have hfl9 := X5.out.le
                    clear hat hx hx1 hx2 hx3 hx4 hx5 hfl
                    by_cases hk : x.kl ≤ 200
                    · by_cases hf : fl ≤ 20
                      · go_wp2_with fail
                        refine (do_any T TM (fun k => k < w.heap.size) pb mb _ (300 + 4 * i) x.d x.Ak x.Af x.ck x.cf x.kl fl w8 hC.out.a hC.out.oa.1 (by omega) ⟨Xn.out, Xb.out, Xm.out, hk, ⟨Hfl.out, hf⟩, X4.out, X5.out⟩ fun k hk => ⟨fun h => by have := hC.out.lo k (.inl (.inl h)); omega, fun h => by have := hC.out.lo k (.inl (.inr h)); omega⟩).mono ?_
                        rintro e w9 ⟨rfl, h9, f9⟩
                        obtain ⟨T', TM', H9, -⟩ := hC.out.stepA (by have := Hfl.out; omega) h9 f9
                        have H9 := hid H9
                        clear h9 f9
                        go_wp2_with fail
                        go_meet
                        case rel => exact ⟨rfl, T', TM', _, H9⟩
                      · go_wp2_with fail
                        go_meet
                        case rel => exact ⟨rfl, T, TM, pA, hid (hC.out.up (by omega))⟩
                    · go_wp2_with fail
                      go_meet
                      case rel => exact ⟨rfl, T, TM, pA, hid (hC.out.up (by omega))⟩
                  · go_wp2_with fail
                    go_meet
                    case rel => exact ⟨rfl, T, TM, pA, hid (hC.out.up (by omega))⟩
                case rest =>
                  clear hC
                  obtain ⟨rfl, T, TM, pA, hC⟩ := hcut
                  obtain ⟨w8, rfl⟩ : ∃ w8 : World, w8 = wc := ⟨_, rfl⟩
                  go_upto_region 30 with (fail)
                  go_cut [183] from 152 to 183 (fun v wx => v = .bool false ∧ ∃ Tq' Tk' pB', Hid (Two w wx pb mb qb kb T TM Tq' Tk' pA pB' (300 + 4 * i + 4)))
                  case first =>
                    by_cases hlt3 : i < n3
                    · skip
                      obtain ⟨b, o, rfl, hbS, hbl, hat⟩ := Hd3.out (by omega)
                      obtain ⟨x, hx⟩ : ∃ x, xs3[i]? = some x := ⟨_, List.getElem?_eq_getElem (by rw [Hl3.out]; exact hlt3)⟩
                      obtain ⟨⟨q0, q1, q2, q3, q4, q5⟩, hx1, hx2, hx3, hx4, hx5⟩ := hat i x hx
                      have q0 := (hC.out.fr).cell q0 fun h => h
                      have q1 := (hC.out.fr).cell q1 fun h => h
                      have q2 := (hC.out.fr).cell q2 fun h => h
                      have q3 := (hC.out.fr).cell q3 fun h => h
                      have q4 := (hC.out.fr).cell q4 fun h => h
                      have q5 := (hC.out.fr).cell q5 fun h => h
                      have X4 := hid (hx4.fr (hC.out.fr) fun _ _ _ h => h)
                      have X5 := hid (hx5.fr (hC.out.fr) fun _ _ _ h => h)
                      have Xn := hid hx1
                      have Xb := hid hx2
                      have Xm := hid hx3
                      have Hx := hid hx
                      obtain ⟨fl, hfl⟩ : ∃ fl, fl = x.d.fa.length := ⟨_, rfl⟩
                      rw [← hfl] at q5 X5
                      have Hfl := hid hfl
                      have hkl9 := X4.out.le
                      have hfl9 := X5.out.le
                      clear hat hx hx1 hx2 hx3 hx4 hx5 hfl
                      by_cases hk : x.kl ≤ 200
                      · by_cases hf : fl ≤ 20
                        · go_wp2_with fail
                          refine (do_any Tq Tk (fun k => k < w.heap.size) qb kb _ (300 + 4 * i + 2) x.d x.Ak x.Af x.ck x.cf x.kl fl w8 hC.out.b hC.out.ob.1 (by omega) ⟨Xn.out, Xb.out, Xm.out, hk, ⟨Hfl.out, hf⟩, X4.out, X5.out⟩ fun k hk => ⟨fun h => by have := hC.out.lo k (.inr (.inl h)); omega, fun h => by have := hC.out.lo k (.inr (.inr h)); omega⟩).mono ?_
                          rintro e w9 ⟨rfl, h9, f9⟩
                          obtain ⟨T', TM', H9, -⟩ := hC.out.stepB (by have := Hfl.out; omega) h9 f9
                          have H9 := hid H9
                          clear h9 f9
                          go_wp2_with fail
                          go_meet
                          case rel => exact ⟨rfl, T', TM', _, H9⟩
                        · go_wp2_with fail
                          go_meet
                          case rel => exact ⟨rfl, Tq, Tk, pB, hid (hC.out.up (by omega))⟩
                      · go_wp2_with fail
                        go_meet
                        case rel => exact ⟨rfl, Tq, Tk, pB, hid (hC.out.up (by omega))⟩
                    · go_wp2_with fail
                      go_meet
                      case rel => exact ⟨rfl, Tq, Tk, pB, hid (hC.out.up (by omega))⟩
                  case rest =>
                    clear hC
                    obtain ⟨rfl, Tq, Tk, pB, hC⟩ := hcut
                    obtain ⟨w8, rfl⟩ : ∃ w8 : World, w8 = wc := ⟨_, rfl⟩
                    go_wp2_with fail
                    go_roundw
                    case rel => exact ⟨i + 1, T, TM, Tq, Tk, pA, pB, by go_num, by omega, hid (hC.out.up (by omega))⟩
                    case measure => simp [intOf]; omega
              · rw [decide_eq_false hmx]
                clear hmx
                go_wp2_with fail
                refine (same_ok T TM pb mb pA hC.out.oa.2 w8 hC.out.a.ip hC.out.a.im).mono ?_
                rintro e w9 ⟨rfl, f9⟩
                have H9 := hid (hC.out.nil f9)
                clear f9
                go_wp2_with fail
                refine (same_ok Tq Tk qb kb pB H9.out.ob.2 w9 H9.out.b.ip H9.out.b.im).mono ?_
                rintro e w10 ⟨rfl, f10⟩
                go_wp2
                go_ret
                exact ⟨rfl, H9.out.fr.then f10⟩
end Go.Proofs.Ytidjmjfoheagmaa

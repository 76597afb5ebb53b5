/- Platter and reference side by side: what a deed does to both. -/
import Derived.Test.YtidjmjfoheagmaaQPmT
import Derived.Test.YtidjmjfoheagmaaQPmN
import Derived.Test.YtidjmjfoheagmaaQPlatA
set_option linter.unusedSimpArgs false
set_option linter.unusedVariables false
namespace Go.Proofs.Ytidjmjfoheagmaa
open Go.RowKit
/-- No block that is only read. -/
def NoD (w : World) (k : Nat) : Prop := ¬ Typ w k 5 ∧ ¬ Typ w k 46 ∧ ¬ Typ w k 89
theorem NoD.fr {w w1 : World} {S : Nat → Prop} {k : Nat} (h : NoD w k) (hf : Fr S w w1) (hk : k < w.heap.size) (hn : ¬ S k) : NoD w1 k := by
  have hb : ∀ X, Typ w1 k X → Typ w k X := fun X ⟨cs, fr, hx⟩ => ⟨cs, fr, by rw [← hf.block k hk hn]; exact hx⟩
  exact ⟨fun h1 => h.1 (hb _ h1), fun h1 => h.2.1 (hb _ h1), fun h1 => h.2.2 (hb _ h1)⟩
/-- The program's Platter and the reference's, apart: what each may write. -/
structure Pair2 (w : World) (T TM : Nat → Prop) (pb mb : Nat) (p q : Pl) : Prop where
  ip : IsP w T pb p
  im : IsM w TM mb q
  lp : ∀ k, T k → k < w.heap.size
  lm : ∀ k, TM k → k < w.heap.size
  ap : ∀ k, T k → ¬ TM k
  np : ∀ k, T k → NoD w k
  nm : ∀ k, TM k → NoD w k
section
variable {w w1 : World} {T TM : Nat → Prop} {pb mb : Nat} {p q p1 q1 : Pl}
theorem Pair2.stepP (h : Pair2 w T TM pb mb p q) (h1 : IsP w1 (Grow w T) pb p1) (hf : Fr T w w1) : ∃ T1, Pair2 w1 T1 TM pb mb p1 q ∧ ∀ k, T1 k → T k ∨ w.heap.size ≤ k :=
  ⟨fun k => Grow w T k ∧ k < w1.heap.size ∧ NoD w1 k, ⟨h1.bd2.mono fun k hk => ⟨hk.1, hk.2.1, hk.2.2⟩, h.im.fr hf (fun k hk ht => h.ap k ht hk) (fun k hk hl => ⟨(h.np k hk).1, (h.np k hk).2.2⟩), fun k hk => hk.2.1, fun k hk => Nat.lt_of_lt_of_le (h.lm k hk) hf.size,
    fun k hk hm => hk.1.elim (fun h1 => h.ap k h1 hm) (fun h1 => by have := h.lm k hm; omega), fun k hk => hk.2.2, fun k hk => (h.nm k hk).fr hf (h.lm k hk) fun ht => h.ap k ht hk⟩, fun k hk => hk.1⟩
theorem Pair2.stepM (h : Pair2 w T TM pb mb p q) (h1 : IsM w1 (Grow w TM) mb q1) (hf : Fr TM w w1) : ∃ T1, Pair2 w1 T T1 pb mb p q1 ∧ ∀ k, T1 k → TM k ∨ w.heap.size ≤ k :=
  ⟨fun k => Grow w TM k ∧ k < w1.heap.size ∧ NoD w1 k, ⟨h.ip.fr hf (fun k hk hm => h.ap k hk hm) (fun k hk hl => ⟨(h.nm k hk).1, (h.nm k hk).2.1⟩), h1.bd2.mono fun k hk => ⟨hk.1, hk.2.1, hk.2.2⟩, fun k hk => Nat.lt_of_lt_of_le (h.lp k hk) hf.size, fun k hk => hk.2.1,
    fun k hk hm => hm.1.elim (fun h1 => h.ap k hk h1) (fun h1 => by have := h.lp k hk; omega), fun k hk => (h.np k hk).fr hf (h.lp k hk) fun ht => h.ap k hk ht, fun k hk => hk.2.2⟩, fun k hk => hk.1⟩
theorem Pair2.nil (h : Pair2 w T TM pb mb p q) (hf : Fr Nil w w1) : Pair2 w1 T TM pb mb p q :=
  ⟨h.ip.fr hf (fun _ _ h => h), h.im.fr hf (fun _ _ h => h), fun k hk => Nat.lt_of_lt_of_le (h.lp k hk) hf.size, fun k hk => Nat.lt_of_lt_of_le (h.lm k hk) hf.size, h.ap, fun k hk => (h.np k hk).fr hf (h.lp k hk) fun h => h, fun k hk => (h.nm k hk).fr hf (h.lm k hk) fun h => h⟩
theorem Pair2.fr {S : Nat → Prop} (h : Pair2 w T TM pb mb p q) (hf : Fr S w w1) (h1 : ∀ k, T k → ¬ S k) (h2 : ∀ k, TM k → ¬ S k) (hS : ∀ k, S k → k < w.heap.size → NoD w k) : Pair2 w1 T TM pb mb p q :=
  ⟨h.ip.fr hf h1 (fun k hk hl => ⟨(hS k hk hl).1, (hS k hk hl).2.1⟩), h.im.fr hf h2 (fun k hk hl => ⟨(hS k hk hl).1, (hS k hk hl).2.2⟩), fun k hk => Nat.lt_of_lt_of_le (h.lp k hk) hf.size, fun k hk => Nat.lt_of_lt_of_le (h.lm k hk) hf.size, h.ap,
    fun k hk => (h.np k hk).fr hf (h.lp k hk) (h1 k hk), fun k hk => (h.nm k hk).fr hf (h.lm k hk) (h2 k hk)⟩
end
def badB (p : Pl) (op : Nat) : Bool := decide (((op : Int), ((p.si op + 1 : Nat) : Int)) ∈ p.fa)
theorem badB_iff (p : Pl) (op : Nat) : badB p op = true ↔ p.bad op := decide_eq_true_iff
theorem badB_no {p : Pl} {op : Nat} (h : badB p op = false) : ¬ p.bad op := fun hb => by have := (badB_iff p op).2 hb; rw [h] at this; cases this
section
variable {w : World} {T S1 : Nat → Prop} {pb : Nat} {p : Pl}
theorem p_write (n : Int) (m : Nat) (xs : List Nat) (v : Value) (hok : p.ok) (h : IsP w T pb p) (hv : View w S1 1 v m (bys xs)) (hB : Byt xs) (hS : ∀ k, S1 k → ¬ T k) :
    Calls Try.prog 11 #[.pointer (some ⟨pb, 0, none⟩), .int .i64 n, v] w fun e w' => e = .returned (.int .i64 (wrE (badB p 2) p n m)) ∧ IsP w' (Grow w T) pb (wrP (badB p 2) p n m xs) ∧ Fr T w w' := by
  obtain ⟨A, c, rfl⟩ : ∃ A c, v = .slice A m c := let ⟨_, A, c, e, _⟩ := hv; ⟨A, c, e⟩
  cases hb : badB p 2 with
  | true =>
    exact (write_fault T pb p n m c A w h hok ((badB_iff p 2).1 hb)).mono fun e w' ⟨h1, h2, h3⟩ => ⟨h1, h2.mono fun k hk => .inl hk, h3.mono fun k hk => by rw [hk]; exact h.1⟩
  | false =>
    by_cases hin : (0 ≤ n ∧ n < (p.bl.length : Int)) ∧ m = 64
    · obtain ⟨hin, rfl⟩ := hin
      obtain ⟨N, rfl⟩ : ∃ N : Nat, n = N := ⟨n.toNat, by omega⟩
      obtain ⟨e1, e2⟩ := wr_in (p := p) (n := N) (xs := xs) (by omega)
      rw [e1, e2]
      exact write_ok T S1 pb p N xs _ w h hok (badB_no hb) (by omega) hv hB hS
    · have hout : ¬ (0 ≤ n ∧ n < (p.bl.length : Int)) ∨ m ≠ 64 := by
        by_cases h1 : m = 64
        · exact .inl fun h2 => hin ⟨h2, h1⟩
        · exact .inr h1
      obtain ⟨e1, e2⟩ := wr_out (p := p) (n := n) (m := m) (xs := xs) hout
      rw [e1, e2]
      exact (write_bad T pb p n m c A w h hok (badB_no hb) hout).mono fun e w' ⟨h1, h2, h3⟩ => ⟨h1, h2.mono fun k hk => .inl hk, h3⟩
theorem p_read (n : Int) (hok : p.ok) (h : IsP w T pb p) :
    Calls Try.prog 13 #[.pointer (some ⟨pb, 0, none⟩), .int .i64 n] w fun e w' => ∃ A m c, e = .returned (.tuple #[.slice A m c, .int .i64 (rdE (badB p 1) p n)]) ∧ View w' (New w) 1 (.slice A m c) m (bys (rdB (badB p 1) p n)) ∧ IsP w' (Grow w T) pb (p.ask 1) ∧ Fr T w w' := by
  cases hb : badB p 1 with
  | true => exact (read_fault T pb p n w h hok ((badB_iff p 1).1 hb)).mono fun e w' ⟨h1, h2, h3⟩ => ⟨none, 0, 0, h1, View.nil _ _ _, h2.mono fun k hk => .inl hk, h3⟩
  | false =>
    by_cases hin : 0 ≤ n ∧ n < (p.bl.length : Int)
    · obtain ⟨N, rfl⟩ : ∃ N : Nat, n = N := ⟨n.toNat, by omega⟩
      have e1 : rdE false p (N : Nat) = 0 := by unfold rdE; rw [if_neg (by decide), if_pos (inB_yes hin)]
      have e2 : rdB false p (N : Nat) = p.get N := by unfold rdB; rw [if_neg (by decide), if_pos (inB_yes hin), Int.toNat_natCast]
      rw [e1, e2]
      exact (read_ok T pb p N w h hok (badB_no hb) (by omega)).mono fun e w' ⟨A, c, h1, h2, _, _, h3, h4⟩ => ⟨A, 64, c, h1, h2.view, h3.mono fun k hk => .inl hk, h4⟩
    · have e1 : rdE false p n = 1 := by unfold rdE; rw [if_neg (by decide), if_neg (inB_no hin)]
      have e2 : rdB false p n = [] := by unfold rdB; rw [if_neg (by decide), if_neg (inB_no hin)]
      rw [e1, e2]
      exact (read_bad T pb p n w h hok (badB_no hb) hin).mono fun e w' ⟨h1, h2, h3⟩ => ⟨none, 0, 0, h1, View.nil _ _ _, h2.mono fun k hk => .inl hk, h3⟩
theorem p_rot (n bit : Int) (mask : Nat) (hmask : mask < 4294967296) (h : IsP w T pb p) :
    Calls Try.prog 17 #[.pointer (some ⟨pb, 0, none⟩), .int .i64 n, .int .i64 bit, .int .u32 (mask : Int)] w fun e w' => e = .returned (.bool (rtB p n bit)) ∧ IsP w' (Grow w T) pb (rtP p n bit mask) ∧ Fr T w w' := by
  by_cases hin : (0 ≤ n ∧ n < (p.bl.length : Int)) ∧ (0 ≤ bit ∧ bit < 512)
  · obtain ⟨N, rfl⟩ : ∃ N : Nat, n = N := ⟨n.toNat, by omega⟩
    obtain ⟨B, rfl⟩ : ∃ N : Nat, bit = N := ⟨bit.toNat, by omega⟩
    obtain ⟨e1, e2⟩ := rt_yes (p := p) (n := N) (bit := B) (mask := mask) (by omega) (by omega)
    rw [e1, e2]
    exact rot_ok T pb p N B mask w h (by omega) (by omega) hmask
  · have hout : ¬ (0 ≤ n ∧ n < (p.bl.length : Int)) ∨ ¬ (0 ≤ bit ∧ bit < 512) := by
      by_cases h1 : 0 ≤ bit ∧ bit < 512
      · exact .inl fun h2 => hin ⟨h2, h1⟩
      · exact .inr h1
    obtain ⟨e1, e2⟩ := rt_no (p := p) (n := n) (bit := bit) (mask := mask) hout
    rw [e1, e2]
    exact (rot_bad T pb p n bit mask w h (hout.imp id fun h => by omega)).mono fun e w' ⟨h1, h2⟩ => ⟨h1, by rw [← h2]; exact h.mono fun k hk => .inl hk, by rw [← h2]; exact Fr.refl _ _⟩
end
/-- A deed. -/
structure Dd where
  d : Int
  n : Int
  b : Nat
  mask : Nat
  keep : List Bool
  fa : List (Int × Int)
def dlen (b : Nat) : Nat := if b = 77 then 63 else 64
def dbys (b : Nat) : List Nat := if b = 77 then (rep b).drop 1 else rep b
def doP (d : Dd) (p : Pl) : Pl :=
  if d.d = 0 ∨ d.d = 1 ∨ d.d = 2 ∨ d.d = 3 then wrP (badB p 2) p d.n (dlen d.b) (dbys d.b)
  else if d.d = 4 ∨ d.d = 5 then p.ask 1
  else if d.d = 6 then synced (badB p 3) p
  else if d.d = 7 then p.crash d.keep
  else if d.d = 8 then p.fail d.fa
  else if d.d = 9 then rtP p d.n (d.b : Int) d.mask
  else p
theorem okm_rt {p : Pl} {m : Nat} (h : p.okm m) (n bit : Int) (mask : Nat) : (rtP p n bit mask).okm m := by
  unfold rtP
  split
  · exact rotted_okm h true n.toNat bit.toNat mask
  · exact h
theorem okm_fail {p : Pl} {m : Nat} (h : p.okm m) {fa : List (Int × Int)} (hf : fa.length ≤ 1000) : (p.fail fa).okm m :=
  ⟨fun op => ⟨(h.1 op).1, Nat.zero_le _⟩, hf, h.2.2.1, h.2.2.2.1, h.2.2.2.2⟩
theorem okm_wr {p : Pl} {m : Nat} (h : p.okm m) (b : Bool) (n : Int) (k : Nat) (xs : List Nat) : (wrP b p n k xs).okm (m + 2) := by
  unfold wrP
  split
  · rename_i hw
    unfold wrIn at hw
    rw [Bool.and_eq_true, Bool.and_eq_true] at hw
    have hin := of_decide_eq_true hw.1.2
    exact (h.ask 2).put xs (show n.toNat < p.bl.length by omega)
  · exact (h.ask 2).mono (by omega)
theorem okm_do {d : Dd} {p : Pl} {m : Nat} (h : p.okm m) (hf : d.fa.length ≤ 1000) : (doP d p).okm (m + 2) := by
  unfold doP
  split
  · exact okm_wr h _ _ _ _
  · split
    · exact (h.ask 1).mono (by omega)
    · split
      · unfold synced
        split
        · exact (h.ask 3).mono (by omega)
        · exact ((h.ask 3).settle _).mono (by omega)
      · split
        · exact (h.crash _).mono (by omega)
        · split
          · exact (okm_fail h hf).mono (by omega)
          · split
            · exact (okm_rt h _ _ _).mono (by omega)
            · exact h.mono (by omega)
theorem co0_do {d : Dd} {p : Pl} (h : p.co 0 = 0) : (doP d p).co 0 = 0 := by
  unfold doP
  split
  · unfold wrP; split <;> exact h
  · split
    · exact h
    · split
      · unfold synced; split <;> exact h
      · split
        · exact h
        · split
          · exact h
          · split
            · unfold rtP; split <;> exact h
            · exact h
theorem bl_do {d : Dd} {p : Pl} : (doP d p).bl.length = p.bl.length := by
  unfold doP
  split
  · unfold wrP; split <;> rfl
  · split
    · rfl
    · split
      · unfold synced; split
        · rfl
        · exact settle_bl _
      · split
        · exact crash_bl _
        · split
          · rfl
          · split
            · unfold rtP; split
              · exact rotted_len true _ _ _ _
              · rfl
            · rfl
end Go.Proofs.Ytidjmjfoheagmaa

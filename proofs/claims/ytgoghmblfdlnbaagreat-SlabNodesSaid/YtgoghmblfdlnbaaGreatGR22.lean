/- The texts SlR of this proof, one behind the other. Conditions: those of each. -/
import Derived.Deep.QuietTactic
import Derived.BigQuiet
import Derived.Test.YtgoghmblfdlnbaaGreatGR21
section
/- Slab: Read. Conditions: the bounds of its lists. -/
set_option linter.unusedSimpArgs false
set_option linter.unusedVariables false
namespace Go.Proofs.YtgoghmblfdlnbaaGreat
open Go.RowKit
theorem quiet_left {P : Program} {f : FuncId} {args : Array Value} {w : World} {n : Nat} {v : Value}
    (h : Calls P f args (w.drewN n) fun e w' => e = .returned v ∧ w.drewN n = w') : Calls P f args (w.drewN n) fun e w'' => e = .returned v ∧ ∃ m, w'' = w.drewN m :=
  h.mono fun _ _ ⟨he, hm⟩ => ⟨he, n, hm.symm⟩
theorem smade_q {Q TP : Nat → Prop} {w0 w : World} {lb plb sb pb bl N gen m : Nat} {p : Pl} {U L H : List Us} {A l : List Rn} (h : Sl Q TP w0 w lb plb sb pb bl N gen m p U L H A l) (n : Nat) :
    Calls Tryz.prog 31 #[.pointer (some ⟨lb, 0, none⟩)] (w.drewN n) fun e w'' => e = .returned (.bool true) ∧ ∃ m, w'' = w.drewN m := quiet_left (smade_ok (h.nil ((Fr.refl _ w).drewN n)))
theorem sblocks_q {Q TP : Nat → Prop} {w0 w : World} {lb plb sb pb bl N gen m : Nat} {p : Pl} {U L H : List Us} {A l : List Rn} (h : Sl Q TP w0 w lb plb sb pb bl N gen m p U L H A l) (n : Nat) :
    Calls Tryz.prog 39 #[.pointer (some ⟨plb, 0, none⟩)] (w.drewN n) fun e w'' => e = .returned (.int .i64 (bl : Nat)) ∧ ∃ m, w'' = w.drewN m := by
  have h2 := blocks_ok TP plb p (w.drewN n) (h.pl.fr ((Fr.refl Nil w).drewN n) fun _ _ h => h)
  rw [h.pbl] at h2
  exact quiet_left h2
set_option maxRecDepth 20000 in
set_option maxHeartbeats 1000000 in
theorem sread_bad {Q TP : Nat → Prop} {w0 w : World} {lb plb sb pb bl N gen m : Nat} {p : Pl} {U L H : List Us} {A l : List Rn} (h : Sl Q TP w0 w lb plb sb pb bl N gen m p U L H A l) (a n : Nat) (ha : a ≤ 100000) (hn : n ≤ 100000) (hbad : n = 0 ∨ bl < a + n) :
    Calls Tryz.prog 11 #[.pointer (some ⟨lb, 0, none⟩), .agg #[.int .i64 (a : Nat), .int .i64 (n : Nat)]] w fun e w' => e = .returned (.tuple #[.slice none 0 0, .int .i64 1]) ∧ Fr Nil w w' := by
  have hbl8 : bl ≤ 8192 := h.g.le8
  have HS0 := hid h
  clear h
  go_enter Tryz.func11, Tryz.ntmps11
  go_wp2_with fail
  obtain ⟨W1, hW1⟩ : ∃ W1, W1 = w.alloc (.cells #[.int .i64 (a : Nat), .int .i64 (n : Nat)] 39) := ⟨_, rfl⟩
  obtain ⟨rb, hrb⟩ : ∃ rb, rb = w.heap.size := ⟨_, rfl⟩
  have f1 : Fr Nil w W1 := by rw [hW1]; exact (Fr.refl _ _).alloc _
  have hR1 : Blk W1 rb #[.int .i64 (a : Nat), .int .i64 (n : Nat)] 39 := by rw [hW1, hrb]; exact Blk.new _ _ _
  have x0 : W1.cell? ⟨rb, 0, none⟩ = some (.int .i64 (a : Nat)) := hR1.cell 0
  have x1 : W1.cell? ⟨rb, 1, none⟩ = some (.int .i64 (n : Nat)) := hR1.cell 1
  try rw [← hW1]
  rw [← hrb]
  have H1 := hid (HS0.out.nil f1)
  have l0 : W1.cell? ⟨lb, 0, none⟩ = some (.pointer (some ⟨plb, 0, none⟩)) := H1.out.b.cell 0
  have Hrb := hid hrb
  clear hW1 hrb
  have F1 := hid f1
  have HR1 := hid hR1
  clear f1 hR1
  have hda : decide ((a : Int) < 0) = false := by simp
  have hwr : IntKind.i64.wrap ((bl : Int) - (n : Int)) = (bl : Int) - (n : Int) := by rw [IntKind.wrap_i64]; omega
  by_cases hn0 : n < 1
  · have hd1 : decide ((n : Int) < 1) = true := by simp; omega
    go_quiet ((first | (go_at_call 31; exact smade_q H1.out _) | (go_at_call 39; exact sblocks_q H1.out _)))
    go_wp2
    go_ret2
    exact ⟨rfl, F1.out.drewN _⟩
  · have hd1 : decide ((n : Int) < 1) = false := by simp; omega
    by_cases hnb : bl < n
    · have hd2 : decide ((bl : Int) < (n : Int)) = true := by simp; omega
      go_quiet ((first | (go_at_call 31; exact smade_q H1.out _) | (go_at_call 39; exact sblocks_q H1.out _)))
      go_wp2
      go_ret2
      exact ⟨rfl, F1.out.drewN _⟩
    · have hd2 : decide ((bl : Int) < (n : Int)) = false := by simp; omega
      have hd3 : decide ((bl : Int) - (n : Int) < (a : Int)) = true := by simp; omega
      go_quiet ((first | (go_at_call 31; exact smade_q H1.out _) | (go_at_call 39; exact sblocks_q H1.out _)))
      go_wp2
      go_ret2
      exact ⟨rfl, F1.out.drewN _⟩
def frm (p : Pl) (a n : Nat) : List Nat := (List.range n).flatMap fun i => p.get (a + i)
theorem frm_succ (p : Pl) (a n : Nat) : frm p a (n + 1) = frm p a n ++ p.get (a + n) := by
  unfold frm; rw [List.range_succ, List.flatMap_append, List.flatMap_singleton]
theorem Sl.app {Q2 Q TP S : Nat → Prop} {w0 w w' : World} {lb plb sb pb bl N gen m : Nat} {p : Pl} {U L H : List Us} {A l : List Rn} (h : Sl Q2 TP w0 w lb plb sb pb bl N gen m p U L H A l) (hf : Fr S w w') (hS : ∀ k, S k → Q2 k) (hS0 : ∀ k, S k → w0.heap.size ≤ k) (hQ : ∀ k, Q k → (Q2 k ∨ w.heap.size ≤ k) ∧ k < w'.heap.size) : Sl Q TP w0 w' lb plb sb pb bl N gen m p U L H A l := by
  have hlt := h.tlt
  refine ⟨h.g.fr hf (fun k hk => .inl (hS k hk)) hS0 fun k hk => ?_, h.b.fr hf fun hs => (h.q lb (.inr rfl)).2 (hS _ hs), h.pl.fr hf fun k hk hs => (h.q k (.inl hk)).2 (hS k hs), h.ok, fun k hk => ⟨(h.q k hk).1, fun h2 => ?_⟩, h.tl, h.pbl⟩
  · rcases hk with hk | hk
    · exact ⟨(hQ k hk).1.imp .inl id, (hQ k hk).2⟩
    · exact ⟨.inl (.inr hk), Nat.lt_of_lt_of_le (hlt k (.inr hk)) hf.size⟩
  · rcases (hQ k h2).1 with h3 | h3
    · exact (h.q k hk).2 h3
    · have := hlt k (.inr hk); omega
set_option maxRecDepth 20000 in
set_option maxHeartbeats 1000000 in
theorem sread_k {Q TP : Nat → Prop} {w0 w : World} {lb plb sb pb bl N gen m : Nat} {p : Pl} {U L H : List Us} {A l : List Rn} (h : Sl Q TP w0 w lb plb sb pb bl N gen m p U L H A l) (a n : Nat) (hn1 : 1 ≤ n) (han : a + n ≤ bl) (hm : m ≤ 900000) (Post : Ending → World → Prop)
    (hP : ∀ (er : Int) (k c : Nat) (xs : List Nat) (B : Option Addr) (p' : Pl) (w' : World), Row w' (New w) 5 1 (.slice B k c) k (bys xs) ∧ Sl (fun j => Q j ∨ (Value.slice B k c).ownBlock = some j) TP w0 w' lb plb sb pb bl N gen (m + n) p' U L H A l ∧ After p p' (fun _ => False) ∧ (er = 0 ∧ k = 64 * n ∧ xs = frm p a n ∨ er = 6 ∧ k = 0 ∧ xs = []) ∧ (p.fa = [] → er = 0) ∧ Fr TP w w' → Post (.returned (.tuple #[.slice B k c, .int .i64 er])) w') :
    Calls Tryz.prog 11 #[.pointer (some ⟨lb, 0, none⟩), .agg #[.int .i64 (a : Nat), .int .i64 (n : Nat)]] w Post := by
  have HPost := hid hP
  clear hP
  have hbl8 : bl ≤ 8192 := h.g.le8
  have HS0 := hid h
  clear h
  have Hm := hid hm
  clear hm
  go_enter Tryz.func11, Tryz.ntmps11
  go_wp2_with fail
  obtain ⟨W1, hW1⟩ : ∃ W1, W1 = w.alloc (.cells #[.int .i64 (a : Nat), .int .i64 (n : Nat)] 39) := ⟨_, rfl⟩
  obtain ⟨rb, hrb⟩ : ∃ rb, rb = w.heap.size := ⟨_, rfl⟩
  have f1 : Fr Nil w W1 := by rw [hW1]; exact (Fr.refl _ _).alloc _
  have hR1 : Blk W1 rb #[.int .i64 (a : Nat), .int .i64 (n : Nat)] 39 := by rw [hW1, hrb]; exact Blk.new _ _ _
  have x0 : W1.cell? ⟨rb, 0, none⟩ = some (.int .i64 (a : Nat)) := hR1.cell 0
  have x1 : W1.cell? ⟨rb, 1, none⟩ = some (.int .i64 (n : Nat)) := hR1.cell 1
  try rw [← hW1]
  rw [← hrb]
  have H1 := hid (HS0.out.nil f1)
  have l0 : W1.cell? ⟨lb, 0, none⟩ = some (.pointer (some ⟨plb, 0, none⟩)) := H1.out.b.cell 0
  have Hrb := hid hrb
  clear hW1 hrb
  have F1 := hid f1
  have HR1 := hid hR1
  clear f1 hR1
  have hrq : ¬ TP rb := fun hq => by have := HS0.out.tlt rb (.inr (.inl hq)); have := Hrb.out; omega
  have hrl : ¬ rb = lb := fun hq => by have := HS0.out.tlt lb (.inr (.inr rfl)); have := Hrb.out; omega
  have hda : decide ((a : Int) < 0) = false := by simp
  have hwr : IntKind.i64.wrap ((bl : Int) - (n : Int)) = (bl : Int) - (n : Int) := by rw [IntKind.wrap_i64]; omega
  have hd1 : decide ((n : Int) < 1) = false := by simp; omega
  have hd2 : decide ((bl : Int) < (n : Int)) = false := by simp; omega
  have hd3 : decide ((bl : Int) - (n : Int) < (a : Int)) = false := by simp; omega
  have hnb : ¬ bl < n := by omega
  have Hrq := hid hrq
  have Hrl := hid hrl
  have Hn1 := hid hn1
  have Han := hid han
  clear hrq hrl hn1 han
  go_quiet ((first | (go_at_call 31; exact smade_q H1.out _) | (go_at_call 39; exact sblocks_q H1.out _)))
  have H2 := hid (H1.out.nil ((Fr.refl Nil W1).drewN nq))
  clear hnb hd1 hd2 hd3 hda hwr H1 l0 x0 x1
  have HR2 := hid (show Blk (W1.drewN nq) rb #[.int .i64 (a : Nat), .int .i64 (n : Nat)] 39 from HR1.out)
  have F2 := hid (F1.out.drewN nq)
  clear HR1 F1
  generalize W1.drewN nq = W2 at *
  have x1 : W2.cell? ⟨rb, 1, none⟩ = some (.int .i64 (n : Nat)) := HR2.out.cell 1
  go_upto_region 5 with (fail)
  go_loopw [48, 6] (fun v48 v6 wx => ∃ (i : Nat) (B : Option Addr) (c : Nat) (pi : Pl), v48 = .int .i64 i ∧ v6 = .slice B (64 * i : Nat) c ∧ i ≤ n ∧ Hid (Row wx (fun k => New w k ∧ k ≠ rb) 5 1 (.slice B (64 * i : Nat) c) (64 * i) (bys (frm p a i)) ∧ Sl (fun k => Q k ∨ (Value.slice B (64 * i : Nat) c).ownBlock = some k) TP w0 wx lb plb sb pb bl N gen (m + i) pi U L H A l ∧ After p pi (fun _ => False) ∧ Blk wx rb #[.int .i64 (a : Nat), .int .i64 (n : Nat)] 39) ∧ Fr TP w wx) (fun v48 _ _ => n - (intOf v48).toNat)
  case atStart => exact ⟨0, none, 0, p, rfl, rfl, by omega, hid ⟨Row.nil _ _ _ _, H2.out.app (Fr.refl Nil _) (fun _ h => h.elim) (fun _ h => h.elim) (fun k hk => by rcases hk with hk | hk; exact ⟨.inl hk, H2.out.tlt k (.inl hk)⟩; simp [Value.ownBlock] at hk), After.refl _ _, HR2.out⟩, F2.out.nil⟩
  case round =>
    obtain ⟨i, B, c, pi, rfl, rfl, hi, hI, hfw⟩ := hrel
    by_cases hlt : i < n
    · have s0 : wr.cell? ⟨lb, 0, none⟩ = some (.pointer (some ⟨plb, 0, none⟩)) := hI.out.2.1.b.cell 0
      have s1 : wr.cell? ⟨rb, 0, none⟩ = some (.int .i64 (a : Nat)) := hI.out.2.2.2.cell 0
      go_upto_region 7 with (fail)
      have hS : (fun w' : World => w'.cell? ⟨lb, 0, none⟩ = some (.pointer (some ⟨plb, 0, none⟩)) ∧ w'.cell? ⟨rb, 0, none⟩ = some (.int .i64 (a : Nat))) wr.drew := ⟨s0, s1⟩
      clear s0 s1
      obtain ⟨y, hy⟩ : ∃ y, y = a + i := ⟨_, rfl⟩
      have hy1 : (a : Int) + (i : Int) = (y : Int) := by omega
      have hy9 : y ≤ 8192 := by have := Han.out; omega
      have hw4 : IntKind.i64.wrap (y : Int) = (y : Int) := by rw [IntKind.wrap_i64]; omega
      have Hy := hid hy
      clear hy hy9
      refine wpU_region (k := 13) (S := (fun w' : World => w'.cell? ⟨lb, 0, none⟩ = some (.pointer (some ⟨plb, 0, none⟩)) ∧ w'.cell? ⟨rb, 0, none⟩ = some (.int .i64 (a : Nat)))) (by kernel_rfl) ?_
      refine wpU_take (i := 0) (v := ?_) rfl (by kernel_rfl) (by kernel_rfl) (fun _ _ _ h => h) _ _ _ _ (by kernel_rfl) (by kernel_rfl) (by kernel_rfl) (Or.inl ⟨by kernel_rfl, ?_⟩) hS ?_
      rotate_left
      · (intro w9 hS9; obtain ⟨s0, s1⟩ := hS9; go_simp); (try with_reducible rfl)
      try simp only [Act.put, List.getElem_toArray, List.getElem_cons_succ, List.getElem_cons_zero, List.setIfInBounds_toArray, List.set_cons_zero, List.set_cons_succ]
      refine wpU_take (i := 1) (v := ?_) rfl (by kernel_rfl) (by kernel_rfl) (fun _ _ _ h => h) _ _ _ _ (by kernel_rfl) (by kernel_rfl) (by kernel_rfl) (Or.inl ⟨by kernel_rfl, ?_⟩) hS ?_
      rotate_left
      · (intro w9 hS9; obtain ⟨s0, s1⟩ := hS9; go_simp); (try with_reducible rfl)
      try simp only [Act.put, List.getElem_toArray, List.getElem_cons_succ, List.getElem_cons_zero, List.setIfInBounds_toArray, List.set_cons_zero, List.set_cons_succ]
      refine wpU_take (i := 2) (v := ?_) rfl (by kernel_rfl) (by kernel_rfl) (fun _ _ _ h => h) _ _ _ _ (by kernel_rfl) (by kernel_rfl) (by kernel_rfl) (Or.inl ⟨by kernel_rfl, ?_⟩) hS ?_
      rotate_left
      · (intro w9 hS9; obtain ⟨s0, s1⟩ := hS9; go_simp); (try with_reducible rfl)
      try simp only [Act.put, List.getElem_toArray, List.getElem_cons_succ, List.getElem_cons_zero, List.setIfInBounds_toArray, List.set_cons_zero, List.set_cons_succ]
      refine wpU_take (i := 3) (v := ?_) rfl (by kernel_rfl) (by kernel_rfl) (fun _ _ _ h => h) _ _ _ _ (by kernel_rfl) (by kernel_rfl) (by kernel_rfl) (Or.inl ⟨by kernel_rfl, ?_⟩) hS ?_
      rotate_left
      · (intro w9 hS9; obtain ⟨s0, s1⟩ := hS9; go_simp); (try with_reducible rfl)
      try simp only [Act.put, List.getElem_toArray, List.getElem_cons_succ, List.getElem_cons_zero, List.setIfInBounds_toArray, List.set_cons_zero, List.set_cons_succ]
      refine wpU_take (i := 4) (v := ?_) rfl (by kernel_rfl) (by kernel_rfl) (fun _ _ _ h => h) _ _ _ _ (by kernel_rfl) (by kernel_rfl) (by kernel_rfl) (Or.inl ⟨by kernel_rfl, ?_⟩) hS ?_
      rotate_left
      · (intro w9 hS9; obtain ⟨s0, s1⟩ := hS9; go_simp); (try with_reducible rfl)
      try simp only [Act.put, List.getElem_toArray, List.getElem_cons_succ, List.getElem_cons_zero, List.setIfInBounds_toArray, List.set_cons_zero, List.set_cons_succ]
      refine wpU_take (i := 5) (v := ?_) rfl (by kernel_rfl) (by kernel_rfl) (fun _ _ _ h => h) _ _ _ _ (by kernel_rfl) (by kernel_rfl) (by kernel_rfl) (Or.inl ⟨by kernel_rfl, ?_⟩) hS ?_
      rotate_left
      · (intro w9 hS9; obtain ⟨s0, s1⟩ := hS9; go_simp); (try with_reducible rfl)
      try simp only [Act.put, List.getElem_toArray, List.getElem_cons_succ, List.getElem_cons_zero, List.setIfInBounds_toArray, List.set_cons_zero, List.set_cons_succ]
      refine wpU_take (i := 6) (v := ?_) rfl (by kernel_rfl) (by kernel_rfl) (fun _ _ _ h => h) _ _ _ _ (by kernel_rfl) (by kernel_rfl) (by kernel_rfl) (Or.inl ⟨by kernel_rfl, ?_⟩) hS ?_
      rotate_left
      · (intro w9 hS9; obtain ⟨s0, s1⟩ := hS9; go_simp); (try with_reducible rfl)
      try simp only [Act.put, List.getElem_toArray, List.getElem_cons_succ, List.getElem_cons_zero, List.setIfInBounds_toArray, List.set_cons_zero, List.set_cons_succ]
      refine wpU_take (i := 7) (v := ?_) rfl (by kernel_rfl) (by kernel_rfl) (fun _ _ _ h => h) _ _ _ _ (by kernel_rfl) (by kernel_rfl) (by kernel_rfl) (Or.inl ⟨by kernel_rfl, ?_⟩) hS ?_
      rotate_left
      · (intro w9 hS9; obtain ⟨s0, s1⟩ := hS9; go_simp); (try with_reducible rfl)
      try simp only [Act.put, List.getElem_toArray, List.getElem_cons_succ, List.getElem_cons_zero, List.setIfInBounds_toArray, List.set_cons_zero, List.set_cons_succ]
      refine wpU_next (i := 8) rfl (by kernel_rfl) (fun K hK => ?_)
      go_simp
      obtain ⟨bb, hbb⟩ : ∃ bb : Bool, bb = true ↔ pi.bad 1 := by classical exact ⟨decide (pi.bad 1), by simp⟩
      have Hbb := hid hbb
      have hI2 := hI.out.2.1.nil (Fr.refl Nil wr).drew
      refine (read_any TP plb pi y wr.drew bb hbb hI2.pl (hI2.ok.ok (by clear hw4; have := Hm.out; have := Han.out; omega)) (by clear hw4; rw [hI2.pbl]; have := Hy.out; have := Han.out; omega)).mono ?_
      rintro e w7 ⟨C, d, rfl, hv7, hp7, hf7⟩
      have hI7 := hI2.plat (m' := m + i + 1) (TP' := TP) hp7 (fun k hk => ⟨.inl hk, Nat.lt_of_lt_of_le (hI2.tlt k (.inr (.inl hk))) hf7.size⟩) hf7 (hI2.ok.ask 1) rfl
      have hR7 : Row w7 (fun k => New w k ∧ k ≠ rb) 5 1 (.slice B (64 * i : Nat) c) (64 * i) (bys (frm p a i)) := (hI.out.1.fr (Fr.refl Nil wr).drew fun _ _ h => h).fr hf7 fun k hk hT => (hI2.q k (.inl hT)).2 (.inr hk)
      have F7 := hid (show Fr TP w w7 from hfw.drew.then hf7)
      have HX7 := hid ((hI.out.2.2.2.fr (Fr.refl Nil wr).drew fun h => h).fr hf7 Hrq.out)
      have hS7 : (fun w' : World => w'.cell? ⟨lb, 0, none⟩ = some (.pointer (some ⟨plb, 0, none⟩)) ∧ w'.cell? ⟨rb, 0, none⟩ = some (.int .i64 (a : Nat))) w7 := ⟨hI7.b.cell 0, HX7.out.cell 0⟩
      have HA7 := hid (show After p (pi.ask 1) (fun _ => False) from hI.out.2.2.1.trans (After.ask pi 1 _))
      have Hv7 := hid hv7
      have HI7 := hid hI7
      have HR7 := hid hR7
      have Hi8 := hid (show i ≤ 8192 by have := Han.out; omega)
      have Hg := hid (show pi.get y = p.get y from hI.out.2.2.1.get y (fun h => h))
      clear hS hI2 hp7 hf7 hI7 hR7 hv7 hbb hfw hI
      refine hK.out _ _ (fun _ => hS7) ?_
      clear hK K
      try simp only [Act.put, List.getElem_toArray, List.getElem_cons_succ, List.getElem_cons_zero, List.setIfInBounds_toArray, List.set_cons_zero, List.set_cons_succ]
      refine wpU_take (i := 9) (v := ?_) rfl (by kernel_rfl) (by kernel_rfl) (fun _ _ _ h => h) _ _ _ _ (by kernel_rfl) (by kernel_rfl) (by kernel_rfl) (Or.inl ⟨by kernel_rfl, ?_⟩) hS7 ?_
      rotate_left
      · (intro w9 hS9; obtain ⟨s0, s1⟩ := hS9; go_simp); (try with_reducible rfl)
      try simp only [Act.put, List.getElem_toArray, List.getElem_cons_succ, List.getElem_cons_zero, List.setIfInBounds_toArray, List.set_cons_zero, List.set_cons_succ]
      refine wpU_take (i := 10) (v := ?_) rfl (by kernel_rfl) (by kernel_rfl) (fun _ _ _ h => h) _ _ _ _ (by kernel_rfl) (by kernel_rfl) (by kernel_rfl) (Or.inl ⟨by kernel_rfl, ?_⟩) hS7 ?_
      rotate_left
      · (intro w9 hS9; obtain ⟨s0, s1⟩ := hS9; go_simp); (try with_reducible rfl)
      try simp only [Act.put, List.getElem_toArray, List.getElem_cons_succ, List.getElem_cons_zero, List.setIfInBounds_toArray, List.set_cons_zero, List.set_cons_succ]
      refine wpU_take (i := 11) (v := ?_) rfl (by kernel_rfl) (by kernel_rfl) (fun _ _ _ h => h) _ _ _ _ (by kernel_rfl) (by kernel_rfl) (by kernel_rfl) (Or.inl ⟨by kernel_rfl, ?_⟩) hS7 ?_
      rotate_left
      · (intro w9 hS9; obtain ⟨s0, s1⟩ := hS9; go_simp); (try with_reducible rfl)
      try simp only [Act.put, List.getElem_toArray, List.getElem_cons_succ, List.getElem_cons_zero, List.setIfInBounds_toArray, List.set_cons_zero, List.set_cons_succ]
      refine wpU_take (i := 12) (v := ?_) rfl (by kernel_rfl) (by kernel_rfl) (fun _ _ _ h => h) _ _ _ _ (by kernel_rfl) (by kernel_rfl) (by kernel_rfl) (Or.inl ⟨by kernel_rfl, ?_⟩) hS7 ?_
      rotate_left
      · (intro w9 hS9; obtain ⟨s0, s1⟩ := hS9; go_simp); (try with_reducible rfl)
      try simp only [Act.put, List.getElem_toArray, List.getElem_cons_succ, List.getElem_cons_zero, List.setIfInBounds_toArray, List.set_cons_zero, List.set_cons_succ]
      refine wpU_next (i := 13) rfl (by kernel_rfl) (fun K hK => ?_)
      go_simp
      refine hK.out _ _ (fun h => absurd rfl h.1) ?_
      refine wpU_done (by kernel_rfl) ?_ _
      clear hK K
      clear hS7 hy1
      cases bb with
      | true =>
        clear hw4
        go_wp2
        refine HPost.out _ _ _ _ _ _ _ ⟨Row.nil _ _ _ _, (HI7.out.app (Q := fun k => Q k ∨ (Value.slice none 0 0).ownBlock = some k) (Fr.refl Nil _) (fun _ h => h.elim) (fun _ h => h.elim) (fun k hk => ?_)).mmono (by omega), HA7.out, .inr ⟨rfl, rfl, rfl⟩, fun h0 => ?_, F7.out⟩
        · rcases hk with hk | hk
          · exact ⟨.inl (.inl hk), HI7.out.tlt k (.inl (.inl hk))⟩
          · simp [Value.ownBlock] at hk
        · have h1 := Hbb.out.1 trivial
          unfold Pl.bad at h1
          rw [show pi.fa = [] from HA7.out.fa.trans h0] at h1
          simp at h1
      | false =>
        clear hw4
        have hv8 := Hv7.out
        simp only [if_neg (show ¬ (false = true) by decide)] at hv8
        have hi9 : i ≤ 8192 := Hi8.out
        go_wp2_with (at_builtin; refine wp_app_view rfl _ _ 30 rfl (.int .u8 0) 1 Tryz.underlying30 info_u8 rfl (by decide) HR7.out rfl hv8 rfl (bys_cell _) (by omega) (by decide) ?_)
        intro A8 c8 w8 r8 f8 z8
        clear z8 hv8
        have HI8 := hid (show Sl (fun k => Q k ∨ (Value.slice A8 (64 * i + 64) c8).ownBlock = some k) TP w0 w8 lb plb sb pb bl N gen (m + i + 1) (pi.ask 1) U L H A l from HI7.out.app f8 (fun k hk => .inr hk) (fun k hk => Nat.le_trans HS0.out.g.fr0.size ((HR7.out.2 k hk).1)) (fun k hk => by
          rcases hk with hk | hk
          · exact ⟨.inl (.inl hk), Nat.lt_of_lt_of_le (HI7.out.tlt k (.inl (.inl hk))) f8.size⟩
          · exact ⟨(r8.2 k hk).imp .inr id, r8.lt k hk⟩))
        have HR8 := hid (show Row w8 (fun k => New w k ∧ k ≠ rb) 5 1 (.slice A8 (64 * i + 64) c8) (64 * i + 64) (bys (frm p a (i + 1))) from by
          have e : bys (frm p a (i + 1)) = bys (frm p a i) ++ bys (pi.get y) := by rw [frm_succ, Hg.out, Hy.out, bys, bys, bys, List.map_append]
          rw [e]
          exact r8.mono fun k hk => by
            rcases hk with hk | hk
            · exact HR7.out.2 k hk
            · exact ⟨Nat.le_trans F7.out.size hk, fun e => by have := HX7.out.lt; omega⟩)
        have HX8 := hid (HX7.out.fr f8 fun hk => (HR7.out.2 rb hk).2 rfl)
        have F8 := hid (show Fr TP w w8 from F7.out.trans f8 fun k hk => .inr ((HR7.out.2 k hk).1))
        clear r8 f8
        go_wp2_with fail
        go_roundw
        case rel =>
          refine ⟨i + 1, A8, c8, pi.ask 1, by go_num, by rw [show 64 * (i + 1) = 64 * i + 64 by omega], by omega, hid ?_, F8.out⟩
          rw [show 64 * (i + 1) = 64 * i + 64 by omega]
          exact ⟨HR8.out, HI8.out.mmono (by omega), HA7.out, HX8.out⟩
        case measure => simp [intOf]; omega
    · have hin : i = n := by omega
      subst hin
      have HI := hid hI
      clear hI
      have Hf := hid hfw
      clear hfw
      go_wp2
      exact HPost.out _ _ _ _ _ _ _ ⟨HI.out.1.mono fun k hk => hk.1, HI.out.2.1, HI.out.2.2.1, .inl ⟨rfl, rfl, rfl⟩, fun _ => rfl, Hf.out⟩
theorem sread_ok {Q TP : Nat → Prop} {w0 w : World} {lb plb sb pb bl N gen m : Nat} {p : Pl} {U L H : List Us} {A l : List Rn} (h : Sl Q TP w0 w lb plb sb pb bl N gen m p U L H A l) (a n : Nat) (hn1 : 1 ≤ n) (han : a + n ≤ bl) (hm : m ≤ 900000) :
    Calls Tryz.prog 11 #[.pointer (some ⟨lb, 0, none⟩), .agg #[.int .i64 (a : Nat), .int .i64 (n : Nat)]] w fun e w' => ∃ (er : Int) (k c : Nat) (xs : List Nat) (B : Option Addr) (p' : Pl), e = .returned (.tuple #[.slice B k c, .int .i64 er]) ∧ Row w' (New w) 5 1 (.slice B k c) k (bys xs) ∧ Sl (fun j => Q j ∨ (Value.slice B k c).ownBlock = some j) TP w0 w' lb plb sb pb bl N gen (m + n) p' U L H A l ∧ After p p' (fun _ => False) ∧ (er = 0 ∧ k = 64 * n ∧ xs = frm p a n ∨ er = 6 ∧ k = 0 ∧ xs = []) ∧ (p.fa = [] → er = 0) ∧ Fr TP w w' :=
  sread_k h a n hn1 han hm _ fun er k c xs B p' w' hh => ⟨er, k, c, xs, B, p', rfl, hh⟩
end Go.Proofs.YtgoghmblfdlnbaaGreat
end

/- The texts VNdI, VCellP2, VNdE, VNdRefNum, VNdRP, VNdRM of this proof, one behind the other. Conditions: those of each. -/
import Derived.Deep.QuietTactic
import Derived.BigQuiet
import Derived.Test.YtgoghmblfdlnbaaGreatGR12
import Derived.Test.YtgoghmblfdlnbaaGreatGR23
import Derived.Test.YtgoghmblfdlnbaaGreatGR24
import Derived.Test.YtgoghmblfdlnbaaGreatGR25
section
/- node.inner, node.May -/
set_option linter.unusedSimpArgs false
set_option linter.unusedVariables false
namespace Go.Proofs.YtgoghmblfdlnbaaGreat.nd
open Go.RowKit

/-- The function 'bad' of inner. -/
theorem bad_ok (k : Kd) (r : Bool) (hr : decide (lOk k.a k.n k.g) = r) (w : World) : Calls Tryz.prog 110 #[.agg #[.int .i64 k.a, .int .i64 k.n, .int .i64 k.g]] w fun e w' => e = .returned (.bool (!r)) ∧ Fr Nil w w' := by
  obtain ⟨a, n, s⟩ := k
  dsimp only at hr ⊢
  have hf : Fr Nil w (w.alloc (.cells #[.int .i64 a, .int .i64 n, .int .i64 s] 57)) := (Fr.refl Nil w).alloc _
  go_enter Tryz.func110, Tryz.ntmps110
  go_wp2_with (go_at_call 111; refine (lies_ok _ _ _ _ hr _).mono ?_; rintro e w9 ⟨rfl, rfl⟩)
  go_ret
  exact ⟨rfl, hf⟩

theorem call_bad (args : Array Value) (w : World) : (callFunc 110 args).run Tryz.prog w = .ok (.enter 110 args) w := by kernel_rfl

def kidsOk (ds : List Kd) (n : Nat) : Prop := ∀ i, i < n → lOk (kd ds i).a (kd ds i).n (kd ds i).g
instance (ds : List Kd) (n : Nat) : Decidable (kidsOk ds n) := by unfold kidsOk; infer_instance

set_option maxRecDepth 100000 in
theorem index_ok (S : Nat → Prop) (A : Option Addr) (n c : Nat) (ds : List Kd) (r : Bool) (hr : decide (kidsOk ds n) = r) (w : World) (hv : View w S 3 (.slice A n c) n (tri ds)) :
    Calls Tryz.prog 121 #[.slice A n c, .func (.func 110) #[] #[]] w fun e w' => ∃ v : Int, e = .returned (.int .i64 v) ∧ decide (0 ≤ v) = (!r) ∧ Fr Nil w w' := by
  subst hr
  have hfalse : ∀ i, i < n → ¬ lOk (kd ds i).a (kd ds i).n (kd ds i).g → decide (kidsOk ds n) = false := fun i hi h => decide_eq_false fun h9 => h (h9 i hi)
  have htrue : (∀ i, i < n → lOk (kd ds i).a (kd ds i).n (kd ds i).g) → decide (kidsOk ds n) = true := fun h => decide_eq_true h
  generalize decide (kidsOk ds n) = r at *
  have hle : n ≤ 9223372036854775807 := hv.le
  go_enter Tryz.func121, Tryz.ntmps121
  go_wp2_with fail
  go_loopw [8] (fun v8 wr => ∃ i : Nat, v8 = .int .i64 i ∧ i ≤ n ∧ Fr Nil w wr ∧ Hid (∀ j, j < i → lOk (kd ds j).a (kd ds j).n (kd ds j).g)) (fun v8 _ => n - (intOf v8).toNat)
  case atStart => exact ⟨0, rfl, by omega, Fr.refl _ _, hid fun j hj => absurd hj (by omega)⟩
  case round =>
    obtain ⟨i, rfl, hi, hfw, hok⟩ := hrel
    have hvw := hv.fr hfw fun _ _ _ h => h
    by_cases hlt : i < n
    · obtain ⟨b, o, rfl, -, hbl, k0, k1, k2⟩ := kd_at hvw hlt
      by_cases hl : lOk (kd ds i).a (kd ds i).n (kd ds i).g
      · have hr := decide_eq_true hl
        have Hl := hid hl
        clear hl
        have Hr := hid hr; clear hr
        go_wp2_with fail
        refine (bad_ok (kd ds i) _ Hr.out _).mono ?_
        rintro e w1 ⟨rfl, hf1⟩
        clear k0 k1 k2
        go_wp2
        go_roundw
        case rel =>
          refine ⟨i + 1, by go_num, by omega, hfw.then hf1, hid fun j hj => ?_⟩
          rcases Nat.lt_or_ge j i with h | h
          · exact hok.out j h
          · obtain rfl : j = i := by omega
            exact Hl.out
        case measure => simp [intOf]; omega
      · have hr := decide_eq_false hl
        have hF := hid (hfalse i hlt hl)
        clear hl hfalse htrue
        have Hr := hid hr; clear hr
        go_wp2_with fail
        refine (bad_ok (kd ds i) _ Hr.out _).mono ?_
        rintro e w1 ⟨rfl, hf1⟩
        clear k0 k1 k2
        go_wp2
        go_ret
        rw [hF.out]
        exact ⟨_, rfl, by simp, hfw.then hf1⟩
    · have hT := hid (htrue fun j hj => hok.out j (by omega))
      clear hfalse htrue
      go_wp2
      go_ret
      rw [hT.out]
      exact ⟨_, rfl, by decide, hfw⟩

theorem contains_ok (S : Nat → Prop) (A : Option Addr) (n c : Nat) (ds : List Kd) (r : Bool) (hr : decide (kidsOk ds n) = r) (w : World) (hv : View w S 3 (.slice A n c) n (tri ds)) :
    Calls Tryz.prog 112 #[.slice A n c, .func (.func 110) #[] #[]] w fun e w' => e = .returned (.bool (!r)) ∧ Fr Nil w w' := by
  go_enter Tryz.func112, Tryz.ntmps112
  go_wp2_with fail
  refine (index_ok S A n c ds r hr w hv).mono ?_
  rintro e w1 ⟨v, rfl, hd, hf⟩
  go_wp2
  go_ret
  exact ⟨rfl, hf⟩

set_option maxRecDepth 100000 in
theorem inner_ok (S : Nat → Prop) (q : Ptr) (x : Nd) (r : Bool) (hr : decide (innerOk x) = r) (w : World) (hV : Vs w S q x) :
    Calls Tryz.prog 95 #[.agg #[.int .i64 x.h, .slice q.A1 x.ks.length q.c1, .slice q.A2 x.ps.length q.c2, .slice q.A3 x.gs.length q.c3, .slice q.A4 x.ds.length q.c4]] w fun e w' => e = .returned (.bool r) ∧ Fr Nil w w' := by
  subst hr
  obtain ⟨h, ks, ps, gs, ds⟩ := x
  obtain ⟨A1, c1, A2, c2, A3, c3, A4, c4⟩ := q
  obtain ⟨hk, hp, hg, hd⟩ := hV
  have hf0 : ¬ 0 < ks.length → decide (innerOk ⟨h, ks, ps, gs, ds⟩) = false := fun h => decide_eq_false fun h9 => h h9.1
  have hf1 : ds.length ≠ ks.length → decide (innerOk ⟨h, ks, ps, gs, ds⟩) = false := fun h => decide_eq_false fun h9 => h h9.2.1
  have hf2 : ¬ (ps.length = 0 ∧ gs.length = 0) → decide (innerOk ⟨h, ks, ps, gs, ds⟩) = false := fun h => decide_eq_false fun h9 => h ⟨h9.2.2.1, h9.2.2.2.1⟩
  have hlast : 0 < ks.length → ds.length = ks.length → ps.length = 0 → gs.length = 0 → decide (innerOk ⟨h, ks, ps, gs, ds⟩) = decide (kidsOk ds ks.length) := fun a b c d => by
    by_cases hh : kidsOk ds ks.length
    · rw [decide_eq_true hh]; exact decide_eq_true ⟨a, b, c, d, hh⟩
    · rw [decide_eq_false hh]; exact decide_eq_false fun h9 => hh h9.2.2.2.2
  generalize decide (innerOk ⟨h, ks, ps, gs, ds⟩) = r at *
  dsimp only at hk hp hg hd ⊢
  generalize ks.length = n at *
  generalize ps.length = n2 at *
  generalize gs.length = n3 at *
  generalize ds.length = n4 at *
  have l2 := hp.le
  have l3 := hg.le
  have hfr : Fr Nil w (w.alloc (.cells #[.int .i64 h, .slice A1 n c1, .slice A2 n2 c2, .slice A3 n3 c3, .slice A4 n4 c4] 62)) := (Fr.refl Nil w).alloc _
  by_cases e0 : 0 < n
  · by_cases e1 : n4 = n
    · subst e1
      by_cases e2 : n2 = 0 ∧ n3 = 0
      · obtain ⟨rfl, rfl⟩ := e2
        have hl := hid (hlast e0 rfl rfl rfl)
        clear hf0 hf1 hf2 hlast
        go_enter Tryz.func95, Tryz.ntmps95
        go_wp2_with fail
        refine (contains_ok S A4 n4 c4 ds _ rfl _ (hd.fr hfr fun _ _ _ h => h)).mono ?_
        rintro e w1 ⟨rfl, hf1⟩
        go_wp2
        go_ret
        rw [hl.out]
        exact ⟨rfl, hfr.then hf1⟩
      · obtain rfl := hf2 e2
        have hne : ¬ ((n2 : Int) + (n3 : Int) = 0) := by omega
        have hsum : wrap64 ((n2 : Int) + (n3 : Int)) ≠ 0 := by unfold wrap64; omega
        have hb : (wrap64 ((n2 : Int) + (n3 : Int)) == 0) = false := by simpa using hsum
        have Hh := hid hsum
        clear hsum e2 hne hf0 hf1 hf2 hlast
        go_enter Tryz.func95, Tryz.ntmps95
        go_wp2
        go_ret
        exact ⟨rfl, hfr⟩
    · obtain rfl := hf1 e1
      go_enter Tryz.func95, Tryz.ntmps95
      go_wp2
      go_ret
      exact ⟨rfl, hfr⟩
  · obtain rfl := hf0 e0
    go_enter Tryz.func95, Tryz.ntmps95
    go_wp2
    go_ret
    exact ⟨rfl, hfr⟩

theorem nodeMay_ok (S : Nat → Prop) (q : Ptr) (x : Nd) (r : Bool) (hr : decide (MayNd x) = r) (w : World) (hV : Vs w S q x) :
    Calls Tryz.prog 67 #[.agg #[.int .i64 x.h, .slice q.A1 x.ks.length q.c1, .slice q.A2 x.ps.length q.c2, .slice q.A3 x.gs.length q.c3, .slice q.A4 x.ds.length q.c4]] w fun e w' => e = .returned (.bool r) ∧ Fr Nil w w' := by
  obtain ⟨h, ks, ps, gs, ds⟩ := x
  obtain ⟨A1, c1, A2, c2, A3, c3, A4, c4⟩ := q
  have hfr : Fr Nil w (w.alloc (.cells #[.int .i64 h, .slice A1 ks.length c1, .slice A2 ps.length c2, .slice A3 gs.length c3, .slice A4 ds.length c4] 62)) := (Fr.refl Nil w).alloc _
  have hV1 := hV.nil hfr
  subst hr
  have hf0 : ¬ (0 ≤ h ∧ h ≤ 5) → decide (MayNd ⟨h, ks, ps, gs, ds⟩) = false := fun h => decide_eq_false fun h9 => h h9.1
  have hf1 : ¬ keysOk ks → decide (MayNd ⟨h, ks, ps, gs, ds⟩) = false := fun h => decide_eq_false fun h9 => h h9.2.1
  have hf2 : 0 ≤ h ∧ h ≤ 5 → keysOk ks → h = 0 → decide (MayNd ⟨h, ks, ps, gs, ds⟩) = decide (leafOk ⟨h, ks, ps, gs, ds⟩) := fun a b c => decide_eq_decide.2 ⟨fun h9 => h9.2.2.1 c, fun h9 => ⟨a, b, fun _ => h9, fun h => absurd c h⟩⟩
  have hf3 : 0 ≤ h ∧ h ≤ 5 → keysOk ks → h ≠ 0 → decide (MayNd ⟨h, ks, ps, gs, ds⟩) = decide (innerOk ⟨h, ks, ps, gs, ds⟩) := fun a b c => decide_eq_decide.2 ⟨fun h9 => h9.2.2.2 c, fun h9 => ⟨a, b, fun h => absurd h c, fun _ => h9⟩⟩
  generalize decide (MayNd ⟨h, ks, ps, gs, ds⟩) = r at *
  obtain ⟨W1, hW1⟩ : ∃ W1, W1 = w.alloc (.cells #[.int .i64 h, .slice A1 ks.length c1, .slice A2 ps.length c2, .slice A3 gs.length c3, .slice A4 ds.length c4] 62) := ⟨_, rfl⟩
  have hb : Blk W1 w.heap.size #[.int .i64 h, .slice A1 ks.length c1, .slice A2 ps.length c2, .slice A3 gs.length c3, .slice A4 ds.length c4] 62 := by rw [hW1]; exact Blk.new _ _ _
  have b0 : W1.cell? ⟨w.heap.size, 0, none⟩ = some (.int .i64 h) := hb.cell 0
  have b1 : W1.cell? ⟨w.heap.size, 1, none⟩ = some (.slice A1 ks.length c1) := hb.cell 1
  have b2 : W1.cell? ⟨w.heap.size, 2, none⟩ = some (.slice A2 ps.length c2) := hb.cell 2
  have b3 : W1.cell? ⟨w.heap.size, 3, none⟩ = some (.slice A3 gs.length c3) := hb.cell 3
  have b4 : W1.cell? ⟨w.heap.size, 4, none⟩ = some (.slice A4 ds.length c4) := hb.cell 4
  clear hb
  rw [← hW1] at hfr hV1
  by_cases hh : 0 ≤ h ∧ h ≤ 5
  · by_cases hks : keysOk ks
    · have hdk := hid (decide_eq_true hks)
      by_cases h0 : h = 0
      · have HF := hid (hf2 hh hks h0)
        have Hks := hid hks
        subst h0
        clear hf0 hf1 hf2 hf3 hks
        go_enter Tryz.func67, Tryz.ntmps67
        go_wp2_with fail
        rw [← hW1]; clear hW1
        go_wp2_with (go_at_call 92; first | (refine (within_ok _ _ _ true (decide_eq_true (by omega)) _).mono ?_; rintro e w9 ⟨rfl, rfl⟩) | (refine (within_ok _ _ _ false (decide_eq_false (by omega)) _).mono ?_; rintro e w9 ⟨rfl, rfl⟩))
        refine (keys_ok S A1 c1 ks _ hdk.out _ hV1.k).mono ?_
        rintro e w2 ⟨rfl, rfl⟩
        go_wp2_with fail
        refine (leaf_ok S ⟨A1, c1, A2, c2, A3, c3, A4, c4⟩ ⟨0, ks, ps, gs, ds⟩ _ rfl _ hV1).mono ?_
        rintro e w2 ⟨rfl, hf2⟩
        go_wp2
        go_ret
        rw [HF.out]
        exact ⟨rfl, hfr.then hf2⟩
      · have HF := hid (hf3 hh hks h0)
        have hb0 : (h == 0) = false := by simpa using h0
        have Hks := hid hks
        clear hf0 hf1 hf2 hf3 hks h0
        go_enter Tryz.func67, Tryz.ntmps67
        go_wp2_with fail
        rw [← hW1]; clear hW1
        go_wp2_with (go_at_call 92; first | (refine (within_ok _ _ _ true (decide_eq_true (by omega)) _).mono ?_; rintro e w9 ⟨rfl, rfl⟩) | (refine (within_ok _ _ _ false (decide_eq_false (by omega)) _).mono ?_; rintro e w9 ⟨rfl, rfl⟩))
        refine (keys_ok S A1 c1 ks _ hdk.out _ hV1.k).mono ?_
        rintro e w2 ⟨rfl, rfl⟩
        go_wp2_with fail
        refine (inner_ok S ⟨A1, c1, A2, c2, A3, c3, A4, c4⟩ ⟨h, ks, ps, gs, ds⟩ _ rfl _ hV1).mono ?_
        rintro e w2 ⟨rfl, hf2⟩
        go_wp2
        go_ret
        rw [HF.out]
        exact ⟨rfl, hfr.then hf2⟩
    · have hdk := hid (decide_eq_false hks)
      obtain rfl := hf1 hks
      clear hf0 hf1 hf2 hf3 hks
      go_enter Tryz.func67, Tryz.ntmps67
      go_wp2_with fail
      rw [← hW1]; clear hW1
      go_wp2_with (go_at_call 92; first | (refine (within_ok _ _ _ true (decide_eq_true (by omega)) _).mono ?_; rintro e w9 ⟨rfl, rfl⟩) | (refine (within_ok _ _ _ false (decide_eq_false (by omega)) _).mono ?_; rintro e w9 ⟨rfl, rfl⟩))
      refine (keys_ok S A1 c1 ks _ hdk.out _ hV1.k).mono ?_
      rintro e w2 ⟨rfl, rfl⟩
      go_wp2
      go_ret
      exact ⟨rfl, hfr⟩
  · obtain rfl := hf0 hh
    clear hf0 hf1 hf2 hf3
    go_enter Tryz.func67, Tryz.ntmps67
    go_wp2_with fail
    rw [← hW1]; clear hW1
    go_wp2_with (go_at_call 92; first | (refine (within_ok _ _ _ true (decide_eq_true (by omega)) _).mono ?_; rintro e w9 ⟨rfl, rfl⟩) | (refine (within_ok _ _ _ false (decide_eq_false (by omega)) _).mono ?_; rintro e w9 ⟨rfl, rfl⟩))
    go_ret
    exact ⟨rfl, hfr⟩
end Go.Proofs.YtgoghmblfdlnbaaGreat.nd
end

section
/- Plain words on numbers that are written and read back (no program). -/
set_option linter.unusedSimpArgs false
set_option linter.unusedVariables false
namespace Go.Proofs.YtgoghmblfdlnbaaGreat

theorem enc_byt (x : Nat) : Byt (enc x) := by
  induction x using Nat.strongRecOn with
  | ind x ih =>
    by_cases h : x < 128
    · rw [enc_lo h]; intro c hc; simp at hc; omega
    · rw [enc_hi h]
      intro c hc
      rcases List.mem_cons.1 hc with rfl | hc
      · omega
      · exact ih (x / 128) (by omega) c hc
/-- Written numbers are read. -/
theorem numF_enc : ∀ (f i x y : Nat) (rest : List Nat), (enc y).length ≤ f → (0 < y ∨ i = 0) → numF f i x (enc y ++ rest) = .ok (x + y * 128 ^ i) rest
  | 0, i, x, y, rest, hf, hy => by
    by_cases h : y < 128
    · rw [enc_lo h] at hf; simp at hf
    · rw [enc_hi h] at hf; simp at hf
  | f + 1, i, x, y, rest, hf, hy => by
    by_cases h : y < 128
    · rw [enc_lo h]
      simp only [List.singleton_append, numF]
      rw [if_pos h, if_neg (by omega), Nat.mod_eq_of_lt h]
    · rw [enc_hi h] at hf ⊢
      simp only [List.cons_append, numF]
      rw [if_neg (by omega), numF_enc f (i + 1) _ (y / 128) rest (by simpa using hf) (by omega), Nat.add_assoc]
      congr 2
      rw [Nat.pow_succ, show (y % 128 + 128) % 128 = y % 128 by omega, ← Nat.mul_assoc, Nat.mul_comm (y / 128 * 128 ^ i), ← Nat.mul_assoc, Nat.mul_comm 128, ← Nat.add_mul]
      congr 1; omega
theorem num_enc (y : Nat) (h : y < 268435456) (rest : List Nat) : num (enc y ++ rest) = .ok y rest := by
  have := numF_enc 4 0 0 y rest (enc_len y h).1 (.inr rfl)
  simpa [num] using this
theorem byt_enc (most : Int) (l : List Nat) (h : (l.length : Int) ≤ most) (h2 : l.length < 268435456) (rest : List Nat) : byt most (enc l.length ++ (l ++ rest)) = .ok l rest := by
  unfold byt
  rw [num_enc l.length h2]
  simp only
  rw [if_neg (by omega), if_neg (by rw [List.length_append]; omega)]
  simp
/-- Many numbers. -/
def encs (ns : List Nat) : List Nat := ns.flatMap enc
theorem encs_nil : encs [] = [] := rfl
theorem encs_cons (n : Nat) (ns : List Nat) : encs (n :: ns) = enc n ++ encs ns := rfl
theorem encs_snoc (ns : List Nat) (n : Nat) : encs (ns ++ [n]) = encs ns ++ enc n := by simp [encs]
theorem encs_byt (ns : List Nat) : Byt (encs ns) := by
  intro c hc
  obtain ⟨n, _, h⟩ := List.mem_flatMap.1 hc
  exact enc_byt n c h
theorem encs_len (ns : List Nat) (h : ∀ n ∈ ns, n < 268435456) : (encs ns).length ≤ 4 * ns.length := by
  induction ns with
  | nil => simp [encs]
  | cons n ns ih =>
    rw [encs_cons, List.length_append, List.length_cons]
    have := (enc_len n (h n (by simp))).1
    have := ih (fun m hm => h m (List.mem_cons_of_mem _ hm))
    omega
/-- How many groups stand behind the first. -/
def more (k : Nat) : Nat := if k = 0 then 0 else (enc k).length
theorem more_zero : more 0 = 0 := rfl
theorem enc_more (x : Nat) : (enc x).length = 1 + more (x / 128) := by
  by_cases h : x < 128
  · rw [enc_lo h, show x / 128 = 0 by omega]; rfl
  · rw [enc_hi h, more, if_neg (by omega), List.length_cons]; omega
theorem more_step {k : Nat} (h : 0 < k) : more k = 1 + more (k / 128) := by
  rw [more, if_neg (by omega), enc_more]
/-- A number of 28 bits out of 32. -/
theorem and28 (z : Int) (h0 : 0 ≤ z) (h1 : z < 4294967296) : bits .and .u32 z 268435455 = z % 268435456 :=
  bits_mask .u32 32 (by decide) (fun n h1 h2 => by rw [IntKind.wrap_u32]; omega) 28 (by decide) z h0 (by omega)
open Go.RowKit
/-- 28 bits of a number. -/
def val (z : Int) : Nat := (z % 268435456).toNat
theorem val_lt (z : Int) : val z < 268435456 := by unfold val; omega
theorem val_eq (z : Int) (h0 : 0 ≤ z) (h1 : z < 4294967296) : wrap64 (bits .and .u32 z 268435455) = ((val z : Nat) : Int) := by
  rw [and28 z h0 h1]; unfold val wrap64; omega
end Go.Proofs.YtgoghmblfdlnbaaGreat
end

section
/- node.Encode -/
set_option linter.unusedSimpArgs false
set_option linter.unusedVariables false
namespace Go.Proofs.YtgoghmblfdlnbaaGreat.nd
open Go.RowKit

theorem info_int : (Tryz.prog.info? 3).map (fun i => (i.zero, i.size, i.bytes)) = some (some (.int .i64 0), 1, 8) := by kernel_rfl

/-- The numbers of an entry. -/
def entZ (x : Nd) (i : Nat) : List Int := if x.h = 0 then [(kd x.ps i).a, (kd x.ps i).n, (kd x.ps i).g, kz x.gs i] else [(kd x.ds i).a, (kd x.ds i).n, (kd x.ds i).g]
def ent (x : Nd) (i : Nat) : List Nat := (kz x.ks i).toNat :: (entZ x i).map Int.toNat
/-- The numbers of a node, as far as entry i. -/
def pre (x : Nd) (i : Nat) : List Nat := x.h.toNat :: x.ks.length :: (List.range i).flatMap (ent x)
theorem pre_succ (x : Nd) (i : Nat) : pre x (i + 1) = pre x i ++ ent x i := by
  simp [pre, List.range_succ, List.flatMap_append]
/-- What may stand in a field. -/
def Nm (z : Int) : Prop := 0 ≤ z ∧ z < 268435456
theorem may_key {x : Nd} (h : MayNd x) {i : Nat} (hi : i < x.ks.length) : Nm (kz x.ks i) := by
  have := (h.2.1.2 i hi).1
  exact ⟨this.1, by omega⟩
theorem may_leaf {x : Nd} (h : MayNd x) (h0 : x.h = 0) {i : Nat} (hi : i < x.ks.length) : x.ps.length = x.ks.length ∧ x.gs.length = x.ks.length ∧ ∀ z ∈ [(kd x.ps i).a, (kd x.ps i).n, (kd x.ps i).g, kz x.gs i], Nm z := by
  obtain ⟨a, b, _, c⟩ := h.2.2.1 h0
  obtain ⟨⟨c1, c2, _, c3⟩, c4⟩ := c i hi
  refine ⟨a, b, ?_⟩
  simp only [List.mem_cons, List.not_mem_nil, or_false]
  rintro z (rfl | rfl | rfl | rfl) <;> constructor <;> omega
theorem may_inner {x : Nd} (h : MayNd x) (h0 : x.h ≠ 0) {i : Nat} (hi : i < x.ks.length) : x.ds.length = x.ks.length ∧ ∀ z ∈ [(kd x.ds i).a, (kd x.ds i).n, (kd x.ds i).g], Nm z := by
  obtain ⟨_, a, _, _, c⟩ := h.2.2.2 h0
  obtain ⟨c1, c2, _, c3⟩ := c i hi
  refine ⟨a, ?_⟩
  simp only [List.mem_cons, List.not_mem_nil, or_false]
  rintro z (rfl | rfl | rfl) <;> constructor <;> omega
theorem entZ_nm {x : Nd} (h : MayNd x) {i : Nat} (hi : i < x.ks.length) : ∀ z ∈ entZ x i, Nm z := by
  unfold entZ
  split
  · rename_i h0; exact (may_leaf h h0 hi).2.2
  · rename_i h0; exact (may_inner h h0 hi).2
theorem entZ_len (x : Nd) (i : Nat) : (entZ x i).length ≤ 4 := by unfold entZ; split <;> simp
theorem ent_lt {x : Nd} (h : MayNd x) {i : Nat} (hi : i < x.ks.length) : ∀ n ∈ ent x i, n < 268435456 := by
  unfold ent
  intro n hn
  rcases List.mem_cons.1 hn with rfl | hn
  · have := may_key h hi; unfold Nm at this; omega
  · obtain ⟨z, hz, rfl⟩ := List.mem_map.1 hn
    have := entZ_nm h hi z hz; unfold Nm at this; omega
theorem pre_lt {x : Nd} (h : MayNd x) : ∀ i, i ≤ x.ks.length → ∀ n ∈ pre x i, n < 268435456
  | 0, _ => by
    intro n hn
    simp [pre] at hn
    have h1 := h.1
    have h2 := h.2.1.1
    rcases hn with rfl | rfl <;> omega
  | i + 1, hi => by
    rw [pre_succ]
    intro n hn
    rcases List.mem_append.1 hn with hn | hn
    · exact pre_lt h i (by omega) n hn
    · exact ent_lt h (by omega) n hn
theorem pre_len (x : Nd) : ∀ i, (pre x i).length ≤ 2 + 5 * i
  | 0 => by simp [pre]
  | i + 1 => by
    rw [pre_succ, List.length_append]
    have h1 := pre_len x i
    have h2 := entZ_len x i
    simp [ent]; omega
theorem pre_encs_len {x : Nd} (h : MayNd x) {i : Nat} (hi : i ≤ x.ks.length) : (encs (pre x i)).length ≤ 8 + 20 * i := by
  have h1 := encs_len _ (pre_lt h i hi)
  have h2 := pre_len x i
  omega
/-- A row of whole numbers as cells. -/
theorem ints_cell (l : List Int) : ∀ u ∈ ints .i64 l, u.oneCell' = true := by
  intro u hu
  obtain ⟨_, _, rfl⟩ := List.mem_map.1 hu
  rfl
end Go.Proofs.YtgoghmblfdlnbaaGreat.nd
end

section
/- The reference's Num (chapter 4). -/
set_option linter.unusedSimpArgs false
set_option linter.unusedVariables false
namespace Go.Proofs.YtgoghmblfdlnbaaGreat.nd
open Go.RowKit

end Go.Proofs.YtgoghmblfdlnbaaGreat.nd
end

section
/- The reference's put (chapter 13): numbers, one behind another. -/
set_option linter.unusedSimpArgs false
set_option linter.unusedVariables false
namespace Go.Proofs.YtgoghmblfdlnbaaGreat.nd
open Go.RowKit

def natsOf (zs : List Int) : List Nat := zs.map Int.toNat
theorem natsOf_lt {zs : List Int} (h : ∀ z ∈ zs, Nm z) : ∀ n ∈ natsOf zs, n < 268435456 := by
  intro n hn
  obtain ⟨z, hz, rfl⟩ := List.mem_map.1 hn
  have := h z hz; unfold Nm at this; omega
theorem natsOf_len {zs : List Int} (h : ∀ z ∈ zs, Nm z) (i : Nat) : (encs (natsOf (zs.take i))).length ≤ 4 * zs.length := by
  have h1 := encs_len (natsOf (zs.take i)) (natsOf_lt fun z hz => h z (List.mem_of_mem_take hz))
  have h2 : (natsOf (zs.take i)).length ≤ zs.length := by simp [natsOf, List.length_take]; omega
  omega
theorem natsOf_take {zs : List Int} {i : Nat} (hi : i < zs.length) : encs (natsOf (zs.take (i + 1))) = encs (natsOf (zs.take i)) ++ enc (kz zs i).toNat := by
  rw [natsOf, List.take_succ_eq_append_getElem hi, kz_eq hi, List.map_append, List.map_singleton, encs_snoc]; rfl

end Go.Proofs.YtgoghmblfdlnbaaGreat.nd
end

section
/- The reference's run, gen, PlaceMay, May (chapter 13). -/
set_option linter.unusedSimpArgs false
set_option linter.unusedVariables false
namespace Go.Proofs.YtgoghmblfdlnbaaGreat.nd
open Go.RowKit

def runOk (a n : Int) : Prop := (0 ≤ a ∧ a ≤ 8191) ∧ (1 ≤ n ∧ n ≤ 128) ∧ a + n ≤ 8192
instance (a n : Int) : Decidable (runOk a n) := by unfold runOk; infer_instance
theorem lOk_run (a n g : Int) : lOk a n g ↔ runOk a n ∧ (0 ≤ g ∧ g ≤ 268435455) := by unfold lOk runOk; omega

theorem run_ok (a n : Int) (r : Bool) (hr : decide (runOk a n) = r) (w : World) : Calls Tryz.prog 47 #[.int .i64 a, .int .i64 n] w fun e w' => e = .returned (.bool r) ∧ w = w' := by
  subst hr
  by_cases h1 : 0 ≤ a
  · by_cases h2 : a < 8192
    · by_cases h3 : 1 ≤ n
      · by_cases h4 : n ≤ 128
        · by_cases h5 : n ≤ 8192 - a
          · rw [decide_eq_true (show runOk a n by unfold runOk; omega)]
            go_enter Tryz.func47, Tryz.ntmps47
            go_wp2
            go_ret
            exact ⟨rfl, rfl⟩
          · rw [decide_eq_false (show ¬ runOk a n by unfold runOk; omega)]
            go_enter Tryz.func47, Tryz.ntmps47
            go_wp2
            go_ret
            exact ⟨rfl, rfl⟩
        · rw [decide_eq_false (show ¬ runOk a n by unfold runOk; omega)]
          go_enter Tryz.func47, Tryz.ntmps47
          go_wp2
          go_ret
          exact ⟨rfl, rfl⟩
      · rw [decide_eq_false (show ¬ runOk a n by unfold runOk; omega)]
        go_enter Tryz.func47, Tryz.ntmps47
        go_wp2
        go_ret
        exact ⟨rfl, rfl⟩
    · rw [decide_eq_false (show ¬ runOk a n by unfold runOk; omega)]
      go_enter Tryz.func47, Tryz.ntmps47
      go_wp2
      go_ret
      exact ⟨rfl, rfl⟩
  · rw [decide_eq_false (show ¬ runOk a n by unfold runOk; omega)]
    go_enter Tryz.func47, Tryz.ntmps47
    go_wp2
    go_ret
    exact ⟨rfl, rfl⟩

theorem gen_ok (g : Int) (r : Bool) (hr : decide (0 ≤ g ∧ g ≤ 268435455) = r) (w : World) : Calls Tryz.prog 48 #[.int .i64 g] w fun e w' => e = .returned (.bool r) ∧ w = w' := by
  subst hr
  by_cases h1 : 0 ≤ g
  · by_cases h2 : g < 268435456
    · rw [decide_eq_true (show 0 ≤ g ∧ g ≤ 268435455 by omega)]
      go_enter Tryz.func48, Tryz.ntmps48
      go_wp2
      go_ret
      exact ⟨rfl, rfl⟩
    · rw [decide_eq_false (show ¬ (0 ≤ g ∧ g ≤ 268435455) by omega)]
      go_enter Tryz.func48, Tryz.ntmps48
      go_wp2
      go_ret
      exact ⟨rfl, rfl⟩
  · rw [decide_eq_false (show ¬ (0 ≤ g ∧ g ≤ 268435455) by omega)]
    go_enter Tryz.func48, Tryz.ntmps48
    go_wp2
    go_ret
    exact ⟨rfl, rfl⟩

theorem pmay_ok (k : Kd) (g : Int) (r : Bool) (hr : decide (eOk k g) = r) (w : World) : Calls Tryz.prog 46 #[.agg #[.int .i64 k.a, .int .i64 k.n, .int .i64 k.g], .int .i64 g] w fun e w' => e = .returned (.bool r) ∧ Fr Nil w w' := by
  obtain ⟨a, n, s⟩ := k
  subst hr
  have hf : Fr Nil w (w.alloc (.cells #[.int .i64 a, .int .i64 n, .int .i64 s] 51)) := (Fr.refl Nil w).alloc _
  by_cases h1 : runOk a n
  · have hr1 := hid (decide_eq_true h1)
    by_cases h2 : 0 ≤ s
    · by_cases h3 : s < 8
      · by_cases h4 : 0 ≤ g ∧ g ≤ 268435455
        · have hr2 := hid (decide_eq_true h4)
          rw [decide_eq_true (show eOk ⟨a, n, s⟩ g from ⟨(lOk_run _ _ _).2 ⟨h1, h4⟩, h2, by show s ≤ 7; omega⟩)]
          clear h1 h4
          go_enter Tryz.func46, Tryz.ntmps46
          go_wp2_with first | (go_at_call 47; (refine (run_ok _ _ _ hr1.out _).mono ?_; rintro e w9 ⟨rfl, rfl⟩)) | (go_at_call 48; (refine (gen_ok _ _ hr2.out _).mono ?_; rintro e w9 ⟨rfl, rfl⟩))
          go_ret
          exact ⟨rfl, hf⟩
        · have hr2 := hid (decide_eq_false h4)
          rw [decide_eq_false (show ¬ eOk ⟨a, n, s⟩ g from fun h => h4 ((lOk_run _ _ _).1 h.1).2)]
          clear h1 h4
          go_enter Tryz.func46, Tryz.ntmps46
          go_wp2_with first | (go_at_call 47; (refine (run_ok _ _ _ hr1.out _).mono ?_; rintro e w9 ⟨rfl, rfl⟩)) | (go_at_call 48; (refine (gen_ok _ _ hr2.out _).mono ?_; rintro e w9 ⟨rfl, rfl⟩))
          go_ret
          exact ⟨rfl, hf⟩
      · rw [decide_eq_false (show ¬ eOk ⟨a, n, s⟩ g from fun h => h3 (by have : s ≤ 7 := h.2.2; omega))]
        clear h1
        have hr2 := hid trivial
        go_enter Tryz.func46, Tryz.ntmps46
        go_wp2_with first | (go_at_call 47; (refine (run_ok _ _ _ hr1.out _).mono ?_; rintro e w9 ⟨rfl, rfl⟩)) | (go_at_call 48; (refine (gen_ok _ _ hr2.out _).mono ?_; rintro e w9 ⟨rfl, rfl⟩))
        go_ret
        exact ⟨rfl, hf⟩
    · rw [decide_eq_false (show ¬ eOk ⟨a, n, s⟩ g from fun h => h2 h.2.1)]
      clear h1
      have hr2 := hid trivial
      go_enter Tryz.func46, Tryz.ntmps46
      go_wp2_with first | (go_at_call 47; (refine (run_ok _ _ _ hr1.out _).mono ?_; rintro e w9 ⟨rfl, rfl⟩)) | (go_at_call 48; (refine (gen_ok _ _ hr2.out _).mono ?_; rintro e w9 ⟨rfl, rfl⟩))
      go_ret
      exact ⟨rfl, hf⟩
  · have hr1 := hid (decide_eq_false h1)
    rw [decide_eq_false (show ¬ eOk ⟨a, n, s⟩ g from fun h => h1 ((lOk_run _ _ _).1 h.1).1)]
    clear h1
    have hr2 := hid trivial
    go_enter Tryz.func46, Tryz.ntmps46
    go_wp2_with first | (go_at_call 47; (refine (run_ok _ _ _ hr1.out _).mono ?_; rintro e w9 ⟨rfl, rfl⟩)) | (go_at_call 48; (refine (gen_ok _ _ hr2.out _).mono ?_; rintro e w9 ⟨rfl, rfl⟩))
    go_ret
    exact ⟨rfl, hf⟩
end Go.Proofs.YtgoghmblfdlnbaaGreat.nd
end

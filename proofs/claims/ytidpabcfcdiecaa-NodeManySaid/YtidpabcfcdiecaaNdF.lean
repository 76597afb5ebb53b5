/- node.Find -/
import Derived.Test.YtidpabcfcdiecaaNdI
import Derived.Deep.QuietTactic
import Derived.BigQuiet
set_option linter.unusedSimpArgs false
set_option linter.unusedVariables false
namespace Go.Proofs.Ytidpabcfcdiecaa
open Go.RowKit

def atF (ks : List Int) (key : Int) : Nat → Nat
  | 0 => 0
  | i + 1 => if kz ks i ≤ key then i else atF ks key i
theorem atF_lt (ks : List Int) (key : Int) : ∀ i, 0 < i → atF ks key i < i
  | 0, h => absurd h (by omega)
  | i + 1, _ => by
    unfold atF
    split
    · omega
    · rcases Nat.eq_zero_or_pos i with rfl | h
      · show 0 < 1; omega
      · have := atF_lt ks key i h; omega

def atR (ks : List Int) (key : Int) : Nat → Int
  | 0 => -1
  | i + 1 => if kz ks i ≤ key then i else atR ks key i
theorem atR_lt (ks : List Int) (key : Int) : ∀ i, -1 ≤ atR ks key i ∧ atR ks key i < i
  | 0 => by unfold atR; omega
  | i + 1 => by
    unfold atR
    have := atR_lt ks key i
    split <;> omega
/-- The two ways of finding agree. -/
theorem at_eq (ks : List Int) (key : Int) : ∀ i, (atR ks key i = -1 ∧ atF ks key i = 0 ∧ ∀ j, j < i → key < kz ks j) ∨ (atR ks key i = (atF ks key i : Nat))
  | 0 => .inl ⟨rfl, rfl, fun j hj => absurd hj (by omega)⟩
  | i + 1 => by
    unfold atR atF
    by_cases h : kz ks i ≤ key
    · rw [if_pos h, if_pos h]; exact .inr rfl
    · rw [if_neg h, if_neg h]
      rcases at_eq ks key i with ⟨a, b, c⟩ | a
      · refine .inl ⟨a, b, fun j hj => ?_⟩
        rcases Nat.lt_or_ge j i with h2 | h2
        · exact c j h2
        · obtain rfl : j = i := by omega
          omega
      · exact .inr a

/-- What the reference answers. -/
def fndR (ks : List Int) (key : Int) (n : Nat) : Value := .tuple #[.int .i64 (atF ks key n : Nat), .bool (decide (0 < n ∧ kz ks (atF ks key n) = key))]
theorem fndR_neg {ks : List Int} {key : Int} {n : Nat} (h : atR ks key n < 0) : fndR ks key n = .tuple #[.int .i64 0, .bool false] := by
  unfold fndR
  rcases at_eq ks key n with ⟨_, b, c⟩ | a
  · rw [b, decide_eq_false]
    · rfl
    · rintro ⟨h1, h2⟩
      have := c 0 h1
      omega
  · omega
theorem fndR_pos {ks : List Int} {key : Int} {n m : Nat} (h : atR ks key n = m) : fndR ks key n = .tuple #[.int .i64 m, .bool (kz ks m == key)] := by
  unfold fndR
  have h3 := (atR_lt ks key n).2
  rcases at_eq ks key n with ⟨a, _, _⟩ | a
  · omega
  · obtain rfl : m = atF ks key n := by omega
    rw [show decide (0 < n ∧ kz ks (atF ks key n) = key) = (kz ks (atF ks key n) == key) from by rw [Bool.eq_iff_iff]; simp; omega]

theorem fndF_pos {ks : List Int} {key : Int} {n m : Nat} (h : atF ks key n = m) (h0 : 0 < n) : fndR ks key n = .tuple #[.int .i64 m, .bool (kz ks m == key)] := by
  unfold fndR
  rw [h]
  rw [show decide (0 < n ∧ kz ks m = key) = (kz ks m == key) from by rw [Bool.eq_iff_iff]; simp [h0]]
theorem fndF_zero (ks : List Int) (key : Int) : fndR ks key 0 = .tuple #[.int .i64 0, .bool false] := rfl

set_option maxRecDepth 100000 in
theorem find_ok (S : Nat → Prop) (q : Ptr) (x : Nd) (key : Int) (w : World) (hV : Vs w S q x) :
    Calls Try.prog 20 #[.agg #[.int .i64 x.h, .slice q.A1 x.ks.length q.c1, .slice q.A2 x.ps.length q.c2, .slice q.A3 x.gs.length q.c3, .slice q.A4 x.ds.length q.c4], .int .i64 key] w fun e w' => e = .returned (fndR x.ks key x.ks.length) ∧ Fr Nil w w' := by
  obtain ⟨h, ks, ps, gs, ds⟩ := x
  obtain ⟨A1, c1, A2, c2, A3, c3, A4, c4⟩ := q
  obtain ⟨hk, hp, hg, hd⟩ := hV
  dsimp only at hk ⊢
  clear hp hg hd
  generalize ks.length = n at *
  have hle : n ≤ 9223372036854775807 := hk.le
  have hfr : Fr Nil w (w.alloc (.cells #[.int .i64 h, .slice A1 n c1, .slice A2 ps.length c2, .slice A3 gs.length c3, .slice A4 ds.length c4] 35)) := (Fr.refl Nil w).alloc _
  obtain ⟨W1, hW1⟩ : ∃ W1, W1 = w.alloc (.cells #[.int .i64 h, .slice A1 n c1, .slice A2 ps.length c2, .slice A3 gs.length c3, .slice A4 ds.length c4] 35) := ⟨_, rfl⟩
  have b1 : W1.cell? ⟨w.heap.size, 1, none⟩ = some (.slice A1 n c1) := by rw [hW1]; exact (Blk.new _ _ _).cell 1
  rw [← hW1] at hfr
  replace hk := hk.fr hfr fun _ _ _ h => h
  go_enter Try.func20, Try.ntmps20
  go_wp2_with fail
  rw [← hW1]; clear hW1
  generalize w.heap.size = nb at *
  go_loop [6, 12] (fun v6 v12 => ∃ i : Nat, v6 = .int .i64 (atF ks key i : Nat) ∧ v12 = .int .i64 i ∧ i ≤ n) (fun _ v12 => n - (intOf v12).toNat)
  case atStart => exact ⟨0, rfl, rfl, by omega⟩
  case round =>
    obtain ⟨i, rfl, rfl, hi⟩ := hrel
    by_cases hlt : i < n
    · obtain ⟨b, o, rfl, -, -, k0⟩ := int_at hk hlt
      by_cases hle2 : kz ks i ≤ key
      · have he : atF ks key (i + 1) = i := by unfold atF; rw [if_pos hle2]
        have He := hid he; clear he
        go_wp2
        go_round
        case rel => exact ⟨i + 1, by rw [He.out], by go_num, by omega⟩
        case measure => simp [intOf]; omega
      · have he : atF ks key (i + 1) = atF ks key i := by conv => lhs; unfold atF
                                                          rw [if_neg hle2]
        have He := hid he; clear he
        go_wp2
        go_round
        case rel => exact ⟨i + 1, by rw [He.out], by go_num, by omega⟩
        case measure => simp [intOf]; omega
    · obtain rfl : i = n := by omega
      by_cases h0 : 0 < i
      · obtain ⟨m, hm⟩ : ∃ m, atF ks key i = m := ⟨_, rfl⟩
        have hat : m < i := by rw [← hm]; exact atF_lt ks key i h0
        have hN := hid (fndF_pos hm h0)
        rw [hm]
        clear hm
        obtain ⟨b, o, rfl, -, -, k0⟩ := int_at hk hat
        have hz0 : (0 : Int) ≤ (m : Int) := by omega
        have hz1 : (m : Int) < (i : Int) := by omega
        have hdi : decide ((0 : Int) < (i : Int)) = true := decide_eq_true (by omega)
        have hdi2 : decide (0 < i) = true := decide_eq_true h0
        go_wp2_with fail
        go_quiet (fail)
        go_wp2
        go_ret2
        rw [hN.out]
        exact ⟨rfl, hfr.drewN _⟩
      · obtain rfl : i = 0 := by omega
        have hN := hid (fndF_zero ks key)
        clear hlt
        go_wp2_with fail
        go_quiet (fail)
        go_wp2
        go_ret2
        rw [hN.out]
        exact ⟨rfl, hfr.drewN _⟩

set_option maxRecDepth 100000 in
theorem reffind_ok (S : Nat → Prop) (q : Ptr) (x : Nd) (key : Int) (w : World) (hV : Vs w S q x) :
    Calls Try.prog 21 #[.agg #[.int .i64 x.h, .slice q.A1 x.ks.length q.c1, .slice q.A2 x.ps.length q.c2, .slice q.A3 x.gs.length q.c3, .slice q.A4 x.ds.length q.c4], .int .i64 key] w fun e w' => e = .returned (fndR x.ks key x.ks.length) ∧ Fr Nil w w' := by
  obtain ⟨h, ks, ps, gs, ds⟩ := x
  obtain ⟨A1, c1, A2, c2, A3, c3, A4, c4⟩ := q
  obtain ⟨hk, hp, hg, hd⟩ := hV
  dsimp only at hk ⊢
  clear hp hg hd
  generalize ks.length = n at *
  have hle : n ≤ 9223372036854775807 := hk.le
  have hfr : Fr Nil w (w.alloc (.cells #[.int .i64 h, .slice A1 n c1, .slice A2 ps.length c2, .slice A3 gs.length c3, .slice A4 ds.length c4] 26)) := (Fr.refl Nil w).alloc _
  obtain ⟨W1, hW1⟩ : ∃ W1, W1 = w.alloc (.cells #[.int .i64 h, .slice A1 n c1, .slice A2 ps.length c2, .slice A3 gs.length c3, .slice A4 ds.length c4] 26) := ⟨_, rfl⟩
  have b1 : W1.cell? ⟨w.heap.size, 1, none⟩ = some (.slice A1 n c1) := by rw [hW1]; exact (Blk.new _ _ _).cell 1
  rw [← hW1] at hfr
  replace hk := hk.fr hfr fun _ _ _ h => h
  go_enter Try.func21, Try.ntmps21
  go_wp2_with fail
  rw [← hW1]; clear hW1
  generalize w.heap.size = nb at *
  go_loop [6, 7] (fun v6 v7 => ∃ i : Nat, v6 = .int .i64 (atR ks key i) ∧ v7 = .int .i64 i ∧ i ≤ n) (fun _ v7 => n - (intOf v7).toNat)
  case atStart => exact ⟨0, rfl, rfl, by omega⟩
  case round =>
    obtain ⟨i, rfl, rfl, hi⟩ := hrel
    by_cases hlt : i < n
    · obtain ⟨b, o, rfl, -, -, k0⟩ := int_at hk hlt
      by_cases hle2 : kz ks i ≤ key
      · have he : atR ks key (i + 1) = i := by unfold atR; rw [if_pos hle2]
        have He := hid he; clear he
        go_wp2
        go_round
        case rel => exact ⟨i + 1, by rw [He.out], by go_num, by omega⟩
        case measure => simp [intOf]; omega
      · have he : atR ks key (i + 1) = atR ks key i := by conv => lhs; unfold atR
                                                          rw [if_neg hle2]
        have He := hid he; clear he
        go_wp2
        go_round
        case rel => exact ⟨i + 1, by rw [He.out], by go_num, by omega⟩
        case measure => simp [intOf]; omega
    · obtain rfl : i = n := by omega
      by_cases h0 : atR ks key i < 0
      · have hN := hid (fndR_neg h0)
        go_wp2
        go_ret2
        rw [hN.out]
        exact ⟨rfl, hfr⟩
      · obtain ⟨m, hm⟩ : ∃ m : Nat, atR ks key i = m := ⟨(atR ks key i).toNat, by omega⟩
        have hat := (atR_lt ks key i).2
        have hN := hid (fndR_pos hm)
        rw [hm] at hat h0 ⊢
        have Hm := hid hm; clear hm
        have hmi : m < i := by omega
        obtain ⟨b, o, rfl, -, -, k0⟩ := int_at hk hmi
        have hz0 : (0 : Int) ≤ (m : Int) := by omega
        go_wp2_with fail
        go_quiet (fail)
        go_wp2
        go_ret2
        rw [hN.out]
        exact ⟨rfl, hfr.drewN _⟩
end Go.Proofs.Ytidpabcfcdiecaa

/- The contracts of cell.Reader: Num, Bytes, Left. Conditions: the reader is a block of the program's own. -/
import Derived.Test.YtidpabcfcdiecaaNdW
set_option linter.unusedSimpArgs false
set_option linter.unusedVariables false
namespace Go.Proofs.Ytidpabcfcdiecaa
open Go.RowKit

/-- A Reader at block rb that has xs before it; what it reads lies among S. -/
def IsR (w : World) (S : Nat → Prop) (rb : Nat) (xs : List Nat) : Prop :=
  S rb ∧ ∃ v, Blk w rb #[v] 86 ∧ View w (fun k => S k ∧ k ≠ rb) 1 v xs.length (bys xs)

theorem IsR.fr {w w1 : World} {S S1 : Nat → Prop} {rb : Nat} {xs : List Nat} (h : IsR w S rb xs) (hf : Fr S1 w w1) (hn : ∀ k, S k → k < w.heap.size → ¬ S1 k) : IsR w1 S rb xs :=
  ⟨h.1, h.2.elim fun v h' => ⟨v, h'.1.fr hf (hn _ h.1 h'.1.lt), h'.2.fr hf fun k hk hl => hn k hk.1 hl⟩⟩
/-- The reader goes on. -/
theorem IsR.adv {w : World} {S : Nat → Prop} {rb n l cap : Nat} {A : Option Addr} {xs : List Nat} (hS : S rb) (hn : xs.length = n) (hb : Blk w rb #[.slice A n cap] 86) (hv : View w (fun k => S k ∧ k ≠ rb) 1 (.slice A n cap) n (bys xs)) (hl : l ≤ n)
    (A' : Option Addr) (c' : Nat) (hA' : A' = if cap = l then A else A.map (·.add l)) (hc' : c' = cap - l) :
    Fr (fun k => k = rb) w (w.setCell ⟨rb, 0, none⟩ (.slice A' (n - l) c')) ∧ IsR (w.setCell ⟨rb, 0, none⟩ (.slice A' (n - l) c')) S rb (xs.drop l) := by
  have hfr : Fr (fun k => k = rb) w (w.setCell ⟨rb, 0, none⟩ (.slice A' (n - l) c')) := (Fr.refl (fun k => k = rb) w).setCell (a := ⟨rb, 0, none⟩) (.inl rfl) _
  refine ⟨hfr, hS, _, hb.set 0 _, ?_⟩
  have hd1 := (hv.drop (l := l) hl).fr hfr (fun k hk _ => hk.2)
  rw [Nat.mul_one, bys_drop'] at hd1
  have e2' : (xs.drop l).length = n - l := by rw [List.length_drop, hn]
  rw [e2']
  have e3' : sliced A l n cap 1 = .slice A' (n - l) c' := by
    rw [hA', hc', sliced]; simp
  rw [e3'] at hd1
  exact hd1

/-- What a broken reading panics with. -/
def brk (e : Int) : List PanicEntry := [{ v := .iface 84 (.agg #[.int .i64 e]), recovered := false }]

theorem must_ok (e : Int) (w : World) : Calls Try.prog 44 #[.bool true, .int .i64 e] w fun en w' => en = .returned (.tuple #[]) ∧ w = w' := by
  go_enter Try.func44, Try.ntmps44
  go_wp2
  go_end0
  exact ⟨rfl, rfl⟩
theorem must_no (e : Int) (w : World) : Calls Try.prog 44 #[.bool false, .int .i64 e] w fun en w' => en = .panicked (brk e) ∧ w = w' := by
  go_enter Try.func44, Try.ntmps44
  go_wp2
  exact ⟨rfl, rfl, rfl⟩

/-- What Num leaves. -/
def NumPost (w : World) (S : Nat → Prop) (rb : Nat) (e : Ending) (w' : World) : Got Nat → Prop
  | .ok x rest => e = .returned (.int .i64 x) ∧ Fr (fun k => k = rb) w w' ∧ IsR w' S rb rest
  | .bad er => e = .panicked (brk er) ∧ w = w'

set_option maxRecDepth 100000 in
set_option maxHeartbeats 1600000 in
theorem rnum_any (S : Nat → Prop) (rb : Nat) (xs : List Nat) (hx : xs.length ≤ 1000000) (hB : Byt xs) (w : World) (hR : IsR w S rb xs) :
    Calls Try.prog 34 #[.pointer (some ⟨rb, 0, none⟩)] w fun e w' => NumPost w S rb e w' (num xs) := by
  obtain ⟨hS, v, hb, hv⟩ := hR
  have hc : w.cell? ⟨rb, 0, none⟩ = some v := hb.cell 0
  have hf : w.frozen? ⟨rb, 0, none⟩ = false := hb.frozen 0
  have hv0 := hv
  obtain ⟨hl, A, cap, rfl, e1, e2, e3, e4, e5⟩ := hv
  have E5 := hid e5; clear e5; have Hl := hid hl; clear hl; clear e3 e4
  go_enter Try.func34, Try.ntmps34
  go_wp2_with fail
  go_loop [3, 8] (fun a3 a8 => ∃ (i x : Nat) (pre rest : List Nat), a3 = .int .i64 x ∧ a8 = .int .i64 i ∧ i ≤ 4 ∧ Hid (xs = pre ++ rest) ∧ Hid (pre.length = i) ∧ Hid (numF (4 - i) i x rest = num xs) ∧ Hid (x < 128 ^ i)) (fun _ a8 => 4 - (intOf a8).toNat)
  case atStart => exact ⟨0, 0, [], xs, rfl, rfl, by omega, rfl, rfl, rfl, hid (by decide)⟩
  case round =>
    obtain ⟨i, x, pre, rest, rfl, rfl, hi, hxs, hpre, hn, hxi⟩ := hrel
    by_cases hi4 : i < 4
    · cases rest with
      | nil =>
        have hlen : xs.length = i := by rw [hxs.out, List.append_nil, hpre.out]
        have hd : decide (i < xs.length) = false := by simp [hlen]
        have Hlen := hid hlen; clear hlen
        go_wp2_with (go_at_call 44; ((with_reducible refine (must_no _ _).mono ?_); rintro e w1 ⟨rfl, rfl⟩))
        refine ⟨rfl, ?_⟩
        show NumPost w S rb _ w (num xs)
        rw [← hn.out, show 4 - i = (3 - i) + 1 by omega]
        exact ⟨rfl, rfl⟩
      | cons c t =>
        have hlen : xs.length = i + (t.length + 1) := by rw [hxs.out, List.length_append, hpre.out, List.length_cons]
        have hd : decide (i < xs.length) = true := by simp [hlen]
        have hc256 : c < 256 := hB c (by rw [hxs.out]; simp)
        obtain ⟨b, o, rfl, ⟨hSb, hbne⟩, hbl, hcells⟩ := E5.out (by omega)
        have hcell : w.cell? ⟨b, o + i, none⟩ = some (.int .u8 (c : Int)) := hcells i _ (by rw [hxs.out, bys_append, List.getElem?_append_right (by rw [bys_length, hpre.out]; exact Nat.le_refl _), bys_length, hpre.out]; simp [bys])
        have hilt : i < xs.length := by omega
        have Hlen := hid hlen; clear hlen
        clear hcells
        have Hg := hid (grp x c i hxi.out hc256 hi4)
        have hfin : ∀ A' c', A' = (if cap = i + 1 then some ⟨b, o, none⟩ else some ⟨b, o + (i + 1), none⟩) → c' = cap - (i + 1) →
            Fr (fun k => k = rb) w (w.setCell ⟨rb, 0, none⟩ (.slice A' (xs.length - (i + 1)) c')) ∧ IsR (w.setCell ⟨rb, 0, none⟩ (.slice A' (xs.length - (i + 1)) c')) S rb t := by
          intro A' c' hA' hc'
          have hfr : Fr (fun k => k = rb) w (w.setCell ⟨rb, 0, none⟩ (.slice A' (xs.length - (i + 1)) c')) := (Fr.refl (fun k => k = rb) w).setCell (a := ⟨rb, 0, none⟩) (.inl rfl) _
          refine ⟨hfr, hS, _, hb.set 0 _, ?_⟩
          have hd1 := (hv0.drop (l := i + 1) (by omega)).fr hfr (fun k hk _ => hk.2)
          have e1' : (bys xs).drop ((i + 1) * 1) = bys t := by rw [hxs.out]; exact bys_drop pre c t i hpre.out
          rw [e1'] at hd1
          have e2' : xs.length - (i + 1) = t.length := by rw [Hlen.out]; omega
          rw [← e2']
          have e3' : sliced (some ⟨b, o, none⟩) (i + 1) xs.length cap 1 = .slice A' (xs.length - (i + 1)) c' := by
            rw [hA', hc', sliced]; simp [Addr.add_lit]
          rw [e3'] at hd1
          exact hd1
        have Hn := hid hn.out; clear hn
        by_cases h128 : c < 128
        · by_cases hz : c = 0 ∧ 0 < i
          · obtain ⟨rfl, hi0⟩ := hz
            have hb0 : ((i : Int) == 0) = false := by simp; omega
            go_wp2_with (go_at_call 44; first | ((with_reducible refine (must_ok _ _).mono ?_); rintro e w1 ⟨rfl, rfl⟩) | ((with_reducible refine (must_no _ _).mono ?_); rintro e w1 ⟨rfl, rfl⟩))
            refine ⟨rfl, ?_⟩
            show NumPost w S rb _ w (num xs)
            rw [← Hn.out, show 4 - i = (3 - i) + 1 by omega, numF, if_pos (by omega), if_pos ⟨rfl, hi0⟩]
            exact ⟨rfl, rfl⟩
          · have hres : num xs = .ok (x + c % 128 * 128 ^ i) t := by
              rw [← Hn.out, show 4 - i = (3 - i) + 1 by omega, numF, if_pos h128, if_neg hz]
            have Hres := hid hres; clear hres
            by_cases hc0 : 0 < c
            · have hcb : decide (0 < c) = true := by simp [hc0]
              go_wp2_with (go_at_call 44; ((with_reducible refine (must_ok _ _).mono ?_); rintro e w1 ⟨rfl, rfl⟩))
              all_goals
                go_ret
                rw [Hres.out]
                refine ⟨?_, ?_⟩
                · simp; exact Hg.out
                · apply hfin <;> simp [*]
            · have hcb : decide (0 < c) = false := by simp; omega
              have hb0 : ((i : Int) == 0) = true := by simp; omega
              clear hz hc0
              go_wp2_with (go_at_call 44; ((with_reducible refine (must_ok _ _).mono ?_); rintro e w1 ⟨rfl, rfl⟩))
              all_goals
                go_ret
                rw [Hres.out]
                refine ⟨?_, ?_⟩
                · simp; exact Hg.out
                · apply hfin <;> simp [*]
        · go_wp2_with (go_at_call 44; ((with_reducible refine (must_ok _ _).mono ?_); rintro e w1 ⟨rfl, rfl⟩))
          go_round
          case rel =>
            refine ⟨i + 1, x + c % 128 * 128 ^ i, pre ++ [c], t, ?_, by go_num, by omega, hid (by rw [hxs.out]; simp), hid (by rw [List.length_append, hpre.out]; rfl), hid ?_, hid (numF_lt x c i hxi.out)⟩
            · rw [Hg.out]
            · rw [← Hn.out, show 4 - i = (4 - (i + 1)) + 1 by omega, numF, if_neg h128]
          case measure => simp [intOf]; omega
    · have hi44 : i = 4 := by omega
      subst hi44
      go_wp2
      refine ⟨rfl, ?_⟩
      show NumPost w S rb _ w (num xs)
      rw [← hn.out]
      exact ⟨rfl, rfl⟩

/-- What Bytes leaves. -/
def BytPost (w : World) (S : Nat → Prop) (rb : Nat) (e : Ending) (w' : World) : Got (List Nat) → Prop
  | .ok l rest => Fr (fun k => k = rb) w w' ∧ IsR w' S rb rest ∧ ∃ A c, e = .returned (.slice A l.length c) ∧ Row w' (New w) 5 1 (.slice A l.length c) l.length (bys l)
  | .bad er => Fr (fun k => k = rb) w w' ∧ e = .panicked (brk er)

end Go.Proofs.Ytidpabcfcdiecaa

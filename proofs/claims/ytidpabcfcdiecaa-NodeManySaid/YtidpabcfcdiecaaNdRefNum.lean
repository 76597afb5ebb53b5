/- The reference's Num (chapter 4). -/
import Derived.Test.YtidpabcfcdiecaaNdW
set_option linter.unusedSimpArgs false
set_option linter.unusedVariables false
namespace Go.Proofs.Ytidpabcfcdiecaa
open Go.RowKit

set_option maxRecDepth 100000 in
set_option maxHeartbeats 800000 in
theorem refnum_ok (x : Nat) (h1 : x < 268435456) (w : World) :
    Calls Try.prog 38 #[.int .i64 x] w fun e w' => ∃ A c, e = .returned (.tuple #[.slice A (enc x).length c, .bool true]) ∧ Row w' (New w) 5 1 (.slice A (enc x).length c) (enc x).length (bys (enc x)) ∧ Fr Nil w w' := by
  have hA : decide ((268435456 : Int) ≤ (x : Int)) = false := by simp; omega
  have hB : decide ((x : Int) < 0) = false := by simp
  go_enter Try.func38, Try.ntmps38
  go_wp2_with fail
  go_loopw [0, 4] (fun xv v wr => ∃ (x' : Nat) (xs' : List Nat) (vv : Value), xv = .int .i64 x' ∧ v = vv ∧ Row wr (New w) 5 1 vv xs'.length (bys xs') ∧ Fr Nil w wr ∧ xs' ++ enc x' = enc x ∧ xs'.length + x' ≤ x) (fun xv _ _ => (intOf xv).toNat)
  case atStart => exact ⟨x, [], _, rfl, rfl, Row.nil _ _ _ _, Fr.refl _ _, rfl, by simp⟩
  case round =>
    obtain ⟨x', xs', v, rfl, hv, hrow, hfr, heq, hle⟩ := hrel
    have hv' := hv.symm
    subst hv'
    have Heq := hid heq; clear heq
    have hnew : ∀ k, v.ownBlock = some k → w.heap.size ≤ k := fun k hk => hrow.2 k hk
    have hszr := hfr.size
    by_cases hlt : x' < 128
    · go_wp2_with (at_builtin; refine app_u8 rfl _ _ rfl _ x' rfl hrow rfl rfl (by omega) ?_)
      intro g cap w' r1 r2 r3 _
      have r4 : Row w' (New w) 5 1 (.slice (some ⟨g, 0, none⟩) (xs'.length + 1) cap) (xs'.length + 1) (bys (xs' ++ [x'])) := r1.mono fun k hk => by
        rw [hk]; rcases r2 with r2 | r2
        · exact hnew _ r2
        · exact Nat.le_trans hszr r2
      have r5 : Fr Nil w w' := hfr.trans r3 (fun k hk => .inr (hnew k hk))
      have hlen : (enc x).length = xs'.length + 1 := by rw [← Heq.out, enc_lo hlt]; simp
      have Hlen := hid hlen; clear hlen r1 r2 r3
      go_wp2
      go_ret2
      rw [Hlen.out, ← Heq.out, enc_lo hlt]
      exact ⟨_, _, rfl, r4, r5⟩
    · go_wp2_with (at_builtin; refine app_u8 rfl _ _ rfl _ (x' % 128 + 128) (or128 x') hrow rfl rfl (by omega) ?_)
      intro g cap w' r1 r2 r3 _
      have r4 : Row w' (New w) 5 1 (.slice (some ⟨g, 0, none⟩) (xs'.length + 1) cap) (xs'.length + 1) (bys (xs' ++ [x' % 128 + 128])) := r1.mono fun k hk => by
        rw [hk]; rcases r2 with r2 | r2
        · exact hnew _ r2
        · exact Nat.le_trans hszr r2
      have r5 : Fr Nil w w' := hfr.trans r3 (fun k hk => .inr (hnew k hk))
      clear r1 r2 r3
      go_wp2
      go_roundw
      case rel =>
        exact ⟨x' / 128, xs' ++ [x' % 128 + 128], _, by go_num, rfl, by simpa using r4, r5, (enc_step xs' hlt).trans Heq.out, by simp; omega⟩
      case measure => simp [intOf]; omega
theorem refnum_bad (x : Int) (h1 : x < 0 ∨ 268435456 ≤ x) (w : World) :
    Calls Try.prog 38 #[.int .i64 x] w fun e w' => e = .returned (.tuple #[.slice none 0 0, .bool false]) ∧ w = w' := by
  by_cases h0 : x < 0
  · go_enter Try.func38, Try.ntmps38
    go_wp2
    go_ret2
    exact ⟨rfl, rfl⟩
  · have h2 : 268435456 ≤ x := by omega
    go_enter Try.func38, Try.ntmps38
    go_wp2
    go_ret2
    exact ⟨rfl, rfl⟩
end Go.Proofs.Ytidpabcfcdiecaa

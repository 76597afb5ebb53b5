/- The reference's put (chapter 13): numbers, one behind another. -/
import Derived.Test.YtidpabcfcdiecaaNdE
import Derived.Test.YtidpabcfcdiecaaNdRefNum
set_option linter.unusedSimpArgs false
set_option linter.unusedVariables false
namespace Go.Proofs.Ytidpabcfcdiecaa
open Go.RowKit

def natsOf (zs : List Int) : List Nat := zs.map Int.toNat
theorem natsOf_lt {zs : List Int} (h : ∀ z ∈ zs, Nm z) : ∀ n ∈ natsOf zs, n < 268435456 := by
  intro n hn
  obtain ⟨z, hz, rfl⟩ := List.mem_map.1 hn
  have := h z hz; unfold Nm at this; omega
theorem natsOf_len {zs : List Int} (h : ∀ z ∈ zs, Nm z) (i : Nat) : (encs (natsOf (zs.take i))).length ≤ 4 * zs.length := by
  have h1 := encs_len (natsOf (zs.take i)) (natsOf_lt fun z hz => h z (List.mem_of_mem_take hz))
  have h2 : (natsOf (zs.take i)).length ≤ zs.length := by simp [natsOf, List.length_take]; omega
  omega
theorem natsOf_take {zs : List Int} {i : Nat} (hi : i < zs.length) : encs (natsOf (zs.take (i + 1))) = encs (natsOf (zs.take i)) ++ enc (kz zs i).toNat := by
  rw [natsOf, List.take_succ_eq_append_getElem hi, kz_eq hi, List.map_append, List.map_singleton, encs_snoc]; rfl

set_option maxRecDepth 100000 in
theorem refput_ok (S : Nat → Prop) (A : Option Addr) (c n : Nat) (zs : List Int) (hn : zs.length = n) (hn8 : n ≤ 10) (hz : ∀ z ∈ zs, Nm z) (w : World) (hv : View w S 1 (.slice A n c) n (ints .i64 zs)) :
    Calls Try.prog 24 #[.slice A n c] w fun e w' => ∃ A' c', e = .returned (.slice A' (encs (natsOf zs)).length c') ∧ Row w' (New w) 5 1 (.slice A' (encs (natsOf zs)).length c') (encs (natsOf zs)).length (bys (encs (natsOf zs))) ∧ Fr Nil w w' := by
  have Hn := hid hn; clear hn
  have Hz := hid hz; clear hz
  go_enter Try.func24, Try.ntmps24
  go_wp2_with fail
  go_loopw [3, 4] (fun v3 v4 wr => ∃ (i : Nat) (A2 : Option Addr) (L c2 : Nat) (xs : List Nat), v4 = .int .i64 i ∧ i ≤ n ∧ v3 = .slice A2 L c2 ∧ Fr Nil w wr ∧ Row wr (New w) 5 1 (.slice A2 L c2) L (bys xs) ∧ L ≤ 40 ∧ Hid (xs = encs (natsOf (zs.take i))) ∧ Hid (L = xs.length)) (fun _ v4 _ => n - (intOf v4).toNat)
  case atStart => exact ⟨0, none, 0, 0, [], rfl, by omega, rfl, Fr.refl _ _, Row.nil _ _ _ _, by omega, hid rfl, hid rfl⟩
  case round =>
    obtain ⟨i, A2, L, c2, xs, rfl, hi, rfl, hfr, hrow, hL, hxs, hLx⟩ := hrel
    by_cases hlt : i < n
    · have hlz : i < zs.length := by rw [Hn.out]; exact hlt
      obtain ⟨b, o, rfl, -, -, k0⟩ := int_at (hv.fr hfr fun _ _ _ h => h) hlt
      have hnm : Nm (kz zs i) := by rw [kz_eq hlz]; exact Hz.out _ (List.getElem_mem hlz)
      obtain ⟨m, hm⟩ : ∃ m : Nat, kz zs i = m := ⟨(kz zs i).toNat, by unfold Nm at hnm; omega⟩
      have hml : m < 268435456 := by unfold Nm at hnm; omega
      have hlen := hid (natsOf_len Hz.out (i + 1))
      have hnx := hid (natsOf_take hlz)
      have Hm := hid hm
      rw [hm] at k0
      clear hm hnm
      have hz0 : (0 : Int) ≤ (i : Int) := by omega
      have hz1 : (i : Int) < (n : Int) := by omega
      have hs : w.heap.size ≤ wr.heap.size := hfr.size
      go_wp2_with fail
      refine (refnum_ok m hml wr).mono ?_
      rintro e w1 ⟨A1, c1, rfl, r1, f1⟩
      have hl4 := (enc_len m hml).1
      have hrow1 := hrow.fr f1 (fun _ _ h => h)
      clear hrow k0
      generalize hLe : (enc m).length = Le at *
      have HLe := hid hLe; clear hLe
      go_wp2_with (at_builtin; refine wp_app_view rfl _ _ 29 rfl (.int .u8 0) 1 Try.underlying29 info_u8 rfl (by decide) hrow1 rfl r1.view rfl (bys_cell _) (by omega) (by decide) ?_)
      intro A3 c3 w3 q1 q2 q3
      have hrow3 : Row w3 (New w) 5 1 (.slice A3 (L + Le) c3) (L + Le) (bys (xs ++ enc m)) := by
        rw [bys_append]
        refine q1.mono fun k hk => ?_
        have hs1 := f1.size
        exact hk.elim (fun h => hrow1.2 k h) (fun h => by show w.heap.size ≤ k; omega)
      have hf3 : Fr Nil w w3 := (hfr.then f1).trans q2 (fun k hk => .inr (hrow1.2 k hk))
      clear q1 q2 q3 hrow1
      go_wp2
      go_roundw
      case rel =>
        refine ⟨i + 1, A3, L + Le, c3, xs ++ enc m, by go_num, by omega, rfl, hf3, hrow3, ?_, ?_, ?_⟩
        · have h1 := hlen.out
          rw [hnx.out, List.length_append, Hm.out, Int.toNat_natCast, ← hxs.out, ← hLx.out, HLe.out, Hn.out] at h1
          omega
        · exact hid (by rw [hnx.out, Hm.out, Int.toNat_natCast, ← hxs.out])
        · exact hid (by rw [List.length_append, ← hLx.out, HLe.out])
      case measure => simp [intOf]; omega
    · have hall : Hid (xs = encs (natsOf zs)) := hid (by rw [hxs.out, List.take_of_length_le (by rw [Hn.out]; omega)])
      go_wp2
      go_ret
      rw [← hall.out, ← hLx.out]
      exact ⟨_, _, rfl, hrow, hfr⟩
end Go.Proofs.Ytidpabcfcdiecaa

/- The reference's Runs: Take; Same. -/
import Derived.Test.YtjieckaeplkafaaSRpL
set_option linter.unusedSimpArgs false
set_option linter.unusedVariables false
namespace Go.Proofs.Ytjieckaeplkafaa
open Go.RowKit
set_option maxRecDepth 20000 in
theorem ref_take (mb fb bl : Nat) (L : List Rn) (F : List Bool) (n : Int) (w : World) (hR : Rf w mb fb F) (hF : Fre bl L F) (hn : -9223372036854775808 ≤ n ∧ n < 9223372036854775808) :
    Calls Try.prog 24 #[.pointer (some ⟨mb, 0, none⟩), .int .i64 n] w fun e w' => e = .returned (.tuple #[.int .i64 (takeR L n).1, .bool (takeR L n).2]) ∧ (∃ F', Rf w' mb fb F' ∧ Fre bl (takeL L n) F') ∧ Fr (fun k => k = fb) w w' := by
  have HR := hid hR
  have HF := hid hF
  have HL := hid hF.1.lok
  have Hli := hid (ref_list mb fb bl L F w hR hF)
  have hfl := hid hR.2.lt
  clear hR hF
  go_enter Try.func24, Try.ntmps24
  go_wp2_with fail
  refine Hli.out.mono ?_
  rintro e w1 ⟨A, c, rfl, h1, h2⟩
  obtain ⟨M, hL⟩ : ∃ M, M = L.length := ⟨_, rfl⟩
  have HLl := hid hL
  have hL9 : M ≤ 8192 := by rw [hL]; exact HL.out.2.1
  have hv := h1.view
  rw [← hL] at hv ⊢
  have Hv := hid hv
  have H2 := hid h2
  clear hL h1 hv h2
  go_wp2_with fail
  go_loopw [7] (fun v7 wr => ∃ i : Nat, v7 = .int .i64 i ∧ i ≤ M ∧ Hid (∀ j, j < i → ¬ (1 ≤ n ∧ n ≤ ((rn L j).n : Int))) ∧ Fr Nil w1 wr) (fun v7 _ => M - (intOf v7).toNat)
  case atStart => exact ⟨0, rfl, by omega, hid fun j hj => absurd hj (Nat.not_lt_zero _), Fr.refl _ _⟩
  case round =>
    obtain ⟨i, rfl, hi, hA, hfw⟩ := hrel
    by_cases hlt : i < M
    · by_cases hp : 0 < n
      · obtain ⟨b, o, rfl, hbn, hbl, q0, q1⟩ := rn_at (Hv.out.fr hfw fun _ _ _ h => h) hlt
        have hlt' := hlt
        by_cases hfit : n ≤ ((rn L i).n : Int)
        · obtain ⟨N, rfl⟩ : ∃ N : Nat, n = N := ⟨n.toNat, by omega⟩
          have hti : takeI L (N : Nat) = i := takeI_at (by omega) (by rw [← HLl.out]; exact hlt) (fun j hj h => hA.out j hj ⟨by omega, h⟩) hfit
          have hil : i < L.length := by rw [← HLl.out]; exact hlt
          have HTR : Hid (takeR L (N : Nat) = (((rn L i).a : Int), true)) := hid (by unfold takeR; rw [hti, if_pos hil])
          have HTI := hid hti
          have hbo := HL.out.2.2 i hil
          have hb8 := HL.out.1
          have hN : N ≤ (rn L i).n := by omega
          obtain ⟨X, hX⟩ : ∃ X, X = (rn L i).a := ⟨_, rfl⟩
          obtain ⟨K, hK⟩ : ∃ K, K = (rn L i).n := ⟨_, rfl⟩
          rw [← hX, ← hK] at hbo
          rw [← hX] at q0
          rw [← hK] at q1 hfit hN
          have HX := hid hX
          clear hX hK hti hil
          have HFl := hid HF.out.2.1
          have hbf : Hid (b ≠ fb) := hid (by have h9 : w.heap.size ≤ b := hbn; have := hfl.out; omega)
          have HR1 := hid (HR.out.nil (H2.out.then hfw))
          obtain ⟨wo, rfl⟩ : ∃ wo : World, wo = wr := ⟨_, rfl⟩
          have Q0 := hid q0
          have HFW := hid hfw
          clear hfw
          go_wp2_with fail
          clear q0 q1
          go_loopw [8] (fun v8 ws => ∃ (k : Nat) (F' : List Bool), v8 = .int .i64 k ∧ k ≤ N ∧ Hid (Rf ws mb fb F' ∧ SetR F F' X k false) ∧ Fr (fun j => j = fb) wo ws) (fun v8 _ => N - (intOf v8).toNat)
          case atStart => exact ⟨0, F, rfl, by omega, hid ⟨HR1.out, SetR.zero _ _ _⟩, Fr.refl _ _⟩
          case round =>
            obtain ⟨k, F', rfl, hk, hB, hfv⟩ := hrel
            have q0 := hfv.cell Q0.out fun h => hbf.out h
            by_cases hlt : k < N
            · have hXk : X + k < bl := by omega
              have c0 := hB.out.1.1.cell 0
              rw [hB.out.2.1, HFl.out] at c0
              have p0 := hB.out.1.at (k := X + k) (by rw [hB.out.2.1, HFl.out]; exact hXk)
              have z0 := hB.out.1.2.frozen (X + k)
              have hgl := hB.out.1.2.lt
              have HS := hid (hB.out.2.succ (by rw [HFl.out]; exact hXk))
              have HRs := hid (hB.out.1.set (X + k) false)
              go_wp2_with fail
              go_region
              go_wp2
              go_roundw
              case rel => exact ⟨k + 1, F'.set (X + k) false, by go_num, by omega, hid ⟨HRs.out.nil (Fr.refl _ _).drew, HS.out⟩, (hfv.setCell (a := ⟨fb, X + k, none⟩) (.inl rfl) _).drew⟩
              case measure => simp [intOf]; omega
            · obtain rfl : k = N := by omega
              go_wp2
              go_ret2
              refine ⟨by rw [HTR.out, ← HX.out]; rfl, ⟨F', hB.out.1, HF.out.take (by rw [HTI.out, ← HLl.out]; exact hlt') (by rw [HTI.out, ← HX.out]; exact hB.out.2)⟩, (H2.out.then HFW.out).nil.then hfv⟩
        · go_wp2_with fail
          go_roundw
          case rel => exact ⟨i + 1, by go_num, by omega, hid fun j hj => by
            by_cases h : j = i
            · subst h; exact fun h => hfit h.2
            · exact hA.out j (by omega), hfw⟩
          case measure => simp [intOf]; omega
      · have E1 : Hid (takeR L n = (0, false)) := hid (by unfold takeR takeI; rw [if_neg (show ¬ (1 ≤ n) by omega), if_neg (Nat.lt_irrefl _)])
        have E2 : Hid (¬ takeI L n < L.length) := hid (by unfold takeI; rw [if_neg (show ¬ (1 ≤ n) by omega)]; exact Nat.lt_irrefl _)
        go_wp2
        go_ret2
        exact ⟨by rw [E1.out]; rfl, ⟨F, HR.out.nil (H2.out.then hfw), HF.out.take0 E2.out⟩, (H2.out.then hfw).nil⟩
    · have E2 : Hid (¬ takeI L n < L.length) := hid (takeI_no fun j hj => hA.out j (by have := HLl.out; omega))
      have E1 : Hid (takeR L n = (0, false)) := hid (by unfold takeR; rw [if_neg E2.out])
      go_wp2
      go_ret2
      exact ⟨by rw [E1.out]; rfl, ⟨F, HR.out.nil (H2.out.then hfw), HF.out.take0 E2.out⟩, (H2.out.then hfw).nil⟩
end Go.Proofs.Ytjieckaeplkafaa


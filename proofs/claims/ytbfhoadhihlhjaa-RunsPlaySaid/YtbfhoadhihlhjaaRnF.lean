/- The law RunsFirst. -/
import Derived.Test.YtbfhoadhihlhjaaRnF1
import Derived.Deep.Cut
import Derived.Deep.CutRange
set_option linter.unusedSimpArgs false
set_option linter.unusedVariables false
namespace Go.Proofs.Ytbfhoadhihlhjaa
open Go.RowKit
/-- A number of a row is read. -/
theorem intAt {k : IntKind} {w : World} {S : Nat → Prop} {A : Option Addr} {n c : Nat} {l : List Int} (h : View w S 1 (.slice A n c) n (ints k l)) {i : Nat} (hi : i < n) :
    ∃ b o, A = some ⟨b, o, none⟩ ∧ S b ∧ b < w.heap.size ∧ w.cell? ⟨b, o + i, none⟩ = some (.int k (l.getD i 0)) := by
  obtain ⟨hl, A', c', e, _, _, _, _, h5⟩ := h
  injection e with ea _ ec
  subst ea; subst ec
  obtain ⟨b, o, hA, hS, hb, hc⟩ := h5 (by omega)
  rw [ints_length] at hl
  refine ⟨b, o, hA, hS, hb, hc _ _ ?_⟩
  rw [ints_at _ _ _ (by omega)]
  simp [List.getD, List.getElem?_eq_getElem (show i < l.length by omega)]
def siz (l : List Int) : List Nat := l.map fun z => (z % 9).toNat
theorem siz_sum (l : List Int) : ∀ i, ((siz l).take i).sum ≤ 8 * i ∧ ((siz l).take i).foldl max 0 ≤ 8 := by
  intro i
  have hm : ∀ x ∈ (siz l).take i, x ≤ 8 := fun x hx => by
    have := List.mem_of_mem_take hx
    simp [siz] at this
    obtain ⟨z, _, rfl⟩ := this
    omega
  have hl : ((siz l).take i).length ≤ i := List.length_take_le _ _
  generalize (siz l).take i = x at *
  have key : ∀ (x : List Nat) (m : Nat), (∀ y ∈ x, y ≤ 8) → m ≤ 8 → x.sum ≤ 8 * x.length ∧ x.foldl max m ≤ 8 := by
    intro x
    induction x with
    | nil => intro m _ hm; exact ⟨Nat.le_refl _, hm⟩
    | cons y x ih =>
      intro m h hm
      have h1 := h y List.mem_cons_self
      have h2 := ih (max m y) (fun z hz => h z (List.mem_cons_of_mem _ hz)) (by omega)
      refine ⟨?_, h2.2⟩
      rw [List.sum_cons, List.length_cons]
      have := h2.1
      omega
  have := key x 0 hm (by decide)
  exact ⟨by omega, this.2⟩
theorem wantF_ge (k : Nat) : ∀ (a : Nat) (x : List Nat), -1 ≤ wantF k a x
  | _, [] => by simp [wantF]
  | a, s :: t => by
    unfold wantF
    split
    · omega
    · exact wantF_ge k _ t
theorem wantF_le (k : Nat) : ∀ (a : Nat) (x : List Nat), wantF k a x ≤ (hend a x : Nat)
  | _, [] => by unfold wantF; omega
  | a, s :: t => by
    have h := wantF_le k (a + s + 1) t
    have h2 := hend_eq (a + s + 1) t
    unfold wantF
    show _ ≤ ((hend (a + s + 1) t : Nat) : Int)
    split
    · omega
    · exact h
set_option maxRecDepth 20000 in
set_option maxHeartbeats 2000000 in
theorem first_ok (A : Option Addr) (n c : Nat) (zs : List Int) (k0 : Int) (hk0 : (Lit.int .u8 k0).wf = true) (w : World) (hr : IsRow .u8 w A n c zs) :
    Calls Try.prog 5 #[.slice A n c, .int .u8 k0] w fun e w' => e = .returned (.bool true) ∧ Fr Nil w w' := by
  obtain ⟨hv, hlen, hwf⟩ := hr.view
  obtain ⟨b1, b2⟩ := bounds_u8 hk0
  obtain ⟨K, rfl⟩ : ∃ K : Nat, k0 = K := ⟨k0.toNat, by omega⟩
  clear hr hk0
  obtain ⟨l, hl⟩ : ∃ l, l = zs.take n := ⟨_, rfl⟩
  rw [← hl] at hv hlen hwf
  clear hl
  have hnle := hv.le
  have Hv := hid hv
  have Hlen := hid hlen
  have Hwf := hid hwf
  clear hv hlen hwf
  go_enter Try.func5, Try.ntmps5
  go_wp2_with fail
  refine (awake_ok w).mono ?_
  rintro e w0 ⟨rfl, f0⟩
  have F0 := hid f0; clear f0
  by_cases hn : 40 < n
  · go_wp2
    go_ret
    exact ⟨rfl, F0.out⟩
  go_wp2_with fail
  refine (new_t 400 w0).mono ?_
  rw [show newBl 400 = 400 by decide, show newL 400 = [⟨0, 400⟩] by decide]
  rintro e w1 ⟨pb, T1, rfl, h, u1, f1⟩
  have H1 := hid h
  have U1 := hid (fun k hk => Nat.le_trans F0.out.size (u1 k hk) : ∀ k, T1 k → w.heap.size ≤ k)
  have F1 := hid (F0.out.then f1)
  clear h u1 f1 F0
  go_wp2_with fail
  have ek : (1 + (K : Int) % 10) = ((1 + K % 10 : Nat) : Int) := by omega
  rw [ek]
  obtain ⟨kk, hkk⟩ : ∃ kk, kk = 1 + K % 10 := ⟨_, rfl⟩
  rw [← hkk]
  have hk1 : 1 ≤ kk ∧ kk ≤ 10 := by omega
  clear ek hkk
  obtain ⟨hk1, hk2⟩ := hk1
  go_loopw [6, 7, 8, 9, 11] (fun v6 v7 v8 v9 v11 wr => ∃ (i : Nat) (T : Nat → Prop), v11 = .int .i64 i ∧ i ≤ n ∧ v6 = .int .i64 (hend 0 ((siz l).take i) : Nat) ∧ v7 = .int .i64 (wantF kk 0 ((siz l).take i)) ∧ v8 = .int .i64 (((siz l).take i).sum : Nat) ∧ v9 = .int .i64 (((siz l).take i).foldl max 0 : Nat) ∧ RsT wr T pb 400 (hst ((siz l).take i)) ∧ (∀ k, T k → w.heap.size ≤ k) ∧ Fr Nil w wr) (fun _ _ _ _ v11 _ => n - (intOf v11).toNat)
  case atStart => exact ⟨0, T1, rfl, by omega, rfl, rfl, rfl, rfl, H1.out, U1.out, F1.out⟩
  case round =>
    obtain ⟨i, T, rfl, hi, rfl, rfl, rfl, rfl, hR, hT, hfw⟩ := hrel
    have HR := hid hR
    have HT := hid hT
    clear hR hT
    obtain ⟨g1, g2⟩ := siz_sum l i
    have g3 := hend_eq 0 ((siz l).take i)
    have g4 : ((siz l).take i).length ≤ i := List.length_take_le _ _
    have hA : hend 0 ((siz l).take i) ≤ 360 := by omega
    have hS : ((siz l).take i).sum ≤ 320 := by omega
    have hW : wantF kk 0 ((siz l).take i) ≤ 9223372036854775807 ∧ -1 ≤ wantF kk 0 ((siz l).take i) := ⟨by have := wantF_le kk 0 ((siz l).take i); omega, wantF_ge kk 0 ((siz l).take i)⟩
    clear g1 g3 g4
    by_cases hlt : i < n
    · obtain ⟨b, o, rfl, -, hbl, q0⟩ := intAt (Hv.out.fr hfw fun _ _ _ h => h) hlt
      have hz : 0 ≤ l.getD i 0 ∧ l.getD i 0 < 256 := bounds_u8 (Hwf.out _ (by
        simp [List.getD, List.getElem?_eq_getElem (show i < l.length by rw [Hlen.out]; exact hlt)]))
      have hsz := hid (show (siz l).take (i + 1) = (siz l).take i ++ [(l.getD i 0 % 9).toNat] from by
        rw [List.take_succ_eq_append_getElem (show i < (siz l).length by simp [siz]; rw [Hlen.out]; exact hlt)]
        simp [siz, List.getD, List.getElem?_eq_getElem (show i < l.length by rw [Hlen.out]; exact hlt)])
      obtain ⟨z, hz2⟩ : ∃ z : Nat, l.getD i 0 = z := ⟨(l.getD i 0).toNat, by omega⟩
      rw [hz2] at q0 hz hsz
      clear hz2
      obtain ⟨x, hx⟩ : ∃ x, x = (siz l).take i := ⟨_, rfl⟩
      rw [← hx] at HR hA hS hW g2 hsz ⊢
      have Hx := hid hx
      clear hx
      have hz256 : z < 256 := by omega
      clear hz
      go_upto_region 14 with (fail)
      have es : ((z : Int) % 9) = ((z % 9 : Nat) : Int) := by omega
      have es2 : ((z : Int) % 9).toNat = z % 9 := by omega
      rw [es2] at hsz
      rw [es]
      clear es es2
      obtain ⟨s, hs⟩ : ∃ s, s = z % 9 := ⟨_, rfl⟩
      rw [← hs] at hsz ⊢
      have hs8 : s ≤ 8 := by omega
      clear hs
      have HWA := hid (wantF_append kk 0 x s)
      have hend1 := hid (show hend 0 (x ++ [s]) = hend 0 x + s + 1 from by rw [hend_append]; rfl)
      have hmk := hid (hst_mark (x := x) (s := s) (by rw [hend1.out]; omega))
      have hsum := hid (show (x ++ [s]).sum = x.sum + s from by simp)
      have hmax := hid (show (x ++ [s]).foldl max 0 = max (x.foldl max 0) s from by simp)
      generalize wantF kk 0 x = v at *
      generalize hH : hend 0 x = H at *
      have HH := hid hH; clear hH
      generalize x.sum = S at *
      generalize x.foldl max 0 = M at *
      obtain ⟨hW1, hW2⟩ := hW
      by_cases hk : kk ≤ s
      · by_cases hv0 : v < 0
        · have HV := hid (show wantF kk 0 (x ++ [s]) = (H : Nat) from by rw [HWA.out, if_pos hv0, if_pos hk])
          rcases Nat.lt_or_ge M s with hM | hM
          · skip
            go_wp2_with fail
            have e1 : ((H : Int) + (s : Int)) = ((H + s : Nat) : Int) := by omega
            rw [e1]
            clear e1
            refine (mark_t HR.out _ 1).mono ?_
            rw [hmk.out.1, hmk.out.2]
            rintro e w5 ⟨rfl, ⟨T', h5, h5T⟩, f5⟩
            have H5 := hid h5
            have H5T := hid h5T
            have F5 := hid (show Fr Nil w w5 from hfw.trans f5 (fun k hk => .inr (HT.out k hk)))
            clear h5 h5T f5
            go_wp2_with fail
            go_roundw
            case rel =>
              refine ⟨i + 1, T', by go_num, by omega, ?_, ?_, ?_, ?_, by rw [hsz.out]; exact H5.out, fun k hk => ?_, F5.out⟩
              · rw [hsz.out, hend1.out]; go_num
              · rw [hsz.out, HV.out]
              · rw [hsz.out, hsum.out]; go_num
              · rw [hsz.out, hmax.out]; congr 1; omega
              · rcases H5T.out k hk with h | h
                · exact HT.out k h
                · exact Nat.le_trans hfw.size h
            case measure => simp [intOf]; omega
          · skip
            go_wp2_with fail
            have e1 : ((H : Int) + (s : Int)) = ((H + s : Nat) : Int) := by omega
            rw [e1]
            clear e1
            refine (mark_t HR.out _ 1).mono ?_
            rw [hmk.out.1, hmk.out.2]
            rintro e w5 ⟨rfl, ⟨T', h5, h5T⟩, f5⟩
            have H5 := hid h5
            have H5T := hid h5T
            have F5 := hid (show Fr Nil w w5 from hfw.trans f5 (fun k hk => .inr (HT.out k hk)))
            clear h5 h5T f5
            go_wp2_with fail
            go_roundw
            case rel =>
              refine ⟨i + 1, T', by go_num, by omega, ?_, ?_, ?_, ?_, by rw [hsz.out]; exact H5.out, fun k hk => ?_, F5.out⟩
              · rw [hsz.out, hend1.out]; go_num
              · rw [hsz.out, HV.out]
              · rw [hsz.out, hsum.out]; go_num
              · rw [hsz.out, hmax.out]; congr 1; omega
              · rcases H5T.out k hk with h | h
                · exact HT.out k h
                · exact Nat.le_trans hfw.size h
            case measure => simp [intOf]; omega
        · have HV := hid (show wantF kk 0 (x ++ [s]) = v from by rw [HWA.out, if_neg hv0])
          rcases Nat.lt_or_ge M s with hM | hM
          · skip
            go_wp2_with fail
            have e1 : ((H : Int) + (s : Int)) = ((H + s : Nat) : Int) := by omega
            rw [e1]
            clear e1
            refine (mark_t HR.out _ 1).mono ?_
            rw [hmk.out.1, hmk.out.2]
            rintro e w5 ⟨rfl, ⟨T', h5, h5T⟩, f5⟩
            have H5 := hid h5
            have H5T := hid h5T
            have F5 := hid (show Fr Nil w w5 from hfw.trans f5 (fun k hk => .inr (HT.out k hk)))
            clear h5 h5T f5
            go_wp2_with fail
            go_roundw
            case rel =>
              refine ⟨i + 1, T', by go_num, by omega, ?_, ?_, ?_, ?_, by rw [hsz.out]; exact H5.out, fun k hk => ?_, F5.out⟩
              · rw [hsz.out, hend1.out]; go_num
              · rw [hsz.out, HV.out]
              · rw [hsz.out, hsum.out]; go_num
              · rw [hsz.out, hmax.out]; congr 1; omega
              · rcases H5T.out k hk with h | h
                · exact HT.out k h
                · exact Nat.le_trans hfw.size h
            case measure => simp [intOf]; omega
          · skip
            go_wp2_with fail
            have e1 : ((H : Int) + (s : Int)) = ((H + s : Nat) : Int) := by omega
            rw [e1]
            clear e1
            refine (mark_t HR.out _ 1).mono ?_
            rw [hmk.out.1, hmk.out.2]
            rintro e w5 ⟨rfl, ⟨T', h5, h5T⟩, f5⟩
            have H5 := hid h5
            have H5T := hid h5T
            have F5 := hid (show Fr Nil w w5 from hfw.trans f5 (fun k hk => .inr (HT.out k hk)))
            clear h5 h5T f5
            go_wp2_with fail
            go_roundw
            case rel =>
              refine ⟨i + 1, T', by go_num, by omega, ?_, ?_, ?_, ?_, by rw [hsz.out]; exact H5.out, fun k hk => ?_, F5.out⟩
              · rw [hsz.out, hend1.out]; go_num
              · rw [hsz.out, HV.out]
              · rw [hsz.out, hsum.out]; go_num
              · rw [hsz.out, hmax.out]; congr 1; omega
              · rcases H5T.out k hk with h | h
                · exact HT.out k h
                · exact Nat.le_trans hfw.size h
            case measure => simp [intOf]; omega
      · by_cases hv0 : v < 0
        · have hv1 : v = -1 := by omega
          subst hv1
          have HV := hid (show wantF kk 0 (x ++ [s]) = -1 from by rw [HWA.out, if_pos hv0, if_neg hk])
          rcases Nat.lt_or_ge M s with hM | hM
          · skip
            go_wp2_with fail
            have e1 : ((H : Int) + (s : Int)) = ((H + s : Nat) : Int) := by omega
            rw [e1]
            clear e1
            refine (mark_t HR.out _ 1).mono ?_
            rw [hmk.out.1, hmk.out.2]
            rintro e w5 ⟨rfl, ⟨T', h5, h5T⟩, f5⟩
            have H5 := hid h5
            have H5T := hid h5T
            have F5 := hid (show Fr Nil w w5 from hfw.trans f5 (fun k hk => .inr (HT.out k hk)))
            clear h5 h5T f5
            go_wp2_with fail
            go_roundw
            case rel =>
              refine ⟨i + 1, T', by go_num, by omega, ?_, ?_, ?_, ?_, by rw [hsz.out]; exact H5.out, fun k hk => ?_, F5.out⟩
              · rw [hsz.out, hend1.out]; go_num
              · rw [hsz.out, HV.out]
              · rw [hsz.out, hsum.out]; go_num
              · rw [hsz.out, hmax.out]; congr 1; omega
              · rcases H5T.out k hk with h | h
                · exact HT.out k h
                · exact Nat.le_trans hfw.size h
            case measure => simp [intOf]; omega
          · skip
            go_wp2_with fail
            have e1 : ((H : Int) + (s : Int)) = ((H + s : Nat) : Int) := by omega
            rw [e1]
            clear e1
            refine (mark_t HR.out _ 1).mono ?_
            rw [hmk.out.1, hmk.out.2]
            rintro e w5 ⟨rfl, ⟨T', h5, h5T⟩, f5⟩
            have H5 := hid h5
            have H5T := hid h5T
            have F5 := hid (show Fr Nil w w5 from hfw.trans f5 (fun k hk => .inr (HT.out k hk)))
            clear h5 h5T f5
            go_wp2_with fail
            go_roundw
            case rel =>
              refine ⟨i + 1, T', by go_num, by omega, ?_, ?_, ?_, ?_, by rw [hsz.out]; exact H5.out, fun k hk => ?_, F5.out⟩
              · rw [hsz.out, hend1.out]; go_num
              · rw [hsz.out, HV.out]
              · rw [hsz.out, hsum.out]; go_num
              · rw [hsz.out, hmax.out]; congr 1; omega
              · rcases H5T.out k hk with h | h
                · exact HT.out k h
                · exact Nat.le_trans hfw.size h
            case measure => simp [intOf]; omega
        · have HV := hid (show wantF kk 0 (x ++ [s]) = v from by rw [HWA.out, if_neg hv0])
          rcases Nat.lt_or_ge M s with hM | hM
          · skip
            go_wp2_with fail
            have e1 : ((H : Int) + (s : Int)) = ((H + s : Nat) : Int) := by omega
            rw [e1]
            clear e1
            refine (mark_t HR.out _ 1).mono ?_
            rw [hmk.out.1, hmk.out.2]
            rintro e w5 ⟨rfl, ⟨T', h5, h5T⟩, f5⟩
            have H5 := hid h5
            have H5T := hid h5T
            have F5 := hid (show Fr Nil w w5 from hfw.trans f5 (fun k hk => .inr (HT.out k hk)))
            clear h5 h5T f5
            go_wp2_with fail
            go_roundw
            case rel =>
              refine ⟨i + 1, T', by go_num, by omega, ?_, ?_, ?_, ?_, by rw [hsz.out]; exact H5.out, fun k hk => ?_, F5.out⟩
              · rw [hsz.out, hend1.out]; go_num
              · rw [hsz.out, HV.out]
              · rw [hsz.out, hsum.out]; go_num
              · rw [hsz.out, hmax.out]; congr 1; omega
              · rcases H5T.out k hk with h | h
                · exact HT.out k h
                · exact Nat.le_trans hfw.size h
            case measure => simp [intOf]; omega
          · skip
            go_wp2_with fail
            have e1 : ((H : Int) + (s : Int)) = ((H + s : Nat) : Int) := by omega
            rw [e1]
            clear e1
            refine (mark_t HR.out _ 1).mono ?_
            rw [hmk.out.1, hmk.out.2]
            rintro e w5 ⟨rfl, ⟨T', h5, h5T⟩, f5⟩
            have H5 := hid h5
            have H5T := hid h5T
            have F5 := hid (show Fr Nil w w5 from hfw.trans f5 (fun k hk => .inr (HT.out k hk)))
            clear h5 h5T f5
            go_wp2_with fail
            go_roundw
            case rel =>
              refine ⟨i + 1, T', by go_num, by omega, ?_, ?_, ?_, ?_, by rw [hsz.out]; exact H5.out, fun k hk => ?_, F5.out⟩
              · rw [hsz.out, hend1.out]; go_num
              · rw [hsz.out, HV.out]
              · rw [hsz.out, hsum.out]; go_num
              · rw [hsz.out, hmax.out]; congr 1; omega
              · rcases H5T.out k hk with h | h
                · exact HT.out k h
                · exact Nat.le_trans hfw.size h
            case measure => simp [intOf]; omega
    · have hin : i = n := by omega
      subst hin
      obtain ⟨x, hx⟩ : ∃ x, x = (siz l).take i := ⟨_, rfl⟩
      rw [← hx] at HR hA hS hW g2 ⊢
      clear hx
      have hlast := hid (hst_last (x := x) (by omega))
      have hsum := hid (hl_sum x)
      have htop := hid (hl_top x)
      have htk := hid (hl_take hk1 x)
      have hwf := hid (hl_wf (x := x) (by omega))
      generalize wantF kk 0 x = v at *
      generalize hst x = L0 at *
      generalize (hl 0 x).filter nz = F at *
      generalize hend 0 x = H at *
      generalize x.sum = S at *
      generalize x.foldl max 0 = M at *
      obtain ⟨hW1, hW2⟩ := hW
      have HF0 := hid hfw
      clear hfw
      go_wp2_with fail
      have e1 : ((400 : Int) - (H : Int)) = ((400 - H : Nat) : Int) := by omega
      rw [e1]
      clear e1
      refine (mark_t HR.out _ _).mono ?_
      rw [hlast.out.1, hlast.out.2]
      rintro e w5 ⟨rfl, ⟨T', h5, h5T⟩, f5⟩
      have H5 := hid h5
      have H5T := hid (fun k hk => (h5T k hk).elim (HT.out k) (fun h => Nat.le_trans HF0.out.size h) : ∀ k, T' k → w.heap.size ≤ k)
      have F5 := hid (show Fr Nil w w5 from HF0.out.trans f5 (fun k hk => .inr (HT.out k hk)))
      clear h5 h5T f5
      go_wp2_with fail
      refine (free_t H5.out).mono ?_
      rw [hsum.out]
      rintro e w6 ⟨rfl, f6⟩
      have F6 := hid (F5.out.then f6)
      have H6 := hid (H5.out.nil f6)
      clear f6
      go_wp2_with fail
      refine (greatest_t H6.out).mono ?_
      rw [htop.out]
      rintro e w7 ⟨rfl, f7⟩
      have F7 := hid (F6.out.then f7)
      have H7 := hid (H6.out.nil f7)
      clear f7
      go_wp2_with fail
      refine (take_t H7.out _).mono ?_
      by_cases hv0 : v < 0
      · have htR := htk.out
        rw [if_pos hv0] at htR
        rw [htR]
        have hTL := hid (show takeL F kk = F from by
          unfold takeR at htR; unfold takeL
          split at htR
          · simp at htR
          · rename_i h; rw [if_neg h])
        rw [hTL.out]
        clear htR
        rintro e w8 ⟨rfl, ⟨T8, h8, h8T⟩, f8⟩
        have H8 := hid h8
        have F8 := hid (show Fr Nil w w8 from F7.out.trans f8 (fun k hk => .inr (H5T.out k hk)))
        clear h8 h8T f8
        go_wp2_with fail
        refine (free_t H8.out).mono ?_
        rw [hsum.out]
        rintro e w9 ⟨rfl, f9⟩
        have F9 := hid (F8.out.then f9)
        clear f9
        go_wp2
        go_ret
        exact ⟨rfl, F9.out⟩
      · have htR := htk.out
        rw [if_neg hv0] at htR
        obtain ⟨a, rfl⟩ : ∃ a : Nat, v = a := ⟨v.toNat, by omega⟩
        have hts := hid (take_sum (l := F) (k := kk) (by rw [htR]))
        have htb := hid (take_back hwf.out htR rfl)
        rw [htR]
        clear htR
        rintro e w8 ⟨rfl, ⟨T8, h8, h8T⟩, f8⟩
        have hs9 := hts.out
        rw [hsum.out] at hs9
        obtain ⟨S2, hS2⟩ : ∃ S2, S2 = sumN (takeL F kk) := ⟨_, rfl⟩
        rw [← hS2] at hs9
        have HS2 := hid hS2; clear hS2
        have H8 := hid h8
        have H8T := hid (fun k hk => (h8T k hk).elim (H5T.out k) (fun h => Nat.le_trans F7.out.size h) : ∀ k, T8 k → w.heap.size ≤ k)
        have F8 := hid (show Fr Nil w w8 from F7.out.trans f8 (fun k hk => .inr (H5T.out k hk)))
        clear h8 h8T f8
        go_wp2_with fail
        refine (free_t H8.out).mono ?_
        rw [← HS2.out]
        rintro e w9 ⟨rfl, f9⟩
        have F9 := hid (F8.out.then f9)
        have H9 := hid (H8.out.nil f9)
        clear f9
        have heq : ((S2 : Int) == (S : Int) - (kk : Int)) = true := by simp; omega
        have Hs9 := hid hs9; clear hs9
        go_wp2_with fail
        refine (mark_t H9.out _ _).mono ?_
        rw [show markR 400 (takeL F kk) (a : Nat) 1 = false from htb.out.1, show markL 400 (takeL F kk) (a : Nat) 1 = takeL F kk from mark_not (N := 1) htb.out.1]
        rintro e w10 ⟨rfl, ⟨T10, h10, h10T⟩, f10⟩
        have H10 := hid h10
        have H10T := hid (fun k hk => (h10T k hk).elim (H8T.out k) (fun h => Nat.le_trans F9.out.size h) : ∀ k, T10 k → w.heap.size ≤ k)
        have F10 := hid (show Fr Nil w w10 from F9.out.trans f10 (fun k hk => .inr (H8T.out k hk)))
        clear h10 h10T f10
        go_wp2_with fail
        refine (give_t H10.out _ _).mono ?_
        rw [htb.out.2.1, htb.out.2.2]
        rintro e w11 ⟨rfl, ⟨T11, h11, h11T⟩, f11⟩
        have H11 := hid h11
        have F11 := hid (show Fr Nil w w11 from F10.out.trans f11 (fun k hk => .inr (H10T.out k hk)))
        clear h11 h11T f11
        go_wp2_with fail
        refine (free_t H11.out).mono ?_
        rw [hsum.out]
        rintro e w12 ⟨rfl, f12⟩
        have F12 := hid (F11.out.then f12)
        clear f12
        go_wp2
        go_ret
        exact ⟨rfl, F12.out⟩
end Go.Proofs.Ytbfhoadhihlhjaa

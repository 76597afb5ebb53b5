/- The reference's Shares: its shape; at, Uses, List, New. Conditions: the bounds of its lists. -/
import Derived.Test.YtjieckaeplkafaaShG
import Derived.Test.YtjieckaeplkafaaSRpT
set_option linter.unusedSimpArgs false
set_option linter.unusedVariables false
namespace Go.Proofs.Ytjieckaeplkafaa
open Go.RowKit
/-- The cells of a use: late is what is used no more. -/
def qc (u : Us) : List Value := [.int .i64 (u.a : Nat), .int .i64 (u.n : Nat), .int .i64 (u.k : Nat), .bool (decide (u.k = 0))]
def quad (l : List Us) : List Value := l.flatMap qc
theorem quad_length (l : List Us) : (quad l).length = l.length * 4 := by
  induction l with
  | nil => rfl
  | cons k l ih => simp [quad, qc] at ih ⊢; omega
theorem quad_append (a b : List Us) : quad (a ++ b) = quad a ++ quad b := by simp [quad]
theorem quad_one (a : Us) : quad [a] = qc a := by simp [quad]
theorem qc_cell (r : Us) : ∀ u ∈ qc r, u.oneCell' = true := by
  intro u hu
  simp [qc] at hu
  rcases hu with rfl | rfl | rfl | rfl <;> rfl
theorem quad_cell (l : List Us) : ∀ u ∈ quad l, u.oneCell' = true := by
  intro u hu
  obtain ⟨r, _, hr⟩ := List.mem_flatMap.1 hu
  exact qc_cell r u hr
theorem quad_take : ∀ (l : List Us) (i : Nat), (quad l).take (i * 4) = quad (l.take i)
  | [], i => by simp [quad]
  | k :: l, 0 => by simp [quad]
  | k :: l, i + 1 => by
    have := quad_take l i
    show (qc k ++ quad l).take ((i + 1) * 4) = qc k ++ quad (l.take i)
    rw [List.take_append, show (i + 1) * 4 - (qc k).length = i * 4 by simp [qc]; omega, this, List.take_of_length_le (by simp [qc]; omega)]
theorem quad_drop : ∀ (l : List Us) (i : Nat), (quad l).drop (i * 4) = quad (l.drop i)
  | [], i => by simp [quad]
  | k :: l, 0 => by simp [quad]
  | k :: l, i + 1 => by
    have := quad_drop l i
    show (qc k ++ quad l).drop ((i + 1) * 4) = quad (l.drop i)
    rw [List.drop_append, show (i + 1) * 4 - (qc k).length = i * 4 by simp [qc]; omega, this, List.drop_of_length_le (by simp [qc]; omega), List.nil_append]
theorem quad_get {l : List Us} {i : Nat} (h : i < l.length) : (quad l)[i * 4]? = some (.int .i64 ((us l i).a : Nat)) ∧ (quad l)[i * 4 + 1]? = some (.int .i64 ((us l i).n : Nat)) ∧ (quad l)[i * 4 + 2]? = some (.int .i64 ((us l i).k : Nat)) ∧ (quad l)[i * 4 + 3]? = some (.bool (decide ((us l i).k = 0))) := by
  have hd := quad_drop l i
  rw [List.drop_eq_getElem_cons h, ← us_eq h] at hd
  have h0 : ((quad l).drop (i * 4))[0]? = some (.int .i64 ((us l i).a : Nat)) := by rw [hd]; rfl
  have h1 : ((quad l).drop (i * 4))[1]? = some (.int .i64 ((us l i).n : Nat)) := by rw [hd]; rfl
  have h2 : ((quad l).drop (i * 4))[2]? = some (.int .i64 ((us l i).k : Nat)) := by rw [hd]; rfl
  have h3 : ((quad l).drop (i * 4))[3]? = some (.bool (decide ((us l i).k = 0))) := by rw [hd]; rfl
  rw [List.getElem?_drop] at h0 h1 h2 h3
  exact ⟨h0, h1, h2, h3⟩
theorem uz_at {w : World} {S : Nat → Prop} {A : Option Addr} {n c : Nat} {l : List Us} (h : View w S 4 (.slice A n c) n (quad l)) {i : Nat} (hi : i < n) :
    ∃ b o, A = some ⟨b, o, none⟩ ∧ S b ∧ b < w.heap.size ∧ w.cell? ⟨b, o + i * 4, none⟩ = some (.int .i64 ((us l i).a : Nat)) ∧ w.cell? ⟨b, o + i * 4 + 1, none⟩ = some (.int .i64 ((us l i).n : Nat)) ∧ w.cell? ⟨b, o + i * 4 + 2, none⟩ = some (.int .i64 ((us l i).k : Nat)) ∧ w.cell? ⟨b, o + i * 4 + 3, none⟩ = some (.bool (decide ((us l i).k = 0))) := by
  obtain ⟨hl, A', c', e, _, _, _, _, h5⟩ := h
  injection e with ea _ ec
  subst ea; subst ec
  obtain ⟨b, o, hA, hS, hb, hc⟩ := h5 (by omega)
  obtain ⟨g0, g1, g2, g3⟩ := quad_get (l := l) (i := i) (by rw [quad_length] at hl; omega)
  exact ⟨b, o, hA, hS, hb, hc _ _ g0, hc _ _ g1, hc _ _ g2, hc _ _ g3⟩
theorem info_use : (Try.prog.info? 72).map (fun i => (i.zero, i.size, i.bytes)) = some (some (.agg #[.int .i64 0, .int .i64 0, .int .i64 0, .bool false]), 4, 32) := by kernel_rfl
/-- The reference's Shares: now, and as it was. T: its blocks. -/
structure Rz (w : World) (T : Nat → Prop) (sb mb : Nat) (N W : List Us) : Prop where
  ex : ∃ v1 v2, Blk w sb #[.pointer (some ⟨mb, 0, none⟩), v1, v2] 70 ∧ Row w T 72 4 v1 N.length (quad N) ∧ Row w T 72 4 v2 W.length (quad W)
  ts : T sb
  lt : ∀ k, T k → k < w.heap.size
section
variable {w w1 : World} {T S1 : Nat → Prop} {sb mb : Nat} {N W : List Us}
theorem Rz.fr (h : Rz w T sb mb N W) (hf : Fr S1 w w1) (hn : ∀ k, T k → ¬ S1 k) : Rz w1 T sb mb N W := by
  obtain ⟨⟨v1, v2, h1, h2, h3⟩, h4, h5⟩ := h
  exact ⟨⟨v1, v2, h1.fr hf (hn _ h4), h2.frS hf hn, h3.frS hf hn⟩, h4, fun k hk => Nat.lt_of_lt_of_le (h5 k hk) hf.size⟩
theorem Rz.nil (h : Rz w T sb mb N W) (hf : Fr Nil w w1) : Rz w1 T sb mb N W := h.fr hf fun _ _ h => h
/-- What it has at a later world. -/
theorem Rz.of {v1 v2 : Value} {N' W' : List Us} (hs : w.heap.size ≤ w1.heap.size) (h0 : T sb) (hl : sb < w.heap.size) (h1 : Blk w1 sb #[.pointer (some ⟨mb, 0, none⟩), v1, v2] 70) (h2 : Row w1 (fun k => T k ∨ w.heap.size ≤ k) 72 4 v1 N'.length (quad N')) (h3 : Row w1 (fun k => T k ∨ w.heap.size ≤ k) 72 4 v2 W'.length (quad W')) :
    ∃ T', Rz w1 T' sb mb N' W' ∧ ∀ k, T' k → T k ∨ w.heap.size ≤ k :=
  ⟨fun k => (T k ∨ w.heap.size ≤ k) ∧ k < w1.heap.size, ⟨⟨v1, v2, h1, ⟨h2.1, fun k hk => ⟨h2.2 k hk, h2.lt k hk⟩⟩, ⟨h3.1, fun k hk => ⟨h3.2 k hk, h3.lt k hk⟩⟩⟩, ⟨.inl h0, by omega⟩, fun k hk => hk.2⟩, fun k hk => hk.1⟩
end
/-- The place of a run. -/
def atN (N : List Us) (i : Int) : Nat := N.findIdx fun u => (u.a : Int) == i
def atI (N : List Us) (i : Int) : Int := if atN N i < N.length then (atN N i : Int) else -1
theorem atN_lt {N : List Us} {i : Int} {j : Nat} (h : j < N.length) (hj : ((us N j).a : Int) = i) (hb : ∀ q, q < j → ((us N q).a : Int) ≠ i) : atN N i = j := by
  unfold atN
  rw [us_eq h] at hj
  refine (List.findIdx_eq h).2 ⟨by simpa using hj, fun q hq => ?_⟩
  have := hb q hq
  rw [us_eq (by omega)] at this
  simpa using this
theorem atN_none {N : List Us} {i : Int} (hb : ∀ q, q < N.length → ((us N q).a : Int) ≠ i) : atN N i = N.length := by
  unfold atN
  refine List.findIdx_eq_length.2 fun u hu => ?_
  obtain ⟨q, hq, rfl⟩ := List.getElem_of_mem hu
  have := hb q hq
  rw [us_eq hq] at this
  simpa using this
set_option maxRecDepth 20000 in
theorem rz_at (T : Nat → Prop) (sb mb : Nat) (N W : List Us) (w : World) (h : Rz w T sb mb N W) (hN : N.length ≤ 100000) (i : Int) :
    Calls Try.prog 40 #[.pointer (some ⟨sb, 0, none⟩), .int .i64 i] w fun e w' => e = .returned (.int .i64 (atI N i)) ∧ w = w' := by
  obtain ⟨⟨v1, v2, h1, h2, h3⟩, h4, h5⟩ := h
  obtain ⟨A, c, rfl⟩ := h2.slice
  have c1 : w.cell? ⟨sb, 1, none⟩ = some (.slice A N.length c) := h1.cell 1
  have HV := hid h2.view
  obtain ⟨M, hM⟩ : ∃ M, M = N.length := ⟨_, rfl⟩
  rw [← hM] at c1 HV
  have HM := hid hM
  have hM9 : M ≤ 100000 := by omega
  clear h1 h2 h3 h4 h5 hN hM
  go_enter Try.func40, Try.ntmps40
  go_wp2_with fail
  go_loopw [5] (fun v5 wr => ∃ j : Nat, v5 = .int .i64 j ∧ j ≤ M ∧ Hid (∀ q, q < j → ((us N q).a : Int) ≠ i) ∧ w = wr) (fun v5 _ => M - (intOf v5).toNat)
  case atStart => exact ⟨0, rfl, by omega, hid (fun q hq => by omega), rfl⟩
  case round =>
    obtain ⟨j, rfl, hj, hb, rfl⟩ := hrel
    by_cases hjm : j < M
    · obtain ⟨b, o, rfl, -, hbl, q0, -⟩ := uz_at HV.out hjm
      have hjN : j < N.length := by rw [← HM.out]; exact hjm
      obtain ⟨x, hx⟩ : ∃ x, x = (us N j).a := ⟨_, rfl⟩
      rw [← hx] at q0
      have HX := hid hx
      have HjN := hid hjN
      clear hx hjN
      by_cases hxi : (x : Int) = i
      · have hxb : ((x : Int) == i) = true := by simpa using hxi
        have HXI := hid hxi
        clear hxi
        go_wp2_with fail
        go_ret
        refine ⟨?_, rfl⟩
        have := atN_lt HjN.out (by rw [← HX.out]; exact HXI.out) hb.out
        unfold atI
        rw [this, if_pos HjN.out]
        rfl
      · have hxb : ((x : Int) == i) = false := by simpa using hxi
        have HXI := hid hxi
        clear hxi
        go_wp2_with fail
        go_roundw
        case rel => exact ⟨j + 1, by go_num, by omega, hid (fun q hq => by
          by_cases h : q = j
          · rw [h, ← HX.out]; exact HXI.out
          · exact hb.out q (by omega)), by first | trivial | rfl⟩
        case measure => simp [intOf]; omega
    · have hjM : j = M := by omega
      go_wp2_with fail
      go_ret
      refine ⟨?_, rfl⟩
      have := atN_none (N := N) (i := i) fun q hq => hb.out q (by have := HM.out; omega)
      unfold atI
      rw [this, if_neg (Nat.lt_irrefl _)]
      rfl
set_option maxRecDepth 20000 in
theorem rz_new (mb : Nat) (w : World) :
    Calls Try.prog 23 #[.pointer (some ⟨mb, 0, none⟩)] w fun e w' => ∃ sb, e = .returned (.pointer (some ⟨sb, 0, none⟩)) ∧ Rz w' (fun k => k = sb) sb mb [] [] ∧ w.heap.size ≤ sb ∧ Fr Nil w w' := by
  go_enter Try.func23, Try.ntmps23
  go_wp2
  go_ret
  have hb := Blk.new w #[.pointer (some ⟨mb, 0, none⟩), .slice none 0 0, .slice none 0 0] 70
  exact ⟨_, rfl, ⟨⟨_, _, hb, Row.nil _ _ _ _, Row.nil _ _ _ _⟩, rfl, fun k hk => by rw [hk]; exact hb.lt⟩, Nat.le_refl _, (Fr.refl _ _).alloc _⟩
end Go.Proofs.Ytjieckaeplkafaa

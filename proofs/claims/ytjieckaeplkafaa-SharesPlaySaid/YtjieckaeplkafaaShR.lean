/- Shares: the law's same; a program's shares beside the reference's. Conditions: the bounds of its lists. -/
import Derived.Test.YtjieckaeplkafaaShQ
import Derived.Test.YtjieckaeplkafaaShO
import Derived.Test.YtjieckaeplkafaaSRpS
set_option linter.unusedSimpArgs false
set_option linter.unusedVariables false
namespace Go.Proofs.Ytjieckaeplkafaa
open Go.RowKit
set_option maxRecDepth 20000 in
theorem shsame_ok (Q T : Nat → Prop) (w0 w : World) (sb pb rb mb bl B : Nat) (U L H : List Us) (A l : List Rn) (N W : List Us) (h : Sg Q w0 w sb pb bl B U L H A l) (hz : Rz w T rb mb N W) (hr : Rel N U L) :
    Calls Try.prog 31 #[.pointer (some ⟨sb, 0, none⟩), .pointer (some ⟨rb, 0, none⟩)] w fun e w' => e = .returned (.bool true) ∧ Fr Nil w w' := by
  have hN : N.length ≤ 100000 := by have := hr.len h.inv; have := h.le8; omega
  have hU : U.length ≤ 100000 := by have := h.inv.len.1; have := h.le8; omega
  have hL : L.length ≤ 100000 := by have := h.inv.len.2.1; have := h.le8; omega
  have Hu := hid (hr.uses h.inv)
  have He := hid (hr.list h.inv)
  have Hl := hid (hr.late h.inv)
  have HG := hid h
  have HZ := hid hz
  have HN := hid hN
  have HU := hid hU
  have HL := hid hL
  clear h hz hr hN hU hL
  go_enter Try.func31, Try.ntmps31
  go_wp2_with fail
  go_loopw [5] (fun v5 wr => ∃ i : Nat, v5 = .int .i64 i ∧ i ≤ 40 ∧ w = wr) (fun v5 _ => 40 - (intOf v5).toNat)
  case atStart => exact ⟨0, rfl, by omega, rfl⟩
  case round =>
    obtain ⟨i, rfl, hi, rfl⟩ := hrel
    by_cases hlt : i < 40
    · go_wp2_with fail
      refine (sg_uses HG.out (i : Nat) (wf_i64 (by omega))).mono ?_
      rintro e w1 ⟨rfl, rfl⟩
      go_wp2_with fail
      refine (rz_uses T rb mb N W w HZ.out HN.out (i : Nat)).mono ?_
      rintro e w1 ⟨rfl, rfl⟩
      rw [Hu.out]
      go_wp2_with fail
      go_roundw
      case rel => exact ⟨i + 1, by go_num, by omega, by first | trivial | rfl⟩
      case measure => simp [intOf]; omega
    · go_wp2_with fail
      refine (sg_list HG.out).mono ?_
      rintro e w1 ⟨B1, c1, rfl, r1, f1⟩
      have R1 := hid r1
      have F1 := hid f1
      clear r1 f1
      go_wp2_with fail
      refine (rz_list T rb mb N W w1 (HZ.out.nil F1.out) HN.out false).mono ?_
      rw [He.out, lst_length]
      rintro e w2 ⟨B2, c2, rfl, r2, f2⟩
      have R12 := hid (R1.out.fr f2 fun _ _ h => h)
      have R2 := hid r2
      have F2 := hid (F1.out.then f2)
      clear r2 f2 R1 F1
      go_wp2_with fail
      refine (list_same _ _ _ _ _ _ _ (lst U) w2 R12.out.view R2.out.view HU.out).mono ?_
      rintro e w3 ⟨rfl, f3⟩
      have F3 := hid (F2.out.then f3)
      clear f3 R12 R2 F2
      go_wp2_with fail
      refine (sg_late (HG.out.nil F3.out)).mono ?_
      rintro e w4 ⟨B1, c1, rfl, r1, f1⟩
      have R1 := hid r1
      have F4 := hid (F3.out.then f1)
      clear r1 f1 F3
      go_wp2_with fail
      refine (rz_list T rb mb N W w4 (HZ.out.nil F4.out) HN.out true).mono ?_
      rw [Hl.out, lst_length]
      rintro e w5 ⟨B2, c2, rfl, r2, f2⟩
      have R12 := hid (R1.out.fr f2 fun _ _ h => h)
      have R2 := hid r2
      have F5 := hid (F4.out.then f2)
      clear r2 f2 R1 F4
      go_wp2_with fail
      refine (list_same _ _ _ _ _ _ _ (lst L) w5 R12.out.view R2.out.view HL.out).mono ?_
      rintro e w6 ⟨rfl, f6⟩
      have F6 := hid (F5.out.then f6)
      clear f6
      go_wp2
      go_ret
      exact ⟨rfl, F6.out⟩
theorem Half.fr {Q S : Nat → Prop} {w0 w w' : World} {sb pb bl B : Nat} {U L H : List Us} {A l : List Rn} {a n : Nat} (h : Half Q w0 w sb pb bl B U L H A l a n) (hf : Fr S w w') (hS : ∀ k, S k → Q k) (hS0 : ∀ k, S k → w0.heap.size ≤ k) : Half Q w0 w' sb pb bl B U L H A l a n := by
  obtain ⟨⟨V, h1, h2, h3, h4⟩, h5, h6, h7, h8⟩ := h
  exact ⟨⟨V, h1.fr hf fun k hk h => (h2 k hk).2 (hS k h), h2, h3.trans hf fun k hk => .inr (hS0 k hk), fun k hk => Nat.lt_of_lt_of_le (h4 k hk) hf.size⟩, h5, h6, h7, h8⟩
theorem Sg.rs {Q : Nat → Prop} {w0 w : World} {sb pb bl B : Nat} {U L H : List Us} {A l : List Rn} (h : Sg Q w0 w sb pb bl B U L H A l) : ∃ TR, RsT w TR pb bl l := by
  obtain ⟨V, h1, h2⟩ := h
  obtain ⟨T, TR, g1, g2, _⟩ := h1.ex
  exact ⟨TR, g2⟩
def Qz (T : Nat → Prop) (mb fb : Nat) : Nat → Prop := fun k => T k ∨ k = mb ∨ k = fb
/-- Both sides. -/
structure PSt (w1 w : World) (sb pb rb mb fb B : Nat) (U L H : List Us) (A l : List Rn) (N W : List Us) (T : Nat → Prop) (F : List Bool) : Prop where
  g : Sg (Qz T mb fb) w1 w sb pb 40 B U L H A l
  z : Rz w T rb mb N W
  f : Rf w mb fb F
  fre : Fre 40 l F
  rel : Rel N U L
  relw : Rel W H []
  p : (U.map Us.r ++ L.map Us.r).Perm (H.map Us.r ++ A)
  t : ∀ k, T k → k ≠ mb ∧ k ≠ fb
  n : (∀ k, T k → w1.heap.size ≤ k) ∧ w1.heap.size ≤ mb ∧ w1.heap.size ≤ fb
section
variable {w1 w w' : World} {sb pb rb mb fb B : Nat} {U L H : List Us} {A l : List Rn} {N W : List Us} {T : Nat → Prop} {F : List Bool}
theorem PSt.nil (h : PSt w1 w sb pb rb mb fb B U L H A l N W T F) (hf : Fr Nil w w') : PSt w1 w' sb pb rb mb fb B U L H A l N W T F :=
  ⟨h.g.nil hf, h.z.nil hf, h.f.nil hf, h.fre, h.rel, h.relw, h.p, h.t, h.n⟩
theorem PSt.mono {B' : Nat} (h : PSt w1 w sb pb rb mb fb B U L H A l N W T F) (hB : B ≤ B') : PSt w1 w sb pb rb mb fb B' U L H A l N W T F :=
  ⟨h.g.mono hB, h.z, h.f, h.fre, h.rel, h.relw, h.p, h.t, h.n⟩
/-- What the program changes leaves the reference as it is. -/
theorem PSt.keepz (h : PSt w1 w sb pb rb mb fb B U L H A l N W T F) (hf : Fr (fun k => ¬ Qz T mb fb k) w w') : Rz w' T rb mb N W ∧ Rf w' mb fb F :=
  ⟨h.z.fr hf fun k hk hn => hn (.inl hk), h.f.fr hf (fun hn => hn (.inr (.inl rfl))) (fun hn => hn (.inr (.inr rfl)))⟩
theorem q_step {T' : Nat → Prop} (hz : Rz w' T' rb mb N W) (hf : Rf w' mb fb F) (ht : ∀ k, T' k → T k ∨ w.heap.size ≤ k) : ∀ k, Qz T' mb fb k → (Qz T mb fb k ∨ w.heap.size ≤ k) ∧ k < w'.heap.size := fun k hk => by
  rcases hk with h | h | h
  · exact ⟨(ht k h).imp .inl id, hz.lt k h⟩
  · subst h; exact ⟨.inl (.inr (.inl rfl)), hf.1.lt⟩
  · subst h; exact ⟨.inl (.inr (.inr rfl)), hf.2.lt⟩
theorem t_step {T' : Nat → Prop} (hm : mb < w.heap.size) (hb : fb < w.heap.size) (h : ∀ k, T k → k ≠ mb ∧ k ≠ fb) (ht : ∀ k, T' k → T k ∨ w.heap.size ≤ k) : ∀ k, T' k → k ≠ mb ∧ k ≠ fb := fun k hk => by
  rcases ht k hk with h1 | h1
  · exact h k h1
  · exact ⟨by omega, by omega⟩
theorem PSt.next {w2 w3 : World} {S : Nat → Prop} {B' : Nat} {U' L' H' : List Us} {A' l' : List Rn} {N' W' : List Us} {F' : List Bool} (h : PSt w1 w sb pb rb mb fb B U L H A l N W T F) (hs : w.heap.size ≤ w2.heap.size)
    (g : Sg (Qz T mb fb) w1 w2 sb pb 40 B' U' L' H' A' l') (hz : ∃ T', Rz w3 T' rb mb N' W' ∧ ∀ k, T' k → T k ∨ w2.heap.size ≤ k) (hF : Rf w3 mb fb F') (hfre : Fre 40 l' F') (hf : Fr S w2 w3) (hS : ∀ k, S k → k = rb ∨ k = fb)
    (r1 : Rel N' U' L') (r2 : Rel W' H' []) (p : (U'.map Us.r ++ L'.map Us.r).Perm (H'.map Us.r ++ A')) : ∃ T', PSt w1 w3 sb pb rb mb fb B' U' L' H' A' l' N' W' T' F' := by
  obtain ⟨T', z1, z2⟩ := hz
  have hSQ : ∀ k, S k → Qz T mb fb k := fun k hk => by
    rcases hS k hk with e | e
    · exact .inl (by rw [e]; exact h.z.ts)
    · exact .inr (.inr e)
  have hS1 : ∀ k, S k → w1.heap.size ≤ k := fun k hk => by
    rcases hS k hk with e | e
    · rw [e]; exact h.n.1 _ h.z.ts
    · rw [e]; exact h.n.2.2
  have hw1 : w1.heap.size ≤ w2.heap.size := g.fr0.size
  exact ⟨T', g.fr hf hSQ hS1 (q_step z1 hF z2), z1, hF, hfre, r1, r2, p, t_step (Nat.lt_of_lt_of_le h.f.1.lt hs) (Nat.lt_of_lt_of_le h.f.2.lt hs) h.t z2, fun k hk => (z2 k hk).elim (h.n.1 k) fun h => Nat.le_trans hw1 h, h.n.2⟩
end
def Play (w1 w : World) (sb pb rb mb fb B : Nat) : Prop := ∃ U L H A l N W T F, PSt w1 w sb pb rb mb fb B U L H A l N W T F
theorem PSt.play {w1 w : World} {sb pb rb mb fb B B' : Nat} {U L H : List Us} {A l : List Rn} {N W : List Us} {F : List Bool} (h : ∃ T, PSt w1 w sb pb rb mb fb B U L H A l N W T F) (hB : B ≤ B') : Play w1 w sb pb rb mb fb B' := by
  obtain ⟨T, h⟩ := h
  exact ⟨_, _, _, _, _, _, _, _, _, h.mono hB⟩
theorem Play.nil {w1 w w' : World} {sb pb rb mb fb B : Nat} (h : Play w1 w sb pb rb mb fb B) (hf : Fr Nil w w') : Play w1 w' sb pb rb mb fb B := by
  obtain ⟨U, L, H, A, l, N, W, T, F, h⟩ := h
  exact ⟨U, L, H, A, l, N, W, T, F, h.nil hf⟩
theorem Play.fr0 {w1 w : World} {sb pb rb mb fb B : Nat} (h : Play w1 w sb pb rb mb fb B) : Fr Nil w1 w := by
  obtain ⟨U, L, H, A, l, N, W, T, F, h⟩ := h
  exact h.g.fr0
theorem Play.start {w1 w2 w3 w4 w5 : World} {sb pb rb mb fb : Nat} {T1 Ts : Nat → Prop} (h1 : RsT w2 T1 pb 40 [⟨0, 40⟩]) (hT : ∀ k, T1 k → w1.heap.size ≤ k) (f2 : Fr Nil w1 w2) (hR : Rf w3 mb fb (List.replicate 40 true)) (hm : w2.heap.size ≤ mb) (hfb : w2.heap.size ≤ fb) (f3 : Fr Nil w2 w3)
    (hS : IsS w4 Ts sb pb [] [] [] []) (hTs : ∀ k, Ts k → w3.heap.size ≤ k) (f4 : Fr Nil w3 w4) (hz : Rz w5 (fun k => k = rb) rb mb [] []) (hrb : w4.heap.size ≤ rb) (f5 : Fr Nil w4 w5) : Play w1 w5 sb pb rb mb fb 1 := by
  obtain ⟨V, v1, v2⟩ := st_new (h1.nil f3) w4 f4 Ts hS hTs
  have hml := hR.1.lt
  have hfl := hR.2.lt
  have s4 := f4.size
  have s5 := f5.size
  have s2 := f2.size
  have hin : Inv 40 1 [] [] [] [] [⟨0, 40⟩] := Inv.new (by decide) (by decide)
  have hV : ∀ k, V k → w1.heap.size ≤ k ∧ ¬ (k = mb ∨ k = fb) ∧ k < w4.heap.size := fun k hk => by
    have hlt := v1.lt k hk
    rcases v2 k hk with h | h
    · have := h1.lt k h; exact ⟨hT k h, by omega, hlt⟩
    · have := f3.size; exact ⟨by omega, by omega, hlt⟩
  have hg : Sg (Qz (fun k => k = rb) mb fb) w1 w5 sb pb 40 1 [] [] [] [] [⟨0, 40⟩] := by
    refine ⟨V, v1.nil f5, fun k hk => ⟨(hV k hk).1, ?_⟩, ((f2.then f3).then f4).then f5, ?_, hin⟩
    · rintro (h | h)
      · have := (hV k hk).2.2; omega
      · exact (hV k hk).2.1 h
    · rintro k (h | h | h)
      · subst h; exact hz.lt _ rfl
      · subst h; omega
      · subst h; omega
  have hrel : Rel [] [] [] := ⟨List.Pairwise.nil, fun u => by simp⟩
  exact ⟨[], [], [], [], _, [], [], _, _, hg, hz, (hR.nil f4).nil f5, Fre.new 40, hrel, hrel, by simp, fun k hk => by subst hk; omega, fun k hk => by subst hk; omega, by omega, by omega⟩
end Go.Proofs.Ytjieckaeplkafaa

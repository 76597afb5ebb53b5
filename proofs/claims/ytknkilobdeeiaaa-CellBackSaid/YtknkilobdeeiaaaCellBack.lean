/- CellBack: what was written is read as it was; cut anywhere it is too short; with a byte behind it too long. -/
import Derived.Test.YtknkilobdeeiaaaCellParts
import Derived.RegionCalls
import Derived.Deep.RegionWith
set_option linter.unusedSimpArgs false
set_option linter.unusedVariables false
namespace Go.Proofs.Ytknkilobdeeiaaa
open Go.RowKit

/-- What the reading function leaves. -/
def BackPost (w : World) (S : Nat → Prop) (rb ob : Nat) (e : Ending) (w' : World) : Got Unit → Prop
  | .ok _ rest => Fr (fun k => k = ob ∨ k = rb) w w' ∧ Blk w' ob #[.bool true] 4 ∧ e = .returned (.tuple #[]) ∧ IsR w' S rb rest
  | .bad er => Fr (fun k => k = ob ∨ k = rb) w w' ∧ Blk w' ob #[.bool true] 4 ∧ e = .panicked (brk er)

theorem isR_drew {w : World} {S : Nat → Prop} {rb : Nat} {xs : List Nat} (h : IsR w S rb xs) : IsR w.drew S rb xs := h

set_option maxRecDepth 100000 in
set_option maxHeartbeats 1600000 in
theorem back1_ok (S S1 : Nat → Prop) (rb lb ob n c : Nat) (A : Option Addr) (ps : List Prt) (xs : List Nat) (out : Got Unit) (w : World) (hB : Byt xs) (hx : xs.length ≤ 60000) (hR : IsR w S rb xs) (hRd : Rd ps xs out)
    (hP : Parts w S1 (.slice A n c) n ps) (hl : Blk w lb #[.slice A n c] 22) (ho : Blk w ob #[.bool true] 4) (h1 : ∀ k, S1 k → ¬ S k ∧ k ≠ ob) (h2 : ¬ S lb) (h3 : ¬ S ob) (h4 : lb ≠ ob) :
    Calls Try.prog 16 #[.pointer (some ⟨rb, 0, none⟩), .pointer (some ⟨lb, 0, none⟩), .pointer (some ⟨ob, 0, none⟩)] w fun e w' => BackPost w S rb ob e w' out := by
  have hSr := hR.1
  have hpl := hP.1
  go_enter Try.func16, Try.ntmps16
  go_wp2_with fail
  go_loopw [4] (fun v4 wr => ∃ (i : Nat) (bs : List Nat), v4 = .int .i64 i ∧ i ≤ n ∧ Fr (fun k => k = ob ∨ k = rb) w wr ∧ IsR wr S rb bs ∧ Byt bs ∧ bs.length ≤ 60000 ∧ Rd (ps.drop i) bs out ∧ Blk wr ob #[.bool true] 4) (fun v4 _ => n - (intOf v4).toNat)
  case atStart => exact ⟨0, xs, rfl, by omega, Fr.refl _ _, hR, hB, hx, hRd, ho⟩
  case round =>
    obtain ⟨i, bs, rfl, hi, hfr, hRr, hBr, hbl, hRdr, hor⟩ := hrel
    have hlr := hl.fr hfr (fun h => h.elim h4 (fun h => h2 (h ▸ hSr)))
    have hPr := hP.fr hfr (fun k hk _ h => h.elim (h1 k hk).2 (fun h => (h1 k hk).1 (h ▸ hSr)))
    have hcl : wr.cell? ⟨lb, 0, none⟩ = some (.slice A n c) := hlr.cell 0
    have hco : wr.cell? ⟨ob, 0, none⟩ = some (.bool true) := hor.cell 0
    have hzo : wr.frozen? ⟨ob, 0, none⟩ = false := hor.frozen 0
    by_cases hlt : i < n
    · have hi2 : i < ps.length := by omega
      obtain ⟨_, A', c', e, hn9, h5⟩ := hPr
      injection e with ea _ ec
      subst ea; subst ec
      obtain ⟨b, o, rfl, hS1b, hbl2, hcells⟩ := h5 (by omega)
      obtain ⟨p0, p1, Ab, cb, p2, p3, p4, p5, p6⟩ := hcells i ps[i] (List.getElem?_eq_getElem hi2)
      rw [List.drop_eq_getElem_cons hi2] at hRdr
      generalize ps[i] = p at *
      clear hcells h5
      have H1 := hid h1; clear h1
      have hz0 : ((i : Int)) < (n : Int) := by omega
      have hz1 : (0 : Int) ≤ (i : Int) := by omega
      have hor_d : Blk wr.drew ob #[.bool true] 4 := hor
      have hlr_d : Blk wr.drew lb #[.slice (some ⟨b, o, none⟩) n c] 22 := hlr
      have hne_b : b ≠ rb := fun h => (H1.out b hS1b).1 (h ▸ hSr)
      cases hRdr with
      | num _ _ _ t _ hd hn hrest =>
        have hdb : (p.d == 2) = false := by simpa using hd
        have Hn := hid hn; clear hn
        have hve := val_i64 p.n
        go_wp2_with fail
        go_region_with (go_at_call 18; refine (rnum_any S rb bs (by omega) hBr wr.drew (isR_drew hRr)).mono ?_; intro e w1 hp; rw [Hn.out] at hp; obtain ⟨rfl, hf1, hR1⟩ := hp; have hcl1 := (hlr_d.fr hf1 (fun h => h2 (h ▸ hSr))).cell 0; have hco1 := (hor_d.fr hf1 (fun h => h3 (h ▸ hSr))).cell 0; have hzo1 := (hor_d.fr hf1 (fun h => h3 (h ▸ hSr))).frozen 0; have hpn1 := hf1.cell (a := ⟨b, o + i * 3 + 1, none⟩) p1 (fun h => hne_b h))
        all_goals
          have hfr1 : Fr (fun k => k = ob ∨ k = rb) wr w1 := ((Fr.refl _ wr).drew).then (hf1.mono fun _ h => .inr h)
          have hor1 := hor_d.fr hf1 (fun h => h3 (h ▸ hSr))
          go_wp2
          go_roundw
          case rel =>
            refine ⟨i + 1, t, by go_num, by omega, (hfr.then hfr1).setCell (a := ⟨ob, 0, none⟩) (.inl (.inl rfl)) _, ?_, num_byt Hn.out hBr, by have := num_le Hn.out; omega, hrest, hor1.set 0 _⟩
            exact IsR.fr (S1 := fun k => k = ob) hR1 ((Fr.refl (fun k => k = ob) w1).setCell (a := ⟨ob, 0, none⟩) (.inl rfl) _) (fun k hk _ (h : k = ob) => h3 (h ▸ hk))
          case measure => simp [intOf]; omega
      | byt _ _ _ t _ hd hn hrest =>
        have hdb : (p.d == 2) = true := by simpa using hd
        have Hn := hid hn; clear hn
        have Hd := hid hd; clear hd
        have hsb := View.str (P := Try.prog) (src := 24) (dst := 9) (xs := p.b) p3 Try.underlying24 Try.underlying5 Try.underlying9
        have hsbd : (convert 24 9 (.slice Ab p.b.length cb)).run Try.prog wr.drew = .ok (.string (str p.b)) wr.drew := View.str (P := Try.prog) p3.drew Try.underlying24 Try.underlying5 Try.underlying9
        go_wp2_with fail
        go_region_with (go_at_call 17; refine (rbytes_any S rb bs 500 (by omega) hBr wr.drew (isR_drew hRr)).mono ?_; intro e w1 hp; rw [Hn.out] at hp; obtain ⟨hf1, hR1, A3, c3, rfl, r3⟩ := hp; have hcl1 := (hlr_d.fr hf1 (fun h => h2 (h ▸ hSr))).cell 0; have hco1 := (hor_d.fr hf1 (fun h => h3 (h ▸ hSr))).cell 0; have hzo1 := (hor_d.fr hf1 (fun h => h3 (h ▸ hSr))).frozen 0; have hpn1 := hf1.cell (a := ⟨b, o + i * 3 + 2, none⟩) p2 (fun h => hne_b h); have hs3 := View.str (P := Try.prog) (src := 24) (dst := 9) (xs := p.b) r3.view Try.underlying24 Try.underlying5 Try.underlying9; have hs4 := View.str (P := Try.prog) (src := 24) (dst := 9) (xs := p.b) (p3.drew.fr hf1 (fun k hk _ h => (H1.out k hk).1 (h ▸ hSr))) Try.underlying24 Try.underlying5 Try.underlying9)
        all_goals
          have hfr1 : Fr (fun k => k = ob ∨ k = rb) wr w1 := ((Fr.refl _ wr).drew).then (hf1.mono fun _ h => .inr h)
          have hor1 := hor_d.fr hf1 (fun h => h3 (h ▸ hSr))
          go_wp2
          go_roundw
          case rel =>
            refine ⟨i + 1, t, by go_num, by omega, (hfr.then hfr1).setCell (a := ⟨ob, 0, none⟩) (.inl (.inl rfl)) _, ?_, (byt_byt Hn.out hBr).1, by have := byt_le Hn.out; omega, hrest, hor1.set 0 _⟩
            exact IsR.fr (S1 := fun k => k = ob) hR1 ((Fr.refl (fun k => k = ob) w1).setCell (a := ⟨ob, 0, none⟩) (.inl rfl) _) (fun k hk _ (h : k = ob) => h3 (h ▸ hk))
          case measure => simp [intOf]; omega
      | numBad _ _ _ er hd hn =>
        have hdb : (p.d == 2) = false := by simpa using hd
        have Hn := hid hn; clear hn
        go_wp2_with fail
        have hpan : Calls Try.prog 18 #[.pointer (some ⟨rb, 0, none⟩)] wr.drew fun e w' => e = .panicked (brk er) ∧ BackPost w S rb ob (.panicked (brk er)) w' (.bad er) := by
          refine (rnum_any S rb bs (by omega) hBr wr.drew (isR_drew hRr)).mono ?_
          intro e w1 hp
          rw [Hn.out] at hp
          obtain ⟨rfl, rfl⟩ := hp
          exact ⟨rfl, hfr.drew, hor_d, rfl⟩
        have hve := val_i64 p.n
        go_region_with (go_at_call 18; refine calls_fake (.int .i64 (val p.n)) (hpan.mono (by rintro e w1 ⟨rfl, hw1⟩; exact ⟨_, rfl, rfl, hw1⟩)) (fun hf => ?_); dsimp only)
        all_goals exact hf.out.elim
      | bytBad _ _ _ er hd hn =>
        have hdb : (p.d == 2) = true := by simpa using hd
        have Hn := hid hn; clear hn
        have Hd := hid hd; clear hd
        have hsb := View.str (P := Try.prog) (src := 24) (dst := 9) (xs := p.b) p3 Try.underlying24 Try.underlying5 Try.underlying9
        have hsbd : (convert 24 9 (.slice Ab p.b.length cb)).run Try.prog wr.drew = .ok (.string (str p.b)) wr.drew := View.str (P := Try.prog) p3.drew Try.underlying24 Try.underlying5 Try.underlying9
        go_wp2_with fail
        have hpan : Calls Try.prog 17 #[.pointer (some ⟨rb, 0, none⟩), .int .i64 500] wr.drew fun e w' => e = .panicked (brk er) ∧ BackPost w S rb ob (.panicked (brk er)) w' (.bad er) := by
          refine (rbytes_any S rb bs 500 (by omega) hBr wr.drew (isR_drew hRr)).mono ?_
          intro e w1 hp
          rw [Hn.out] at hp
          obtain ⟨hf1, rfl⟩ := hp
          exact ⟨rfl, hfr.then (((Fr.refl (fun k => k = ob ∨ k = rb) wr).drew).then (hf1.mono fun _ h => .inr h)), hor_d.fr hf1 (fun h => h3 (h ▸ hSr)), rfl⟩
        go_region_with (go_at_call 17; refine calls_fake (.slice Ab p.b.length cb) (hpan.mono (by rintro e w1 ⟨rfl, hw1⟩; exact ⟨_, rfl, rfl, hw1⟩)) (fun hf => ?_); dsimp only)
        all_goals exact hf.out.elim
    · have hin : i = n := by omega
      rw [List.drop_of_length_le (by omega)] at hRdr
      have Hin := hid hin; clear hin
      have H1 := hid h1; clear h1
      cases hRdr
      go_wp2
      go_end0
      exact ⟨hfr, hor, rfl, hRr⟩

theorem call_back1 (args : Array Value) (w : World) : (callFunc 16 args).run Try.prog w = .ok (.enter 16 args) w := by kernel_rfl
end Go.Proofs.Ytknkilobdeeiaaa

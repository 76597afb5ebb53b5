/- CellReads: the function that reads beside the reference. -/
import Derived.Test.YtknkilobdeeiaaaCellParts
import Derived.Test.YtknkilobdeeiaaaRefBytes
import Derived.RegionCalls
import Derived.Deep.RegionHeld3
import Derived.Deep.QuietTactic
import Derived.BigQuiet
import Derived.Deep.RegionWith
set_option linter.unusedSimpArgs false
set_option linter.unusedVariables false
namespace Go.Proofs.Ytknkilobdeeiaaa
open Go.RowKit

theorem IsC.fr {w w1 : World} {S S1 : Nat → Prop} {cb : Nat} {xs bs : List Nat} {bad : Int} (h : IsC w S cb xs bs bad) (hf : Fr S1 w w1) (hc : ¬ S1 cb) (hn : ∀ k, S k → k < w.heap.size → ¬ S1 k) : IsC w1 S cb xs bs bad :=
  let ⟨A, c, a, h1, h2, h3⟩ := h
  ⟨A, c, a, h1.fr hf hc, h2.fr hf hn, h3⟩
theorem isR_drew' {w : World} {S : Nat → Prop} {rb : Nat} {xs : List Nat} (h : IsR w S rb xs) : IsR w.drew S rb xs := h
theorem isR_drewN {w : World} {S : Nat → Prop} {rb : Nat} {xs : List Nat} (h : IsR w S rb xs) (n : Nat) : IsR (w.drewN n) S rb xs := h

set_option maxRecDepth 100000 in
set_option maxHeartbeats 3200000 in
theorem reads1_ok (S S1 S2 : Nat → Prop) (rb lb bb mb ob cb n c cx : Nat) (A Ax : Option Addr) (ps : List Prt) (xs : List Nat) (w : World) (hB : Byt xs) (hx : xs.length ≤ 60000) (hR : IsR w S rb xs) (hC : IsC w S2 cb xs xs 0)
    (hP : Parts w S1 (.slice A n c) n ps) (hl : Blk w lb #[.slice A n c] 22) (hb : Blk w bb #[.slice Ax xs.length cx] 24) (hm : Blk w mb #[.pointer (some ⟨cb, 0, none⟩)] 50) (ho : Blk w ob #[.bool true] 4)
    (h1 : ∀ k, S1 k → ¬ S k ∧ k ≠ ob ∧ k ≠ cb) (h2 : ∀ k, S2 k → ¬ S k ∧ k ≠ ob ∧ k ≠ cb) (h3 : ¬ S lb ∧ ¬ S bb ∧ ¬ S mb ∧ ¬ S ob ∧ ¬ S cb) (h4 : lb ≠ ob ∧ bb ≠ ob ∧ mb ≠ ob ∧ cb ≠ ob ∧ lb ≠ cb ∧ bb ≠ cb ∧ mb ≠ cb) :
    Calls Try.prog 28 #[.pointer (some ⟨rb, 0, none⟩), .pointer (some ⟨lb, 0, none⟩), .pointer (some ⟨bb, 0, none⟩), .pointer (some ⟨mb, 0, none⟩), .pointer (some ⟨ob, 0, none⟩)] w fun e w' =>
      Fr (fun k => k = ob ∨ k = rb ∨ k = cb) w w' ∧ Blk w' ob #[.bool true] 4 ∧ ((∃ rest, e = .returned (.tuple #[]) ∧ IsR w' S rb rest ∧ IsC w' S2 cb xs rest 0) ∨
        (∃ (er : Int) (A : Option Addr) (c a : Nat), e = .panicked (brk er) ∧ er ≠ 0 ∧ Blk w' cb #[.slice A xs.length c, .int .i64 a, .int .i64 er] 52)) := by
  have hSr := hR.1
  have hpl := hP.1
  go_enter Try.func28, Try.ntmps28
  go_wp2_with fail
  go_loopw [6] (fun v6 wr => ∃ (i : Nat) (bs : List Nat), v6 = .int .i64 i ∧ i ≤ n ∧ Fr (fun k => k = ob ∨ k = rb ∨ k = cb) w wr ∧ IsR wr S rb bs ∧ IsC wr S2 cb xs bs 0 ∧ Byt bs ∧ Blk wr ob #[.bool true] 4) (fun v6 _ => n - (intOf v6).toNat)
  case atStart => exact ⟨0, xs, rfl, by omega, Fr.refl _ _, hR, hC, hB, ho⟩
  case round =>
    obtain ⟨i, bs, rfl, hi, hfr, hRr, hCr, hBr, hor⟩ := hrel
    have hfn : ∀ k, k ≠ ob → ¬ S k → k ≠ cb → ¬ (k = ob ∨ k = rb ∨ k = cb) := fun k a b c h => h.elim a (fun h => h.elim (fun h => b (h ▸ hSr)) c)
    have hlr := hl.fr hfr (hfn _ h4.1 h3.1 h4.2.2.2.2.1)
    have hbr := hb.fr hfr (hfn _ h4.2.1 h3.2.1 h4.2.2.2.2.2.1)
    have hmr := hm.fr hfr (hfn _ h4.2.2.1 h3.2.2.1 h4.2.2.2.2.2.2)
    have hPr := hP.fr hfr (fun k hk _ => hfn k (h1 k hk).2.1 (h1 k hk).1 (h1 k hk).2.2)
    have hcl : wr.cell? ⟨lb, 0, none⟩ = some (.slice A n c) := hlr.cell 0
    have hcb : wr.cell? ⟨bb, 0, none⟩ = some (.slice Ax xs.length cx) := hbr.cell 0
    have hcm : wr.cell? ⟨mb, 0, none⟩ = some (.pointer (some ⟨cb, 0, none⟩)) := hmr.cell 0
    have hco : wr.cell? ⟨ob, 0, none⟩ = some (.bool true) := hor.cell 0
    have hzo : wr.frozen? ⟨ob, 0, none⟩ = false := hor.frozen 0
    obtain ⟨Ac, cc, a, hCb, -, ha, -⟩ := id hCr
    have hca : wr.cell? ⟨cb, 1, none⟩ = some (.int .i64 (a : Int)) := hCb.cell 1
    have heq : ((xs.length : Int) - (a : Int)) = (bs.length : Int) := by omega
    have H1 := hid h1; have H2 := hid h2; have H3 := hid h3; have H4 := hid h4; have Hfn := hid hfn
    clear h1 h2 h3 h4 hfn
    by_cases hlt : i < n
    · have hi2 : i < ps.length := by omega
      obtain ⟨_, A', c', e, hn9, h5⟩ := hPr
      injection e with ea _ ec
      subst ea; subst ec
      obtain ⟨b, o, rfl, hS1b, hbl2, hcells⟩ := h5 (by omega)
      obtain ⟨p0, p1, Ab, cpb, p2, p3, p4, p5, p6⟩ := hcells i ps[i] (List.getElem?_eq_getElem hi2)
      generalize ps[i] = p at *
      clear hcells h5
      by_cases hd : p.d = 2
      · have hdb : (p.d == 2) = true := by simpa using hd
        have Hd := hid hd; clear hd
        go_wp2_with fail
        go_quiet ((refine (left_ok S rb bs bs.length rfl _ (isR_drewN hRr _)).mono ?_; rintro e w1 ⟨rfl, rfl⟩; exact ⟨rfl, _, rfl⟩))
        go_wp2_with fail
        have hcs : ¬ S2 cb := fun h => (H2.out _ h).2.2 rfl
        cases hbyt : byt p.n bs with
        | bad er =>
          have Hbyt := hid hbyt; clear hbyt
          go_region_held3 (fun w' => w'.cell? ⟨mb, 0, none⟩ = some (.pointer (some ⟨cb, 0, none⟩)) ∧ w'.cell? ⟨lb, 0, none⟩ = some (.slice (some ⟨b, o, none⟩) n c) ∧ w'.cell? ⟨b, o + i * 3 + 1, none⟩ = some (.int .i64 p.n)) (first | go_keep | exact ⟨hf2.cell (w := (wr.drewN nq).drew) hcm (fun h => H4.out.2.2.2.2.2.2 h), hf2.cell (w := (wr.drewN nq).drew) hcl (fun h => H4.out.2.2.2.2.1 h), hf2.cell (w := (wr.drewN nq).drew) p1 (fun h => (H1.out b hS1b).2.2 h)⟩)
            ((go_at_call 30; refine (refcellbytes S2 cb xs bs p.n (by omega) hB (wr.drewN nq).drew hcs hCr).mono ?_; intro e w2 hp; rw [Hbyt.out] at hp; obtain ⟨rfl, hf2, A2, c2, a2, r2, hz2⟩ := hp))
          have hR2 := (isR_drew' (isR_drewN hRr nq)).fr hf2 (fun k hk _ (h : k = cb) => H3.out.2.2.2.2 (h ▸ hk))
          have ho2 := (hor.drewN nq).drew.fr hf2 (fun (h : ob = cb) => H4.out.2.2.2.1 h.symm)
          have hcl2 := hf2.cell (w := (wr.drewN nq).drew) hcl (fun h => H4.out.2.2.2.2.1 h)
          have p12 := hf2.cell (w := (wr.drewN nq).drew) p1 (fun h => (H1.out b hS1b).2.2 h)
          have hsd : (convert 24 9 (.slice none 0 0)).run Try.prog w2.drew = .ok (.string (str [])) w2.drew := View.str (P := Try.prog) (View.nil w2.drew Nil 1) Try.underlying24 Try.underlying5 Try.underlying9
          have hpan : Calls Try.prog 17 #[.pointer (some ⟨rb, 0, none⟩), .int .i64 p.n] w2.drew fun e w' => e = .panicked (brk er) ∧ Fr (fun k => k = ob ∨ k = rb ∨ k = cb) w w' ∧ Blk w' ob #[.bool true] 4 ∧ Blk w' cb #[.slice A2 xs.length c2, .int .i64 a2, .int .i64 er] 52 := by
            refine (rbytes_any S rb bs p.n (by omega) hBr w2.drew (isR_drew' hR2)).mono ?_
            intro e w3 hp
            rw [Hbyt.out] at hp
            obtain ⟨hf3, rfl⟩ := hp
            exact ⟨rfl, (((hfr.drewN nq).drew.then (hf2.mono fun _ h => .inr (.inr h))).drew).then (hf3.mono fun _ h => .inr (.inl h)), ho2.drew.fr hf3 (fun h => H3.out.2.2.2.1 (h ▸ hSr)), r2.drew.fr hf3 (fun h => H3.out.2.2.2.2 (h ▸ hSr))⟩
          go_wp2_with fail
          go_region_with (go_at_call 17; refine calls_fake (.slice none 0 0) (hpan.mono (by rintro e w1 ⟨rfl, q1, q2, q3⟩; exact ⟨_, rfl, rfl, q1, q2, .inr ⟨er, A2, c2, a2, rfl, hz2, q3⟩⟩)) (fun hf => ?_); dsimp only; have hco3 : w2.drew.cell? ⟨ob, 0, none⟩ = some (.bool true) := ho2.drew.cell 0; have hzo3 : w2.drew.frozen? ⟨ob, 0, none⟩ = false := ho2.drew.frozen 0)
          all_goals exact hf.out.elim
        | ok l t =>
          have Hbyt := hid hbyt; clear hbyt
          go_region_held3 (fun w' => w'.cell? ⟨mb, 0, none⟩ = some (.pointer (some ⟨cb, 0, none⟩)) ∧ w'.cell? ⟨lb, 0, none⟩ = some (.slice (some ⟨b, o, none⟩) n c) ∧ w'.cell? ⟨b, o + i * 3 + 1, none⟩ = some (.int .i64 p.n)) (first | go_keep | exact ⟨hf2.cell (w := (wr.drewN nq).drew) hcm (fun h => H4.out.2.2.2.2.2.2 h), hf2.cell (w := (wr.drewN nq).drew) hcl (fun h => H4.out.2.2.2.2.1 h), hf2.cell (w := (wr.drewN nq).drew) p1 (fun h => (H1.out b hS1b).2.2 h)⟩)
            ((go_at_call 30; refine (refcellbytes S2 cb xs bs p.n (by omega) hB (wr.drewN nq).drew hcs hCr).mono ?_; intro e w2 hp; rw [Hbyt.out] at hp; obtain ⟨hf2, hC2, A2, c2, rfl, r2⟩ := hp))
          have hR2 := (isR_drew' (isR_drewN hRr nq)).fr hf2 (fun k hk _ (h : k = cb) => H3.out.2.2.2.2 (h ▸ hk))
          have ho2 := (hor.drewN nq).drew.fr hf2 (fun (h : ob = cb) => H4.out.2.2.2.1 h.symm)
          have hcl2 := hf2.cell (w := (wr.drewN nq).drew) hcl (fun h => H4.out.2.2.2.2.1 h)
          have p12 := hf2.cell (w := (wr.drewN nq).drew) p1 (fun h => (H1.out b hS1b).2.2 h)
          have hsd : (convert 24 9 (.slice A2 l.length c2)).run Try.prog w2.drew = .ok (.string (str l)) w2.drew := View.str (P := Try.prog) r2.view.drew Try.underlying24 Try.underlying5 Try.underlying9
          have hrbn : ∀ k, New (wr.drewN nq).drew k → k ≠ rb := fun k hk h => by
            have h9 : wr.heap.size ≤ k := hk
            obtain ⟨_, _, hb9, _⟩ := hRr
            have := hb9.lt
            omega
          have r22 := r2.drew
          go_wp2_with fail
          go_region_with (go_at_call 17; refine (rbytes_any S rb bs p.n (by omega) hBr w2.drew (isR_drew' hR2)).mono ?_; intro e w3 hp; rw [Hbyt.out] at hp; obtain ⟨hf3, hR3, A3, c3, rfl, r3⟩ := hp; have hco3 := (ho2.drew.fr hf3 (fun h => H3.out.2.2.2.1 (h ▸ hSr))).cell 0; have hzo3 := (ho2.drew.fr hf3 (fun h => H3.out.2.2.2.1 (h ▸ hSr))).frozen 0; have hs3 := View.str (P := Try.prog) (src := 24) (dst := 9) (xs := l) r3.view Try.underlying24 Try.underlying5 Try.underlying9; have hs4 := View.str (P := Try.prog) (src := 24) (dst := 9) (xs := l) (r22.view.fr hf3 (fun k hk _ (h : k = rb) => hrbn k hk h)) Try.underlying24 Try.underlying5 Try.underlying9)
          all_goals
            have ho3 := ho2.drew.fr hf3 (fun h => H3.out.2.2.2.1 (h ▸ hSr))
            have hfo : Fr (fun k => k = ob) w3 (w3.setCell ⟨ob, 0, none⟩ (.bool true)) := (Fr.refl (fun k => k = ob) w3).setCell (a := ⟨ob, 0, none⟩) (.inl rfl) _
            have hf4 : Fr (fun k => k = ob ∨ k = rb ∨ k = cb) w w3 := (((hfr.drewN nq).drew.then (hf2.mono fun _ h => .inr (.inr h))).drew).then (hf3.mono fun _ h => .inr (.inl h))
            go_wp2
            go_roundw
            case rel =>
              refine ⟨i + 1, t, by go_num, by omega, hf4.then (hfo.mono fun _ h => .inl h), hR3.fr hfo (fun k hk _ (h : k = ob) => H3.out.2.2.2.1 (h ▸ hk)), (IsC.fr (w := w2.drew) hC2 hf3 (fun (h : cb = rb) => H3.out.2.2.2.2 (h ▸ hSr)) (fun k hk _ (h : k = rb) => (H2.out k hk).1 (h ▸ hSr))).fr hfo (fun (h : cb = ob) => H4.out.2.2.2.1 h) (fun k hk _ (h : k = ob) => (H2.out k hk).2.1 h), (byt_byt Hbyt.out hBr).1, ho3.set 0 _⟩
            case measure => simp [intOf]; omega
      · have hdb : (p.d == 2) = false := by simpa using hd
        have Hd := hid hd; clear hd
        go_wp2_with fail
        go_quiet ((refine (left_ok S rb bs bs.length rfl _ (isR_drewN hRr _)).mono ?_; rintro e w1 ⟨rfl, rfl⟩; exact ⟨rfl, _, rfl⟩))
        go_wp2_with fail
        have hcs : ¬ S2 cb := fun h => (H2.out _ h).2.2 rfl
        refine (refcellnum S2 cb xs bs (by omega) hB (wr.drewN nq) hcs hCr).mono ?_
        intro e w2 hp
        cases hnum : num bs with
        | bad er =>
          rw [hnum] at hp
          obtain ⟨rfl, hf2, A2, c2, a2, hb2, hz⟩ := hp
          have hR2 := (isR_drewN hRr nq).fr hf2 (fun k hk _ (h : k = cb) => H3.out.2.2.2.2 (h ▸ hk))
          have ho2 := (hor.drewN nq).fr hf2 (fun (h : ob = cb) => H4.out.2.2.2.1 h.symm)
          have Hnum := hid hnum; clear hnum
          go_wp2_with fail
          refine (rnum_any S rb bs (by omega) hBr w2 hR2).mono ?_
          intro e w3 hp3
          rw [Hnum.out] at hp3
          obtain ⟨rfl, rfl⟩ := hp3
          refine ⟨rfl, ?_⟩
          exact ⟨(hfr.drewN nq).then (hf2.mono fun _ h => .inr (.inr h)), ho2, .inr ⟨er, A2, c2, a2, rfl, hz, hb2⟩⟩
        | ok x t =>
          rw [hnum] at hp
          obtain ⟨rfl, hf2, hC2⟩ := hp
          have hR2 := (isR_drewN hRr nq).fr hf2 (fun k hk _ (h : k = cb) => H3.out.2.2.2.2 (h ▸ hk))
          have ho2 := (hor.drewN nq).fr hf2 (fun (h : ob = cb) => H4.out.2.2.2.1 h.symm)
          have Hnum := hid hnum; clear hnum
          go_wp2_with fail
          refine (rnum_any S rb bs (by omega) hBr w2 hR2).mono ?_
          intro e w3 hp3
          rw [Hnum.out] at hp3
          obtain ⟨rfl, hf3, hR3⟩ := hp3
          have ho3 := ho2.fr hf3 (fun (h : ob = rb) => H3.out.2.2.2.1 (h ▸ hSr))
          have hco3 : w3.cell? ⟨ob, 0, none⟩ = some (.bool true) := ho3.cell 0
          have hzo3 : w3.frozen? ⟨ob, 0, none⟩ = false := ho3.frozen 0
          go_wp2
          go_roundw
          case rel =>
            have hfo : Fr (fun k => k = ob) w3 (w3.setCell ⟨ob, 0, none⟩ (.bool true)) := (Fr.refl (fun k => k = ob) w3).setCell (a := ⟨ob, 0, none⟩) (.inl rfl) _
            have hf4 : Fr (fun k => k = ob ∨ k = rb ∨ k = cb) w w3 := ((hfr.drewN nq).then (hf2.mono fun _ h => .inr (.inr h))).then (hf3.mono fun _ h => .inr (.inl h))
            refine ⟨i + 1, t, by go_num, by omega, hf4.then (hfo.mono fun _ h => .inl h), hR3.fr hfo (fun k hk _ (h : k = ob) => H3.out.2.2.2.1 (h ▸ hk)), (hC2.fr hf3 (fun (h : cb = rb) => H3.out.2.2.2.2 (h ▸ hSr)) (fun k hk _ (h : k = rb) => (H2.out k hk).1 (h ▸ hSr))).fr hfo (fun (h : cb = ob) => H4.out.2.2.2.1 h) (fun k hk _ (h : k = ob) => (H2.out k hk).2.1 h), num_byt Hnum.out hBr, ho3.set 0 _⟩
          case measure => simp [intOf]; omega
    · have hin : i = n := by omega
      go_wp2
      go_end0
      exact ⟨hfr, hor, .inl ⟨bs, rfl, hRr, hCr⟩⟩

theorem call_reads1 (args : Array Value) (w : World) : (callFunc 28 args).run Try.prog w = .ok (.enter 28 args) w := by kernel_rfl
end Go.Proofs.Ytknkilobdeeiaaa

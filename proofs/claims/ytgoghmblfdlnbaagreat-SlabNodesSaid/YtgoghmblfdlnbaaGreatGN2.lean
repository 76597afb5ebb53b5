/- The texts VNdA, SlE, SlNo, SlU, SlZ, SlOp of this proof, one behind the other. Conditions: those of each. -/
import Derived.Test.YtgoghmblfdlnbaaGreatGR36
import Derived.Test.YtgoghmblfdlnbaaGreatGR28
import Derived.Test.YtgoghmblfdlnbaaGreatGR35
import Derived.Test.YtgoghmblfdlnbaaGreatGR26
import Derived.Test.YtgoghmblfdlnbaaGreatGR34
import Derived.Test.YtgoghmblfdlnbaaGreatGR23
import Derived.Test.YtgoghmblfdlnbaaGreatGR12
import Derived.Test.YtgoghmblfdlnbaaGreatGN1
section
/- The law's Few and awake (chapter 13). -/
set_option linter.unusedSimpArgs false
set_option linter.unusedVariables false
namespace Go.Proofs.YtgoghmblfdlnbaaGreat.nd
open Go.RowKit
def FewNd (x : Nd) : Prop := x.ks.length ≤ 40 ∧ x.ps.length ≤ 40 ∧ x.gs.length ≤ 40 ∧ x.ds.length ≤ 40
instance (x : Nd) : Decidable (FewNd x) := by unfold FewNd; infer_instance
theorem few_ok (q : Ptr) (x : Nd) (r : Bool) (hr : decide (FewNd x) = r) (w : World) :
    Calls Tryz.prog 19 #[.agg #[.int .i64 x.h, .slice q.A1 x.ks.length q.c1, .slice q.A2 x.ps.length q.c2, .slice q.A3 x.gs.length q.c3, .slice q.A4 x.ds.length q.c4]] w fun e w' => e = .returned (.bool r) ∧ Fr Nil w w' := by
  obtain ⟨h, ks, ps, gs, ds⟩ := x
  obtain ⟨A1, c1, A2, c2, A3, c3, A4, c4⟩ := q
  replace hr : decide (ks.length ≤ 40 ∧ ps.length ≤ 40 ∧ gs.length ≤ 40 ∧ ds.length ≤ 40) = r := hr
  dsimp only
  generalize ks.length = n at *
  generalize ps.length = n2 at *
  generalize gs.length = n3 at *
  generalize ds.length = n4 at *
  have hf : Fr Nil w (w.alloc (.cells #[.int .i64 h, .slice A1 n c1, .slice A2 n2 c2, .slice A3 n3 c3, .slice A4 n4 c4] 55)) := (Fr.refl _ _).alloc _
  subst hr
  by_cases h1 : n ≤ 40
  · by_cases h2 : n2 ≤ 40
    · by_cases h3 : n3 ≤ 40
      · by_cases h4 : n4 ≤ 40
        · rw [decide_eq_true (show n ≤ 40 ∧ n2 ≤ 40 ∧ n3 ≤ 40 ∧ n4 ≤ 40 from ⟨h1, h2, h3, h4⟩)]
          have hb4 : decide ((n4 : Int) ≤ 40) = true := decide_eq_true (by omega)
          go_enter Tryz.func19, Tryz.ntmps19
          go_wp2
          go_ret
          exact ⟨rfl, hf⟩
        · rw [decide_eq_false (show ¬ (n ≤ 40 ∧ n2 ≤ 40 ∧ n3 ≤ 40 ∧ n4 ≤ 40) from fun h => h4 h.2.2.2)]
          have hb4 : decide ((n4 : Int) ≤ 40) = false := decide_eq_false (by omega)
          go_enter Tryz.func19, Tryz.ntmps19
          go_wp2
          go_ret
          exact ⟨rfl, hf⟩
      · rw [decide_eq_false (show ¬ (n ≤ 40 ∧ n2 ≤ 40 ∧ n3 ≤ 40 ∧ n4 ≤ 40) from fun h => h3 h.2.2.1)]
        go_enter Tryz.func19, Tryz.ntmps19
        go_wp2
        go_ret
        exact ⟨rfl, hf⟩
    · rw [decide_eq_false (show ¬ (n ≤ 40 ∧ n2 ≤ 40 ∧ n3 ≤ 40 ∧ n4 ≤ 40) from fun h => h2 h.2.1)]
      go_enter Tryz.func19, Tryz.ntmps19
      go_wp2
      go_ret
      exact ⟨rfl, hf⟩
  · rw [decide_eq_false (show ¬ (n ≤ 40 ∧ n2 ≤ 40 ∧ n3 ≤ 40 ∧ n4 ≤ 40) from fun h => h1 h.1)]
    go_enter Tryz.func19, Tryz.ntmps19
    go_wp2
    go_ret
    exact ⟨rfl, hf⟩

theorem pre_bytes (x : Nd) (n : Nat) : Byt (encs (pre x n)) := encs_byt _
theorem pre_lenle {x : Nd} (h : MayNd x) : (encs (pre x x.ks.length)).length ≤ 200 := by
  have h1 := pre_encs_len h (Nat.le_refl _)
  have h2 := h.2.1.1
  omega
theorem nd_cells {w : World} {b : Nat} {q : Ptr} {x : Nd} {T : TypeId} (h : Blk w b (ncells x q) T) : w.cell? ⟨b, 0, none⟩ = some (.int .i64 x.h) ∧ w.cell? ⟨b, 1, none⟩ = some (.slice q.A1 x.ks.length q.c1) ∧ w.cell? ⟨b, 2, none⟩ = some (.slice q.A2 x.ps.length q.c2) ∧ w.cell? ⟨b, 3, none⟩ = some (.slice q.A3 x.gs.length q.c3) ∧ w.cell? ⟨b, 4, none⟩ = some (.slice q.A4 x.ds.length q.c4) :=
  ⟨h.cell 0, h.cell 1, h.cell 2, h.cell 3, h.cell 4⟩
end Go.Proofs.YtgoghmblfdlnbaaGreat.nd
end

section
/- Slab: what SlabNodes asks beside Save and Load: Gen, an extent that is none, a node that may not be, Few; the blocks' bytes. Conditions: none but the bounds. -/
set_option linter.unusedSimpArgs false
set_option linter.unusedVariables false
namespace Go.Proofs.YtgoghmblfdlnbaaGreat
open Go.RowKit nd
theorem lastC_all {P : List Nat → Prop} : ∀ (ca : List (Nat × List Nat)) (n : Nat) (x : List Nat), P x → (∀ q ∈ ca, P q.2) → P (lastC ca n x)
  | [], _, _, hx, _ => hx
  | q :: ca, n, x, hx, h => by
    show P (lastC ca n (if q.1 = n then q.2 else x))
    refine lastC_all ca n _ ?_ fun q' hq => h q' (List.mem_cons_of_mem _ hq)
    split
    · exact h q List.mem_cons_self
    · exact hx
theorem isp_get {w : World} {T : Nat → Prop} {pb : Nat} {p : Pl} (h : IsP w T pb p) {n : Nat} (hn : n < p.bl.length) : (p.get n).length = 64 ∧ Byt (p.get n) := by
  obtain ⟨h0, vb, vc, vf, h1, ⟨bs, h2, h2b⟩, ⟨cv, h3, h3b⟩, h4⟩ := h
  refine lastC_all (P := fun x => x.length = 64 ∧ Byt x) p.ca n _ ?_ fun q hq => ?_
  · obtain ⟨v, -, hd⟩ := h2b n (p.bl[n]'hn) (List.getElem?_eq_getElem hn)
    rw [List.getD_eq_getElem?_getD, List.getElem?_eq_getElem hn]
    exact ⟨hd.1, hd.2.1⟩
  · obtain ⟨i, hi, he⟩ := List.getElem_of_mem hq
    obtain ⟨v, -, hd⟩ := h3b i q.1 q.2 (by rw [List.getElem?_eq_getElem hi, he])
    exact ⟨hd.1, hd.2.1⟩
theorem frm_all {w : World} {T : Nat → Prop} {pb : Nat} {p : Pl} (h : IsP w T pb p) {a : Nat} : ∀ n, a + n ≤ p.bl.length → (frm p a n).length = 64 * n ∧ Byt (frm p a n)
  | 0, _ => ⟨rfl, fun x hx => by simp [frm] at hx⟩
  | n + 1, hn => by
    obtain ⟨h1, h2⟩ := frm_all (a := a) h n (by omega)
    obtain ⟨g1, g2⟩ := isp_get h (show a + n < p.bl.length by omega)
    rw [frm_succ]
    refine ⟨by rw [List.length_append, h1, g1]; omega, fun x hx => (List.mem_append.1 hx).elim (h2 x) (g2 x)⟩
theorem okm_rot {p : Pl} {m : Nat} (h : p.okm m) (n bit mask : Nat) : (p.rot n bit mask).okm m := rotted_okm h true n bit mask
/-- A whole frame: what Open says of it, by a kind. -/
theorem openF_frame {k k2 gen : Nat} (hk : k < 256) (hgen : gen ≤ 2147483647) {xs : List Nat} (hn : xs.length ≤ 4096) : openF k2 (frameF k gen xs) = (if k ≠ k2 then 4 else 0) ∧ num4 ((frameF k gen xs).drop 4) = gen ∧ dataO (frameF k gen xs) = xs := by
  have e4 : num4 ((frameF k gen xs).drop 4) = gen := by rw [fr_drop4, num4_le4 gen (by omega)]
  have e8 : num4 ((frameF k gen xs).drop 8) = xs.length := by rw [fr_drop8, num4_le4 _ (by omega)]
  have e12 : num4 ((frameF k gen xs).drop 12) = sumF k gen xs := by rw [fr_drop12, num4_le4 _ (sumF_lt k gen xs)]
  obtain ⟨g0, g1, g2, g3⟩ := fr_0 k gen xs
  have ed : dataO (frameF k gen xs) = xs := by unfold dataO; rw [e8, fr_drop16, List.take_left]
  have hlen : (frameF k gen xs).length = 64 * blkN xs.length := frameF_length k gen xs
  have hsum : sumO (frameF k gen xs) = ((sumF k gen xs : Nat) : Int) := by
    unfold sumO
    rw [ed, fr_take12]
    have h := moreF_wf (moreF 0 (head12 k gen xs.length)) xs
    unfold sumF; omega
  refine ⟨?_, e4, ed⟩
  unfold openF
  rw [if_pos ⟨g0, g1, g3, by rw [e8]; exact hn, by rw [e4]; exact hgen⟩, e8, hlen, if_neg (by omega), if_neg (by omega), e12, hsum, if_neg (fun h => h rfl), fr_rest, g2, if_neg (fun h => h (by congr 1; omega))]
theorem loadF_frame {gen g : Nat} {x : Nd} (hx : MayNd x) (hgen : gen ≤ 2147483647) : loadF g (frameF 78 gen (datN x)) = if gen = g then .inl x else .inr 5 := by
  obtain ⟨h1, h2, h3⟩ := openF_frame (k := 78) (k2 := 78) (gen := gen) (by decide) hgen (xs := datN x) (by have := datN_len hx; omega)
  unfold loadF
  rw [h1, h2, h3, if_neg (by simp)]
  by_cases h : gen = g
  · rw [if_neg (fun h' => h' h), if_pos h]; exact decd_pre hx
  · rw [if_pos h, if_neg h]
set_option maxRecDepth 20000 in
theorem xopen_bad (S : Nat → Prop) (b o m c : Nat) (xs : List Nat) (hm : 16 ≤ m) (hmx : m ≤ 100000) (w : World) (hv : View w S 1 (.slice (some ⟨b, o, none⟩) m c) m (bys xs)) (hB : Byt xs) (hbad : openF 231 xs ≠ 0) :
    Calls Tryz.prog 80 #[.slice (some ⟨b, o, none⟩) m c] w fun e w' => e = .returned (.tuple #[.slice none 0 0, .int .i64 0, .int .i64 (openF 231 xs : Nat)]) ∧ Fr Nil w w' := by
  have HO := hid (lopen_gen S 231 (by decide) b o m c xs hm hmx w hv hB)
  have Hbad := hid hbad
  clear hv hB hbad
  go_enter Tryz.func80, Tryz.ntmps80
  go_wp2_with fail
  refine HO.out.mono ?_
  rintro e w3 ⟨hres, hf3⟩
  rcases hres with ⟨ho, rfl⟩ | ⟨ho, _⟩
  · have HF := hid hf3
    obtain ⟨er, her⟩ : ∃ er, er = openF 231 xs := ⟨_, rfl⟩
    rw [← her] at ho ⊢
    have her0 : ¬ (er : Int) = 0 := by omega
    have Her := hid her
    clear hf3 ho her HO Hbad
    go_wp2
    go_ret3
    exact ⟨by rw [← Her.out]; rfl, HF.out⟩
  · exact absurd ho Hbad.out
section
variable {Q TP : Nat → Prop} {w0 w : World} {lb plb sb pb bl N gen m : Nat} {p : Pl} {U L H : List Us} {A l : List Rn}
set_option maxRecDepth 20000 in
theorem sgen_ok (h : Sl Q TP w0 w lb plb sb pb bl N gen m p U L H A l) (g : Nat) :
    Calls Tryz.prog 20 #[.pointer (some ⟨lb, 0, none⟩), .int .i64 (g : Nat)] w fun e w' => e = .returned (.tuple #[]) ∧ Sl Q TP w0 w' lb plb sb pb bl N g m p U L H A l ∧ Fr (fun k => k = lb) w w' := by
  have HS := hid h
  have c3 := h.b.cell 3
  have z3 := h.b.frozen 3
  have hlt := h.b.lt
  have hb3 := h.b.set 3 (.int .i64 (g : Nat))
  clear h
  go_enter Tryz.func20, Tryz.ntmps20
  go_wp2_with fail
  refine (smade_ok HS.out).mono ?_
  rintro e w1 ⟨rfl, rfl⟩
  have HB := hid hb3
  clear hb3
  go_wp2
  have hf : Fr (fun k => k = lb) w (w.setCell ⟨lb, 3, none⟩ (.int .i64 (g : Nat))) := (Fr.refl (fun k => k = lb) w).setCell (a := ⟨lb, 3, none⟩) (.inl rfl) _
  go_end0
  refine ⟨rfl, ⟨HS.out.g.fr hf (fun k hk => .inr (.inr hk)) (fun k hk => by rw [hk]; exact (HS.out.q lb (.inr rfl)).1) fun k hk => ⟨.inl hk, Nat.lt_of_lt_of_le (HS.out.tlt k hk) hf.size⟩, HB.out, HS.out.pl.fr hf fun k hk e => HS.out.tl (e ▸ hk), HS.out.ok, HS.out.q, HS.out.tl, HS.out.pbl⟩, hf⟩
/-- What is not an extent is told. -/
theorem sext_bad (h : Sl Q TP w0 w lb plb sb pb bl N gen m p U L H A l) (a n : Nat) (g : Int) (hn1 : 1 ≤ n) (hn : n ≤ 1000) (hab : a + n ≤ bl) (hfa : p.fa = []) (hm : m ≤ 900000) (hbad : openF 231 (frm p a n) ≠ 0) :
    Calls Tryz.prog 49 #[.pointer (some ⟨lb, 0, none⟩), .agg #[.int .i64 (a : Nat), .int .i64 (n : Nat), .int .i64 0], .int .i64 g] w fun e w' => ∃ (er : Int) (p' : Pl), er ≠ 0 ∧ e = .returned (.tuple #[.slice none 0 0, .int .i64 er]) ∧ Sl Q TP w0 w' lb plb sb pb bl N gen (m + n) p' U L H A l ∧ After p p' (fun _ => False) ∧ Fr TP w w' := by
  have HS := hid h
  have Hfa := hid hfa
  have Hm := hid hm
  have Hab := hid hab
  have Hbad := hid hbad
  have Hfr := hid (frm_all h.pl n (by rw [h.pbl]; exact hab))
  clear h hfa hm hab hbad
  go_enter Tryz.func49, Tryz.ntmps49
  go_wp2_with fail
  obtain ⟨W1, hW1⟩ : ∃ W1, W1 = w.alloc (.cells #[.int .i64 (a : Nat), .int .i64 (n : Nat), .int .i64 0] 51) := ⟨_, rfl⟩
  have f1 : Fr Nil w W1 := by rw [hW1]; exact (Fr.refl _ _).alloc _
  rw [← hW1]
  have H1 := hid (HS.out.nil f1)
  have F1 := hid f1
  clear hW1 f1 HS
  refine (sread_ok H1.out a n hn1 Hab.out Hm.out).mono ?_
  rintro e w2 ⟨er, k, c, ys, B, p', rfl, hrow, hS, hA, hcase, hok, hF⟩
  obtain rfl : er = 0 := hok Hfa.out
  obtain ⟨rfl, rfl⟩ : k = 64 * n ∧ ys = frm p a n := by
    rcases hcase with h | h
    · exact h.2
    · exact absurd h.1 (by decide)
  obtain ⟨gb, cc, hBe, hgb, hgl⟩ := hrow.form (by omega)
  injection hBe with hBe _ hcc
  subst hBe; subst hcc
  have H2 := hid (hS.sub (Q := Q) fun k hk => .inl hk)
  have HA := hid hA
  have HW := hid hrow
  have F2 := hid ((F1.out.nil (S := TP)).then hF)
  clear hrow hS hA hcase hok hF H1
  go_wp2_with fail
  refine (xopen_bad _ gb 0 (64 * n) c (frm p a n) (by omega) (by omega) w2 HW.out.view Hfr.out.2 Hbad.out).mono ?_
  rintro e w3 ⟨rfl, hf3⟩
  have H3 := hid (H2.out.nil hf3)
  have F3 := hid (F2.out.thenNil hf3)
  have ho := Hbad.out
  obtain ⟨er, her⟩ : ∃ er, er = openF 231 (frm p a n) := ⟨_, rfl⟩
  rw [← her] at ho ⊢
  have her0 : ¬ (er : Int) = 0 := by omega
  clear hf3 ho her H2 Hbad Hfr HW
  go_wp2
  go_ret2
  exact ⟨er, p', her0, rfl, H3.out, HA.out, F3.out⟩
set_option maxRecDepth 20000 in
theorem opened_bad (h : Sl Q TP w0 w lb plb sb pb bl N gen m p U L H A l) (a n : Nat) (g : Int) (hn1 : 1 ≤ n) (hn : n ≤ 1000) (hab : a + n ≤ bl) (hfa : p.fa = []) (hm : m ≤ 900000) (hbad : openF 231 (frm p a n) ≠ 0) :
    Calls Tryz.prog 22 #[.pointer (some ⟨lb, 0, none⟩), .int .i64 (a : Nat), .int .i64 (n : Nat), .int .i64 g] w fun e w' => ∃ (er : Int) (p' : Pl), er ≠ 0 ∧ e = .returned (.tuple #[.slice none 0 0, .int .i64 0, .int .i64 er]) ∧ Sl Q TP w0 w' lb plb sb pb bl N gen (m + n) p' U L H A l ∧ After p p' (fun _ => False) ∧ Fr TP w w' := by
  have HX := hid (sext_bad h a n g hn1 hn hab hfa hm hbad)
  clear h hbad
  go_enter Tryz.func22, Tryz.ntmps22
  go_wp2_with fail
  refine HX.out.mono ?_
  rintro e w1 ⟨er, p', her, rfl, hS, hA, hF⟩
  have HH := hid (show er ≠ 0 ∧ Sl Q TP w0 w1 lb plb sb pb bl N gen (m + n) p' U L H A l ∧ After p p' (fun _ => False) ∧ Fr TP w w1 from ⟨her, hS, hA, hF⟩)
  clear her hS hA hF HX
  go_wp2
  go_ret3
  exact ⟨er, p', HH.out.1, rfl, HH.out.2⟩
set_option maxRecDepth 20000 in
set_option maxHeartbeats 1600000 in
/-- A node that may not be is not saved. -/
theorem ssave_bad {S : Nat → Prop} (h : Sl Q TP w0 w lb plb sb pb bl N gen m p U L H A l) (q : nd.Ptr) (x : Nd) (hx : ¬ MayNd x) (hV : Vs w S q x) :
    Calls Tryz.prog 12 #[.pointer (some ⟨lb, 0, none⟩), .agg (ncells x q)] w fun e w' => e = .returned (.tuple #[.agg #[.int .i64 0, .int .i64 0, .int .i64 0], .int .i64 1]) ∧ Sl Q TP w0 w' lb plb sb pb bl N gen m p U L H A l ∧ Fr Nil w w' := by
  have HS0 := hid h
  have HV := hid hV
  have Hx := hid hx
  clear h hV hx
  unfold ncells
  go_enter Tryz.func12, Tryz.ntmps12
  go_wp2_with fail
  obtain ⟨W1, hW1⟩ : ∃ W1, W1 = (w.alloc (.cells (ncells x q) 62)).alloc (.cells #[.int .i64 0, .int .i64 0, .int .i64 0] 57) := ⟨_, rfl⟩
  obtain ⟨nb, hnb⟩ : ∃ nb, nb = w.heap.size := ⟨_, rfl⟩
  obtain ⟨rb, hrb⟩ : ∃ rb, rb = w.heap.size + 1 := ⟨_, rfl⟩
  have f1 : Fr Nil w W1 := by rw [hW1]; exact ((Fr.refl _ _).alloc _).alloc _
  have hN1 : Blk W1 nb (ncells x q) 62 := by rw [hW1, hnb]; exact (Blk.new _ _ _).alloc _
  have hR1 : Blk W1 rb #[.int .i64 0, .int .i64 0, .int .i64 0] 57 := by
    rw [hW1, hrb]
    have := Blk.new (w.alloc (.cells (ncells x q) 62)) #[.int .i64 0, .int .i64 0, .int .i64 0] 57
    rwa [World.size_alloc] at this
  rw [show (#[.int .i64 x.h, .slice q.A1 x.ks.length q.c1, .slice q.A2 x.ps.length q.c2, .slice q.A3 x.gs.length q.c3, .slice q.A4 x.ds.length q.c4] : Array Value) = ncells x q from rfl, ← hW1, ← hrb, ← hnb]
  have H1 := hid (HS0.out.drop (Q := fun k => Q k ∨ k = rb) f1 (fun k hk => hk.imp id fun e => by omega) fun k hk => by
    have h2 := hR1.lt
    rcases hk with hk | hk
    · exact Nat.lt_of_lt_of_le (HS0.out.tlt k (.inl hk)) f1.size
    · omega)
  have Hw0 := hid (show w0.heap.size ≤ rb from by have := HS0.out.g.fr0.size; omega)
  have HR1 := hid hR1
  have F1 := hid f1
  have Hrb := hid (show w.heap.size ≤ rb from by omega)
  have HV1 := hid (HV.out.nil f1)
  obtain ⟨n0, n1, n2, n3, n4⟩ : W1.cell? ⟨nb, 0, none⟩ = some (.int .i64 x.h) ∧ W1.cell? ⟨nb, 1, none⟩ = some (.slice q.A1 x.ks.length q.c1) ∧ W1.cell? ⟨nb, 2, none⟩ = some (.slice q.A2 x.ps.length q.c2) ∧ W1.cell? ⟨nb, 3, none⟩ = some (.slice q.A3 x.gs.length q.c3) ∧ W1.cell? ⟨nb, 4, none⟩ = some (.slice q.A4 x.ds.length q.c4) := ⟨hN1.cell 0, hN1.cell 1, hN1.cell 2, hN1.cell 3, hN1.cell 4⟩
  clear hW1 hrb hnb f1 hR1 hN1 HV HS0
  refine (smade_ok H1.out).mono ?_
  rintro e w2 ⟨rfl, rfl⟩
  go_wp2_with fail
  refine (nd.nodeenc_bad S q x Hx.out W1 HV1.out).mono ?_
  rintro e w2 ⟨rfl, hf2⟩
  have H2 := hid (H1.out.nil hf2)
  have F2 := hid (F1.out.then hf2)
  have HR2 := hid (HR1.out.fr hf2 fun h => h)
  have k0 : w2.cell? ⟨rb, 0, none⟩ = some (.int .i64 0) := HR2.out.cell 0
  have k1 : w2.cell? ⟨rb, 1, none⟩ = some (.int .i64 0) := HR2.out.cell 1
  have k2 : w2.cell? ⟨rb, 2, none⟩ = some (.int .i64 0) := HR2.out.cell 2
  have z0 := HR2.out.frozen 0
  have z1 := HR2.out.frozen 1
  have z2 := HR2.out.frozen 2
  have hrl := HR2.out.lt
  clear hf2 n0 n1 n2 n3 n4 HV1 HR1
  go_wp2
  have hfs : Fr (fun k => k = rb) w2 (((w2.setCell ⟨rb, 0, none⟩ (.int .i64 0)).setCell ⟨rb, 1, none⟩ (.int .i64 0)).setCell ⟨rb, 2, none⟩ (.int .i64 0)) := (((Fr.refl (fun k => k = rb) w2).setCell (a := ⟨rb, 0, none⟩) (.inl rfl) _).setCell (a := ⟨rb, 1, none⟩) (.inl rfl) _).setCell (a := ⟨rb, 2, none⟩) (.inl rfl) _
  have hb9 := ((HR2.out.set 0 (.int .i64 0)).set 1 (.int .i64 0)).set 2 (.int .i64 0)
  generalize ((w2.setCell ⟨rb, 0, none⟩ (.int .i64 0)).setCell ⟨rb, 1, none⟩ (.int .i64 0)).setCell ⟨rb, 2, none⟩ (.int .i64 0) = W9 at *
  have r0 : W9.cell? ⟨rb, 0, none⟩ = some (.int .i64 0) := hb9.cell 0
  have r1 : W9.cell? ⟨rb, 1, none⟩ = some (.int .i64 0) := hb9.cell 1
  have r2 : W9.cell? ⟨rb, 2, none⟩ = some (.int .i64 0) := hb9.cell 2
  have HFS := hid hfs
  clear hfs hb9
  simp [bodyPost, results, Tryz.results12, go_sem, r0, r1, r2]
  exact ⟨H2.out.own (Q := Q) HFS.out (fun k hk => .inr hk) (fun k hk => by rw [hk]; exact Hw0.out) (fun k hk => .inl hk), F2.out.trans HFS.out fun k hk => .inr (by rw [hk]; exact Hrb.out)⟩
end
end Go.Proofs.YtgoghmblfdlnbaaGreat
end

section
/- The argument []Node opened. Conditions: none. -/
set_option linter.unusedSimpArgs false
set_option linter.unusedVariables false
namespace Go.Proofs.YtgoghmblfdlnbaaGreat
open Go.RowKit Go.ChangeShapes Go.WideShapes Go.Deep
open nd (Nd Kd Vs ncells)
/-- A node in a slice's block. -/
structure NdAt (w : World) (b o : Nat) (q : nd.Ptr) (x : Nd) : Prop where
  c0 : w.cell? ⟨b, o, none⟩ = some (.int .i64 x.h)
  c1 : w.cell? ⟨b, o + 1, none⟩ = some (.slice q.A1 x.ks.length q.c1)
  c2 : w.cell? ⟨b, o + 2, none⟩ = some (.slice q.A2 x.ps.length q.c2)
  c3 : w.cell? ⟨b, o + 3, none⟩ = some (.slice q.A3 x.gs.length q.c3)
  c4 : w.cell? ⟨b, o + 4, none⟩ = some (.slice q.A4 x.ds.length q.c4)
def NodesArg (w : World) (v : Value) : Prop := ∃ (A : Option Addr) (n c : Nat) (f : Nat → nd.Ptr × Nd), v = .slice A n c ∧ n ≤ 9223372036854775807 ∧
  ∀ i, i < n → ∃ b o, A = some ⟨b, o, none⟩ ∧ b < w.heap.size ∧ NdAt w b (o + i * 5) (f i).1 (f i).2 ∧ Vs w (fun k => k < w.heap.size) (f i).1 (f i).2
theorem NdAt.fr {w w' : World} {b o : Nat} {q : nd.Ptr} {x : Nd} (h : NdAt w b o q x) (hf : Fr Nil w w') : NdAt w' b o q x :=
  ⟨hf.cell h.c0 fun h => h, hf.cell h.c1 fun h => h, hf.cell h.c2 fun h => h, hf.cell h.c3 fun h => h, hf.cell h.c4 fun h => h⟩
instance : Inhabited nd.Ptr := ⟨⟨none, 0, none, 0, none, 0, none, 0⟩⟩
instance : Inhabited Nd := ⟨⟨0, [], [], [], []⟩⟩
set_option maxRecDepth 100000 in
theorem open_nodes {H : Type} {enc : TypeId × Value → H} {W : World} {base : Nat} {v : Value} {d : DataW H} {p : List MemPlace} (hv : Value.okWide Tryz.prog W .any base 22 v) (h : DataW.Trod enc Tryz.prog W 0 (fun _ => true) true 22 v d p) : NodesArg W v := by
  obtain ⟨A, len, cap, rfl⟩ := okWide_slice Tryz.underlying22 hv
  obtain ⟨A', len', cap', e, cells, hview, hf⟩ := open_recs Tryz.underlying22 Tryz.underlying55 (by kernel_rfl) (by kernel_rfl) (by decide) ⟨A, len, cap, rfl⟩ h
  injection e with ea el ec
  subst ea; subst el; subst ec
  have hone : ∀ i, i < len → ∃ y : nd.Ptr × Nd, (cells[i * 5]? = some (.int .i64 y.2.h) ∧ cells[i * 5 + 1]? = some (.slice y.1.A1 y.2.ks.length y.1.c1) ∧ cells[i * 5 + 2]? = some (.slice y.1.A2 y.2.ps.length y.1.c2) ∧ cells[i * 5 + 3]? = some (.slice y.1.A3 y.2.gs.length y.1.c3) ∧ cells[i * 5 + 4]? = some (.slice y.1.A4 y.2.ds.length y.1.c4)) ∧ Vs W (fun k => k < W.heap.size) y.1 y.2 := by
    intro i hi
    obtain ⟨u0, n0, y0, hu0, g0⟩ := hf i hi 0 _ rfl
    obtain ⟨u1, n1, y1, hu1, g1⟩ := hf i hi 1 _ rfl
    obtain ⟨u2, n2, y2, hu2, g2⟩ := hf i hi 2 _ rfl
    obtain ⟨u3, n3, y3, hu3, g3⟩ := hf i hi 3 _ rfl
    obtain ⟨u4, n4, y4, hu4, g4⟩ := hf i hi 4 _ rfl
    obtain ⟨h0, e0, _, w0⟩ := DataW.trod_int Tryz.underlying3 g0
    simp only [List.cons.injEq, and_true] at e0
    subst e0
    obtain ⟨ks, A1, c1, rfl, k1⟩ := nd.open_intl Tryz.underlying49 Tryz.underlying3 (by kernel_rfl) g1
    obtain ⟨ps, A2, c2, rfl, k2⟩ := nd.open_kds (ti := 3) Tryz.underlying52 Tryz.underlying51 (by kernel_rfl) (by kernel_rfl) Tryz.underlying3 Tryz.underlying3 Tryz.underlying3 g2
    obtain ⟨gs, A3, c3, rfl, k3⟩ := nd.open_intl Tryz.underlying49 Tryz.underlying3 (by kernel_rfl) g3
    obtain ⟨ds, A4, c4, rfl, k4⟩ := nd.open_kds (ti := 3) Tryz.underlying53 Tryz.underlying100 (by kernel_rfl) (by kernel_rfl) Tryz.underlying3 Tryz.underlying3 Tryz.underlying3 g4
    exact ⟨(⟨A1, c1, A2, c2, A3, c3, A4, c4⟩, ⟨h0, ks, ps, gs, ds⟩), ⟨hu0, hu1, hu2, hu3, hu4⟩, k1, k2, k3, k4⟩
  obtain ⟨f, hfn⟩ := nd.choose_lt' hone
  refine ⟨A, len, cap, f, rfl, hview.le, fun i hi => ?_⟩
  obtain ⟨_, A3, c3, e3, _, _, _, _, h5⟩ := hview
  injection e3 with ea _ ec
  subst ea; subst ec
  obtain ⟨b, o, hA, hb, _, hc⟩ := h5 (by omega)
  obtain ⟨⟨g0, g1, g2, g3, g4⟩, hV⟩ := hfn i hi
  exact ⟨b, o, hA, hb, ⟨hc _ _ g0, hc _ _ g1, hc _ _ g2, hc _ _ g3, hc _ _ g4⟩, hV⟩
end Go.Proofs.YtgoghmblfdlnbaaGreat
end

section
/- The reference's frames: More, Sum, get, Blocks, Size. Conditions: the bytes are there. -/
set_option linter.unusedSimpArgs false
set_option linter.unusedVariables false
namespace Go.Proofs.YtgoghmblfdlnbaaGreat
open Go.RowKit
theorem tallyBit_rng (r : Int) : 0 ≤ tallyBit r ∧ tallyBit r < 4294967296 := by
  unfold tallyBit
  split
  · omega
  · show 0 ≤ IntKind.u32.wrap _ ∧ IntKind.u32.wrap _ < 4294967296
    rw [IntKind.wrap_u32]
    omega
theorem xor_rng (a b : Int) : 0 ≤ bits .xor .u32 a b ∧ bits .xor .u32 a b < 4294967296 := by
  show 0 ≤ IntKind.u32.wrap _ ∧ IntKind.u32.wrap _ < 4294967296
  rw [IntKind.wrap_u32]
  omega
theorem bitsN_rng {r : Int} (h : 0 ≤ r ∧ r < 4294967296) : ∀ k, 0 ≤ bitsN k r ∧ bitsN k r < 4294967296
  | 0 => h
  | k + 1 => tallyBit_rng _
theorem and_hi {q : Int} (h : 0 ≤ q ∧ q < 4294967296) : bits .and .u32 q 2147483648 = 0 ↔ q < 2147483648 := by
  obtain ⟨a, rfl⟩ : ∃ a : Nat, q = a := ⟨q.toNat, by omega⟩
  have ha : a < 4294967296 := by omega
  have h1 := u32_and_nat a 2147483648 ha (by decide)
  rw [show ((2147483648 : Nat) : Int) = 2147483648 from rfl] at h1
  rw [h1, show (2147483648 : Nat) = 2 ^ 31 from rfl]
  by_cases h2 : a < 2147483648
  · have : a &&& 2 ^ 31 = 0 := Nat.eq_of_testBit_eq fun i => by
      rw [Nat.testBit_and, Nat.zero_testBit, Nat.testBit_two_pow]
      by_cases hi : 31 = i
      · subst hi
        rw [Nat.testBit_lt_two_pow (show a < 2 ^ 31 from h2)]; rfl
      · simp [hi]
    rw [this]
    simp; omega
  · have : a &&& 2 ^ 31 ≠ 0 := fun h0 => by
      have ht : (a &&& 2 ^ 31).testBit 31 = true := by
        rw [Nat.testBit_and, Nat.testBit_two_pow, Nat.testBit_eq_decide_div_mod_eq]
        simp; omega
      rw [h0] at ht
      simp at ht
    constructor
    · intro h3; omega
    · intro h3; omega
set_option maxRecDepth 20000 in
theorem refmore_ok (S : Nat → Prop) (s : Int) (v : Value) (n : Nat) (xs : List Nat) (w : World) (hv : View w S 1 v n (bys xs)) :
    Calls Tryz.prog 58 #[.int .u32 s, v] w fun e w' => e = .returned (.int .u32 (moreF s xs)) ∧ w = w' := by
  obtain ⟨A, c, rfl⟩ : ∃ A c, v = .slice A n c := let ⟨_, A, c, e, _⟩ := hv; ⟨A, c, e⟩
  have HV := hid hv
  have Hl := hid hv.lenb
  have hnl := hv.le
  clear hv
  go_enter Tryz.func58, Tryz.ntmps58
  go_wp2_with fail
  go_loopw [0, 5] (fun v0 v5 wr => ∃ (i : Nat) (r : Int), v0 = .int .u32 r ∧ v5 = .int .i64 i ∧ i ≤ n ∧ Hid (r = tallyL (bits .xor .u32 IntKind.u32.max s) (xs.take i)) ∧ w = wr) (fun _ v5 _ => n - (intOf v5).toNat)
  case atStart => exact ⟨0, _, rfl, rfl, by omega, hid rfl, rfl⟩
  case round =>
    obtain ⟨i, r, rfl, rfl, hi, hr, rfl⟩ := hrel
    by_cases hlt : i < n
    · obtain ⟨b, o, rfl, -, hbl, hq⟩ := by_at HV.out hlt
      have Hst := hid (tallyL_take (bits .xor .u32 IntKind.u32.max s) (xs := xs) (i := i) (by rw [Hl.out]; exact hlt))
      obtain ⟨z, hz⟩ : ∃ z, z = xs.getD i 0 := ⟨_, rfl⟩
      rw [← hz] at hq Hst
      clear hz
      go_wp2_with fail
      go_loopw [0, 6] (fun v0 v6 wr => ∃ (k : Nat) (q : Int), v0 = .int .u32 q ∧ v6 = .int .i64 k ∧ k ≤ 8 ∧ Hid (q = bitsN k (bits .xor .u32 r ((z : Int) % 4294967296 * 16777216 % 4294967296))) ∧ w = wr) (fun _ v6 _ => 8 - (intOf v6).toNat)
      case atStart => exact ⟨0, _, rfl, rfl, by omega, hid rfl, rfl⟩
      case round =>
        obtain ⟨k, q, rfl, rfl, hk, hq2, rfl⟩ := hrel
        by_cases hk8 : k < 8
        · have hqr : 0 ≤ q ∧ q < 4294967296 := by rw [hq2.out]; exact bitsN_rng (xor_rng _ _) k
          by_cases hc : bits .and .u32 q 2147483648 = 0
          · have Hn := hid (show q * 2 % 4294967296 = bitsN (k + 1) (bits .xor .u32 r ((z : Int) % 4294967296 * 16777216 % 4294967296)) from by
              show _ = tallyBit _
              rw [← hq2.out]; unfold tallyBit; rw [if_pos hc])
            have hh : q / 2147483648 = 0 := by have := (and_hi hqr).1 hc; omega
            rw [show q * 2 % 4294967296 = q * 2 by omega] at Hn
            clear hc hqr
            go_wp2_with fail
            go_roundw
            case rel => exact ⟨k + 1, _, rfl, by go_num, by omega, Hn, by first | trivial | rfl⟩
            case measure => simp [intOf]; omega
          · have Hn := hid (show bits .xor .u32 (q * 2 % 4294967296) 1947962583 = bitsN (k + 1) (bits .xor .u32 r ((z : Int) % 4294967296 * 16777216 % 4294967296)) from by
              show _ = tallyBit _
              rw [← hq2.out]; unfold tallyBit; rw [if_neg hc])
            have hh : q / 2147483648 = 1 := by have := mt (and_hi hqr).2 hc; omega
            clear hc hqr
            go_wp2_with fail
            go_roundw
            case rel => exact ⟨k + 1, _, rfl, by go_num, by omega, Hn, by first | trivial | rfl⟩
            case measure => simp [intOf]; omega
        · have hk2 : k = 8 := by omega
          have Hn := hid (show q = tallyL (bits .xor .u32 IntKind.u32.max s) (xs.take (i + 1)) from by
            rw [Hst.out, ← hr.out, hq2.out, hk2]; rfl)
          go_wp2_with fail
          go_roundw
          case rel => exact ⟨i + 1, _, rfl, by go_num, by omega, Hn, by first | trivial | rfl⟩
          case measure => simp [intOf]; omega
    · have hin : i = n := by omega
      have Hn := hid (show r = tallyL (bits .xor .u32 IntKind.u32.max s) xs from by rw [hr.out, List.take_of_length_le (by rw [Hl.out]; omega)])
      clear hr
      go_wp2_with fail
      go_ret
      exact ⟨by unfold moreF; rw [← Hn.out]; rfl, rfl⟩
set_option maxRecDepth 20000 in
theorem refsum_ok (S : Nat → Prop) (v : Value) (n : Nat) (xs : List Nat) (w : World) (hv : View w S 1 v n (bys xs)) :
    Calls Tryz.prog 59 #[v] w fun e w' => e = .returned (.int .u32 (moreF 0 xs)) ∧ w = w' := by
  have HV := hid hv
  clear hv
  go_enter Tryz.func59, Tryz.ntmps59
  go_wp2_with fail
  refine (refmore_ok S 0 v n xs w HV.out).mono ?_
  rintro e w1 ⟨rfl, rfl⟩
  go_wp2
  go_ret
  exact ⟨rfl, rfl⟩
theorem or4i (a b c d : Nat) (ha : a < 256) (hb : b < 256) (hc : c < 256) (hd : d < 256) :
    bits .or .i64 (bits .or .i64 (bits .or .i64 (a : Int) ((b : Int) * 256)) ((c : Int) * 65536)) ((d : Int) * 16777216) = ((a + 256 * b + 65536 * c + 16777216 * d : Nat) : Int) := by
  have h1 := i64_or_nat a (b * 256) (by omega) (by omega)
  rw [or_hi a b 8 ha] at h1
  have h2 := i64_or_nat (a + b * 2 ^ 8) (c * 65536) (by omega) (by omega)
  rw [or_hi (a + b * 2 ^ 8) c 16 (by omega)] at h2
  have h3 := i64_or_nat (a + b * 2 ^ 8 + c * 2 ^ 16) (d * 16777216) (by omega) (by omega)
  rw [or_hi (a + b * 2 ^ 8 + c * 2 ^ 16) d 24 (by omega)] at h3
  rw [show ((b : Int) * 256) = ((b * 256 : Nat) : Int) from by omega, h1, show ((c : Int) * 65536) = ((c * 65536 : Nat) : Int) from by omega, h2, show ((d : Int) * 16777216) = ((d * 16777216 : Nat) : Int) from by omega, h3]
  omega
set_option maxRecDepth 20000 in
theorem refget_ok (S : Nat → Prop) (v : Value) (n a : Nat) (xs : List Nat) (hn : a + 4 ≤ n) (ha : a ≤ 100) (w : World) (hv : View w S 1 v n (bys xs)) (hB : Byt xs) :
    Calls Tryz.prog 57 #[v, .int .i64 (a : Nat)] w fun e w' => e = .returned (.int .i64 (num4 (xs.drop a) : Nat)) ∧ Fr Nil w w' := by
  obtain ⟨A, c, rfl⟩ : ∃ A c, v = .slice A n c := let ⟨_, A, c, e, _⟩ := hv; ⟨A, c, e⟩
  have hl := hv.lenb
  obtain ⟨b, o, rfl, -, hbl, q0⟩ := by_at hv (i := a) (by omega)
  obtain ⟨b', o', e1, -, -, q1⟩ := by_at hv (i := a + 1) (by omega)
  obtain ⟨b2, o2, e2, -, -, q2⟩ := by_at hv (i := a + 2) (by omega)
  obtain ⟨b3, o3, e3, -, -, q3⟩ := by_at hv (i := a + 3) (by omega)
  injection e1 with e1; injection e1 with e1 f1; subst e1; subst f1
  injection e2 with e2; injection e2 with e2 f2; subst e2; subst f2
  injection e3 with e3; injection e3 with e3 f3; subst e3; subst f3
  have g0 := byt_get hB (i := a) (by omega)
  have g1 := byt_get hB (i := a + 1) (by omega)
  have g2 := byt_get hB (i := a + 2) (by omega)
  have g3 := byt_get hB (i := a + 3) (by omega)
  have hd : ∀ i, (xs.drop a).getD i 0 = xs.getD (a + i) 0 := fun i => by rw [List.getD_eq_getElem?_getD, List.getD_eq_getElem?_getD, List.getElem?_drop]
  have Hn := hid (show num4 (xs.drop a) = xs.getD a 0 + 256 * xs.getD (a + 1) 0 + 65536 * xs.getD (a + 2) 0 + 16777216 * xs.getD (a + 3) 0 from by unfold num4; rw [hd, hd, hd, hd]; rfl)
  generalize xs.getD a 0 = x0 at *
  generalize xs.getD (a + 1) 0 = x1 at *
  generalize xs.getD (a + 2) 0 = x2 at *
  generalize xs.getD (a + 3) 0 = x3 at *
  have i0 : (a : Int) < (n : Int) := by omega
  have i1 : (a : Int) + 1 < (n : Int) := by omega
  have i2 : (a : Int) + 2 < (n : Int) := by omega
  have i3 : (a : Int) + 3 < (n : Int) := by omega
  clear hv hl hB hd
  go_enter Tryz.func57, Tryz.ntmps57
  go_upto_region 1 with (fail)
  go_quiet (fail)
  go_wp2
  go_ret
  refine ⟨?_, (Fr.refl _ _).drewN _⟩
  rw [show num4 (xs.drop a) = x0 + 256 * x1 + 65536 * x2 + 16777216 * x3 from Hn.out, ← or4i x0 x1 x2 x3 g0 g1 g2 g3]
  rfl
theorem refblocks_ok (n : Nat) (h : n ≤ 4096) (w : World) : Calls Tryz.prog 83 #[.int .i64 (n : Nat)] w fun e w' => e = .returned (.int .i64 (blkN n : Nat)) ∧ w = w' := by
  have h1 : (((n : Int) + 16 + 64 - 1) / 64) = (blkN n : Int) := by unfold blkN; omega
  have h2 : Int.tdiv ((n : Int) + 16 + 64 - 1) 64 = (blkN n : Int) := by rw [Int.tdiv_eq_ediv_of_nonneg (by omega)]; exact h1
  generalize blkN n = q at *
  go_enter Tryz.func83, Tryz.ntmps83
  go_wp2
  go_ret
  exact ⟨rfl, rfl⟩
end Go.Proofs.YtgoghmblfdlnbaaGreat
end

section
/- The reference's Size and Open of any bytes. Conditions: they are as many as a head has, at least. -/
set_option linter.unusedSimpArgs false
set_option linter.unusedVariables false
namespace Go.Proofs.YtgoghmblfdlnbaaGreat
open Go.RowKit
theorem not_hok {xs : List Nat} (hno : ¬ Hok xs) : xs.getD 0 0 ≠ 197 ∨ xs.getD 0 0 = 197 ∧ xs.getD 1 0 ≠ 126 ∨ xs.getD 0 0 = 197 ∧ xs.getD 1 0 = 126 ∧ xs.getD 3 0 ≠ 0 ∨ xs.getD 0 0 = 197 ∧ xs.getD 1 0 = 126 ∧ xs.getD 3 0 = 0 ∧ 4096 < num4 (xs.drop 8) ∨ xs.getD 0 0 = 197 ∧ xs.getD 1 0 = 126 ∧ xs.getD 3 0 = 0 ∧ num4 (xs.drop 8) ≤ 4096 ∧ 2147483647 < num4 (xs.drop 4) := by
  by_cases h0 : xs.getD 0 0 = 197
  · by_cases h1 : xs.getD 1 0 = 126
    · by_cases h3 : xs.getD 3 0 = 0
      · by_cases hn : num4 (xs.drop 8) ≤ 4096
        · by_cases hg : num4 (xs.drop 4) ≤ 2147483647
          · exact absurd ⟨h0, h1, h3, hn, hg⟩ hno
          · exact .inr (.inr (.inr (.inr ⟨h0, h1, h3, hn, by omega⟩)))
        · exact .inr (.inr (.inr (.inl ⟨h0, h1, h3, by omega⟩)))
      · exact .inr (.inr (.inl ⟨h0, h1, h3⟩))
    · exact .inr (.inl ⟨h0, h1⟩)
  · exact .inl h0
set_option maxRecDepth 20000 in
theorem refsize_no (S : Nat → Prop) (b o m c : Nat) (xs : List Nat) (hm : 16 ≤ m) (hmx : m ≤ 100000) (w : World) (hv : View w S 1 (.slice (some ⟨b, o, none⟩) m c) m (bys xs)) (hB : Byt xs) (hno : ¬ Hok xs) :
    Calls Tryz.prog 56 #[.slice (some ⟨b, o, none⟩) m c] w fun e w' => e = .returned (.tuple #[.int .i64 0, .int .i64 4]) ∧ Fr Nil w w' := by
  have H8 := hid (fun w' (hf : Fr Nil w w') => refget_ok S _ m 8 xs (by omega) (by decide) w' (hv.fr hf fun _ _ _ h => h) hB)
  have H4 := hid (fun w' (hf : Fr Nil w w') => refget_ok S _ m 4 xs (by omega) (by decide) w' (hv.fr hf fun _ _ _ h => h) hB)
  obtain ⟨b, o, e0, -, hbl, q0⟩ := by_at hv (i := 0) (by omega)
  obtain ⟨b1, o1, e1, -, -, q1⟩ := by_at hv (i := 1) (by omega)
  obtain ⟨b3, o3, e3, -, -, q3⟩ := by_at hv (i := 3) (by omega)
  injection e0 with e0; injection e0 with e0 f0; subst e0; subst f0
  injection e1 with e1; injection e1 with e1 f1; subst e1; subst f1
  injection e3 with e3; injection e3 with e3 f3; subst e3; subst f3
  have hbad := not_hok hno
  generalize num4 (xs.drop 8) = n at *
  generalize num4 (xs.drop 4) = g at *
  generalize xs.getD 0 0 = x0 at *
  generalize xs.getD 1 0 = x1 at *
  generalize xs.getD 3 0 = x3 at *
  rw [Nat.add_zero] at q0
  have Q0 := hid q0; have Q1 := hid q1; have Q3 := hid q3
  have h16m : ¬ (m : Int) < 16 := by omega
  have i0 : (0 : Int) < (m : Int) := by omega
  have i1 : (1 : Int) < (m : Int) := by omega
  have i3 : (3 : Int) < (m : Int) := by omega
  clear hv hB q0 q1 q3
  clear hno
  rcases hbad with h0 | ⟨rfl, h1⟩ | ⟨rfl, rfl, h3⟩ | ⟨rfl, rfl, rfl, h4⟩ | ⟨rfl, rfl, rfl, h4, h5⟩
  · have j0 : ¬ (x0 : Int) = 197 := by omega
    clear h0
    go_enter Tryz.func56, Tryz.ntmps56
    go_wp2_with fail
    refine (H8.out w (Fr.refl _ _)).mono ?_
    rintro e w1 ⟨rfl, f1⟩
    have F1 := hid f1
    have p0 := f1.cell Q0.out fun h => h
    have p1 := f1.cell Q1.out fun h => h
    have p3 := f1.cell Q3.out fun h => h
    have hbl1 := Nat.lt_of_lt_of_le hbl f1.size
    clear f1
    go_wp2
    go_ret2
    exact ⟨rfl, F1.out⟩
  · have j0 : ¬ (x1 : Int) = 126 := by omega
    clear h1
    go_enter Tryz.func56, Tryz.ntmps56
    go_wp2_with fail
    refine (H8.out w (Fr.refl _ _)).mono ?_
    rintro e w1 ⟨rfl, f1⟩
    have F1 := hid f1
    have p0 := f1.cell Q0.out fun h => h
    have p1 := f1.cell Q1.out fun h => h
    have p3 := f1.cell Q3.out fun h => h
    have hbl1 := Nat.lt_of_lt_of_le hbl f1.size
    clear f1
    go_wp2
    go_ret2
    exact ⟨rfl, F1.out⟩
  · have j0 : ¬ (x3 : Int) = 0 := by omega
    clear h3
    go_enter Tryz.func56, Tryz.ntmps56
    go_wp2_with fail
    refine (H8.out w (Fr.refl _ _)).mono ?_
    rintro e w1 ⟨rfl, f1⟩
    have F1 := hid f1
    have p0 := f1.cell Q0.out fun h => h
    have p1 := f1.cell Q1.out fun h => h
    have p3 := f1.cell Q3.out fun h => h
    have hbl1 := Nat.lt_of_lt_of_le hbl f1.size
    clear f1
    go_wp2
    go_ret2
    exact ⟨rfl, F1.out⟩
  · have j0 : (4096 : Int) < (n : Int) := by omega
    clear h4
    go_enter Tryz.func56, Tryz.ntmps56
    go_wp2_with fail
    refine (H8.out w (Fr.refl _ _)).mono ?_
    rintro e w1 ⟨rfl, f1⟩
    have F1 := hid f1
    have p0 := f1.cell Q0.out fun h => h
    have p1 := f1.cell Q1.out fun h => h
    have p3 := f1.cell Q3.out fun h => h
    have hbl1 := Nat.lt_of_lt_of_le hbl f1.size
    clear f1
    go_wp2
    go_ret2
    exact ⟨rfl, F1.out⟩
  · have j0 : (n : Int) ≤ 4096 := by omega
    have j1 : (2147483647 : Int) < (g : Int) := by omega
    clear h4 h5
    go_enter Tryz.func56, Tryz.ntmps56
    go_wp2_with fail
    refine (H8.out w (Fr.refl _ _)).mono ?_
    rintro e w1 ⟨rfl, f1⟩
    have F1 := hid f1
    have p0 := f1.cell Q0.out fun h => h
    have p1 := f1.cell Q1.out fun h => h
    have p3 := f1.cell Q3.out fun h => h
    have hbl1 := Nat.lt_of_lt_of_le hbl f1.size
    clear f1
    go_wp2_with fail
    refine (H4.out w1 F1.out).mono ?_
    rintro e w2 ⟨rfl, f2⟩
    have F2 := hid (F1.out.then f2)
    clear f2 p0 p1 p3
    go_wp2
    go_ret2
    exact ⟨rfl, F2.out⟩
set_option maxRecDepth 20000 in
theorem refsize_yes (S : Nat → Prop) (b o m c : Nat) (xs : List Nat) (hm : 16 ≤ m) (hmx : m ≤ 100000) (w : World) (hv : View w S 1 (.slice (some ⟨b, o, none⟩) m c) m (bys xs)) (hB : Byt xs) (hok : Hok xs) :
    Calls Tryz.prog 56 #[.slice (some ⟨b, o, none⟩) m c] w fun e w' => e = .returned (.tuple #[.int .i64 (blkN (num4 (xs.drop 8)) : Nat), .int .i64 0]) ∧ Fr Nil w w' := by
  have H8 := hid (fun w' (hf : Fr Nil w w') => refget_ok S _ m 8 xs (by omega) (by decide) w' (hv.fr hf fun _ _ _ h => h) hB)
  have H4 := hid (fun w' (hf : Fr Nil w w') => refget_ok S _ m 4 xs (by omega) (by decide) w' (hv.fr hf fun _ _ _ h => h) hB)
  obtain ⟨b, o, e0, -, hbl, q0⟩ := by_at hv (i := 0) (by omega)
  obtain ⟨b1, o1, e1, -, -, q1⟩ := by_at hv (i := 1) (by omega)
  obtain ⟨b3, o3, e3, -, -, q3⟩ := by_at hv (i := 3) (by omega)
  injection e0 with e0; injection e0 with e0 f0; subst e0; subst f0
  injection e1 with e1; injection e1 with e1 f1; subst e1; subst f1
  injection e3 with e3; injection e3 with e3 f3; subst e3; subst f3
  obtain ⟨h0, h1, h3, h4, h5⟩ := hok
  have HBl := hid (fun w' => refblocks_ok _ h4 w')
  generalize num4 (xs.drop 8) = n at *
  generalize num4 (xs.drop 4) = g at *
  rw [h0] at q0; rw [h1] at q1; rw [h3] at q3
  clear h0 h1 h3
  rw [Nat.add_zero] at q0
  have Q0 := hid q0; have Q1 := hid q1; have Q3 := hid q3
  have h16m : ¬ (m : Int) < 16 := by omega
  have i0 : (0 : Int) < (m : Int) := by omega
  have i1 : (1 : Int) < (m : Int) := by omega
  have i3 : (3 : Int) < (m : Int) := by omega
  clear hv hB q0 q1 q3
  have j0 : (n : Int) ≤ 4096 := by omega
  have j1 : (g : Int) ≤ 2147483647 := by omega
  clear h4 h5
  generalize blkN n = q at *
  go_enter Tryz.func56, Tryz.ntmps56
  go_wp2_with fail
  refine (H8.out w (Fr.refl _ _)).mono ?_
  rintro e w1 ⟨rfl, f1⟩
  have F1 := hid f1
  have p0 := f1.cell Q0.out fun h => h
  have p1 := f1.cell Q1.out fun h => h
  have p3 := f1.cell Q3.out fun h => h
  have hbl1 := Nat.lt_of_lt_of_le hbl f1.size
  clear f1
  go_wp2_with fail
  refine (H4.out w1 F1.out).mono ?_
  rintro e w2 ⟨rfl, f2⟩
  have F2 := hid (F1.out.then f2)
  clear f2 p0 p1 p3
  go_wp2_with fail
  refine (HBl.out w2).mono ?_
  rintro e w3 ⟨rfl, rfl⟩
  go_wp2
  go_ret2
  exact ⟨rfl, F2.out⟩
end Go.Proofs.YtgoghmblfdlnbaaGreat
end

section
/- The reference's Open of any bytes. Conditions: they are as many as a head has, at least. -/
set_option linter.unusedSimpArgs false
set_option linter.unusedVariables false
namespace Go.Proofs.YtgoghmblfdlnbaaGreat
open Go.RowKit
/-- Is a byte from a on, ahead of i, not zero? -/
def restB (xs : List Nat) (a i : Nat) : Bool := ((xs.drop a).take (i - a)).any fun x => x != 0
theorem restB_start (xs : List Nat) (a : Nat) : restB xs a a = false := by simp [restB]
theorem restB_succ {xs : List Nat} {a i : Nat} (ha : a ≤ i) (hi : i < xs.length) : restB xs a (i + 1) = (restB xs a i || xs.getD i 0 != 0) := by
  unfold restB
  rw [show i + 1 - a = (i - a) + 1 by omega, List.take_succ_eq_append_getElem (by rw [List.length_drop]; omega), List.any_append, List.getElem_drop]
  simp [List.getElem?_eq_getElem hi, show a + (i - a) = i by omega]
theorem restB_all {xs : List Nat} {a : Nat} : restB xs a xs.length = true ↔ xs.drop a ≠ List.replicate (xs.length - a) 0 := by
  unfold restB
  rw [List.take_of_length_le (by rw [List.length_drop]; exact Nat.le_refl _), List.any_eq_true]
  constructor
  · rintro ⟨x, hx, hne⟩ he
    rw [he] at hx
    rw [(List.mem_replicate.1 hx).2] at hne
    exact absurd hne (by decide)
  · intro hne
    refine Classical.byContradiction fun h => hne ?_
    refine List.eq_replicate_iff.2 ⟨List.length_drop, fun x hx => ?_⟩
    refine Classical.byContradiction fun h2 => h ⟨x, hx, by simp [h2]⟩
set_option maxRecDepth 20000 in
set_option maxHeartbeats 2000000 in
theorem refopen_ok (S : Nat → Prop) (k : Nat) (hk : k < 256) (b o m c : Nat) (xs : List Nat) (hm : 16 ≤ m) (hmx : m ≤ 100000) (w : World) (hv : View w S 1 (.slice (some ⟨b, o, none⟩) m c) m (bys xs)) (hB : Byt xs) :
    Calls Tryz.prog 25 #[.slice (some ⟨b, o, none⟩) m c, .int .u8 (k : Nat)] w fun e w' => (∃ (g : Int) (v : Value), e = .returned (.tuple #[.int .i64 g, v, .int .i64 (openF k xs : Nat)])) ∧ Fr Nil w w' := by
  have hmc : m ≤ c := by obtain ⟨_, _, _, e, h, _⟩ := hv; injection e with _ _ e; omega
  have hlm : xs.length = m := hv.lenb
  by_cases hok : Hok xs
  · have Hs := hid (refsize_yes S b o m c xs hm hmx w hv hB hok)
    have H8 := hid (fun w' (hf : Fr Nil w w') => refget_ok S _ m 8 xs (by omega) (by decide) w' (hv.fr hf fun _ _ _ h => h) hB)
    obtain ⟨n, hn⟩ : ∃ n, n = num4 (xs.drop 8) := ⟨_, rfl⟩
    obtain ⟨x2, hx2⟩ : ∃ x2, x2 = xs.getD 2 0 := ⟨_, rfl⟩
    have hn4 : n ≤ 4096 := by rw [hn]; exact hok.n
    obtain ⟨q, hq⟩ : ∃ q, q = blkN n := ⟨_, rfl⟩
    have hq70 : q ≤ 70 := by rw [hq]; unfold blkN; omega
    have Hn := hid hn
    have Hq := hid hq
    have Hx2 := hid hx2
    rw [← hn] at Hs H8
    rw [← hq] at Hs
    clear hn
    rcases Nat.lt_trichotomy (q * 64) m with hlt | heq | hgt
    · have HO := hid (show openF k xs = 3 from by unfold openF; rw [if_pos hok, if_pos (by rw [← Hn.out, ← Hq.out, hlm]; omega)])
      have hlt2 : (q : Int) * 64 < (m : Int) := by omega
      clear hq hx2 hv hB hok
      go_enter Tryz.func25, Tryz.ntmps25
      go_wp2_with fail
      refine Hs.out.mono ?_
      rintro e w1 ⟨rfl, f1⟩
      have F1 := hid f1
      clear f1
      go_wp2
      go_ret3
      exact ⟨⟨_, _, by rw [HO.out]; rfl⟩, F1.out⟩
    · have hbq : (q : Int) * 64 = (m : Int) := by omega
      have hmn : 16 + n ≤ m := by rw [← heq, hq]; unfold blkN; omega
      have hm64 : 64 ≤ m := by rw [← heq, hq]; unfold blkN; omega
      have hm5 : m ≤ 5000 := by omega
      have H12 := hid (fun w' (hf : Fr Nil w w') => refget_ok S _ m 12 xs (by omega) (by decide) w' (hv.fr hf fun _ _ _ h => h) hB)
      have H4 := hid (fun w' (hf : Fr Nil w w') => refget_ok S _ m 4 xs (by omega) (by decide) w' (hv.fr hf fun _ _ _ h => h) hB)
      have V12 := hid (show View w S 1 (.slice (some ⟨b, o, none⟩) 12 c) 12 (bys (xs.take 12)) from by
        have hp := hv.pre (m := 12) (by omega)
        rw [Nat.mul_one] at hp
        simpa [bys, List.map_take] using hp)
      have VD := hid (show View w S 1 (.slice (some ⟨b, o + 16, none⟩) n (c - 16)) n (bys (dataO xs)) from by
        have h := (tail_view hv (l := 16) (by omega) (by omega)).pre (m := n) (by omega)
        have e : (bys (xs.drop 16)).take (n * 1) = bys (dataO xs) := by
          rw [Nat.mul_one]; unfold bys dataO; rw [← Hn.out, List.map_take]
        rwa [e] at h)
      have HSum := hid (fun w' (hf : Fr Nil w w') => refsum_ok S _ 12 _ w' (V12.out.fr hf fun _ _ _ h => h))
      have HMore := hid (fun w' (hf : Fr Nil w w') => refmore_ok S (moreF 0 (xs.take 12)) _ n _ w' (VD.out.fr hf fun _ _ _ h => h))
      rw [show moreF (moreF 0 (xs.take 12)) (dataO xs) = sumO xs from rfl] at HMore
      have HV := hid hv
      have hs9 : 0 ≤ sumO xs ∧ sumO xs < 4294967296 := by
        have h := moreF_wf (moreF 0 (xs.take 12)) (dataO xs)
        unfold sumO; omega
      have Hok := hid hok
      have Heq := hid heq
      have hbs := hid (show openF k xs = if ((num4 (xs.drop 12) : Nat) : Int) ≠ sumO xs ∨ restB xs (16 + n) m = true then 5 else if x2 ≠ k then 4 else 0 from by
        unfold openF
        rw [if_pos hok, if_neg (by rw [← Hn.out, ← Hq.out, hlm]; omega), if_neg (by rw [← Hn.out, ← Hq.out, hlm]; omega), ← hlm, ← Hn.out, ← Hx2.out]
        by_cases h1 : ((num4 (xs.drop 12) : Nat) : Int) ≠ sumO xs
        · rw [if_pos h1, if_pos (.inl h1)]
        · rw [if_neg h1]
          by_cases h2 : xs.drop (16 + n) ≠ List.replicate (xs.length - (16 + n)) 0
          · rw [if_pos h2, if_pos (.inr (restB_all.2 h2))]
          · rw [if_neg h2]
            exact (if_neg (by rintro (h | h); exact h1 h; exact h2 (restB_all.1 h))).symm)
      obtain ⟨b2, o2, e2, -, hbl, q2⟩ := by_at hv (i := 2) (by omega)
      injection e2 with e2; injection e2 with e2 f2; subst e2; subst f2
      rw [← hx2] at q2
      have Q2 := hid q2
      obtain ⟨s, hs⟩ : ∃ s, s = num4 (xs.drop 12) := ⟨_, rfl⟩
      obtain ⟨T, hT⟩ : ∃ T, T = sumO xs := ⟨_, rfl⟩
      rw [← hs] at H12 hbs
      rw [← hT] at HMore hbs hs9
      clear hq hx2 q2 hv hB heq hs hT hok
      have hwT : IntKind.i64.wrap T = T := by rw [IntKind.wrap_i64]; omega
      have h12m : (12 : Int) ≤ (m : Int) := by omega
      have h16m : (16 : Int) + (n : Int) ≤ (m : Int) := by omega
      have hmc2 : (m : Int) ≤ (c : Int) := by omega
      have hc16 : ¬ c = 16 := by omega
      have hc0 : ¬ c = 0 := by omega
      have h12c : (12 : Int) ≤ (c : Int) := by omega
      have h16c : (16 : Int) + (n : Int) ≤ (c : Int) := by omega
      have hw1 : IntKind.i64.wrap (16 + (n : Int)) = 16 + (n : Int) := by rw [IntKind.wrap_i64]; omega
      have hmx0 : max (16 + (n : Int)) 0 = 16 + (n : Int) := by omega
      have htn : (16 + (n : Int)).toNat = 16 + n := by omega
      have h16n : (16 : Int) ≤ 16 + (n : Int) := by omega
      have h0n : (0 : Int) ≤ 16 + (n : Int) := by omega
      go_enter Tryz.func25, Tryz.ntmps25
      go_wp2_with fail
      refine Hs.out.mono ?_
      rintro e w1 ⟨rfl, f1⟩
      have F1 := hid f1
      clear f1
      go_wp2_with fail
      refine (H8.out w1 F1.out).mono ?_
      rintro e w2 ⟨rfl, f2⟩
      have F2 := hid (F1.out.then f2)
      clear f2
      go_upto_region 9 with (fail)
      have hS : (fun w' : World => Fr Nil w w') w2.drew := F2.out.drew
      refine wpU_region (k := 12) (S := (fun w' : World => Fr Nil w w')) (by kernel_rfl) ?_
      refine wpU_take (i := 0) (v := ?_) rfl (by kernel_rfl) (by kernel_rfl) (fun _ _ _ h => h) _ _ _ _ (by kernel_rfl) (by kernel_rfl) (by kernel_rfl) (Or.inl ⟨by kernel_rfl, ?_⟩) hS ?_
      rotate_left
      · (intro w9 hS9; obtain s0 := hS9; go_simp); (try with_reducible rfl)
      try simp only [Act.put, List.getElem_toArray, List.getElem_cons_succ, List.getElem_cons_zero, List.setIfInBounds_toArray, List.set_cons_zero, List.set_cons_succ]
      refine wpU_take (i := 2) (v := ?_) rfl (by kernel_rfl) (by kernel_rfl) (fun _ _ _ h => h) _ _ _ _ (by kernel_rfl) (by kernel_rfl) (by kernel_rfl) (Or.inl ⟨by kernel_rfl, ?_⟩) hS ?_
      rotate_left
      · (intro w9 hS9; obtain s0 := hS9; go_simp); (try with_reducible rfl)
      try simp only [Act.put, List.getElem_toArray, List.getElem_cons_succ, List.getElem_cons_zero, List.setIfInBounds_toArray, List.set_cons_zero, List.set_cons_succ]
      refine wpU_take (i := 3) (v := ?_) rfl (by kernel_rfl) (by kernel_rfl) (fun _ _ _ h => h) _ _ _ _ (by kernel_rfl) (by kernel_rfl) (by kernel_rfl) (Or.inl ⟨by kernel_rfl, ?_⟩) hS ?_
      rotate_left
      · (intro w9 hS9; obtain s0 := hS9; go_simp); (try with_reducible rfl)
      try simp only [Act.put, List.getElem_toArray, List.getElem_cons_succ, List.getElem_cons_zero, List.setIfInBounds_toArray, List.set_cons_zero, List.set_cons_succ]
      refine wpU_take (i := 5) (v := ?_) rfl (by kernel_rfl) (by kernel_rfl) (fun _ _ _ h => h) _ _ _ _ (by kernel_rfl) (by kernel_rfl) (by kernel_rfl) (Or.inl ⟨by kernel_rfl, ?_⟩) hS ?_
      rotate_left
      · (intro w9 hS9; obtain s0 := hS9; go_simp); (try with_reducible rfl)
      try simp only [Act.put, List.getElem_toArray, List.getElem_cons_succ, List.getElem_cons_zero, List.setIfInBounds_toArray, List.set_cons_zero, List.set_cons_succ]
      refine wpU_take (i := 6) (v := ?_) rfl (by kernel_rfl) (by kernel_rfl) (fun _ _ _ h => h) _ _ _ _ (by kernel_rfl) (by kernel_rfl) (by kernel_rfl) (Or.inl ⟨by kernel_rfl, ?_⟩) hS ?_
      rotate_left
      · (intro w9 hS9; obtain s0 := hS9; go_simp); (try with_reducible rfl)
      try simp only [Act.put, List.getElem_toArray, List.getElem_cons_succ, List.getElem_cons_zero, List.setIfInBounds_toArray, List.set_cons_zero, List.set_cons_succ]
      refine wpU_take (i := 7) (v := ?_) rfl (by kernel_rfl) (by kernel_rfl) (fun _ _ _ h => h) _ _ _ _ (by kernel_rfl) (by kernel_rfl) (by kernel_rfl) (Or.inl ⟨by kernel_rfl, ?_⟩) hS ?_
      rotate_left
      · (intro w9 hS9; obtain s0 := hS9; go_simp); (try with_reducible rfl)
      try simp only [Act.put, List.getElem_toArray, List.getElem_cons_succ, List.getElem_cons_zero, List.setIfInBounds_toArray, List.set_cons_zero, List.set_cons_succ]
      refine wpU_take (i := 8) (v := ?_) rfl (by kernel_rfl) (by kernel_rfl) (fun _ _ _ h => h) _ _ _ _ (by kernel_rfl) (by kernel_rfl) (by kernel_rfl) (Or.inl ⟨by kernel_rfl, ?_⟩) hS ?_
      rotate_left
      · (intro w9 hS9; obtain s0 := hS9; go_simp); (try with_reducible rfl)
      try simp only [Act.put, List.getElem_toArray, List.getElem_cons_succ, List.getElem_cons_zero, List.setIfInBounds_toArray, List.set_cons_zero, List.set_cons_succ]
      refine wpU_next (i := 1) rfl (by kernel_rfl) (fun K hK => ?_)
      go_simp
      refine (H12.out _ hS).mono ?_
      rintro e w3 ⟨rfl, f3⟩
      have hS3 : (fun w' : World => Fr Nil w w') w3 := hS.then f3
      clear hS f3
      refine hK.out _ _ (fun _ => hS3) ?_
      clear hK K
      try simp only [Act.put, List.getElem_toArray, List.getElem_cons_succ, List.getElem_cons_zero, List.setIfInBounds_toArray, List.set_cons_zero, List.set_cons_succ]
      refine wpU_next (i := 4) rfl (by kernel_rfl) (fun K hK => ?_)
      go_simp
      refine (HSum.out _ hS3).mono ?_
      rintro e w4 ⟨rfl, rfl⟩
      refine hK.out _ _ (fun _ => hS3) ?_
      clear hK K
      try simp only [Act.put, List.getElem_toArray, List.getElem_cons_succ, List.getElem_cons_zero, List.setIfInBounds_toArray, List.set_cons_zero, List.set_cons_succ]
      refine wpU_next (i := 9) rfl (by kernel_rfl) (fun K hK => ?_)
      go_simp
      refine (HMore.out _ hS3).mono ?_
      rintro e w4 ⟨rfl, rfl⟩
      refine hK.out _ _ (fun _ => hS3) ?_
      clear hK K
      try simp only [Act.put, List.getElem_toArray, List.getElem_cons_succ, List.getElem_cons_zero, List.setIfInBounds_toArray, List.set_cons_zero, List.set_cons_succ]
      refine wpU_take (i := 10) (v := ?_) rfl (by kernel_rfl) (by kernel_rfl) (fun _ _ _ h => h) _ _ _ _ (by kernel_rfl) (by kernel_rfl) (by kernel_rfl) (Or.inl ⟨by kernel_rfl, ?_⟩) hS3 ?_
      rotate_left
      · (intro w9 hS9; obtain s0 := hS9; go_simp); (try with_reducible rfl)
      try simp only [Act.put, List.getElem_toArray, List.getElem_cons_succ, List.getElem_cons_zero, List.setIfInBounds_toArray, List.set_cons_zero, List.set_cons_succ]
      refine wpU_take (i := 11) (v := ?_) rfl (by kernel_rfl) (by kernel_rfl) (fun _ _ _ h => h) _ _ _ _ (by kernel_rfl) (by kernel_rfl) (by kernel_rfl) (Or.inl ⟨by kernel_rfl, ?_⟩) hS3 ?_
      rotate_left
      · (intro w9 hS9; obtain s0 := hS9; go_simp); (try with_reducible rfl)
      try simp only [Act.put, List.getElem_toArray, List.getElem_cons_succ, List.getElem_cons_zero, List.setIfInBounds_toArray, List.set_cons_zero, List.set_cons_succ]
      refine wpU_next (i := 12) rfl (by kernel_rfl) (fun K hK => ?_)
      go_simp
      refine hK.out _ _ (fun h => absurd rfl h.1) ?_
      refine wpU_done (by kernel_rfl) ?_ _
      clear hK K
      obtain ⟨bs0, hb0⟩ : ∃ b0, b0 = ((s : Int) != T) := ⟨_, rfl⟩
      rw [← hb0]
      have HO := hid (show openF k xs = if (bs0 || restB xs (16 + n) m) = true then 5 else if x2 ≠ k then 4 else 0 from by
        rw [hbs.out, hb0]
        simp only [Bool.or_eq_true, bne_iff_ne])
      have HF3 := hid hS3
      clear hb0 hS3 hbs hs9 hwT
      go_wp2_with fail
      go_loopw [10, 11] (fun v10 v11 wr => ∃ (i : Nat), v11 = .int .i64 i ∧ 16 + n ≤ i ∧ i ≤ m ∧ v10 = .bool (bs0 || restB xs (16 + n) i) ∧ Fr Nil w wr) (fun _ v11 _ => m - (intOf v11).toNat)
      case atStart => exact ⟨16 + n, by go_num, by omega, by omega, by rw [restB_start, Bool.or_false], HF3.out⟩
      case round =>
        clear HF3
        obtain ⟨i, rfl, hi0, hi, rfl, hF⟩ := hrel
        by_cases hlt : i < m
        · have hsc := restB_succ (xs := xs) hi0 (by omega)
          cases hb : (bs0 || restB xs (16 + n) i) with
          | true =>
            have hn1 : (bs0 || restB xs (16 + n) (i + 1)) = true := by rw [hsc, ← Bool.or_assoc, hb, Bool.true_or]
            clear hsc hb
            go_wp2_with fail
            exact ⟨⟨i + 1, by go_num, by omega, by omega, by rw [hn1], hF⟩, by simp [intOf]; omega⟩
          | false =>
            obtain ⟨bb, oo, e9, -, hbl9, q9⟩ := by_at (HV.out.fr hF fun _ _ _ h => h) hlt
            injection e9 with e9; injection e9 with e9 f9; subst e9; subst f9
            have hn1 : (bs0 || restB xs (16 + n) (i + 1)) = (xs.getD i 0 != 0) := by rw [hsc, ← Bool.or_assoc, hb, Bool.false_or]
            have hii : (i : Int) < (m : Int) := by omega
            generalize xs.getD i 0 = y at *
            clear hsc hb
            cases y with
            | zero =>
              have q9' : wr.cell? ⟨b, o + i, none⟩ = some (.int .u8 0) := q9
              clear q9
              go_wp2_with fail
              exact ⟨⟨i + 1, by go_num, by omega, by omega, by rw [hn1]; rfl, hF⟩, by simp [intOf]; omega⟩
            | succ y =>
              obtain ⟨z, hz⟩ : ∃ z, z = y + 1 := ⟨_, rfl⟩
              rw [← hz] at q9 hn1
              have hz0 : ¬ (z : Int) = 0 := by omega
              have hn2 : (z != 0) = true := by simp; omega
              have hn3 : ((z : Int) != 0) = true := by simp; omega
              clear hz
              go_wp2_with fail
              exact ⟨⟨i + 1, by go_num, by omega, by omega, by rw [hn1, hn2], hF⟩, by simp [intOf]; omega⟩
        · obtain rfl : i = m := by omega
          have HF := hid hF
          cases hb : (bs0 || restB xs (16 + n) i) with
          | true =>
            have HO5 := hid (show openF k xs = 5 from by rw [HO.out, if_pos hb])
            clear hb
            go_wp2
            go_ret3
            exact ⟨⟨_, _, by rw [HO5.out]; rfl⟩, HF.out⟩
          | false =>
            have p2 : wr.cell? ⟨b, o + 2, none⟩ = some (.int .u8 (x2 : Nat)) := hF.cell Q2.out fun h => h
            have hl2 := Nat.lt_of_lt_of_le hbl hF.size
            have hi2 : (2 : Int) < (i : Int) := by omega
            by_cases hk2 : x2 = k
            · have HO0 := hid (show openF k xs = 0 from by rw [HO.out, if_neg (by rw [hb]; decide), if_neg (fun h => h hk2)])
              subst hk2
              clear hb hF
              go_wp2_with fail
              have hS4 : (fun w' : World => Fr Nil w w') wr.drew := HF.out.drew
              have hdl : (dataO xs).length = n := by have := VD.out.lenb; exact this
              refine wpU_region (k := 9) (S := (fun w' : World => Fr Nil w w')) (by kernel_rfl) ?_
              refine wpU_take (i := 0) (v := ?_) rfl (by kernel_rfl) (by kernel_rfl) (fun _ _ _ h => h) _ _ _ _ (by kernel_rfl) (by kernel_rfl) (by kernel_rfl) (Or.inl ⟨by kernel_rfl, ?_⟩) hS4 ?_
              rotate_left
              · (intro w9 hS9; obtain s0 := hS9; go_simp); (try with_reducible rfl)
              try simp only [Act.put, List.getElem_toArray, List.getElem_cons_succ, List.getElem_cons_zero, List.setIfInBounds_toArray, List.set_cons_zero, List.set_cons_succ]
              refine wpU_take (i := 2) (v := ?_) rfl (by kernel_rfl) (by kernel_rfl) (fun _ _ _ h => h) _ _ _ _ (by kernel_rfl) (by kernel_rfl) (by kernel_rfl) (Or.inl ⟨by kernel_rfl, ?_⟩) hS4 ?_
              rotate_left
              · (intro w9 hS9; obtain s0 := hS9; go_simp); (try with_reducible rfl)
              try simp only [Act.put, List.getElem_toArray, List.getElem_cons_succ, List.getElem_cons_zero, List.setIfInBounds_toArray, List.set_cons_zero, List.set_cons_succ]
              refine wpU_take (i := 3) (v := ?_) rfl (by kernel_rfl) (by kernel_rfl) (fun _ _ _ h => h) _ _ _ _ (by kernel_rfl) (by kernel_rfl) (by kernel_rfl) (Or.inl ⟨by kernel_rfl, ?_⟩) hS4 ?_
              rotate_left
              · (intro w9 hS9; obtain s0 := hS9; go_simp); (try with_reducible rfl)
              try simp only [Act.put, List.getElem_toArray, List.getElem_cons_succ, List.getElem_cons_zero, List.setIfInBounds_toArray, List.set_cons_zero, List.set_cons_succ]
              refine wpU_take (i := 4) (v := ?_) rfl (by kernel_rfl) (by kernel_rfl) (fun _ _ _ h => h) _ _ _ _ (by kernel_rfl) (by kernel_rfl) (by kernel_rfl) (Or.inl ⟨by kernel_rfl, ?_⟩) hS4 ?_
              rotate_left
              · (intro w9 hS9; obtain s0 := hS9; go_simp); (try with_reducible rfl)
              try simp only [Act.put, List.getElem_toArray, List.getElem_cons_succ, List.getElem_cons_zero, List.setIfInBounds_toArray, List.set_cons_zero, List.set_cons_succ]
              refine wpU_take (i := 5) (v := ?_) rfl (by kernel_rfl) (by kernel_rfl) (fun _ _ _ h => h) _ _ _ _ (by kernel_rfl) (by kernel_rfl) (by kernel_rfl) (Or.inl ⟨by kernel_rfl, ?_⟩) hS4 ?_
              rotate_left
              · (intro w9 hS9; obtain s0 := hS9; go_simp); (try with_reducible rfl)
              try simp only [Act.put, List.getElem_toArray, List.getElem_cons_succ, List.getElem_cons_zero, List.setIfInBounds_toArray, List.set_cons_zero, List.set_cons_succ]
              refine wpU_next (i := 1) rfl (by kernel_rfl) (fun K hK => ?_)
              go_simp
              refine (H4.out _ hS4).mono ?_
              rintro e w3 ⟨rfl, f3⟩
              have hS5 : (fun w' : World => Fr Nil w w') w3 := hS4.then f3
              clear hS4 f3
              refine hK.out _ _ (fun _ => hS5) ?_
              clear hK K
              try simp only [Act.put, List.getElem_toArray, List.getElem_cons_succ, List.getElem_cons_zero, List.setIfInBounds_toArray, List.set_cons_zero, List.set_cons_succ]
              refine wpU_next (i := 6) rfl (by kernel_rfl) (fun K hK => ?_)
              refine step_app_view rfl _ _ 30 (by rfl) (.int .u8 0) 1 Tryz.underlying30 info_u8 rfl (by decide) (Row.nil w3 Nil _ _) (by rfl) (VD.out.fr hS5 fun _ _ _ h => h) (by rfl) (bys_cell _) (by omega) (by decide) ?_
              intro B7 c7 w7 r7 f7
              have hS7 : (fun w' : World => Fr Nil w w') w7 := hS5.then (f7.mono fun j hj => by simp [Value.ownBlock] at hj)
              clear hS5 r7 f7
              refine hK.out _ _ (fun _ => hS7) ?_
              clear hK K
              try simp only [Act.put, List.getElem_toArray, List.getElem_cons_succ, List.getElem_cons_zero, List.setIfInBounds_toArray, List.set_cons_zero, List.set_cons_succ]
              refine wpU_take (i := 7) (v := ?_) rfl (by kernel_rfl) (by kernel_rfl) (fun _ _ _ h => h) _ _ _ _ (by kernel_rfl) (by kernel_rfl) (by kernel_rfl) (Or.inl ⟨by kernel_rfl, ?_⟩) hS7 ?_
              rotate_left
              · (intro w9 hS9; obtain s0 := hS9; go_simp); (try with_reducible rfl)
              try simp only [Act.put, List.getElem_toArray, List.getElem_cons_succ, List.getElem_cons_zero, List.setIfInBounds_toArray, List.set_cons_zero, List.set_cons_succ]
              refine wpU_take (i := 8) (v := ?_) rfl (by kernel_rfl) (by kernel_rfl) (fun _ _ _ h => h) _ _ _ _ (by kernel_rfl) (by kernel_rfl) (by kernel_rfl) (Or.inl ⟨by kernel_rfl, ?_⟩) hS7 ?_
              rotate_left
              · (intro w9 hS9; obtain s0 := hS9; go_simp); (try with_reducible rfl)
              try simp only [Act.put, List.getElem_toArray, List.getElem_cons_succ, List.getElem_cons_zero, List.setIfInBounds_toArray, List.set_cons_zero, List.set_cons_succ]
              refine wpU_next (i := 9) rfl (by kernel_rfl) (fun K hK => ?_)
              go_simp
              refine hK.out _ _ (fun h => absurd rfl h.1) ?_
              refine wpU_done (by kernel_rfl) ?_ _
              clear hK K
              go_wp2
              go_ret3
              exact ⟨⟨_, _, by rw [HO0.out]; rfl⟩, hS7⟩
            · have HO4 := hid (show openF k xs = 4 from by rw [HO.out, if_neg (by rw [hb]; decide), if_pos hk2])
              have hki : ¬ (x2 : Int) = (k : Int) := by omega
              clear hb hF
              go_wp2
              go_ret3
              exact ⟨⟨_, _, by rw [HO4.out]; rfl⟩, HF.out⟩
    · have HO := hid (show openF k xs = 2 from by unfold openF; rw [if_pos hok, if_neg (by rw [← Hn.out, ← Hq.out, hlm]; omega), if_pos (by rw [← Hn.out, ← Hq.out, hlm]; omega)])
      have hlt2 : ¬ (q : Int) * 64 < (m : Int) := by omega
      have hlt3 : (m : Int) < (q : Int) * 64 := by omega
      clear hq hx2 hv hB hok
      go_enter Tryz.func25, Tryz.ntmps25
      go_wp2_with fail
      refine Hs.out.mono ?_
      rintro e w1 ⟨rfl, f1⟩
      have F1 := hid f1
      clear f1
      go_wp2
      go_ret3
      exact ⟨⟨_, _, by rw [HO.out]; rfl⟩, F1.out⟩
  · have Hs := hid (refsize_no S b o m c xs hm hmx w hv hB hok)
    have HO := hid (show openF k xs = 4 from by unfold openF; rw [if_neg hok])
    clear hv hB hok
    go_enter Tryz.func25, Tryz.ntmps25
    go_wp2_with fail
    refine Hs.out.mono ?_
    rintro e w1 ⟨rfl, f1⟩
    have F1 := hid f1
    clear f1
    go_wp2
    go_ret3
    exact ⟨⟨_, _, by rw [HO.out]; rfl⟩, F1.out⟩
end Go.Proofs.YtgoghmblfdlnbaaGreat
end

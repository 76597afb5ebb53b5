/- The texts SlL of this proof, one behind the other. Conditions: those of each. -/
import Derived.Test.YtgoghmblfdlnbaaGW34
import Derived.Test.YtgoghmblfdlnbaaGW35
section
/- Slab: Load of what was saved. Conditions: no faults. -/
set_option linter.unusedSimpArgs false
set_option linter.unusedVariables false
namespace Go.Proofs.Ytgoghmblfdlnbaa
open Go.RowKit
open nd (Nd Kd Vs MayNd pre ncells)
theorem chunks_all : ∀ (n : Nat) (xs : List Nat), xs.length = 64 * n → (List.range n).flatMap (chunk xs) = xs := by
  intro n
  induction n with
  | zero => intro xs h; have : xs = [] := List.length_eq_zero_iff.1 (by omega); subst this; rfl
  | succ n ih =>
    intro xs h
    rw [List.range_succ, List.flatMap_append, List.flatMap_singleton]
    have h1 := ih (xs.take (64 * n)) (by rw [List.length_take]; omega)
    have h2 : (List.range n).flatMap (chunk xs) = (List.range n).flatMap (chunk (xs.take (64 * n))) := by
      rw [List.flatMap_def, List.flatMap_def]
      congr 1
      refine List.map_congr_left fun i hi => ?_
      have hi2 := List.mem_range.1 hi
      unfold chunk
      rw [List.drop_take, List.take_take, Nat.min_eq_left (by omega)]
    rw [h2, h1]
    unfold chunk
    rw [List.take_of_length_le (l := xs.drop (64 * n)) (by rw [List.length_drop]; omega), List.take_append_drop]
theorem frm_chunks {p : Pl} {a n : Nat} {xs : List Nat} (hl : xs.length = 64 * n) (hg : ∀ i, i < n → p.get (a + i) = chunk xs i) : frm p a n = xs := by
  refine Eq.trans ?_ (chunks_all n xs hl)
  unfold frm
  rw [List.flatMap_def, List.flatMap_def]
  congr 1
  exact List.map_congr_left fun i hi => hg i (List.mem_range.1 hi)
set_option maxRecDepth 20000 in
set_option maxHeartbeats 1600000 in
theorem sload_k {Q TP : Nat → Prop} {w0 w : World} {lb plb sb pb bl N gen m : Nat} {p : Pl} {U L H : List Us} {A l : List Rn} (h : Sl Q TP w0 w lb plb sb pb bl N gen m p U L H A l) (a g : Nat) (x : Nd) (hx : MayNd x) (hg : g ≤ 2147483647) (hfa : p.fa = []) (hm : m ≤ 900000) (hab : a + nN x ≤ bl) (hget : ∀ i, i < nN x → p.get (a + i) = chunk (frameF 78 g (datN x)) i) (hlt : 16 + (datN x).length < 64 * nN x) (Post : Ending → World → Prop)
    (hP : ∀ (q' : nd.Ptr) (p' : Pl) (w' : World), Vs w' (New w) q' x ∧ Sl Q TP w0 w' lb plb sb pb bl N gen (m + nN x) p' U L H A l ∧ After p p' (fun _ => False) ∧ Fr TP w w' → Post (.returned (.tuple #[.agg (ncells x q'), .int .i64 0])) w') :
    Calls Try.prog 17 #[.pointer (some ⟨lb, 0, none⟩), .agg #[.int .i64 (a : Nat), .int .i64 (nN x : Nat), .int .i64 (g : Nat)]] w Post := by
  have HPost := hid hP
  have HS0 := hid h
  have Hx := hid hx
  have Hfa := hid hfa
  have Hm := hid hm
  have Hab := hid hab
  have Hlt := hid hlt
  have Hfr := hid (frm_chunks (p := p) (a := a) (frameF_length 78 g (datN x)) hget)
  clear hP h hx hfa hm hab hget hlt
  have Hdl := hid (datN_len Hx.out)
  have Hn1 := hid (nN_pos x)
  have Hn4 := hid (nN_le Hx.out)
  go_enter Try.func17, Try.ntmps17
  go_wp2_with fail
  obtain ⟨W1, hW1⟩ : ∃ W1, W1 = (w.alloc (.cells #[.int .i64 (a : Nat), .int .i64 (nN x : Nat), .int .i64 (g : Nat)] 55)).alloc (.cells nd.nil5 60) := ⟨_, rfl⟩
  obtain ⟨kb, hkb⟩ : ∃ kb, kb = w.heap.size := ⟨_, rfl⟩
  obtain ⟨rb, hrb⟩ : ∃ rb, rb = w.heap.size + 1 := ⟨_, rfl⟩
  have f1 : Fr Nil w W1 := by rw [hW1]; exact ((Fr.refl _ _).alloc _).alloc _
  have hK1 : Blk W1 kb #[.int .i64 (a : Nat), .int .i64 (nN x : Nat), .int .i64 (g : Nat)] 55 := by rw [hW1, hkb]; exact (Blk.new _ _ _).alloc _
  have hR1 : Blk W1 rb nd.nil5 60 := by
    rw [hW1, hrb]
    have := Blk.new (w.alloc (.cells #[.int .i64 (a : Nat), .int .i64 (nN x : Nat), .int .i64 (g : Nat)] 55)) nd.nil5 60
    rwa [World.size_alloc] at this
  rw [show (#[.int .i64 0, .slice none 0 0, .slice none 0 0, .slice none 0 0, .slice none 0 0] : Array Value) = nd.nil5 from rfl, ← hW1, ← hrb, ← hkb]
  have H1 := hid (HS0.out.drop (Q := fun k => Q k ∨ k = kb ∨ k = rb) f1 (fun k hk => hk.imp id fun e => by omega) fun k hk => by
    have h1 := hK1.lt
    have h2 := hR1.lt
    rcases hk with hk | hk | hk
    · exact Nat.lt_of_lt_of_le (HS0.out.tlt k (.inl hk)) f1.size
    · omega
    · omega)
  have HR1 := hid hR1
  have HK1 := hid hK1
  have F1 := hid f1
  have Hrb := hid (show w.heap.size ≤ rb ∧ w.heap.size ≤ kb from by omega)
  have Hw0 := hid (show w0.heap.size ≤ rb ∧ ¬ Q rb from ⟨by have := HS0.out.g.fr0.size; omega, fun hq => by have := HS0.out.tlt rb (.inl hq); omega⟩)
  clear hW1 hrb hkb f1 hR1 hK1 HS0
  refine (sread_ok H1.out a (nN x) Hn1.out Hab.out Hm.out).mono ?_
  rintro e w2 ⟨er, k, c, xs, B, p', rfl, hrow, hS, hA, hcase, hok, hF⟩
  obtain rfl : er = 0 := hok Hfa.out
  obtain ⟨rfl, rfl⟩ : k = 64 * nN x ∧ xs = frm p a (nN x) := by
    rcases hcase with h | h
    · exact h.2
    · exact absurd h.1 (by decide)
  rw [Hfr.out] at hrow
  have hn64 : 0 < 64 * nN x := by have := Hn1.out; omega
  have hk64 : 64 * nN x ≤ 256 := by have := Hn4.out; omega
  obtain ⟨gb, cc, hBe, hgb, hgl⟩ := hrow.form hn64
  injection hBe with hBe _ hcc
  subst hBe; subst hcc
  have HT := hid (fun j (hj : TP j) => (H1.out.q j (.inl hj)).2)
  have HK2 := hid (HK1.out.fr hF fun h => HT.out _ h (.inr (.inl rfl)))
  have HR2 := hid (HR1.out.fr hF fun h => HT.out _ h (.inr (.inr rfl)))
  have H2 := hid hS
  have HA := hid hA
  have HW := hid hrow
  have F2 := hid ((F1.out.nil (S := TP)).then hF)
  clear hrow hS hA hcase hok hF HK1 HR1 H1
  go_wp2_with fail
  have hne : c ≠ 16 + (datN x).length := by
    obtain ⟨_, _, _, e, h, _⟩ := HW.out.view
    injection e with _ _ e
    have := Hlt.out
    omega
  refine (lopen_ok _ 78 g (by decide) hg gb 0 (64 * nN x) c (datN x) (datN x).length rfl (by have := Hdl.out; omega) rfl hne w2 HW.out.view (encs_byt _)).mono ?_
  rintro e w3 ⟨D, dc, rfl, hD, hf3⟩
  obtain ⟨d, hd⟩ : ∃ d, d = (datN x).length := ⟨_, rfl⟩
  rw [← hd] at hD
  rw [← hd]
  have Hd := hid hd
  have HD := hid hD
  have H3 := hid (H2.out.nil hf3)
  have HK3 := hid (HK2.out.fr hf3 fun h => h)
  have HR3 := hid (HR2.out.fr hf3 fun h => h)
  have F3 := hid (F2.out.thenNil hf3)
  have k2 : w3.cell? ⟨kb, 2, none⟩ = some (.int .i64 (g : Nat)) := HK3.out.cell 2
  clear hd hD hf3 hne HK2 HR2 H2
  go_wp2_with fail
  refine (nd.dec_ok _ (.slice D d dc) d (datN x) (by have := Hdl.out; have := Hd.out; omega) (encs_byt _) w3 HD.out.view).mono ?_
  rintro e w4 hpost
  rw [nd.decd_pre Hx.out] at hpost
  obtain ⟨q', rfl, hV, hf4⟩ := hpost
  have H4 := hid (H3.out.nil hf4)
  have hr7 := HR3.out.fr hf4 fun h => h
  have F4 := hid (F3.out.thenNil hf4)
  have HV := hid hV
  have k0 : w4.cell? ⟨rb, 0, none⟩ = some (.int .i64 0) := hr7.cell 0
  have k1 : w4.cell? ⟨rb, 1, none⟩ = some (.slice none 0 0) := hr7.cell 1
  have k2 : w4.cell? ⟨rb, 2, none⟩ = some (.slice none 0 0) := hr7.cell 2
  have k3 : w4.cell? ⟨rb, 3, none⟩ = some (.slice none 0 0) := hr7.cell 3
  have k4 : w4.cell? ⟨rb, 4, none⟩ = some (.slice none 0 0) := hr7.cell 4
  have z0 := hr7.frozen 0
  have z1 := hr7.frozen 1
  have z2 := hr7.frozen 2
  have z3 := hr7.frozen 3
  have z4 := hr7.frozen 4
  have hrl := hr7.lt
  have HR7 := hid hr7
  clear hr7 hV hf4
  unfold ncells
  go_wp2
  have hfs := nd.st5_fr w4 rb (.int .i64 x.h) (.slice q'.A1 x.ks.length q'.c1) (.slice q'.A2 x.ps.length q'.c2) (.slice q'.A3 x.gs.length q'.c3) (.slice q'.A4 x.ds.length q'.c4)
  have hb9 := nd.st5_blk HR7.out (.int .i64 x.h) (.slice q'.A1 x.ks.length q'.c1) (.slice q'.A2 x.ps.length q'.c2) (.slice q'.A3 x.gs.length q'.c3) (.slice q'.A4 x.ds.length q'.c4)
  unfold nd.st5 at hfs hb9
  generalize ((((w4.setCell ⟨rb, 0, none⟩ (.int .i64 x.h)).setCell ⟨rb, 1, none⟩ (.slice q'.A1 x.ks.length q'.c1)).setCell ⟨rb, 2, none⟩ (.slice q'.A2 x.ps.length q'.c2)).setCell ⟨rb, 3, none⟩ (.slice q'.A3 x.gs.length q'.c3)).setCell ⟨rb, 4, none⟩ (.slice q'.A4 x.ds.length q'.c4) = W9 at *
  have r0 : W9.cell? ⟨rb, 0, none⟩ = some (.int .i64 x.h) := hb9.cell 0
  have r1 : W9.cell? ⟨rb, 1, none⟩ = some (.slice q'.A1 x.ks.length q'.c1) := hb9.cell 1
  have r2 : W9.cell? ⟨rb, 2, none⟩ = some (.slice q'.A2 x.ps.length q'.c2) := hb9.cell 2
  have r3 : W9.cell? ⟨rb, 3, none⟩ = some (.slice q'.A3 x.gs.length q'.c3) := hb9.cell 3
  have r4 : W9.cell? ⟨rb, 4, none⟩ = some (.slice q'.A4 x.ds.length q'.c4) := hb9.cell 4
  have HFS := hid hfs
  clear hfs hb9
  simp [bodyPost, results, Try.results17, go_sem, r0, r1, r2, r3, r4]
  have hlr := HR3.out.lt
  have hsz : w.heap.size ≤ w3.heap.size := F3.out.size
  refine HPost.out _ _ _ ⟨(HV.out.fr HFS.out fun k hk _ e => ?_).mono fun k hk => Nat.le_trans hsz hk, H4.out.own (Q := Q) HFS.out (fun k hk => .inl (.inr (.inr hk))) (fun k hk => by rw [hk]; exact Hw0.out.1) (fun k hk => .inl (.inl hk)), HA.out, F4.out.trans HFS.out fun k hk => .inr (by rw [hk]; exact Hrb.out.1)⟩
  have : w3.heap.size ≤ k := hk
  omega
end Go.Proofs.Ytgoghmblfdlnbaa
end

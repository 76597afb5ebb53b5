/- The texts SlX3 of this proof, one behind the other. Conditions: those of each. -/
import Derived.Great.BuildSlice
import Derived.Deep.WholeRow
import Derived.Test.YtgoghmblfdlnbaaGreatGR38
section
/- The law SlabReuses: its walk ends with true and changes nothing that was there. Conditions: the arguments are drawn as the law says. -/
set_option linter.unusedSimpArgs false
set_option linter.unusedVariables false
namespace Go.Proofs.YtgoghmblfdlnbaaGreat
open Go.RowKit Go.Deep
/-- The j-th frame. -/
def bsM (m j : Nat) : List Nat := (j + 1) :: (List.replicate m 0 ++ [j + 1])
def bsI (j : Nat) : List Nat := bsM 190 j
theorem bsM_length (m j : Nat) : (bsM m j).length = m + 2 := by simp [bsM]
theorem bsI_length (j : Nat) : (bsI j).length = 192 := bsM_length 190 j
theorem bsM_byt {m j : Nat} (h : j < 20) : Byt (bsM m j) := by
  intro x hx
  simp only [bsM, List.mem_cons, List.mem_append, List.mem_replicate, List.not_mem_nil, or_false] at hx
  omega
theorem bsI_first (j : Nat) : (bys (bsI j))[0]? = some (.int .u8 ((j + 1 : Nat) : Int)) := rfl
theorem bsM_last (m j : Nat) : (bys (bsM m j))[m + 1]? = some (.int .u8 ((j + 1 : Nat) : Int)) := by
  unfold bys bsM
  rw [List.getElem?_map, List.getElem?_cons_succ, List.getElem?_append_right (by simp), List.length_replicate, Nat.sub_self]
  rfl
theorem bsI_last (j : Nat) : (bys (bsI j))[191]? = some (.int .u8 ((j + 1 : Nat) : Int)) := bsM_last 190 j
theorem bsM_set (m j : Nat) : ((bys (List.replicate (m + 1 + 1) 0)).set 0 (.int .u8 ((j + 1 : Nat) : Int))).set (m + 1) (.int .u8 ((j + 1 : Nat) : Int)) = bys (bsM m j) := by
  unfold bys bsM
  rw [List.map_replicate, List.replicate_succ, List.set_cons_zero, List.replicate_succ', List.set_cons_succ, List.set_append_right _ _ (by simp), List.length_replicate, Nat.sub_self]
  simp
theorem bsI_set (j : Nat) : ((bys (List.replicate 192 0)).set 0 (.int .u8 ((j + 1 : Nat) : Int))).set 191 (.int .u8 ((j + 1 : Nat) : Int)) = bys (bsI j) := bsM_set 190 j
theorem rep_at {m i : Nat} (h : i < m) : (bys (List.replicate m 0))[i]? = some (.int .u8 ((0 : Nat) : Int)) := by
  unfold bys
  rw [List.getElem?_map, List.getElem?_replicate, if_pos h]
  rfl
def goneC (G : Nat → Bool) : Array Value := ((List.range 20).map fun k => Value.bool (G k)).toArray
theorem goneC_at {G : Nat → Bool} {k : Nat} (h : k < 20) : (goneC G)[k]? = some (.bool (G k)) := by
  unfold goneC
  rw [List.getElem?_toArray, List.getElem?_map, List.getElem?_range h]
  rfl
theorem goneC_set {G : Nat → Bool} {k : Nat} (h : k < 20) : (goneC G).setIfInBounds k (.bool true) = goneC (goneW G k) := by
  unfold goneC
  rw [List.setIfInBounds_toArray]
  congr 1
  refine List.ext_getElem? fun j => ?_
  rw [List.getElem?_set, List.length_map, List.length_range]
  by_cases hj : k = j
  · subst hj
    rw [if_pos rfl, if_pos h, List.getElem?_map, List.getElem?_range h]
    simp [goneW]
  · rw [if_neg hj, List.getElem?_map, List.getElem?_map]
    by_cases h2 : j < 20
    · rw [List.getElem?_range h2]
      simp [goneW, show ¬ j = k from fun e => hj e.symm]
    · rw [List.getElem?_eq_none (by simp; omega)]
      rfl
structure Wz (X : Nat → Prop) (w0 w : World) (lb plb sb pb m i : Nat) (TP : Nat → Prop) (p : Pl) (U L H : List Us) (A l : List Rn) (v9 : Value) : Prop where
  sl : Sl (fun k => v9.ownBlock = some k ∨ X k) TP w0 w lb plb sb pb 64 1000 1 m p U L H A l
  fa : p.fa = []
  r9 : Row w (fun k => w0.heap.size ≤ k ∧ ¬ X k) 39 2 v9 i (dbl (rsT i))
theorem Wz.nil {X : Nat → Prop} {w0 w w' : World} {lb plb sb pb m i : Nat} {TP : Nat → Prop} {p : Pl} {U L H : List Us} {A l : List Rn} {v9 : Value} (h : Wz X w0 w lb plb sb pb m i TP p U L H A l v9) (hf : Fr Nil w w') : Wz X w0 w' lb plb sb pb m i TP p U L H A l v9 :=
  ⟨h.sl.nil hf, h.fa, h.r9.fr hf fun _ _ h => h⟩
set_option maxRecDepth 20000 in
set_option maxHeartbeats 2000000 in
theorem slabReuses_ok (A : Option Addr) (n c : Nat) (zs : List Int) (f : Int) (hfw : (Lit.int .u8 f).wf = true) (w : World) (hr : IsRow .u8 w A n c zs) :
    Calls Tryz.prog 4 #[.slice A n c, .int .u8 f] w fun e w' => e = .returned (.bool true) ∧ Fr Nil w w' := by
  obtain ⟨hv, hlen, hwf⟩ := hr.view
  have hnle := hv.le
  have hfb := bounds_u8 hfw
  obtain ⟨fi, hfi⟩ : ∃ fi : Nat, f = (fi : Nat) := ⟨f.toNat, by omega⟩
  subst hfi
  have hf256 : fi < 256 := by omega
  have Hv := hid hv
  have Hlen := hid hlen
  have Hwf := hid hwf
  clear hv hlen hwf hr hfb hfw
  generalize zs.take n = ll at *
  go_enter Tryz.func4, Tryz.ntmps4
  go_wp2_with fail
  refine (slawake_ok w).mono ?_
  rintro e w0 ⟨rfl, f0⟩
  have F0 := hid f0; clear f0
  by_cases hn : 40 < n
  · go_wp2
    go_ret
    exact ⟨rfl, F0.out⟩
  go_wp2_with fail
  refine (slawmake_ok 1000 64 1 (by decide) (by decide) (by decide) w0).mono ?_
  rintro e w1 ⟨lb, plb, pb, sb, TP0, rfl, hS, f1⟩
  have HS := hid hS
  have Hvw := hid (Hv.out.fr F0.out fun _ _ _ h => h)
  clear hS Hv f1
  go_wp2_with fail
  go_loopw [9, 10] (fun v9 v10 wr => ∃ (i : Nat) (TP : Nat → Prop) (p : Pl) (B9 : Option Addr) (c9 : Nat), v10 = .int .i64 i ∧ i ≤ 20 ∧ v9 = .slice B9 i c9 ∧ Hid (Wz (fun _ => False) w0 wr lb plb sb pb (6 * i) i TP p (us1 (rsT i)) [] [] (rsT i) (freeN 64 (62 - 3 * i)) (.slice B9 i c9)) ∧ Hid (∀ j, j < i → ∀ t, t < 3 → p.get (2 + 3 * j + t) = chunk (bsI j) t)) (fun _ v10 _ => 20 - (intOf v10).toNat)
  case atStart =>
    refine ⟨0, TP0, fresh 64, none, 0, rfl, by omega, rfl, hid ⟨HS.out.sub fun k hk => ?_, rfl, Row.nil _ _ _ _⟩, hid fun j hj => by omega⟩
    rcases hk with h | h
    · simp [Value.ownBlock] at h
    · exact h
  case round =>
    clear HS
    obtain ⟨i, TP, p, B9, c9, rfl, hi, rfl, hW, hget⟩ := hrel
    by_cases hlt : i < 20
    · have hmk := fun w' => mk_u8 192 (by decide) w'
      rw [show (((192 : Nat)) : Int) = 192 from rfl] at hmk
      have HW := hid hW.out
      have Hget := hid hget.out
      clear hW hget
      go_upto_region 13 with (fail)
      obtain ⟨W1, hW1⟩ : ∃ W1, W1 = wr.alloc (.cells (madeCells #[.int .u8 0] 192) 5) := ⟨_, rfl⟩
      obtain ⟨gb, hgb⟩ : ∃ gb, gb = wr.heap.size := ⟨_, rfl⟩
      have hz1 := zeros_row 192 (by decide) wr
      have hf1 : Fr Nil wr W1 := by rw [hW1]; exact (Fr.refl _ _).alloc _
      have hgl : gb < W1.heap.size := by rw [hW1, hgb, World.size_alloc]; omega
      rw [← hW1, ← hgb] at hz1
      rw [← hW1, ← hgb]
      have hR1 : Row W1 (fun k => k = gb) 5 1 (.slice (some ⟨gb, 0, none⟩) 192 192) 192 (bys (List.replicate 192 0)) := ⟨hz1.1, fun k hk => by simp [Value.ownBlock] at hk; exact hk.symm⟩
      have q0 : W1.cell? ⟨gb, 0, none⟩ = some (.int .u8 ((0 : Nat) : Int)) := hR1.cell (rep_at (by decide))
      have q1 : W1.cell? ⟨gb, 191, none⟩ = some (.int .u8 ((0 : Nat) : Int)) := hR1.cell (rep_at (by decide))
      have z0 := hR1.frozen 0
      have z1 := hR1.frozen 191
      have hset := ((hR1.store 0 (.int .u8 ((i + 1 : Nat) : Int))).store 191 (.int .u8 ((i + 1 : Nat) : Int)))
      rw [bsI_set] at hset
      have hfs : Fr (fun k => k = gb) W1 ((W1.setCell ⟨gb, 0, none⟩ (.int .u8 ((i + 1 : Nat) : Int))).setCell ⟨gb, 191, none⟩ (.int .u8 ((i + 1 : Nat) : Int))) := ((Fr.refl (fun k => k = gb) W1).setCell (a := ⟨gb, 0, none⟩) (.inl rfl) _).setCell (a := ⟨gb, 191, none⟩) (.inl rfl) _
      have hG9 : (Value.slice B9 i c9).ownBlock ≠ some gb := fun h => by have := HW.out.r9.lt gb h; omega
      have hg0 : w0.heap.size ≤ gb := by have := HW.out.sl.g.fr0.size; omega
      have H1 := HW.out.sl.drop (Q := fun k => ((Value.slice B9 i c9).ownBlock = some k ∨ False) ∨ k = gb) hf1 (fun k hk => hk.imp id fun e => by omega) fun k hk => by
        rcases hk with hk | hk
        · exact Nat.lt_of_lt_of_le (HW.out.sl.tlt k (.inl hk)) hf1.size
        · omega
      have H2 := hid (H1.app (Q := fun k => ((Value.slice B9 i c9).ownBlock = some k ∨ False) ∨ k = gb) hfs (fun k hk => .inr hk) (fun k hk => by rw [hk]; exact hg0) fun k hk => ⟨.inl hk, Nat.lt_of_lt_of_le (H1.tlt k (.inl hk)) hfs.size⟩)
      have HR9 := hid ((HW.out.nil hf1).r9.fr hfs fun k hk h => hG9 (h ▸ hk))
      have Hset := hid hset
      clear hW1 hgb hz1 hf1 hgl hmk hR1 hset H1 hfs
      go_wp2_with fail
      obtain ⟨W2, hW2⟩ : ∃ W2, W2 = ((W1.setCell ⟨gb, 0, none⟩ (.int .u8 ((i + 1 : Nat) : Int))).setCell ⟨gb, 191, none⟩ (.int .u8 ((i + 1 : Nat) : Int))) := ⟨_, rfl⟩
      rw [show (i : Int) + 1 = ((i + 1 : Nat) : Int) from rfl, ← hW2]
      rw [← hW2] at H2 HR9 Hset
      clear hW2 q0 q1 z0 z1
      refine (swrite_next (SD := fun j => j = gb) (left := 62 - 3 * i) H2.out (by decide) (fun j hj => .inr hj) (some ⟨gb, 0, none⟩) 192 192 (bsI i) 3 (by decide) (by omega) (by omega) rfl Hset.out.view (bsM_byt hlt) (by omega) (by decide) (rsT_pos hi)).mono ?_
      rintro e w3 ⟨okb, p', TP', rfl, hS3, hA3, hg3, hok, f3⟩
      obtain rfl : okb = true := hok HW.out.fa
      rw [show (64 : Nat) - (62 - 3 * i) = 2 + 3 * i by omega, show 62 - 3 * i - 3 = 62 - 3 * (i + 1) by omega, ← rsT_succ, show 6 * i + 2 * 3 = 6 * (i + 1) by omega] at hS3
      rw [show (64 : Nat) - (62 - 3 * i) = 2 + 3 * i by omega] at hA3 hg3 ⊢
      have HS3 := hid (hS3.sub (Q := fun k => (Value.slice B9 i c9).ownBlock = some k ∨ False) fun j hj => .inl hj)
      have hfa3 := hA3.fa.trans HW.out.fa
      have HC9 := hid (HR9.out.fr f3 fun j hj hn => hn (.inl (.inl hj)))
      have HG3 := hid (show ∀ j, j < i + 1 → ∀ t, t < 3 → p'.get (2 + 3 * j + t) = chunk (bsI j) t from fun j hj t ht => by
        by_cases h : j = i
        · rw [h]; exact hg3 rfl t ht
        · rw [hA3.get _ (by omega)]; exact Hget.out j (by omega) t ht)
      clear hS3 hA3 hg3 hok f3 H2 HR9 Hset
      simp only [if_true]
      obtain ⟨ax, hax⟩ : ∃ ax, ax = 2 + 3 * i := ⟨_, rfl⟩
      have hxl : (2 : Int) + 3 * (i : Int) = (ax : Int) := by omega
      rw [← hax]
      have Hax := hid hax
      clear hax
      go_upto_region 15 with (fail)
      obtain ⟨w4, hw4⟩ : ∃ w4, w4 = w3.alloc (.cells #[.int .i64 (ax : Nat), .int .i64 3] 39) := ⟨_, rfl⟩
      obtain ⟨xb, hxb⟩ : ∃ xb, xb = w3.heap.size := ⟨_, rfl⟩
      have hb4 : Blk w4 xb #[.int .i64 (ax : Nat), .int .i64 3] 39 := by rw [hw4, hxb]; exact Blk.new _ _ _
      have hf4 : Fr Nil w3 w4 := by rw [hw4]; exact (Fr.refl _ _).alloc _
      rw [← hw4, ← hxb]
      have H4 := hid (HS3.out.nil hf4)
      have HD9 := hid (HC9.out.fr hf4 fun _ _ h => h)
      have b0 : w4.cell? ⟨xb, 0, none⟩ = some (.int .i64 (ax : Nat)) := hb4.cell 0
      have b1 : w4.cell? ⟨xb, 1, none⟩ = some (.int .i64 3) := hb4.cell 1
      have hs04 := H4.out.g.fr0.size
      clear hw4 hxb hf4 hb4 HS3 HC9
      go_wp2_with (at_builtin; refine wp_app_view rfl _ _ 37 rfl (.agg #[.int .i64 0, .int .i64 0]) 16 Tryz.underlying37 info_run rfl (by decide) (HD9.out.alloc _) rfl (View.lit (s := 2) w4 #[.int .i64 (ax : Nat), .int .i64 3] 39 (0, 0) 1 rfl (by decide)) rfl (dbl_cell [⟨ax, 3⟩]) (by omega) (by decide) ?_)
      intro B5 c5 w5 y1 y2 _
      have g5 : Fr (fun k => (Value.slice B9 i c9).ownBlock = some k) w4 w5 := ((Fr.refl _ w4).alloc _).then y2
      have n5 : ∀ k, (Value.slice B5 (i + 1) c5).ownBlock = some k → (Value.slice B9 i c9).ownBlock = some k ∨ w4.heap.size ≤ k := fun k hk => (y1.2 k hk).imp id fun h => by rw [World.size_alloc] at h; omega
      have HX := hid (show Wz (fun _ => False) w0 w5 lb plb sb pb (6 * (i + 1)) (i + 1) TP' p' (us1 (rsT (i + 1))) [] [] (rsT (i + 1)) (freeN 64 (62 - 3 * (i + 1))) (.slice B5 (i + 1) c5) from
        ⟨H4.out.app g5 (fun k hk => .inl hk) (fun k hk => (HD9.out.2 k hk).1) fun k hk => by
          rcases hk with hk | hk
          · exact ⟨(n5 k hk).imp .inl id, y1.lt k hk⟩
          · exact hk.elim,
        hfa3, by
          rw [rsT_succ, dbl_append, ← Hax.out]
          exact ⟨y1.1, fun k hk => ⟨(n5 k hk).elim (fun h => (HD9.out.2 k h).1) fun h => by omega, fun h => h⟩⟩⟩)
      clear y1 y2 g5 n5 H4 HD9 b0 b1
      go_wp2_with fail
      exact ⟨⟨i + 1, TP', p', B5, c5, by go_num, by omega, rfl, HX, HG3⟩, by simp [intOf]; omega⟩
    · obtain rfl : i = 20 := by omega
      clear hi hlt
      go_upto_region 18 with (fail)
      refine Go.wp_region_list ?_
      refine wpList_buildTo rfl 43 #[] rfl (some 74) rfl #[.bool false, .bool false, .bool false, .bool false, .bool false, .bool false, .bool false, .bool false, .bool false, .bool false, .bool false, .bool false, .bool false, .bool false, .bool false, .bool false, .bool false, .bool false, .bool false, .bool false] (by kernel_rfl) ?_
      refine wpList_plain rfl fun K hK => ?_
      go_simp
      refine hK _ _ ?_
      refine wpList_store_rowTo rfl 43 _ _ rfl rfl wr.heap.size #[.bool false, .bool false, .bool false, .bool false, .bool false, .bool false, .bool false, .bool false, .bool false, .bool false, .bool false, .bool false, .bool false, .bool false, .bool false, .bool false, .bool false, .bool false, .bool false, .bool false] rfl rfl 43 #[.bool false, .bool false, .bool false, .bool false, .bool false, .bool false, .bool false, .bool false, .bool false, .bool false, .bool false, .bool false, .bool false, .bool false, .bool false, .bool false, .bool false, .bool false, .bool false, .bool false] (heap_alloc_new _ _) (by kernel_rfl) rfl (by simp [Value.oneCell']) ?_
      rw [World.setRow_alloc_new]
      refine wpList_nil ?_
      obtain ⟨W1, hW1⟩ : ∃ W1, W1 = wr.alloc (.cells #[.bool false, .bool false, .bool false, .bool false, .bool false, .bool false, .bool false, .bool false, .bool false, .bool false, .bool false, .bool false, .bool false, .bool false, .bool false, .bool false, .bool false, .bool false, .bool false, .bool false] 43) := ⟨_, rfl⟩
      obtain ⟨gob, hgo⟩ : ∃ gob, gob = wr.heap.size := ⟨_, rfl⟩
      have hb1 : Blk W1 gob (goneC fun _ => false) 43 := by rw [hW1, hgo]; exact Blk.new _ _ _
      have hf1 : Fr Nil wr W1 := by rw [hW1]; exact (Fr.refl _ _).alloc _
      have hgl : gob < W1.heap.size := hb1.lt
      rw [← hW1, ← hgo]
      have HX1 := hid (show Wz (fun k => k = gob) w0 W1 lb plb sb pb 120 20 TP p (us1 (rsG fun _ => false)) [] [] (rsT 20) (freeN 64 2) (.slice B9 20 c9) from by
        rw [rsG_none]
        exact ⟨hW.out.sl.drop hf1 (fun k hk => hk.imp .inl fun h => by omega) fun k hk => by
          rcases hk with hk | hk
          · exact Nat.lt_of_lt_of_le (hW.out.sl.tlt k (.inl (.inl hk))) hf1.size
          · omega, hW.out.fa, (hW.out.r9.fr hf1 fun _ _ h => h).1, fun k hk => ⟨(hW.out.r9.2 k hk).1, fun h => by have := hW.out.r9.lt k hk; omega⟩⟩)
      have HB1 := hid hb1
      have Hg0 := hid (show w0.heap.size ≤ gob from by have := hW.out.sl.g.fr0.size; omega)
      clear hW1 hgo hb1 hf1 hgl hW
      go_wp2_with fail
      go_loopw [15] (fun v15 wx => ∃ (i : Nat) (G : Nat → Bool) (L : List Us), v15 = .int .i64 i ∧ i ≤ n ∧ Hid (Wz (fun k => k = gob) w0 wx lb plb sb pb 120 20 TP p (us1 (rsG G)) L [] (rsT 20) (freeN 64 2) (.slice B9 20 c9)) ∧ Hid (Blk wx gob (goneC G) 43)) (fun v15 _ => n - (intOf v15).toNat)
      case atStart => exact ⟨0, fun _ => false, [], rfl, by omega, HX1, HB1⟩
      case round =>
        clear HX1 HB1
        obtain ⟨i, G, L, rfl, hi, hW, hB⟩ := hrel
        by_cases hlt : i < n
        · obtain ⟨b, o, rfl, -, hbl, q0⟩ := intAt (Hvw.out.fr hW.out.sl.g.fr0 fun _ _ _ h => h) hlt
          have hz : 0 ≤ ll.getD i 0 ∧ ll.getD i 0 < 256 := bounds_u8 (Hwf.out _ (by
            simp [List.getD, List.getElem?_eq_getElem (show i < ll.length by rw [Hlen.out]; exact hlt)]))
          obtain ⟨z, hz2⟩ : ∃ z : Nat, ll.getD i 0 = z := ⟨(ll.getD i 0).toNat, by omega⟩
          rw [hz2] at q0 hz
          clear hz2
          have hz256 : z < 256 := by omega
          clear hz
          go_upto_region 23 with (fail)
          obtain ⟨q, hq⟩ : ∃ q, q = z % 20 := ⟨_, rfl⟩
          have hq20 : q < 20 := by omega
          rw [show (z : Int) % 20 = ((q : Nat) : Int) by omega]
          obtain ⟨g9, o9, hB9, -, hgl9, a0, -⟩ := rn_at hW.out.r9.view hq20
          subst hB9
          rw [rsT_at hq20] at a0
          dsimp only at a0
          have hu := rsG_uses (G := G) hq20
          have hl := rsG_less (G := G) hq20
          have hb := hB.out.cell q
          rw [goneC_at hq20] at hb
          obtain ⟨ax, hax⟩ : ∃ ax, ax = 2 + 3 * q := ⟨_, rfl⟩
          rw [← hax] at a0 hu hl
          have hax9 : ax ≤ 100 := by omega
          have hqi : (q : Int) < 20 := by omega
          have hd : decide (usesI (us1 (rsG G)) (ax : Nat) ≠ 0) = !G q := by rw [hu]; cases G q <;> rfl
          have HW := hid hW.out
          have HB := hid hB.out
          have Hl := hid hl
          have Hd := hid hd
          have Hgs := hid (goneC_set (G := G) hq20)
          generalize hgq : G q = gq at *
          have hS : (fun w' : World => w'.cell? ⟨g9, o9 + q * 2, none⟩ = some (.int .i64 (ax : Nat)) ∧ w'.cell? ⟨gob, q, none⟩ = some (.bool gq)) wr.drew := ⟨a0, hb⟩
          clear q0 hq hz256 hu hl hd hax hW hB a0 hb hgq
          go_wp2_with fail
          refine wpU_region (k := 10) (S := (fun w' : World => w'.cell? ⟨g9, o9 + q * 2, none⟩ = some (.int .i64 (ax : Nat)) ∧ w'.cell? ⟨gob, q, none⟩ = some (.bool gq))) (by kernel_rfl) ?_
          refine wpU_take (i := 0) (v := ?_) rfl (by kernel_rfl) (by kernel_rfl) (fun _ _ _ h => h) _ _ _ _ (by kernel_rfl) (by kernel_rfl) (by kernel_rfl) (Or.inl ⟨by kernel_rfl, ?_⟩) hS ?_
          rotate_left
          · (intro w9 hS9; obtain ⟨s0, s1⟩ := hS9; go_simp); (try with_reducible rfl)
          try simp only [Act.put, List.getElem_toArray, List.getElem_cons_succ, List.getElem_cons_zero, List.setIfInBounds_toArray, List.set_cons_zero, List.set_cons_succ]
          refine wpU_take (i := 1) (v := ?_) rfl (by kernel_rfl) (by kernel_rfl) (fun _ _ _ h => h) _ _ _ _ (by kernel_rfl) (by kernel_rfl) (by kernel_rfl) (Or.inl ⟨by kernel_rfl, ?_⟩) hS ?_
          rotate_left
          · (intro w9 hS9; obtain ⟨s0, s1⟩ := hS9; go_simp); (try with_reducible rfl)
          try simp only [Act.put, List.getElem_toArray, List.getElem_cons_succ, List.getElem_cons_zero, List.setIfInBounds_toArray, List.set_cons_zero, List.set_cons_succ]
          refine wpU_take (i := 2) (v := ?_) rfl (by kernel_rfl) (by kernel_rfl) (fun _ _ _ h => h) _ _ _ _ (by kernel_rfl) (by kernel_rfl) (by kernel_rfl) (Or.inl ⟨by kernel_rfl, ?_⟩) hS ?_
          rotate_left
          · (intro w9 hS9; obtain ⟨s0, s1⟩ := hS9; go_simp); (try with_reducible rfl)
          try simp only [Act.put, List.getElem_toArray, List.getElem_cons_succ, List.getElem_cons_zero, List.setIfInBounds_toArray, List.set_cons_zero, List.set_cons_succ]
          refine wpU_take (i := 3) (v := ?_) rfl (by kernel_rfl) (by kernel_rfl) (fun _ _ _ h => h) _ _ _ _ (by kernel_rfl) (by kernel_rfl) (by kernel_rfl) (Or.inl ⟨by kernel_rfl, ?_⟩) hS ?_
          rotate_left
          · (intro w9 hS9; obtain ⟨s0, s1⟩ := hS9; go_simp); (try with_reducible rfl)
          try simp only [Act.put, List.getElem_toArray, List.getElem_cons_succ, List.getElem_cons_zero, List.setIfInBounds_toArray, List.set_cons_zero, List.set_cons_succ]
          refine wpU_take (i := 4) (v := ?_) rfl (by kernel_rfl) (by kernel_rfl) (fun _ _ _ h => h) _ _ _ _ (by kernel_rfl) (by kernel_rfl) (by kernel_rfl) (Or.inl ⟨by kernel_rfl, ?_⟩) hS ?_
          rotate_left
          · (intro w9 hS9; obtain ⟨s0, s1⟩ := hS9; go_simp); (try with_reducible rfl)
          try simp only [Act.put, List.getElem_toArray, List.getElem_cons_succ, List.getElem_cons_zero, List.setIfInBounds_toArray, List.set_cons_zero, List.set_cons_succ]
          refine wpU_take (i := 5) (v := ?_) rfl (by kernel_rfl) (by kernel_rfl) (fun _ _ _ h => h) _ _ _ _ (by kernel_rfl) (by kernel_rfl) (by kernel_rfl) (Or.inl ⟨by kernel_rfl, ?_⟩) hS ?_
          rotate_left
          · (intro w9 hS9; obtain ⟨s0, s1⟩ := hS9; go_simp); (try with_reducible rfl)
          try simp only [Act.put, List.getElem_toArray, List.getElem_cons_succ, List.getElem_cons_zero, List.setIfInBounds_toArray, List.set_cons_zero, List.set_cons_succ]
          refine wpU_take (i := 7) (v := ?_) rfl (by kernel_rfl) (by kernel_rfl) (fun _ _ _ h => h) _ _ _ _ (by kernel_rfl) (by kernel_rfl) (by kernel_rfl) (Or.inl ⟨by kernel_rfl, ?_⟩) hS ?_
          rotate_left
          · (intro w9 hS9; obtain ⟨s0, s1⟩ := hS9; go_simp); (try with_reducible rfl)
          try simp only [Act.put, List.getElem_toArray, List.getElem_cons_succ, List.getElem_cons_zero, List.setIfInBounds_toArray, List.set_cons_zero, List.set_cons_succ]
          refine wpU_take (i := 8) (v := ?_) rfl (by kernel_rfl) (by kernel_rfl) (fun _ _ _ h => h) _ _ _ _ (by kernel_rfl) (by kernel_rfl) (by kernel_rfl) (Or.inl ⟨by kernel_rfl, ?_⟩) hS ?_
          rotate_left
          · (intro w9 hS9; obtain ⟨s0, s1⟩ := hS9; go_simp); (try with_reducible rfl)
          try simp only [Act.put, List.getElem_toArray, List.getElem_cons_succ, List.getElem_cons_zero, List.setIfInBounds_toArray, List.set_cons_zero, List.set_cons_succ]
          refine wpU_take (i := 9) (v := ?_) rfl (by kernel_rfl) (by kernel_rfl) (fun _ _ _ h => h) _ _ _ _ (by kernel_rfl) (by kernel_rfl) (by kernel_rfl) (Or.inl ⟨by kernel_rfl, ?_⟩) hS ?_
          rotate_left
          · (intro w9 hS9; obtain ⟨s0, s1⟩ := hS9; go_simp); (try with_reducible rfl)
          try simp only [Act.put, List.getElem_toArray, List.getElem_cons_succ, List.getElem_cons_zero, List.setIfInBounds_toArray, List.set_cons_zero, List.set_cons_succ]

          refine wpU_next (i := 6) rfl (by kernel_rfl) (fun K hK => ?_)
          go_simp
          refine (sg_less (HW.out.sl.g.nil (Fr.refl _ _).drew) (ax : Nat) (wf_i64 (by omega)) (by decide)).mono ?_
          rintro e w4 ⟨rfl, hG4, hf4⟩
          rw [Hl.out] at hG4
          rw [Hd.out]
          have HW4 := hid (show Wz (fun k => k = gob) w0 w4 lb plb sb pb 120 20 TP p (us1 (rsG (goneW G q))) (lessL (us1 (rsG G)) L (ax : Nat)) [] (rsT 20) (freeN 64 2) (.slice (some ⟨g9, o9, none⟩) 20 c9) from
            ⟨(HW.out.sl.nil (Fr.refl _ _).drew).runs hG4 hf4, HW.out.fa, (HW.out.nil (Fr.refl _ _).drew).r9.fr hf4 fun k hk hn => hn (.inl (.inl hk))⟩)
          have HB4 := hid ((Blk.fr (w := wr.drew) HB.out hf4 fun hn => hn (.inl (.inr rfl))))
          have hS4 : (fun w' : World => w'.cell? ⟨g9, o9 + q * 2, none⟩ = some (.int .i64 (ax : Nat)) ∧ w'.cell? ⟨gob, q, none⟩ = some (.bool gq)) w4 := ⟨hf4.cell (w := wr.drew) hS.1 fun hn => hn (.inl (.inl rfl)), hf4.cell (w := wr.drew) hS.2 fun hn => hn (.inl (.inr rfl))⟩
          have hob : w4.cell? ⟨gob, q, none⟩ = some (.bool gq) := hS4.2
          clear hG4 hf4 hS
          refine hK.out _ _ (fun _ => hS4) ?_
          clear hK K
          try simp only [Act.put, List.getElem_toArray, List.getElem_cons_succ, List.getElem_cons_zero, List.setIfInBounds_toArray, List.set_cons_zero, List.set_cons_succ]
          refine wpU_next (i := 10) rfl (by kernel_rfl) (fun K hK => ?_)
          go_simp
          refine hK.out _ _ (fun h => absurd rfl h.1) ?_
          refine wpU_done (by kernel_rfl) ?_ _
          clear hK K
          clear hS4
          have hfz := HB4.out.frozen q
          have hst := HB4.out.set q (.bool true)
          rw [Hgs.out] at hst
          have HB5 := hid hst
          have hfs : Fr (fun k => k = gob) w4 (w4.setCell ⟨gob, q, none⟩ (.bool true)) := (Fr.refl (fun k => k = gob) w4).setCell (a := ⟨gob, q, none⟩) (.inl rfl) _
          have HW5 := hid (show Wz (fun k => k = gob) w0 (w4.setCell ⟨gob, q, none⟩ (.bool true)) lb plb sb pb 120 20 TP p (us1 (rsG (goneW G q))) (lessL (us1 (rsG G)) L (ax : Nat)) [] (rsT 20) (freeN 64 2) (.slice (some ⟨g9, o9, none⟩) 20 c9) from
            ⟨HW4.out.sl.app hfs (fun k hk => .inr hk) (fun k hk => by rw [hk]; exact Hg0.out) fun k hk => ⟨.inl hk, Nat.lt_of_lt_of_le (HW4.out.sl.tlt k (.inl hk)) hfs.size⟩, HW4.out.fa, HW4.out.r9.fr hfs fun k hk h => (HW4.out.r9.2 k hk).2 h⟩)
          clear hst hfs
          go_wp2_with fail

          exact ⟨⟨i + 1, goneW G q, _, by go_num, by omega, HW5, HB5⟩, by simp [intOf]; omega⟩
        · obtain rfl : i = n := by omega
          have HW := hid hW.out
          have HB := hid hB.out
          clear hi hlt hW hB
          go_wp2_with fail
          refine (sg_settle HW.out.sl.g).mono ?_
          rintro e w5 ⟨rfl, hG5, hf5⟩
          have HF := hid (free_is (by have := hG5.inv.r; rwa [List.map_nil, List.append_nil] at this))
          have HWf := hid hG5.inv.r.wf
          have HW5 := hid (show Wz (fun k => k = gob) w0 w5 lb plb sb pb 120 20 TP p (us1 (rsG G)) [] (us1 (rsG G)) [] (givs 64 (freeN 64 2) (lst L)) (.slice B9 20 c9) from
            ⟨HW.out.sl.runs hG5 hf5, HW.out.fa, HW.out.r9.fr hf5 fun k hk hn => hn (.inl (.inl hk))⟩)
          have HB5 := hid (HB.out.fr hf5 fun hn => hn (.inl (.inr rfl)))
          clear hG5 hf5 HW HB
          generalize givs 64 (freeN 64 2) (lst L) = l5 at *
          go_upto_region 28 with (fail)
          obtain ⟨x, hx⟩ : ∃ x, x = 1 + fi % 6 := ⟨_, rfl⟩
          have hx6 : x ≤ 6 := by omega
          have hx1 : 1 ≤ x := by omega
          rw [show (1 : Int) + (fi : Int) % 6 = ((x : Nat) : Int) by omega]
          clear hx
          go_wp2_with fail
          go_loopw [18, 19, 20] (fun v18 v19 v20 wx => ∃ (i r : Nat) (wv : Int), v20 = .int .i64 i ∧ v19 = .int .i64 r ∧ v18 = .int .i64 wv ∧ i ≤ 64 ∧ (wv = -1 ∧ Scan G x i r ∨ ∃ W : Nat, wv = W ∧ i ≤ W + x ∧ W + x ≤ 64 ∧ x = r ∧ (∀ k, W ≤ k → k < W + x → fre G k = true) ∧ ∀ a, a < W → ∃ k, a ≤ k ∧ k < a + x ∧ fre G k = false) ∧ Fr Nil w5 wx) (fun _ _ v20 _ => 64 - (intOf v20).toNat)
          case atStart => exact ⟨2, 0, -1, rfl, rfl, rfl, by omega, .inl ⟨rfl, Scan.start G hx1⟩, Fr.refl _ _⟩
          case round =>
            obtain ⟨i, r, wv, rfl, rfl, rfl, hi, hc, hfx⟩ := hrel
            rcases hc with ⟨rfl, hs⟩ | ⟨W, rfl, hW1, hW2, rfl, hW3, hW4⟩
            · by_cases hlt : i < 64
              · have hs1 := hs.hr
                have hs2 := hs.hn
                obtain ⟨e2, he2⟩ : ∃ e, e = i - 2 := ⟨_, rfl⟩
                obtain ⟨j, hj⟩ : ∃ j, j = e2 / 3 := ⟨_, rfl⟩
                have n1 : (i : Int) - 2 = (e2 : Int) := by omega
                have n2 : (e2 : Int) / 3 = (j : Int) := by omega
                have n3 : Int.tdiv (e2 : Int) 3 = (j : Int) := by rw [Int.tdiv_eq_ediv_of_nonneg (by omega)]; exact n2
                have HSc := hid hs
                have Hj := hid (show j = (i - 2) / 3 by omega)
                have HBx := hid (HB5.out.fr hfx fun h => h)
                have hxr : r + 1 = x ∨ r + 1 ≠ x := by omega
                clear hs he2 hj
                by_cases h62 : 62 ≤ i
                · have hfi := hid (show fre G i = true from by unfold fre; simp; omega)
                  rcases hxr with hxr | hxr
                  · have hxi : (r : Int) + 1 = (x : Int) := by omega
                    obtain ⟨W, hWd⟩ : ∃ W, W = i - r := ⟨_, rfl⟩
                    have hwi : (i : Int) - (x : Int) + 1 = (W : Int) := by omega
                    have HWd := hid hWd
                    have hwr : i + 1 ≤ W + x := by omega
                    have hwx : W + x ≤ 64 := by omega
                    have Hxr := hid hxr
                    clear hxr hWd
                    go_wp2_with fail
                    exact ⟨⟨i + 1, x, W, by go_num, rfl, rfl, by omega, .inr ⟨W, rfl, hwr, hwx, rfl, by rw [HWd.out]; exact (HSc.out.found hfi.out Hxr.out).1, by rw [HWd.out]; exact (HSc.out.found hfi.out Hxr.out).2⟩, hfx⟩, by simp [intOf]; omega⟩
                  · have hxi : ¬ (r : Int) + 1 = (x : Int) := by omega
                    go_wp2_with fail
                    exact ⟨⟨i + 1, r + 1, -1, by go_num, by go_num, rfl, by omega, .inl ⟨rfl, HSc.out.yes hfi.out hxr⟩, hfx⟩, by simp [intOf]; omega⟩
                · have hj20 : j < 20 := by have := Hj.out; omega
                  have hji : (j : Int) < 20 := by omega
                  have hcg := HBx.out.cell j
                  rw [goneC_at hj20] at hcg
                  have hfe : fre G i = G j := by unfold fre; rw [← Hj.out, show decide (2 ≤ i ∧ i < 64) = true from by simp; omega, show decide (62 ≤ i) = false from by simp; omega]; simp
                  cases hG : G j with
                  | true =>
                    have hfi := hid (hfe.trans hG)
                    rw [hG] at hcg
                    clear hfe hG
                    rcases hxr with hxr | hxr
                    · have hxi : (r : Int) + 1 = (x : Int) := by omega
                      obtain ⟨W, hWd⟩ : ∃ W, W = i - r := ⟨_, rfl⟩
                      have hwi : (i : Int) - (x : Int) + 1 = (W : Int) := by omega
                      have HWd := hid hWd
                      have hwr : i + 1 ≤ W + x := by omega
                      have hwx : W + x ≤ 64 := by omega
                      have Hxr := hid hxr
                      clear hxr hWd
                      go_wp2_with fail
                      exact ⟨⟨i + 1, x, W, by go_num, rfl, rfl, by omega, .inr ⟨W, rfl, hwr, hwx, rfl, by rw [HWd.out]; exact (HSc.out.found hfi.out Hxr.out).1, by rw [HWd.out]; exact (HSc.out.found hfi.out Hxr.out).2⟩, hfx⟩, by simp [intOf]; omega⟩
                    · have hxi : ¬ (r : Int) + 1 = (x : Int) := by omega
                      go_wp2_with fail
                      exact ⟨⟨i + 1, r + 1, -1, by go_num, by go_num, rfl, by omega, .inl ⟨rfl, HSc.out.yes hfi.out hxr⟩, hfx⟩, by simp [intOf]; omega⟩
                  | false =>
                    have hfi := hid (hfe.trans hG)
                    rw [hG] at hcg
                    have hx0 : ¬ (0 : Int) = (x : Int) := by omega
                    clear hfe hG hxr
                    go_wp2_with fail
                    exact ⟨⟨i + 1, 0, -1, by go_num, rfl, rfl, by omega, .inl ⟨rfl, HSc.out.not hfi.out⟩, hfx⟩, by simp [intOf]; omega⟩
              · obtain rfl : i = 64 := by omega
                have hno := first_none HWf.out hx1 fun a ha => by
                  obtain ⟨k, k1, k2, k3⟩ := hs.no a ha
                  exact ⟨k, k1, k2, (HF.out k).trans k3⟩
                have Hno := hid hno
                have HW6 := hid (HW5.out.nil hfx)
                have HB6 := hid (HB5.out.fr hfx fun h => h)
                obtain ⟨L, hL⟩ : ∃ L, L = 64 * x := ⟨_, rfl⟩
                have hmul : (x : Int) * 64 = ((L : Nat) : Int) := by omega
                have hL9 : L ≤ 384 := by omega
                have hmk := fun w' => mk_u8 L (by omega) w'
                have HL := hid hL
                clear hL hfx
                clear hs hno
                go_wp2_with fail
                obtain ⟨W1, hW1⟩ : ∃ W1, W1 = wr.alloc (.cells (madeCells #[.int .u8 0] L) 5) := ⟨_, rfl⟩
                have hf1 : Fr Nil wr W1 := by rw [hW1]; exact (Fr.refl _ _).alloc _
                rw [← hW1]
                have HW7 := hid (HW6.out.nil hf1)
                have HB7 := hid (HB6.out.fr hf1 fun h => h)
                clear hW1 hf1 hmk hmul
                refine (swrite_full HW7.out.sl _ L L x hx1 (by omega) HL.out Hno.out).mono ?_
                rintro e w6 ⟨rfl, hS6, f6⟩
                have hf7 : Fr Nil w6 (w6.alloc (.cells #[.int .i64 0, .int .i64 0] 39)) := (Fr.refl _ _).alloc _
                obtain ⟨mT, TPT, pT, UT, LT, HT, AT, lT, hmT, HZ, HK⟩ : ∃ (mT : Nat) (TPT : Nat → Prop) (pT : Pl) (UT LT HT : List Us) (AT lT : List Rn), mT ≤ 200 ∧ Hid (Wz (fun k => k = gob) w0 (w6.alloc (.cells #[.int .i64 0, .int .i64 0] 39)) lb plb sb pb mT 20 TPT pT UT LT HT AT lT (.slice B9 20 c9)) ∧ Hid (∀ k, k < 20 → G k = false → ∀ t, t < 3 → pT.get (2 + 3 * k + t) = chunk (bsI k) t) :=
                  ⟨120, _, _, _, _, _, _, _, by decide, hid ⟨hS6.nil hf7, HW7.out.fa, (HW7.out.r9.fr f6 fun k hk hn => hn (.inl hk)).fr hf7 fun _ _ h => h⟩, hid fun k hk _ t ht => hget.out k hk t ht⟩
                have HBT := hid ((HB7.out.fr f6 fun hn => hn (.inr rfl)).fr hf7 fun h => h)
                clear hS6 f6 hf7 HW7 HB7
                go_wp2_with fail
                go_loopw [23] (fun v23 wx => ∃ (j m' : Nat) (p' : Pl), v23 = .int .i64 j ∧ j ≤ 20 ∧ m' ≤ 200 + 3 * j ∧ Hid (Wz (fun k => k = gob) w0 wx lb plb sb pb m' 20 TPT p' UT LT HT AT lT (.slice B9 20 c9)) ∧ Hid (Blk wx gob (goneC G) 43) ∧ Hid (∀ k, k < 20 → G k = false → ∀ t, t < 3 → p'.get (2 + 3 * k + t) = chunk (bsI k) t)) (fun v23 _ => 20 - (intOf v23).toNat)
                case atStart => exact ⟨0, mT, pT, rfl, by omega, by omega, HZ, HBT, HK⟩
                case round =>
                  clear HZ HBT HK
                  obtain ⟨j, m', p', rfl, hj, hm', hZ, hB, hK⟩ := hrel
                  by_cases hjl : j < 20
                  · obtain ⟨g9, o9, hB9, -, hgl9, a0, a1⟩ := rn_at hZ.out.r9.view hjl
                    subst hB9
                    rw [rsT_at hjl] at a0 a1
                    dsimp only at a0 a1
                    have hgc := hB.out.cell j
                    rw [goneC_at hjl] at hgc
                    obtain ⟨ax, hax⟩ : ∃ ax, ax = 2 + 3 * j := ⟨_, rfl⟩
                    rw [← hax] at a0
                    have hax9 : ax ≤ 59 := by omega
                    have Hax := hid hax
                    have hji : (j : Int) < 20 := by omega
                    have a1' : wr.cell? ⟨g9, o9 + j * 2 + 1, none⟩ = some (.int .i64 3) := a1
                    clear hax a1
                    go_wp2_with fail
                    refine (sread_ok hZ.out.sl ax 3 (by decide) (by omega) (by omega)).mono ?_
                    rintro e w8 ⟨er, k, cb, xs, B, p2, rfl, hrow, hS8, hA8, hcase, hok, hF⟩
                    obtain rfl : er = 0 := hok hZ.out.fa
                    obtain ⟨rfl, rfl⟩ : k = 192 ∧ xs = frm p' ax 3 := by
                      rcases hcase with h | h
                      · exact h.2
                      · exact absurd h.1 (by decide)
                    have HZ8 := hid (show Wz (fun k => k = gob) w0 w8 lb plb sb pb (m' + 3) 20 TPT p2 UT LT HT AT lT (.slice (some ⟨g9, o9, none⟩) 20 c9) from
                      ⟨hS8.sub fun i hi => .inl hi, hA8.fa.trans hZ.out.fa, hZ.out.r9.fr hF fun i hi hT => (hZ.out.sl.q i (.inl hT)).2 (.inl hi)⟩)
                    have HB8 := hid (hB.out.fr hF fun hT => (hZ.out.sl.q gob (.inl hT)).2 (.inr rfl))
                    have HK8 := hid (show ∀ k, k < 20 → G k = false → ∀ t, t < 3 → p2.get (2 + 3 * k + t) = chunk (bsI k) t from fun k hk hG t ht => by rw [hA8.get _ (fun h => h)]; exact hK.out k hk hG t ht)
                    have hgc8 : w8.cell? ⟨gob, j, none⟩ = some (.bool (G j)) := (HB8.out.cell j).trans (goneC_at hjl)
                    have Hrow := hid hrow
                    clear hrow hS8 hA8 hcase hok hF a0 a1' hB hgc
                    cases hG : G j with
                    | true =>
                      rw [hG] at hgc8
                      clear hZ hK
                      go_wp2_with fail
                      exact ⟨⟨j + 1, m' + 3, p2, by go_num, by omega, by omega, HZ8, HB8, HK8⟩, by simp [intOf]; omega⟩
                    | false =>
                      rw [hG] at hgc8
                      have hxs : frm p' ax 3 = bsI j := frm_chunks (bsI_length j) fun t ht => by rw [Hax.out]; exact hK.out j hjl hG t ht
                      have hr8 := Hrow.out
                      rw [hxs] at hr8
                      obtain ⟨gB, cq, hBe, -, -⟩ := hr8.form (by decide)
                      injection hBe with hBe _ hcq
                      subst hBe; subst hcq
                      have e0 : w8.cell? ⟨gB, 0, none⟩ = some (.int .u8 ((j : Int) + 1)) := hr8.cell (bsI_first j)
                      have e1 : w8.cell? ⟨gB, 191, none⟩ = some (.int .u8 ((j : Int) + 1)) := hr8.cell (bsI_last j)
                      clear hxs hr8 hG hZ hK
                      go_wp2_with fail
                      exact ⟨⟨j + 1, m' + 3, p2, by go_num, by omega, by omega, HZ8, HB8, HK8⟩, by simp [intOf]; omega⟩
                  · have HE := hid hZ.out.sl.g.fr0
                    clear hZ hB hK
                    go_wp2
                    go_ret
                    exact ⟨rfl, F0.out.then HE.out⟩
            · have hgt := hid (first_at HWf.out hx1 (fun k k1 k2 => (HF.out k).trans (hW3 k k1 k2)) fun a ha => by
                obtain ⟨k, k1, k2, k3⟩ := hW4 a ha
                exact ⟨k, k1, k2, (HF.out k).trans k3⟩)
              have HWa := hid hW3
              by_cases h64 : i < 64
              · have h65 := h64
                have HW6 := hid (HW5.out.nil hfx)
                have HB6 := hid (HB5.out.fr hfx fun h => h)
                obtain ⟨L, hL⟩ : ∃ L, L = 64 * x := ⟨_, rfl⟩
                have hmul : (x : Int) * 64 = ((L : Nat) : Int) := by omega
                have hL9 : L ≤ 384 := by omega
                have hmk := fun w' => mk_u8 L (by omega) w'
                have HL := hid hL
                clear hL hfx
                clear hW3 hW4 hW1
                go_wp2_with fail
                obtain ⟨W1, hW1⟩ : ∃ W1, W1 = wr.alloc (.cells (madeCells #[.int .u8 0] L) 5) := ⟨_, rfl⟩
                obtain ⟨gb, hgb⟩ : ∃ gb, gb = wr.heap.size := ⟨_, rfl⟩
                have hz1 := zeros_row L (by omega) wr
                have hf1 : Fr Nil wr W1 := by rw [hW1]; exact (Fr.refl _ _).alloc _
                have hgl : gb < W1.heap.size := by rw [hW1, hgb, World.size_alloc]; omega
                rw [← hW1, ← hgb] at hz1
                rw [← hW1, ← hgb]
                have hzv : View W1 (fun k => k = gb) 1 (.slice (some ⟨gb, 0, none⟩) L L) L (bys (List.replicate L 0)) := Row.view ⟨hz1.1, fun k hk => by simp [Value.ownBlock] at hk; exact hk.symm⟩
                have HS7 := hid (HW6.out.sl.drop (Q := fun k => ((Value.slice B9 20 c9).ownBlock = some k ∨ k = gob) ∨ k = gb) hf1 (fun k hk => hk.imp id fun e => by omega) fun k hk => by
                  rcases hk with hk | hk
                  · exact Nat.lt_of_lt_of_le (HW6.out.sl.tlt k (.inl hk)) hf1.size
                  · omega)
                have HW7 := hid (HW6.out.nil hf1)
                have HB7 := hid (HB6.out.fr hf1 fun h => h)
                clear hW1 hgb hz1 hf1 hgl hmk hmul
                refine (swrite_ok (SD := fun k => k = gb) HS7.out (by decide) (fun k hk => .inr hk) (some ⟨gb, 0, none⟩) L L (List.replicate L 0) x hx1 (by omega) HL.out hzv (fun c hc => by rw [(List.mem_replicate.1 hc).2]; decide) (by decide) hgt.out.1).mono ?_
                rintro e w6 ⟨okb, a, p', TP', ha, hab, rfl, hS6, hA6, -, hok, -, f6⟩
                obtain rfl : okb = true := hok HW7.out.fa
                obtain rfl : a = W := ha.trans hgt.out.2
                have hf7 : Fr Nil w6 (w6.alloc (.cells #[.int .i64 (a : Nat), .int .i64 (x : Nat)] 39)) := (Fr.refl _ _).alloc _
                obtain ⟨mT, TPT, pT, UT, LT, HT, AT, lT, hmT, HZ, HK⟩ : ∃ (mT : Nat) (TPT : Nat → Prop) (pT : Pl) (UT LT HT : List Us) (AT lT : List Rn), mT ≤ 200 ∧ Hid (Wz (fun k => k = gob) w0 (w6.alloc (.cells #[.int .i64 (a : Nat), .int .i64 (x : Nat)] 39)) lb plb sb pb mT 20 TPT pT UT LT HT AT lT (.slice B9 20 c9)) ∧ Hid (∀ k, k < 20 → G k = false → ∀ t, t < 3 → pT.get (2 + 3 * k + t) = chunk (bsI k) t) :=
                  ⟨120 + 2 * x, _, _, _, _, _, _, _, by omega, hid ⟨(hS6.sub fun k hk => .inl hk).nil hf7, hA6.fa.trans HW7.out.fa, (HW7.out.r9.fr f6 fun k hk hn => hn (.inl (.inl hk))).fr hf7 fun _ _ h => h⟩, hid fun k hk hG t ht => by
                    rw [hA6.get _ fun h => by
                      have h1 := fre_kept hk hG (j := 2 + 3 * k + t) (by omega) (by omega)
                      rw [HWa.out _ h.1 h.2] at h1
                      exact absurd h1 (by decide)]
                    exact hget.out k hk t ht⟩
                have HBT := hid ((HB7.out.fr f6 fun hn => hn (.inl (.inr rfl))).fr hf7 fun h => h)
                clear hS6 hA6 f6 hf7 HW7 HB7 HS7 hok ha hzv
                simp only [if_true]
                have hwn : ¬ (a : Int) < 0 := by omega
                have hwp : (0 : Int) ≤ (a : Int) := by omega
                go_wp2_with fail
                go_loopw [23] (fun v23 wx => ∃ (j m' : Nat) (p' : Pl), v23 = .int .i64 j ∧ j ≤ 20 ∧ m' ≤ 200 + 3 * j ∧ Hid (Wz (fun k => k = gob) w0 wx lb plb sb pb m' 20 TPT p' UT LT HT AT lT (.slice B9 20 c9)) ∧ Hid (Blk wx gob (goneC G) 43) ∧ Hid (∀ k, k < 20 → G k = false → ∀ t, t < 3 → p'.get (2 + 3 * k + t) = chunk (bsI k) t)) (fun v23 _ => 20 - (intOf v23).toNat)
                case atStart => exact ⟨0, mT, pT, rfl, by omega, by omega, HZ, HBT, HK⟩
                case round =>
                  clear HZ HBT HK
                  obtain ⟨j, m', p', rfl, hj, hm', hZ, hB, hK⟩ := hrel
                  by_cases hjl : j < 20
                  · obtain ⟨g9, o9, hB9, -, hgl9, a0, a1⟩ := rn_at hZ.out.r9.view hjl
                    subst hB9
                    rw [rsT_at hjl] at a0 a1
                    dsimp only at a0 a1
                    have hgc := hB.out.cell j
                    rw [goneC_at hjl] at hgc
                    obtain ⟨ax, hax⟩ : ∃ ax, ax = 2 + 3 * j := ⟨_, rfl⟩
                    rw [← hax] at a0
                    have hax9 : ax ≤ 59 := by omega
                    have Hax := hid hax
                    have hji : (j : Int) < 20 := by omega
                    have a1' : wr.cell? ⟨g9, o9 + j * 2 + 1, none⟩ = some (.int .i64 3) := a1
                    clear hax a1
                    go_wp2_with fail
                    refine (sread_ok hZ.out.sl ax 3 (by decide) (by omega) (by omega)).mono ?_
                    rintro e w8 ⟨er, k, cb, xs, B, p2, rfl, hrow, hS8, hA8, hcase, hok, hF⟩
                    obtain rfl : er = 0 := hok hZ.out.fa
                    obtain ⟨rfl, rfl⟩ : k = 192 ∧ xs = frm p' ax 3 := by
                      rcases hcase with h | h
                      · exact h.2
                      · exact absurd h.1 (by decide)
                    have HZ8 := hid (show Wz (fun k => k = gob) w0 w8 lb plb sb pb (m' + 3) 20 TPT p2 UT LT HT AT lT (.slice (some ⟨g9, o9, none⟩) 20 c9) from
                      ⟨hS8.sub fun i hi => .inl hi, hA8.fa.trans hZ.out.fa, hZ.out.r9.fr hF fun i hi hT => (hZ.out.sl.q i (.inl hT)).2 (.inl hi)⟩)
                    have HB8 := hid (hB.out.fr hF fun hT => (hZ.out.sl.q gob (.inl hT)).2 (.inr rfl))
                    have HK8 := hid (show ∀ k, k < 20 → G k = false → ∀ t, t < 3 → p2.get (2 + 3 * k + t) = chunk (bsI k) t from fun k hk hG t ht => by rw [hA8.get _ (fun h => h)]; exact hK.out k hk hG t ht)
                    have hgc8 : w8.cell? ⟨gob, j, none⟩ = some (.bool (G j)) := (HB8.out.cell j).trans (goneC_at hjl)
                    have Hrow := hid hrow
                    clear hrow hS8 hA8 hcase hok hF a0 a1' hB hgc
                    cases hG : G j with
                    | true =>
                      rw [hG] at hgc8
                      clear hZ hK
                      go_wp2_with fail
                      exact ⟨⟨j + 1, m' + 3, p2, by go_num, by omega, by omega, HZ8, HB8, HK8⟩, by simp [intOf]; omega⟩
                    | false =>
                      rw [hG] at hgc8
                      have hxs : frm p' ax 3 = bsI j := frm_chunks (bsI_length j) fun t ht => by rw [Hax.out]; exact hK.out j hjl hG t ht
                      have hr8 := Hrow.out
                      rw [hxs] at hr8
                      obtain ⟨gB, cq, hBe, -, -⟩ := hr8.form (by decide)
                      injection hBe with hBe _ hcq
                      subst hBe; subst hcq
                      have e0 : w8.cell? ⟨gB, 0, none⟩ = some (.int .u8 ((j : Int) + 1)) := hr8.cell (bsI_first j)
                      have e1 : w8.cell? ⟨gB, 191, none⟩ = some (.int .u8 ((j : Int) + 1)) := hr8.cell (bsI_last j)
                      clear hxs hr8 hG hZ hK
                      go_wp2_with fail
                      exact ⟨⟨j + 1, m' + 3, p2, by go_num, by omega, by omega, HZ8, HB8, HK8⟩, by simp [intOf]; omega⟩
                  · have HE := hid hZ.out.sl.g.fr0
                    clear hZ hB hK
                    go_wp2
                    go_ret
                    exact ⟨rfl, F0.out.then HE.out⟩
              · have h65 := h64
                have HW6 := hid (HW5.out.nil hfx)
                have HB6 := hid (HB5.out.fr hfx fun h => h)
                obtain ⟨L, hL⟩ : ∃ L, L = 64 * x := ⟨_, rfl⟩
                have hmul : (x : Int) * 64 = ((L : Nat) : Int) := by omega
                have hL9 : L ≤ 384 := by omega
                have hmk := fun w' => mk_u8 L (by omega) w'
                have HL := hid hL
                clear hL hfx
                clear hW3 hW4 hW1
                go_wp2_with fail
                obtain ⟨W1, hW1⟩ : ∃ W1, W1 = wr.alloc (.cells (madeCells #[.int .u8 0] L) 5) := ⟨_, rfl⟩
                obtain ⟨gb, hgb⟩ : ∃ gb, gb = wr.heap.size := ⟨_, rfl⟩
                have hz1 := zeros_row L (by omega) wr
                have hf1 : Fr Nil wr W1 := by rw [hW1]; exact (Fr.refl _ _).alloc _
                have hgl : gb < W1.heap.size := by rw [hW1, hgb, World.size_alloc]; omega
                rw [← hW1, ← hgb] at hz1
                rw [← hW1, ← hgb]
                have hzv : View W1 (fun k => k = gb) 1 (.slice (some ⟨gb, 0, none⟩) L L) L (bys (List.replicate L 0)) := Row.view ⟨hz1.1, fun k hk => by simp [Value.ownBlock] at hk; exact hk.symm⟩
                have HS7 := hid (HW6.out.sl.drop (Q := fun k => ((Value.slice B9 20 c9).ownBlock = some k ∨ k = gob) ∨ k = gb) hf1 (fun k hk => hk.imp id fun e => by omega) fun k hk => by
                  rcases hk with hk | hk
                  · exact Nat.lt_of_lt_of_le (HW6.out.sl.tlt k (.inl hk)) hf1.size
                  · omega)
                have HW7 := hid (HW6.out.nil hf1)
                have HB7 := hid (HB6.out.fr hf1 fun h => h)
                clear hW1 hgb hz1 hf1 hgl hmk hmul
                refine (swrite_ok (SD := fun k => k = gb) HS7.out (by decide) (fun k hk => .inr hk) (some ⟨gb, 0, none⟩) L L (List.replicate L 0) x hx1 (by omega) HL.out hzv (fun c hc => by rw [(List.mem_replicate.1 hc).2]; decide) (by decide) hgt.out.1).mono ?_
                rintro e w6 ⟨okb, a, p', TP', ha, hab, rfl, hS6, hA6, -, hok, -, f6⟩
                obtain rfl : okb = true := hok HW7.out.fa
                obtain rfl : a = W := ha.trans hgt.out.2
                have hf7 : Fr Nil w6 (w6.alloc (.cells #[.int .i64 (a : Nat), .int .i64 (x : Nat)] 39)) := (Fr.refl _ _).alloc _
                obtain ⟨mT, TPT, pT, UT, LT, HT, AT, lT, hmT, HZ, HK⟩ : ∃ (mT : Nat) (TPT : Nat → Prop) (pT : Pl) (UT LT HT : List Us) (AT lT : List Rn), mT ≤ 200 ∧ Hid (Wz (fun k => k = gob) w0 (w6.alloc (.cells #[.int .i64 (a : Nat), .int .i64 (x : Nat)] 39)) lb plb sb pb mT 20 TPT pT UT LT HT AT lT (.slice B9 20 c9)) ∧ Hid (∀ k, k < 20 → G k = false → ∀ t, t < 3 → pT.get (2 + 3 * k + t) = chunk (bsI k) t) :=
                  ⟨120 + 2 * x, _, _, _, _, _, _, _, by omega, hid ⟨(hS6.sub fun k hk => .inl hk).nil hf7, hA6.fa.trans HW7.out.fa, (HW7.out.r9.fr f6 fun k hk hn => hn (.inl (.inl hk))).fr hf7 fun _ _ h => h⟩, hid fun k hk hG t ht => by
                    rw [hA6.get _ fun h => by
                      have h1 := fre_kept hk hG (j := 2 + 3 * k + t) (by omega) (by omega)
                      rw [HWa.out _ h.1 h.2] at h1
                      exact absurd h1 (by decide)]
                    exact hget.out k hk t ht⟩
                have HBT := hid ((HB7.out.fr f6 fun hn => hn (.inl (.inr rfl))).fr hf7 fun h => h)
                clear hS6 hA6 f6 hf7 HW7 HB7 HS7 hok ha hzv
                simp only [if_true]
                have hwn : ¬ (a : Int) < 0 := by omega
                have hwp : (0 : Int) ≤ (a : Int) := by omega
                go_wp2_with fail
                go_loopw [23] (fun v23 wx => ∃ (j m' : Nat) (p' : Pl), v23 = .int .i64 j ∧ j ≤ 20 ∧ m' ≤ 200 + 3 * j ∧ Hid (Wz (fun k => k = gob) w0 wx lb plb sb pb m' 20 TPT p' UT LT HT AT lT (.slice B9 20 c9)) ∧ Hid (Blk wx gob (goneC G) 43) ∧ Hid (∀ k, k < 20 → G k = false → ∀ t, t < 3 → p'.get (2 + 3 * k + t) = chunk (bsI k) t)) (fun v23 _ => 20 - (intOf v23).toNat)
                case atStart => exact ⟨0, mT, pT, rfl, by omega, by omega, HZ, HBT, HK⟩
                case round =>
                  clear HZ HBT HK
                  obtain ⟨j, m', p', rfl, hj, hm', hZ, hB, hK⟩ := hrel
                  by_cases hjl : j < 20
                  · obtain ⟨g9, o9, hB9, -, hgl9, a0, a1⟩ := rn_at hZ.out.r9.view hjl
                    subst hB9
                    rw [rsT_at hjl] at a0 a1
                    dsimp only at a0 a1
                    have hgc := hB.out.cell j
                    rw [goneC_at hjl] at hgc
                    obtain ⟨ax, hax⟩ : ∃ ax, ax = 2 + 3 * j := ⟨_, rfl⟩
                    rw [← hax] at a0
                    have hax9 : ax ≤ 59 := by omega
                    have Hax := hid hax
                    have hji : (j : Int) < 20 := by omega
                    have a1' : wr.cell? ⟨g9, o9 + j * 2 + 1, none⟩ = some (.int .i64 3) := a1
                    clear hax a1
                    go_wp2_with fail
                    refine (sread_ok hZ.out.sl ax 3 (by decide) (by omega) (by omega)).mono ?_
                    rintro e w8 ⟨er, k, cb, xs, B, p2, rfl, hrow, hS8, hA8, hcase, hok, hF⟩
                    obtain rfl : er = 0 := hok hZ.out.fa
                    obtain ⟨rfl, rfl⟩ : k = 192 ∧ xs = frm p' ax 3 := by
                      rcases hcase with h | h
                      · exact h.2
                      · exact absurd h.1 (by decide)
                    have HZ8 := hid (show Wz (fun k => k = gob) w0 w8 lb plb sb pb (m' + 3) 20 TPT p2 UT LT HT AT lT (.slice (some ⟨g9, o9, none⟩) 20 c9) from
                      ⟨hS8.sub fun i hi => .inl hi, hA8.fa.trans hZ.out.fa, hZ.out.r9.fr hF fun i hi hT => (hZ.out.sl.q i (.inl hT)).2 (.inl hi)⟩)
                    have HB8 := hid (hB.out.fr hF fun hT => (hZ.out.sl.q gob (.inl hT)).2 (.inr rfl))
                    have HK8 := hid (show ∀ k, k < 20 → G k = false → ∀ t, t < 3 → p2.get (2 + 3 * k + t) = chunk (bsI k) t from fun k hk hG t ht => by rw [hA8.get _ (fun h => h)]; exact hK.out k hk hG t ht)
                    have hgc8 : w8.cell? ⟨gob, j, none⟩ = some (.bool (G j)) := (HB8.out.cell j).trans (goneC_at hjl)
                    have Hrow := hid hrow
                    clear hrow hS8 hA8 hcase hok hF a0 a1' hB hgc
                    cases hG : G j with
                    | true =>
                      rw [hG] at hgc8
                      clear hZ hK
                      go_wp2_with fail
                      exact ⟨⟨j + 1, m' + 3, p2, by go_num, by omega, by omega, HZ8, HB8, HK8⟩, by simp [intOf]; omega⟩
                    | false =>
                      rw [hG] at hgc8
                      have hxs : frm p' ax 3 = bsI j := frm_chunks (bsI_length j) fun t ht => by rw [Hax.out]; exact hK.out j hjl hG t ht
                      have hr8 := Hrow.out
                      rw [hxs] at hr8
                      obtain ⟨gB, cq, hBe, -, -⟩ := hr8.form (by decide)
                      injection hBe with hBe _ hcq
                      subst hBe; subst hcq
                      have e0 : w8.cell? ⟨gB, 0, none⟩ = some (.int .u8 ((j : Int) + 1)) := hr8.cell (bsI_first j)
                      have e1 : w8.cell? ⟨gB, 191, none⟩ = some (.int .u8 ((j : Int) + 1)) := hr8.cell (bsI_last j)
                      clear hxs hr8 hG hZ hK
                      go_wp2_with fail
                      exact ⟨⟨j + 1, m' + 3, p2, by go_num, by omega, by omega, HZ8, HB8, HK8⟩, by simp [intOf]; omega⟩
                  · have HE := hid hZ.out.sl.g.fr0
                    clear hZ hB hK
                    go_wp2
                    go_ret
                    exact ⟨rfl, F0.out.then HE.out⟩
end Go.Proofs.YtgoghmblfdlnbaaGreat
end

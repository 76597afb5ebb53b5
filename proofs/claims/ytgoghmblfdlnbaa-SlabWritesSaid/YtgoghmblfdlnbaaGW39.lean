/- The texts SlX1 of this proof, one behind the other. Conditions: those of each. -/
import Derived.Test.YtgoghmblfdlnbaaGW38
section
/- The law SlabWrites: its walk ends with true and changes nothing that was there. Conditions: the arguments are drawn as the law says. -/
set_option linter.unusedSimpArgs false
set_option linter.unusedVariables false
namespace Go.Proofs.Ytgoghmblfdlnbaa
open Go.RowKit
theorem info_bytes1 : (Try.prog.info? 22).map (fun i => (i.zero, i.size, i.bytes)) = some (some (.slice none 0 0), 1, 24) := by kernel_rfl
def fv (f i k : Nat) : Nat := (f + i + k / 64) % 256
/-- So far m of them filled. -/
def fil (f i k m : Nat) : List Nat := (List.range k).map (fv f i) ++ List.replicate (m - k) 0
theorem fil_zero (f i m : Nat) : fil f i 0 m = List.replicate m 0 := by simp [fil]
theorem fil_all (f i m : Nat) : fil f i m m = (List.range m).map (fv f i) := by simp [fil]
theorem fil_byt (f i k m : Nat) : Byt (fil f i k m) := by
  intro x hx
  rcases List.mem_append.1 hx with h | h
  · obtain ⟨j, _, rfl⟩ := List.mem_map.1 h; exact Nat.mod_lt _ (by decide)
  · rw [(List.mem_replicate.1 h).2]; decide
theorem fil_set {f i k m : Nat} (h : k < m) : (bys (fil f i k m)).set k (.int .u8 (fv f i k : Nat)) = bys (fil f i (k + 1) m) := by
  unfold bys fil
  rw [show (Value.int .u8 (fv f i k : Nat)) = (fun n : Nat => Value.int .u8 (n : Int)) (fv f i k) from rfl, ← List.map_set]
  congr 1
  rw [List.set_append_right _ _ (by simp), List.length_map, List.length_range, Nat.sub_self, show m - k = (m - (k + 1)) + 1 by omega, List.replicate_succ, List.set_cons_zero, List.range_succ, List.map_append]
  simp
theorem fil_cell {f i k m : Nat} (h : k < m) : (bys (fil f i k m))[k]? = some (.int .u8 ((0 : Nat) : Int)) := by
  unfold bys fil
  rw [List.getElem?_map, List.getElem?_append_right (by simp), List.length_map, List.length_range, Nat.sub_self, show m - k = (m - (k + 1)) + 1 by omega, List.replicate_succ]
  rfl
theorem blk_view {w : World} {g n s : Nat} {cs : Array Value} {T : TypeId} (h : Blk w g cs T) (hs : cs.size = n * s) (hn : n ≤ 1000000000000) : View w (fun k => k = g) s (.slice (some ⟨g, 0, none⟩) n n) n cs.toList := by
  refine ⟨by rw [Array.length_toList, hs], _, _, rfl, Nat.le_refl _, by unfold maxLen; omega, fun h => (by cases h), fun ad had _ => (by injection had with had; rw [← had]), fun _ => ⟨g, 0, rfl, rfl, h.lt, fun j u hu => ?_⟩⟩
  rw [Nat.zero_add, h.cell j, ← Array.getElem?_toList]; exact hu
structure Wr (w0 w : World) (lb plb sb pb m left : Nat) (D TP : Nat → Prop) (p : Pl) (rs : List Rn) (fs : List (List Nat)) (vs : List Value) (v9 v10 : Value) : Prop where
  sl : Sl (fun k => D k ∨ v9.ownBlock = some k ∨ v10.ownBlock = some k) TP w0 w lb plb sb pb 96 1000 1 m p (us1 rs) [] [] rs (freeN 96 left)
  fa : p.fa = []
  kp : Kp w0 w D v9 v10 rs fs vs
  d0 : ∀ k, D k → w0.heap.size ≤ k
  ln : fs.length = rs.length
  pos : ∀ r ∈ rs, 1 ≤ r.n ∧ r.a + r.n ≤ 96 - left
  get : ∀ j, j < rs.length → ∀ i, i < (rn rs j).n → p.get ((rn rs j).a + i) = chunk (fs.getD j []) i
  fl : ∀ j, j < rs.length → (fs.getD j []).length = 64 * (rn rs j).n
set_option maxRecDepth 20000 in
set_option maxHeartbeats 2000000 in
theorem slabWrites_ok (A : Option Addr) (n c : Nat) (zs : List Int) (f : Int) (hfw : (Lit.int .u8 f).wf = true) (w : World) (hr : IsRow .u8 w A n c zs) :
    Calls Try.prog 3 #[.slice A n c, .int .u8 f] w fun e w' => e = .returned (.bool true) ∧ Fr Nil w w' := by
  obtain ⟨hv, hlen, hwf⟩ := hr.view
  have hnle := hv.le
  have hfb := bounds_u8 hfw
  obtain ⟨fi, hfi⟩ : ∃ fi : Nat, f = (fi : Nat) := ⟨f.toNat, by omega⟩
  subst hfi
  have hf256 : fi < 256 := by omega
  have Hv := hid hv
  have Hlen := hid hlen
  have Hwf := hid hwf
  clear hv hlen hwf hr hfb hfw
  generalize zs.take n = l at *
  go_enter Try.func3, Try.ntmps3
  go_wp2_with fail
  refine (slawake_ok w).mono ?_
  rintro e w0 ⟨rfl, f0⟩
  have F0 := hid f0; clear f0
  by_cases hn : 60 < n
  · go_wp2
    go_ret
    exact ⟨rfl, F0.out⟩
  go_wp2_with fail
  refine (slawmake_ok 1000 96 1 (by decide) (by decide) (by decide) w0).mono ?_
  rintro e w1 ⟨lb, plb, pb, sb, TP0, rfl, hS, f1⟩
  have HS := hid hS
  have Hvw := hid (Hv.out.fr F0.out fun _ _ _ h => h)
  clear hS Hv
  go_wp2_with fail
  go_loopw [9, 10, 11, 12] (fun v9 v10 v11 v12 wr => ∃ (i left m : Nat) (D TP : Nat → Prop) (p : Pl) (rs : List Rn) (fs : List (List Nat)) (vs : List Value) (B9 B10 : Option Addr) (c9 c10 : Nat), v12 = .int .i64 i ∧ i ≤ n ∧ m ≤ 1000 * i ∧ left ≤ 94 ∧ v11 = .int .i64 left ∧ v9 = .slice B9 rs.length c9 ∧ v10 = .slice B10 rs.length c10 ∧ rs.length ≤ i ∧ Hid (Wr w0 wr lb plb sb pb m left D TP p rs fs vs (.slice B9 rs.length c9) (.slice B10 rs.length c10))) (fun _ _ _ v12 _ => n - (intOf v12).toNat)
  case atStart =>
    refine ⟨0, 94, 0, fun _ => False, TP0, fresh 96, [], [], [], none, none, 0, 0, rfl, by omega, by omega, by omega, rfl, rfl, rfl, by simp, hid ⟨HS.out.sub fun k hk => ?_, rfl, ⟨Row.nil _ _ _ _, Row.nil _ _ _ _, fun j hj => by simp at hj⟩, fun k h => h.elim, rfl, fun r hr => by simp at hr, fun j hj => by simp at hj, fun j hj => by simp at hj⟩⟩
    rcases hk with h | h | h
    · exact h
    · simp [Value.ownBlock] at h
    · simp [Value.ownBlock] at h
  case round =>
    obtain ⟨i, left, m, D, TP, p, rs, fs, vs, B9, B10, c9, c10, rfl, hi, hm, hleft, rfl, rfl, rfl, hrl, hW⟩ := hrel
    by_cases hlt : i < n
    · obtain ⟨b, o, rfl, -, hbl, q0⟩ := intAt (Hvw.out.fr hW.out.sl.g.fr0 fun _ _ _ h => h) hlt
      have hz : 0 ≤ l.getD i 0 ∧ l.getD i 0 < 256 := bounds_u8 (Hwf.out _ (by
        simp [List.getD, List.getElem?_eq_getElem (show i < l.length by rw [Hlen.out]; exact hlt)]))
      obtain ⟨z, hz2⟩ : ∃ z : Nat, l.getD i 0 = z := ⟨(l.getD i 0).toNat, by omega⟩
      rw [hz2] at q0 hz
      clear hz2
      have hz256 : z < 256 := by omega
      clear hz
      go_upto_region 15 with (fail)
      obtain ⟨x, hx⟩ : ∃ x, x = z % 12 := ⟨_, rfl⟩
      have hx12 : x < 12 := by omega
      rw [show (z : Int) % 12 = ((x : Nat) : Int) by omega]
      obtain ⟨L, hL⟩ : ∃ L, L = 64 * x := ⟨_, rfl⟩
      have hmul : (x : Int) * 64 = ((L : Nat) : Int) := by omega
      have hL9 : L ≤ 704 := by omega
      have hmk := fun w' => mk_u8 L (by omega) w'
      have HL := hid hL
      have HW := hid hW.out
      clear hx hL hW q0 hz256
      go_wp2_with fail
      obtain ⟨W1, hW1⟩ : ∃ W1, W1 = wr.alloc (.cells (madeCells #[.int .u8 0] L) 5) := ⟨_, rfl⟩
      obtain ⟨gb, hgb⟩ : ∃ gb, gb = wr.heap.size := ⟨_, rfl⟩
      have hz1 := zeros_row L (by omega) wr
      have hf1 : Fr Nil wr W1 := by rw [hW1]; exact (Fr.refl _ _).alloc _
      have hgl : gb < W1.heap.size := by rw [hW1, hgb, World.size_alloc]; omega
      rw [← hW1, ← hgb] at hz1
      rw [← hW1, ← hgb]
      have H1 := hid (HW.out.sl.drop (Q := fun k => (D k ∨ (Value.slice B9 rs.length c9).ownBlock = some k ∨ (Value.slice B10 rs.length c10).ownBlock = some k) ∨ k = gb) hf1 (fun k hk => hk.imp id fun e => by omega) fun k hk => by
        rcases hk with hk | hk
        · exact Nat.lt_of_lt_of_le (HW.out.sl.tlt k (.inl hk)) hf1.size
        · omega)
      have HG := hid (show ¬ D gb ∧ (Value.slice B9 rs.length c9).ownBlock ≠ some gb ∧ (Value.slice B10 rs.length c10).ownBlock ≠ some gb ∧ w0.heap.size ≤ gb ∧ gb < W1.heap.size from ⟨fun h => by have := HW.out.sl.tlt gb (.inl (.inl h)); omega, fun h => by have := HW.out.kp.r9.lt gb h; omega, fun h => by have := HW.out.kp.r10.lt gb h; omega, by have := HW.out.sl.g.fr0.size; omega, hgl⟩)
      have HK1 := hid (HW.out.kp.nil hf1)
      have hz2 : Row W1 (fun k => k = gb) 5 1 (.slice (some ⟨gb, 0, none⟩) L L) L (bys (fil fi i 0 L)) := by rw [fil_zero]; exact ⟨hz1.1, fun k hk => by simp [Value.ownBlock] at hk; exact hk.symm⟩
      clear hW1 hgb hz1 hf1 hgl hmk hmul
      go_loopw [15] (fun v15 wx => ∃ k : Nat, v15 = .int .i64 k ∧ k ≤ L ∧ Fr (fun k => k = gb) W1 wx ∧ Row wx (fun k => k = gb) 5 1 (.slice (some ⟨gb, 0, none⟩) L L) L (bys (fil fi i k L))) (fun v15 _ => L - (intOf v15).toNat)
      case atStart => exact ⟨0, rfl, by omega, Fr.refl _ _, hz2⟩
      case round =>
        clear hz2
        obtain ⟨k, rfl, hk, hfr, hR⟩ := hrel
        by_cases hkl : k < L
        · have hcell : wr.cell? ⟨gb, k, none⟩ = some (.int .u8 ((0 : Nat) : Int)) := hR.cell (fil_cell hkl)
          have hfz : wr.frozen? ⟨gb, k, none⟩ = false := hR.frozen k
          have hset := hR.store k (.int .u8 (fv fi i k : Nat))
          rw [fil_set hkl] at hset
          have hfs : Fr (fun j => j = gb) W1 (wr.setCell ⟨gb, k, none⟩ (.int .u8 (fv fi i k : Nat))) := hfr.setCell (a := ⟨gb, k, none⟩) (.inl rfl) _
          go_wp2
          rw [show ((fi : Int) + (i : Int) + (k : Int) / 64) % 256 = ((fv fi i k : Nat) : Int) by unfold fv; omega]
          exact ⟨⟨k + 1, by go_num, by omega, hfs, hset⟩, by simp [intOf]; omega⟩
        · have hkL : k = L := by omega
          subst hkL
          have H2 := hid (H1.out.app (Q := fun j => (D j ∨ (Value.slice B9 rs.length c9).ownBlock = some j ∨ (Value.slice B10 rs.length c10).ownBlock = some j) ∨ j = gb) hfr (fun j hj => .inr hj) (fun j hj => by rw [hj]; exact HG.out.2.2.2.1) fun j hj => ⟨.inl hj, Nat.lt_of_lt_of_le (H1.out.tlt j (.inl hj)) hfr.size⟩)
          have HK2 := hid (HK1.out.fr hfr fun j hj h => by
            subst h
            rcases hj with hj | hj | hj
            · exact HG.out.1 hj
            · exact HG.out.2.1 hj
            · exact HG.out.2.2.1 hj)
          have HR2 := hid hR
          have hgl2 := hid (Nat.lt_of_lt_of_le HG.out.2.2.2.2 hfr.size)
          clear hfr hR H1 HK1
          by_cases hx0 : x = 0
          · go_wp2_with fail
            refine (swrite_bad H2.out _ k k (by omega) (.inl (by have := HL.out; omega))).mono ?_
            rintro e w3 ⟨rfl, f3⟩
            have H3 := hid (H2.out.nil f3)
            have HK3 := hid (HK2.out.nil f3)
            clear f3
            subst hx0
            go_wp2_with fail
            refine ⟨⟨i + 1, left, m, D, TP, p, rs, fs, vs, B9, B10, c9, c10, by go_num, by omega, by omega, hleft, rfl, rfl, rfl, by omega, hid ⟨(H3.out.nil ?_).sub fun j hj => .inl hj, HW.out.fa, HK3.out.nil ?_, HW.out.d0, HW.out.ln, HW.out.pos, HW.out.get, HW.out.fl⟩⟩, by simp [intOf]; omega⟩
            all_goals first | exact (Fr.refl _ _).alloc _ | exact Fr.refl _ _
          · by_cases hxl : left < x
            · go_wp2_with fail
              refine (swrite_full H2.out _ k k x (by omega) (by omega) HL.out (freeN_no hxl)).mono ?_
              rintro e w3 ⟨rfl, hS3, f3⟩
              have H3 := hid hS3
              have HK3 := hid (HK2.out.fr f3 fun j hj hn => hn (.inl hj))
              clear hS3 f3
              have hf4 : Fr Nil w3 (w3.alloc (.cells #[.int .i64 0, .int .i64 0] 33)) := (Fr.refl _ _).alloc _
              have H4 := hid (H3.out.nil hf4)
              have HK4 := hid (HK3.out.nil hf4)
              clear hf4
              go_wp2_with fail
              generalize w3.alloc (.cells #[.int .i64 0, .int .i64 0] 33) = w4 at *
              refine (sg_free H4.out.g).mono ?_
              rintro e w5 ⟨rfl, f5⟩
              rw [freeN_sum]
              have H5 := hid (H4.out.nil f5)
              have HK5 := hid (HK4.out.nil f5)
              clear f5
              go_wp2_with fail
              refine ⟨⟨i + 1, left, m, D, TP, p, rs, fs, vs, B9, B10, c9, c10, by go_num, by omega, by omega, hleft, rfl, rfl, rfl, by omega, hid ⟨(H5.out.nil ?_).sub fun j hj => .inl hj, HW.out.fa, HK5.out.nil ?_, HW.out.d0, HW.out.ln, HW.out.pos, HW.out.get, HW.out.fl⟩⟩, by simp [intOf]; omega⟩
              all_goals first | exact (Fr.refl _ _).alloc _ | exact Fr.refl _ _
            · go_wp2_with fail
              refine (swrite_next (SD := fun j => j = gb) H2.out (by decide) (fun j hj => .inr hj) (some ⟨gb, 0, none⟩) k k (fil fi i k k) x (by omega) (by omega) (by omega) HL.out HR2.out.view (fil_byt _ _ _ _) (by omega) (by omega) HW.out.pos).mono ?_
              rintro e w3 ⟨okb, p', TP', rfl, hS3, hA3, hg3, hok, f3⟩
              obtain rfl : okb = true := hok HW.out.fa
              have H3 := hid hS3
              have HA3 := hid hA3
              have HG3 := hid (hg3 rfl)
              have HK3 := hid (HK2.out.fr f3 fun j hj hn => hn (.inl hj))
              have HV3 := hid (HR2.out.view.fr f3 fun j hj _ hn => hn (.inr hj))
              have hgl3 := hid (Nat.lt_of_lt_of_le hgl2.out f3.size)
              clear hS3 hA3 hg3 hok f3
              have hx1 : 96 - (left : Int) = ((96 - left : Nat) : Int) := by omega
              have huse := us1_uses (n := x) HW.out.pos
              go_wp2_with fail
              obtain ⟨w4, hw4⟩ : ∃ w4, w4 = w3.alloc (.cells #[.int .i64 (96 - left : Nat), .int .i64 (x : Nat)] 33) := ⟨_, rfl⟩
              obtain ⟨xb, hxb⟩ : ∃ xb, xb = w3.heap.size := ⟨_, rfl⟩
              have hb4 : Blk w4 xb #[.int .i64 (96 - left : Nat), .int .i64 (x : Nat)] 33 := by rw [hw4, hxb]; exact Blk.new _ _ _
              have hf4 : Fr Nil w3 w4 := by rw [hw4]; exact (Fr.refl _ _).alloc _
              rw [← hw4, ← hxb]
              have H4 := hid (H3.out.nil hf4)
              have HK4 := hid (HK3.out.nil hf4)
              have HV4 := hid (HV3.out.fr hf4 fun _ _ _ h => h)
              have hgl4 := hid (Nat.lt_of_lt_of_le hgl3.out hf4.size)
              have HB4 := hid hb4
              have Hxb := hid (show ∀ j, ((D j ∨ (Value.slice B9 rs.length c9).ownBlock = some j ∨ (Value.slice B10 rs.length c10).ownBlock = some j) ∨ j = gb) → j ≠ xb from fun j hj e => by have := H3.out.tlt j (.inl hj); omega)
              clear hw4 hxb hf4 hb4 H3 HK3 HV3 hgl3
              refine (sg_uses H4.out.g _ (by simp [Lit.wf, IntKind.min, IntKind.max, IntKind.signed, IntKind.bits]; omega)).mono ?_
              rintro e w5 ⟨rfl, rfl⟩
              rw [huse]
              clear huse
              have b0 : w4.cell? ⟨xb, 0, none⟩ = some (.int .i64 (96 - left : Nat)) := HB4.out.cell 0
              have b1 : w4.cell? ⟨xb, 1, none⟩ = some (.int .i64 (x : Nat)) := HB4.out.cell 1
              have hxle : (x : Int) ≤ (left : Int) := by omega
              go_wp2_with fail
              have hS : (fun w' : World => (w'.cell? ⟨xb, 0, none⟩ = some (.int .i64 (96 - left : Nat)) ∧ w'.cell? ⟨xb, 1, none⟩ = some (.int .i64 (x : Nat))) ∧ Fr (fun j => (Value.slice B9 rs.length c9).ownBlock = some j ∨ (Value.slice B10 rs.length c10).ownBlock = some j) w4.drew w') w4.drew := ⟨⟨b0, b1⟩, Fr.refl _ _⟩
              clear b0 b1
              have hE3 : Row w4.drew (fun j => ¬ D j ∧ w0.heap.size ≤ j) 22 1 (.slice B9 rs.length c9) rs.length vs := HK4.out.r9.fr (Fr.refl Nil w4).drew fun _ _ h => h
              have h9l := hid (fun j hj => HK4.out.r9.lt j hj)
              have hxr : ∀ j, (Value.slice B9 rs.length c9).ownBlock = some j → xb ≠ j := fun j hj e => Hxb.out j (.inl (.inr (.inl hj))) e.symm
              have Hxr := hid hxr
              have hrs : rs.length ≤ 60 := by omega
              clear hxr hxle hx1 hf256
              refine wpU_region (k := 9) (S := (fun w' : World => (w'.cell? ⟨xb, 0, none⟩ = some (.int .i64 (96 - left : Nat)) ∧ w'.cell? ⟨xb, 1, none⟩ = some (.int .i64 (x : Nat))) ∧ Fr (fun j => (Value.slice B9 rs.length c9).ownBlock = some j ∨ (Value.slice B10 rs.length c10).ownBlock = some j) w4.drew w')) (by kernel_rfl) ?_
              refine wpU_take (i := 0) (v := ?_) rfl (by kernel_rfl) (by kernel_rfl) (fun _ _ _ h => h) _ _ _ _ (by kernel_rfl) (by kernel_rfl) (by kernel_rfl) (Or.inl ⟨by kernel_rfl, ?_⟩) hS ?_
              rotate_left
              · (intro w9 hS9; obtain ⟨s0, s1⟩ := hS9; go_simp); (try with_reducible rfl)
              try simp only [Act.put, List.getElem_toArray, List.getElem_cons_succ, List.getElem_cons_zero, List.setIfInBounds_toArray, List.set_cons_zero, List.set_cons_succ]
              refine wpU_take (i := 1) (v := ?_) rfl (by kernel_rfl) (by kernel_rfl) (fun _ _ _ h => h) _ _ _ _ (by kernel_rfl) (by kernel_rfl) (by kernel_rfl) (Or.inl ⟨by kernel_rfl, ?_⟩) hS ?_
              rotate_left
              · (intro w9 hS9; obtain ⟨s0, s1⟩ := hS9; go_simp); (try with_reducible rfl)
              try simp only [Act.put, List.getElem_toArray, List.getElem_cons_succ, List.getElem_cons_zero, List.setIfInBounds_toArray, List.set_cons_zero, List.set_cons_succ]
              refine wpU_take (i := 4) (v := ?_) rfl (by kernel_rfl) (by kernel_rfl) (fun _ _ _ h => h) _ _ _ _ (by kernel_rfl) (by kernel_rfl) (by kernel_rfl) (Or.inl ⟨by kernel_rfl, ?_⟩) hS ?_
              rotate_left
              · (intro w9 hS9; obtain ⟨s0, s1⟩ := hS9; go_simp); (try with_reducible rfl)
              try simp only [Act.put, List.getElem_toArray, List.getElem_cons_succ, List.getElem_cons_zero, List.setIfInBounds_toArray, List.set_cons_zero, List.set_cons_succ]
              refine wpU_take (i := 5) (v := ?_) rfl (by kernel_rfl) (by kernel_rfl) (fun _ _ _ h => h) _ _ _ _ (by kernel_rfl) (by kernel_rfl) (by kernel_rfl) (Or.inl ⟨by kernel_rfl, ?_⟩) hS ?_
              rotate_left
              · (intro w9 hS9; obtain ⟨s0, s1⟩ := hS9; go_simp); (try with_reducible rfl)
              try simp only [Act.put, List.getElem_toArray, List.getElem_cons_succ, List.getElem_cons_zero, List.setIfInBounds_toArray, List.set_cons_zero, List.set_cons_succ]
              refine nd.wpU_makers (n := 3) [⟨2, 120, fun _ => True, fun v u => ∃ g, v = .slice (some ⟨g, 0, none⟩) 1 1 ∧ w4.heap.size ≤ g ∧ Blk u g #[.slice (some ⟨gb, 0, none⟩) k k] 22, Nil⟩, ⟨3, 121, fun u => Row u (fun j => ¬ D j ∧ w0.heap.size ≤ j) 22 1 (.slice B9 rs.length c9) rs.length vs, fun v u => ∃ B' c', v = .slice B' (rs.length + 1) c' ∧ Row u (fun j => (Value.slice B9 rs.length c9).ownBlock = some j ∨ w4.heap.size ≤ j) 22 1 (.slice B' (rs.length + 1) c') (rs.length + 1) (vs ++ [.slice (some ⟨gb, 0, none⟩) k k]), fun j => (Value.slice B9 rs.length c9).ownBlock = some j⟩, ⟨6, 124, fun _ => True, fun v u => ∃ g, v = .slice (some ⟨g, 0, none⟩) 1 1 ∧ w4.heap.size ≤ g ∧ Blk u g #[.int .i64 (96 - left : Nat), .int .i64 (x : Nat)] 33, Nil⟩] (by kernel_rfl) (by simp) (by simp) hS (by simp [hE3]) ?_ ?_ ?_
              · refine List.forall_mem_cons.2 ⟨?_, List.forall_mem_cons.2 ⟨?_, List.forall_mem_cons.2 ⟨?_, by simp⟩⟩⟩
                · intro m hm _ u u' _ _ hf
                  simp only [List.mem_cons, List.not_mem_nil, or_false] at hm
                  rcases hm with rfl | rfl | rfl
                  · exact ⟨fun h => h, fun _ ⟨g, h1, h2, h3⟩ => ⟨g, h1, h2, h3.fr hf fun h => h⟩⟩
                  · exact ⟨fun h => h.fr hf fun _ _ h => h, fun _ ⟨B', c', h1, h2⟩ => ⟨B', c', h1, h2.fr hf fun _ _ h => h⟩⟩
                  · exact ⟨fun h => h, fun _ ⟨g, h1, h2, h3⟩ => ⟨g, h1, h2, h3.fr hf fun h => h⟩⟩
                · intro m hm hne u u' _ hE hf
                  simp only [List.mem_cons, List.not_mem_nil, or_false] at hm
                  rcases hm with rfl | rfl | rfl
                  · exact ⟨fun h => h, fun _ ⟨g, h1, h2, h3⟩ => ⟨g, h1, h2, h3.fr hf fun h => by have := h9l.out g h; omega⟩⟩
                  · exact absurd rfl hne
                  · exact ⟨fun h => h, fun _ ⟨g, h1, h2, h3⟩ => ⟨g, h1, h2, h3.fr hf fun h => by have := h9l.out g h; omega⟩⟩
                · intro m hm _ u u' _ _ hf
                  simp only [List.mem_cons, List.not_mem_nil, or_false] at hm
                  rcases hm with rfl | rfl | rfl
                  · exact ⟨fun h => h, fun _ ⟨g, h1, h2, h3⟩ => ⟨g, h1, h2, h3.fr hf fun h => h⟩⟩
                  · exact ⟨fun h => h.fr hf fun _ _ h => h, fun _ ⟨B', c', h1, h2⟩ => ⟨B', c', h1, h2.fr hf fun _ _ h => h⟩⟩
                  · exact ⟨fun h => h, fun _ ⟨g, h1, h2, h3⟩ => ⟨g, h1, h2, h3.fr hf fun h => h⟩⟩
              · refine List.forall_mem_cons.2 ⟨?_, List.forall_mem_cons.2 ⟨?_, List.forall_mem_cons.2 ⟨?_, by simp⟩⟩⟩
                · intro us a' u o ha ho hS2 hE hd9 K hK
                  simp only [nd.puts, Act.put, List.setIfInBounds_toArray, List.set_cons_zero, List.set_cons_succ] at ha
                  subst ha
                  simp only [List.getElem?_toArray, List.getElem?_cons_succ, List.getElem?_cons_zero, Option.some.injEq] at ho
                  subst ho
                  have hsz : w4.heap.size ≤ u.heap.size := hS2.2.size
                  go_simp
                  have hal : Fr Nil u (u.alloc (.cells #[.slice (some ⟨gb, 0, none⟩) k k] 22)) := (Fr.refl _ _).alloc _
                  exact hK.out _ _ ⟨⟨hal.cell hS2.1.1 fun h => h, hal.cell hS2.1.2 fun h => h⟩, hS2.2.thenNil hal⟩ ⟨u.heap.size, rfl, hsz, Blk.new _ _ _⟩ hal
                · intro us a' u o ha ho hS2 hE hd9 K hK
                  simp only [nd.puts, Act.put, List.setIfInBounds_toArray, List.set_cons_zero, List.set_cons_succ] at ha
                  subst ha
                  simp only [List.getElem?_toArray, List.getElem?_cons_succ, List.getElem?_cons_zero, Option.some.injEq] at ho
                  subst ho
                  obtain ⟨g, e1, hg1, hgb⟩ := hd9 ⟨2, 120, fun _ => True, fun v u => ∃ g, v = .slice (some ⟨g, 0, none⟩) 1 1 ∧ w4.heap.size ≤ g ∧ Blk u g #[.slice (some ⟨gb, 0, none⟩) k k] 22, Nil⟩ (by simp) (by kernel_rfl)
                  dsimp only at e1 hE
                  rw [e1]
                  rw [e1] at hK
                  have hsz : w4.heap.size ≤ u.heap.size := hS2.2.size
                  have hvg : View u (fun j => j = g) 1 (.slice (some ⟨g, 0, none⟩) 1 1) 1 [.slice (some ⟨gb, 0, none⟩) k k] := blk_view hgb rfl (by decide)
                  refine step_app_view rfl _ _ 30 (by rfl) (.slice none 0 0) 24 Try.underlying30 info_bytes1 rfl (by decide) hE (by rfl) hvg (by rfl) (by simp [Value.oneCell']) (by omega) (by decide) ?_
                  intro A8 c8 u2 y1 y2
                  exact hK.out _ _ ⟨⟨y2.cell hS2.1.1 fun h => Hxr.out _ h rfl, y2.cell hS2.1.2 fun h => Hxr.out _ h rfl⟩, hS2.2.then (y2.mono fun j hj => .inl hj)⟩ ⟨A8, c8, rfl, y1.mono fun j hj => hj.imp id fun h => by omega⟩ y2
                · intro us a' u o ha ho hS2 hE hd9 K hK
                  simp only [nd.puts, Act.put, List.setIfInBounds_toArray, List.set_cons_zero, List.set_cons_succ] at ha
                  subst ha
                  simp only [List.getElem?_toArray, List.getElem?_cons_succ, List.getElem?_cons_zero, Option.some.injEq] at ho
                  subst ho
                  have hsz : w4.heap.size ≤ u.heap.size := hS2.2.size
                  go_simp
                  have hal : Fr Nil u (u.alloc (.cells #[.int .i64 (96 - left : Nat), .int .i64 (x : Nat)] 33)) := (Fr.refl _ _).alloc _
                  exact hK.out _ _ ⟨⟨hal.cell hS2.1.1 fun h => h, hal.cell hS2.1.2 fun h => h⟩, hS2.2.thenNil hal⟩ ⟨u.heap.size, rfl, hsz, Blk.new _ _ _⟩ hal
              · intro us a' w5 ha hS5 hD hf5
                obtain ⟨B8, c8, e3, r9⟩ := hD ⟨3, 121, fun u => Row u (fun j => ¬ D j ∧ w0.heap.size ≤ j) 22 1 (.slice B9 rs.length c9) rs.length vs, fun v u => ∃ B' c', v = .slice B' (rs.length + 1) c' ∧ Row u (fun j => (Value.slice B9 rs.length c9).ownBlock = some j ∨ w4.heap.size ≤ j) 22 1 (.slice B' (rs.length + 1) c') (rs.length + 1) (vs ++ [.slice (some ⟨gb, 0, none⟩) k k]), fun j => (Value.slice B9 rs.length c9).ownBlock = some j⟩ (by simp)
                obtain ⟨g6, e6, hg6, hb6⟩ := hD ⟨6, 124, fun _ => True, fun v u => ∃ g, v = .slice (some ⟨g, 0, none⟩) 1 1 ∧ w4.heap.size ≤ g ∧ Blk u g #[.int .i64 (96 - left : Nat), .int .i64 (x : Nat)] 33, Nil⟩ (by simp)
                obtain ⟨g2, e2, -, -⟩ := hD ⟨2, 120, fun _ => True, fun v u => ∃ g, v = .slice (some ⟨g, 0, none⟩) 1 1 ∧ w4.heap.size ≤ g ∧ Blk u g #[.slice (some ⟨gb, 0, none⟩) k k] 22, Nil⟩ (by simp)
                simp only [nd.puts, Act.put, List.setIfInBounds_toArray, List.set_cons_zero, List.set_cons_succ] at ha
                subst ha
                dsimp only at e2 e3 e6
                rw [e2, e3, e6]
                have g1 : Fr (fun j => (Value.slice B9 rs.length c9).ownBlock = some j) w4.drew w5 := hf5.mono fun j ⟨m, hm, hz⟩ => by
                  simp only [List.mem_cons, List.not_mem_nil, or_false] at hm
                  rcases hm with rfl | rfl | rfl
                  · exact hz.elim
                  · exact hz
                  · exact hz.elim
                have hr10 := (HK4.out.r10.fr (Fr.refl Nil w4).drew fun _ _ h => h).fr g1 fun j hj h => (HK4.out.r10.2 j hj).2 h
                have hv6 : View w5 (fun j => j = g6) 2 (.slice (some ⟨g6, 0, none⟩) 1 1) 1 (dbl [⟨96 - left, x⟩]) := blk_view hb6 rfl (by decide)
                clear hD hf5 e2 e3 e6 hE3
                refine wpU_next (i := 7) rfl (by kernel_rfl) (fun K hK => ?_)
                refine step_app_view rfl _ _ 31 (by rfl) (.agg #[.int .i64 0, .int .i64 0]) 16 Try.underlying31 info_run rfl (by decide) hr10 (by rfl) hv6 (by rfl) (dbl_cell _) (by omega) (by decide) ?_
                intro B7 c7 w6 q10 g2
                have hxr10 : ∀ j, (Value.slice B10 rs.length c10).ownBlock = some j → xb ≠ j := fun j hj e => Hxb.out j (.inl (.inr (.inr hj))) e.symm
                have hS6 : (fun w' : World => (w'.cell? ⟨xb, 0, none⟩ = some (.int .i64 (96 - left : Nat)) ∧ w'.cell? ⟨xb, 1, none⟩ = some (.int .i64 (x : Nat))) ∧ Fr (fun j => (Value.slice B9 rs.length c9).ownBlock = some j ∨ (Value.slice B10 rs.length c10).ownBlock = some j) w4.drew w') w6 := ⟨⟨g2.cell hS5.1.1 fun h => hxr10 _ h rfl, g2.cell hS5.1.2 fun h => hxr10 _ h rfl⟩, hS5.2.then (g2.mono fun j hj => .inr hj)⟩
                have HKP := hid (HK4.out.nil (Fr.refl Nil w4).drew |>.add (H4.out.g.fr0.size) (fun j hj => H4.out.tlt j (.inl (.inl (.inl hj)))) hgl4.out HG.out.2.1 HG.out.2.2.1 (Fr.refl Nil w4.drew) (r := ⟨96 - left, x⟩) (fb := fil fi i k k) HL.out (HV4.out.fr (Fr.refl Nil w4).drew fun _ _ _ h => h) (fil_byt _ _ _ _) HW.out.ln r9 g1 (Fr.refl Nil w5) q10 g2)
                have HS9 := hid (show Sl (fun j => (D j ∨ j = gb) ∨ (Value.slice B8 (rs.length + 1) c8).ownBlock = some j ∨ (Value.slice B7 (rs.length + 1) c7).ownBlock = some j) TP' w0 w6 lb plb sb pb 96 1000 1 (m + 2 * x) p' (us1 (rs ++ [⟨96 - left, x⟩])) [] [] (rs ++ [⟨96 - left, x⟩]) (freeN 96 (left - x)) from by
                  have h5 := (H4.out.nil (Fr.refl Nil w4).drew).app (Q := fun j => (D j ∨ j = gb) ∨ (Value.slice B8 (rs.length + 1) c8).ownBlock = some j ∨ (Value.slice B10 rs.length c10).ownBlock = some j) g1 (fun j hj => .inl (.inr (.inl hj))) (fun j hj => (HK4.out.r9.2 j hj).2) (fun j hj => by
                    have h4 := fun j hj => Nat.lt_of_lt_of_le (H4.out.tlt j (.inl hj)) g1.size
                    rcases hj with (hj | hj) | hj | hj
                    · exact ⟨.inl (.inl (.inl hj)), h4 j (.inl (.inl hj))⟩
                    · exact ⟨.inl (.inr hj), h4 j (.inr hj)⟩
                    · exact ⟨(r9.2 j hj).imp (fun h => .inl (.inr (.inl h))) id, r9.lt j hj⟩
                    · exact ⟨.inl (.inl (.inr (.inr hj))), h4 j (.inl (.inr (.inr hj)))⟩)
                  refine h5.app g2 (fun j hj => .inr (.inr hj)) (fun j hj => (HK4.out.r10.2 j hj).1.2) (fun j hj => ?_)
                  have h6 := fun j hj => Nat.lt_of_lt_of_le (h5.tlt j (.inl hj)) g2.size
                  rcases hj with hj | hj | hj
                  · exact ⟨.inl (.inl hj), h6 j (.inl hj)⟩
                  · exact ⟨.inl (.inr (.inl hj)), h6 j (.inr (.inl hj))⟩
                  · exact ⟨(q10.2 j hj).imp (fun h => .inr (.inr h)) id, q10.lt j hj⟩)
                have e1 : (rs ++ [(⟨96 - left, x⟩ : Rn)]).length = rs.length + 1 := by simp
                have HWR := hid (show Wr w0 w6 lb plb sb pb (m + 2 * x) (left - x) (fun j => D j ∨ j = gb) TP' p' (rs ++ [⟨96 - left, x⟩]) (fs ++ [fil fi i k k]) (vs ++ [.slice (some ⟨gb, 0, none⟩) k k]) (.slice B8 (rs.length + 1) c8) (.slice B7 (rs.length + 1) c7) from
                  ⟨HS9.out, HA3.out.fa.trans HW.out.fa, HKP.out, fun j hj => by
                    rcases hj with hj | hj
                    · exact HW.out.d0 j hj
                    · rw [hj]; exact HG.out.2.2.2.1,
                  by rw [e1, List.length_append, HW.out.ln]; rfl, pos_add HW.out.pos (by omega) (by omega) (by omega), get_add HW.out.pos HA3.out HW.out.ln HW.out.get HG3.out, fl_add HW.out.ln HW.out.fl (by rw [fil_all, List.length_map, List.length_range]; exact HL.out)⟩)
                rw [← e1] at HWR ⊢
                clear r9 hb6 hg6 hv6 q10 g1 g2 hr10 hS5 hS
                refine hK.out _ _ (fun _ => hS6) ?_
                clear hK K
                try simp only [Act.put, List.getElem_toArray, List.getElem_cons_succ, List.getElem_cons_zero, List.setIfInBounds_toArray, List.set_cons_zero, List.set_cons_succ]
                refine wpU_take (i := 8) (v := ?_) rfl (by kernel_rfl) (by kernel_rfl) (fun _ _ _ h => h) _ _ _ _ (by kernel_rfl) (by kernel_rfl) (by kernel_rfl) (Or.inl ⟨by kernel_rfl, ?_⟩) hS6 ?_
                rotate_left
                · (intro w9 hS9; obtain ⟨s0, s1⟩ := hS9; go_simp); (try with_reducible rfl)
                try simp only [Act.put, List.getElem_toArray, List.getElem_cons_succ, List.getElem_cons_zero, List.setIfInBounds_toArray, List.set_cons_zero, List.set_cons_succ]
                refine wpU_next (i := 9) rfl (by kernel_rfl) (fun K hK => ?_)
                go_simp
                refine hK.out _ _ (fun h => absurd rfl h.1) ?_
                refine wpU_done (by kernel_rfl) ?_ _
                clear hK K
                clear hS6 hxr10
                go_wp2_with fail
                exact ⟨⟨i + 1, left - x, m + 2 * x, _, TP', p', rs ++ [⟨96 - left, x⟩], _, _, B8, B7, c8, c7, by go_num, by omega, by omega, by omega, by rw [show ((left : Int) - (x : Int)) = ((left - x : Nat) : Int) by omega], by rw [e1], by rw [e1], by rw [e1]; omega, HWR⟩, by simp [intOf]; omega⟩
    · have hmm : m ≤ 60000 := by omega
      have hrs : rs.length ≤ 60 := by omega
      obtain rfl : i = n := by omega
      clear hi hm hlt
      go_wp2_with fail
      go_loopw [18] (fun v18 wx => ∃ (j m' : Nat) (p' : Pl), v18 = .int .i64 j ∧ j ≤ rs.length ∧ m' ≤ m + 100 * j ∧ Hid (Wr w0 wx lb plb sb pb m' left D TP p' rs fs vs (.slice B9 rs.length c9) (.slice B10 rs.length c10))) (fun v18 _ => rs.length - (intOf v18).toNat)
      case atStart => exact ⟨0, m, p, rfl, by omega, by omega, hW⟩
      case round =>
        clear hW
        obtain ⟨j, m', p', rfl, hj, hm', hW⟩ := hrel
        by_cases hjl : j < rs.length
        · obtain ⟨g10, o10, hB10, -, hgl10, a0, a1⟩ := rn_at hW.out.kp.r10.view hjl
          subst hB10
          obtain ⟨ax, hax⟩ : ∃ ax, ax = (rn rs j).a := ⟨_, rfl⟩
          obtain ⟨nx, hnx⟩ : ∃ nx, nx = (rn rs j).n := ⟨_, rfl⟩
          have hpx := hW.out.pos _ (rn_mem hjl)
          have hgx := hW.out.get j hjl
          have hfx := hW.out.fl j hjl
          rw [← hax] at a0 hpx hgx
          rw [← hnx] at a1 hpx hgx hfx
          obtain ⟨A7, c7, hv7, -, hby⟩ := hW.out.kp.vd j hjl
          have hfr := frm_chunks hfx hgx
          have HW := hid hW.out
          have Hnx := hid hnx
          rw [← hnx] at hv7
          clear hax hnx hgx hW
          obtain ⟨hpx1, hpx2⟩ := hpx
          go_wp2_with fail
          refine (sread_ok HW.out.sl ax nx hpx1 (by omega) (by omega)).mono ?_
          rintro e w2 ⟨er, k, cb, xs, B, p2, rfl, hrow, hS2, hA2, hcase, hok, hF⟩
          obtain rfl : er = 0 := hok HW.out.fa
          obtain ⟨rfl, rfl⟩ : k = 64 * nx ∧ xs = frm p' ax nx := by
            rcases hcase with h | h
            · exact h.2
            · exact absurd h.1 (by decide)
          rw [hfr] at hrow
          obtain ⟨A7', c7', hv7', hV7, -⟩ := (HW.out.kp.fr hF fun i hi hT => (HW.out.sl.q i (.inl hT)).2 hi).vd j hjl
          rw [← Hnx.out, hv7] at hv7'
          injection hv7' with hv7'
          injection hv7' with e1 _ e2
          subst e1; subst e2
          rw [← Hnx.out] at hV7
          have HKP := hid (HW.out.kp.fr hF fun i hi hT => (HW.out.sl.q i (.inl hT)).2 hi)
          have HWR := hid (show Wr w0 w2.drew lb plb sb pb (m' + nx) left D TP p2 rs fs vs (.slice B9 rs.length c9) (.slice (some ⟨g10, o10, none⟩) rs.length c10) from
            ⟨(hS2.sub fun i hi => .inl hi).nil (Fr.refl Nil w2).drew, hA2.fa.trans HW.out.fa, HKP.out.nil (Fr.refl Nil w2).drew, HW.out.d0, HW.out.ln, HW.out.pos, fun j hj i hi => by rw [hA2.get _ (fun h => h)]; exact HW.out.get j hj i hi, HW.out.fl⟩)
          have d1 := View.str (P := Try.prog) (dst := 9) (w := w2.drew) hrow.view Try.underlying22 Try.underlying5 Try.underlying9
          have d2 := View.str (P := Try.prog) (dst := 9) (w := w2.drew) hV7 Try.underlying22 Try.underlying5 Try.underlying9
          obtain ⟨g9, q9, hB9, -, hgl9⟩ := HKP.out.r9.form (by omega)
          injection hB9 with hB9 _ hq9
          subst hq9
          subst hB9
          have d3 : w2.drew.cell? ⟨g9, j, none⟩ = some (.slice A7 (64 * nx) c7) := HKP.out.r9.cell hv7
          generalize str (fs.getD j []) = sx at *
          obtain ⟨wd, hwd⟩ : ∃ wd, wd = w2.drew := ⟨_, rfl⟩
          have hS : (fun w' : World => (convert 22 9 (.slice B (64 * nx) cb)).run Try.prog w' = .ok (.string sx) w' ∧ (convert 22 9 (.slice A7 (64 * nx) c7)).run Try.prog w' = .ok (.string sx) w' ∧ w'.cell? ⟨g9, j, none⟩ = some (.slice A7 (64 * nx) c7)) w2.drew := ⟨d1, d2, d3⟩
          clear d1 d2 d3 hS2 hA2 hcase hok hF hrow hfr hv7 a0 a1 hfx hV7
          go_wp2_with fail
          refine wpU_region (k := 11) (S := (fun w' : World => (convert 22 9 (.slice B (64 * nx) cb)).run Try.prog w' = .ok (.string sx) w' ∧ (convert 22 9 (.slice A7 (64 * nx) c7)).run Try.prog w' = .ok (.string sx) w' ∧ w'.cell? ⟨g9, j, none⟩ = some (.slice A7 (64 * nx) c7))) (by kernel_rfl) ?_
          refine wpU_take (i := 0) (v := ?_) rfl (by kernel_rfl) (by kernel_rfl) (fun _ _ _ h => h) _ _ _ _ (by kernel_rfl) (by kernel_rfl) (by kernel_rfl) (Or.inl ⟨by kernel_rfl, ?_⟩) hS ?_
          rotate_left
          · (intro w9 hS9; obtain ⟨s0, s1, s2⟩ := hS9; go_simp); (try with_reducible rfl)
          try simp only [Act.put, List.getElem_toArray, List.getElem_cons_succ, List.getElem_cons_zero, List.setIfInBounds_toArray, List.set_cons_zero, List.set_cons_succ]
          refine wpU_take (i := 1) (v := ?_) rfl (by kernel_rfl) (by kernel_rfl) (fun _ _ _ h => h) _ _ _ _ (by kernel_rfl) (by kernel_rfl) (by kernel_rfl) (Or.inl ⟨by kernel_rfl, ?_⟩) hS ?_
          rotate_left
          · (intro w9 hS9; obtain ⟨s0, s1, s2⟩ := hS9; go_simp); (try with_reducible rfl)
          try simp only [Act.put, List.getElem_toArray, List.getElem_cons_succ, List.getElem_cons_zero, List.setIfInBounds_toArray, List.set_cons_zero, List.set_cons_succ]
          refine wpU_take (i := 2) (v := ?_) rfl (by kernel_rfl) (by kernel_rfl) (fun _ _ _ h => h) _ _ _ _ (by kernel_rfl) (by kernel_rfl) (by kernel_rfl) (Or.inl ⟨by kernel_rfl, ?_⟩) hS ?_
          rotate_left
          · (intro w9 hS9; obtain ⟨s0, s1, s2⟩ := hS9; go_simp); (try with_reducible rfl)
          try simp only [Act.put, List.getElem_toArray, List.getElem_cons_succ, List.getElem_cons_zero, List.setIfInBounds_toArray, List.set_cons_zero, List.set_cons_succ]
          refine wpU_take (i := 3) (v := ?_) rfl (by kernel_rfl) (by kernel_rfl) (fun _ _ _ h => h) _ _ _ _ (by kernel_rfl) (by kernel_rfl) (by kernel_rfl) (Or.inl ⟨by kernel_rfl, ?_⟩) hS ?_
          rotate_left
          · (intro w9 hS9; obtain ⟨s0, s1, s2⟩ := hS9; go_simp); (try with_reducible rfl)
          try simp only [Act.put, List.getElem_toArray, List.getElem_cons_succ, List.getElem_cons_zero, List.setIfInBounds_toArray, List.set_cons_zero, List.set_cons_succ]
          refine wpU_take (i := 4) (v := ?_) rfl (by kernel_rfl) (by kernel_rfl) (fun _ _ _ h => h) _ _ _ _ (by kernel_rfl) (by kernel_rfl) (by kernel_rfl) (Or.inl ⟨by kernel_rfl, ?_⟩) hS ?_
          rotate_left
          · (intro w9 hS9; obtain ⟨s0, s1, s2⟩ := hS9; go_simp); (try with_reducible rfl)
          try simp only [Act.put, List.getElem_toArray, List.getElem_cons_succ, List.getElem_cons_zero, List.setIfInBounds_toArray, List.set_cons_zero, List.set_cons_succ]
          refine wpU_take (i := 5) (v := ?_) rfl (by kernel_rfl) (by kernel_rfl) (fun _ _ _ h => h) _ _ _ _ (by kernel_rfl) (by kernel_rfl) (by kernel_rfl) (Or.inl ⟨by kernel_rfl, ?_⟩) hS ?_
          rotate_left
          · (intro w9 hS9; obtain ⟨s0, s1, s2⟩ := hS9; go_simp); (try with_reducible rfl)
          try simp only [Act.put, List.getElem_toArray, List.getElem_cons_succ, List.getElem_cons_zero, List.setIfInBounds_toArray, List.set_cons_zero, List.set_cons_succ]
          refine wpU_take (i := 6) (v := ?_) rfl (by kernel_rfl) (by kernel_rfl) (fun _ _ _ h => h) _ _ _ _ (by kernel_rfl) (by kernel_rfl) (by kernel_rfl) (Or.inl ⟨by kernel_rfl, ?_⟩) hS ?_
          rotate_left
          · (intro w9 hS9; obtain ⟨s0, s1, s2⟩ := hS9; go_simp); (try with_reducible rfl)
          try simp only [Act.put, List.getElem_toArray, List.getElem_cons_succ, List.getElem_cons_zero, List.setIfInBounds_toArray, List.set_cons_zero, List.set_cons_succ]
          refine wpU_take (i := 7) (v := ?_) rfl (by kernel_rfl) (by kernel_rfl) (fun _ _ _ h => h) _ _ _ _ (by kernel_rfl) (by kernel_rfl) (by kernel_rfl) (Or.inl ⟨by kernel_rfl, ?_⟩) hS ?_
          rotate_left
          · (intro w9 hS9; obtain ⟨s0, s1, s2⟩ := hS9; go_simp); (try with_reducible rfl)
          try simp only [Act.put, List.getElem_toArray, List.getElem_cons_succ, List.getElem_cons_zero, List.setIfInBounds_toArray, List.set_cons_zero, List.set_cons_succ]
          refine wpU_take (i := 8) (v := ?_) rfl (by kernel_rfl) (by kernel_rfl) (fun _ _ _ h => h) _ _ _ _ (by kernel_rfl) (by kernel_rfl) (by kernel_rfl) (Or.inl ⟨by kernel_rfl, ?_⟩) hS ?_
          rotate_left
          · (intro w9 hS9; obtain ⟨s0, s1, s2⟩ := hS9; go_simp); (try with_reducible rfl)
          try simp only [Act.put, List.getElem_toArray, List.getElem_cons_succ, List.getElem_cons_zero, List.setIfInBounds_toArray, List.set_cons_zero, List.set_cons_succ]
          refine wpU_take (i := 9) (v := ?_) rfl (by kernel_rfl) (by kernel_rfl) (fun _ _ _ h => h) _ _ _ _ (by kernel_rfl) (by kernel_rfl) (by kernel_rfl) (Or.inl ⟨by kernel_rfl, ?_⟩) hS ?_
          rotate_left
          · (intro w9 hS9; obtain ⟨s0, s1, s2⟩ := hS9; go_simp); (try with_reducible rfl)
          try simp only [Act.put, List.getElem_toArray, List.getElem_cons_succ, List.getElem_cons_zero, List.setIfInBounds_toArray, List.set_cons_zero, List.set_cons_succ]
          refine wpU_take (i := 10) (v := ?_) rfl (by kernel_rfl) (by kernel_rfl) (fun _ _ _ h => h) _ _ _ _ (by kernel_rfl) (by kernel_rfl) (by kernel_rfl) (Or.inl ⟨by kernel_rfl, ?_⟩) hS ?_
          rotate_left
          · (intro w9 hS9; obtain ⟨s0, s1, s2⟩ := hS9; go_simp); (try with_reducible rfl)
          try simp only [Act.put, List.getElem_toArray, List.getElem_cons_succ, List.getElem_cons_zero, List.setIfInBounds_toArray, List.set_cons_zero, List.set_cons_succ]
          refine wpU_next (i := 11) rfl (by kernel_rfl) (fun K hK => ?_)
          go_simp
          refine hK.out _ _ (fun h => absurd rfl h.1) ?_
          refine wpU_done (by kernel_rfl) ?_ _
          clear hK K
          clear hS
          go_wp2_with fail
          exact ⟨⟨j + 1, m' + nx, p2, by go_num, by omega, by omega, HWR⟩, by simp [intOf]; omega⟩
        · obtain rfl : j = rs.length := by omega
          have HS := hid hW.out.sl
          have H0 := hid hW.out.d0
          clear hW hj hjl
          go_wp2_with fail
          refine (sread_bad HS.out 95 2 (by decide) (by decide) (.inr (by decide))).mono ?_
          rintro e w2 ⟨rfl, f2⟩
          have H2 := hid (HS.out.nil f2)
          clear f2 HS
          go_wp2_with fail
          refine (sread_bad H2.out 5 0 (by decide) (by decide) (.inl rfl)).mono ?_
          rintro e w3 ⟨rfl, f3⟩
          have H3 := hid (H2.out.nil f3)
          clear f3 H2
          have hmk := fun w' => mk_u8 65 (by decide) w'
          rw [show (((65 : Nat)) : Int) = 65 from rfl] at hmk
          go_wp2_with fail
          obtain ⟨w4, hw4⟩ : ∃ w4, w4 = w3.alloc (.cells (madeCells #[.int .u8 0] 65) 5) := ⟨_, rfl⟩
          have f4 : Fr Nil w3 w4 := by rw [hw4]; exact (Fr.refl _ _).alloc _
          rw [← hw4]
          have H4 := hid (H3.out.nil f4)
          clear f4 H3 hw4 hmk
          refine (swrite_bad H4.out _ 65 65 (by decide) (.inr (by decide))).mono ?_
          rintro e w5 ⟨rfl, f5⟩
          have H5 := hid (H4.out.nil f5)
          clear f5 H4
          go_wp2_with fail
          have f6 : Fr Nil w5 (w5.alloc (.cells #[.int .i64 0, .int .i64 0] 33)) := (Fr.refl _ _).alloc _
          have H6 := hid (H5.out.nil f6)
          clear f6 H5
          go_wp2_with fail
          generalize w5.alloc (.cells #[.int .i64 0, .int .i64 0] 33) = w6 at *
          refine (sg_back H6.out.g).mono ?_
          rintro e w7 ⟨rfl, hG7, f7⟩
          have H7 := hid (H6.out.runs hG7 f7)
          clear hG7 f7 H6
          have hsum : sumN (givs 96 (freeN 96 left) rs) = 94 := by
            have := H7.out.g.inv.r.sum
            simp only [List.map_nil, List.append_nil, List.sum_nil] at this
            omega
          go_wp2_with fail
          refine (sg_free H7.out.g).mono ?_
          rintro e w8 ⟨rfl, f8⟩
          rw [hsum]
          have H8 := hid (H7.out.nil f8)
          clear f8 H7 hsum
          go_wp2_with fail
          refine (blocks_ok _ plb p' _ H8.out.pl).mono ?_
          rintro e w9 ⟨rfl, rfl⟩
          rw [H8.out.pbl]
          go_wp2
          go_ret
          exact ⟨rfl, F0.out.then H8.out.g.fr0⟩
end Go.Proofs.Ytgoghmblfdlnbaa
end

/- PlatterKeeps: of writes that were not synced just those survive that are kept. -/
import Derived.Test.YtidjmjfoheagmaaPlatA
import Derived.Test.YtidjmjfoheagmaaOpen
import Derived.Deep.Grids
set_option linter.unusedSimpArgs false
set_option linter.unusedVariables false
namespace Go.Proofs.Ytidjmjfoheagmaa
open Go.RowKit

theorem u8_bys : ∀ (l : List Int), (∀ z ∈ l, (Lit.int .u8 z).wf = true) → ints .u8 l = bys (l.map Int.toNat) ∧ Byt (l.map Int.toNat)
  | [], _ => ⟨rfl, by intro c hc; simp at hc⟩
  | z :: l, h => by
    obtain ⟨h1, h2⟩ := u8_bys l fun z hz => h z (List.mem_cons_of_mem _ hz)
    have hz := bounds_u8 (h z (by simp))
    refine ⟨?_, ?_⟩
    · show Value.int .u8 z :: ints .u8 l = Value.int .u8 ((z.toNat : Nat) : Int) :: bys (l.map Int.toNat)
      rw [h1, show ((z.toNat : Nat) : Int) = z by omega]
    · intro c hc
      rcases List.mem_cons.1 hc with rfl | hc
      · omega
      · exact h2 c hc
theorem and7_nat : ∀ a, a < 256 → a &&& 7 = a % 8 := by decide +kernel
theorem and7 (x : Nat) (h : x < 256) : bits .and .u8 (x : Int) 7 = ((x % 8 : Nat) : Int) := by
  rw [u8_and (x : Int) 7 (by omega) (by omega) (by omega) (by omega), show (x : Int).toNat = x by omega, show (7 : Int).toNat = 7 from rfl, and7_nat _ h]

/-- A []bool that came in. -/
theorem open_flags {H : Type} {enc : TypeId × Value → H} {W : World} {base : Nat} {v : Value} {d : DataW H} {p : List MemPlace} (hv : Value.okWide Try.prog W .any base 23 v)
    (h : DataW.Trod enc Try.prog W 0 (fun _ => true) true 23 v d p) : ∃ m ks, View W (fun k => k < W.heap.size) 1 v m (bools ks) := by
  obtain ⟨A, len, cap, rfl⟩ := Go.WideShapes.okWide_slice Try.underlying23 hv
  obtain ⟨fuel, hf⟩ := h
  rcases Go.Deep.open_bools Try.underlying23 Try.underlying4 (by kernel_rfl) hf with ⟨hcs, _⟩ | ⟨a, l, c, B, hcs, _, hl, hm, _, hcell⟩
  · simp [Value.cells] at hcs
    obtain ⟨rfl, rfl, rfl⟩ := hcs
    exact ⟨0, [], View.nil _ _ _⟩
  · simp [Value.cells] at hcs
    obtain ⟨rfl, rfl, rfl⟩ := hcs
    have hsp : 0 < cap → a.spot = none := fun hc => by
      have := hcell 0 hc
      unfold World.cell? at this
      split at this
      · cases hs : a.spot with
        | none => rfl
        | some s => simp [Addr.add, hs] at this
      · cases this
    refine ⟨len, (List.range len).map B, by simp [bools], _, _, rfl, hl, hm, fun h => (by cases h), fun ad had hc => (by injection had with had; rw [← had]; exact hsp hc), fun hn => ?_⟩
    obtain ⟨b, o, sp⟩ := a
    obtain rfl : sp = none := hsp (by omega)
    refine ⟨b, o, rfl, ?_, ?_, fun j u hu => ?_⟩
    · exact World.block_lt_of_cell? W _ (by have := hcell 0 (by omega); rw [Addr.add_lit] at this; exact this)
    · exact World.block_lt_of_cell? W _ (by have := hcell 0 (by omega); rw [Addr.add_lit] at this; exact this)
    · have hj := (List.getElem?_eq_some_iff.1 hu).1
      simp only [bools, List.length_map, List.length_range] at hj
      have := hcell j (by omega)
      rw [Addr.add_lit] at this
      rw [this, ← hu]
      simp [bools, hj]

/-! ### what is written, what is kept -/
def nowA (xs : List Nat) (i k : Nat) : Nat := (List.range i).foldl (fun a j => if xs.getD j 0 % 8 = k then j + 1 else a) 0
def wantA (xs : List Nat) (ks : List Bool) (i k : Nat) : Nat := (List.range i).foldl (fun a j => if xs.getD j 0 % 8 = k ∧ keptOf ks j = true then j + 1 else a) 0
theorem nowA_succ (xs : List Nat) (i k : Nat) : nowA xs (i + 1) k = if xs.getD i 0 % 8 = k then i + 1 else nowA xs i k := by simp [nowA, List.range_succ]
theorem wantA_succ (xs : List Nat) (ks : List Bool) (i k : Nat) : wantA xs ks (i + 1) k = if xs.getD i 0 % 8 = k ∧ keptOf ks i = true then i + 1 else wantA xs ks i k := by simp [wantA, List.range_succ]
theorem nowA_le (xs : List Nat) (i k : Nat) : nowA xs i k ≤ i := by
  induction i with
  | zero => simp [nowA]
  | succ i ih => rw [nowA_succ]; split <;> omega
theorem wantA_le (xs : List Nat) (ks : List Bool) (i k : Nat) : wantA xs ks i k ≤ i := by
  induction i with
  | zero => simp [wantA]
  | succ i ih => rw [wantA_succ]; split <;> omega
def caA (xs : List Nat) (i : Nat) : List (Nat × List Nat) := (List.range i).map fun j => (xs.getD j 0 % 8, rep (j + 1))
theorem caA_succ (xs : List Nat) (i : Nat) : caA xs (i + 1) = caA xs i ++ [(xs.getD i 0 % 8, rep (i + 1))] := by simp [caA, List.range_succ]
theorem caA_len (xs : List Nat) (i : Nat) : (caA xs i).length = i := by simp [caA]
theorem caA_at (xs : List Nat) (n i : Nat) (h : i < n) : (caA xs n)[i]? = some (xs.getD i 0 % 8, rep (i + 1)) := by simp [caA, h]
theorem last_caA (xs : List Nat) (i k : Nat) : lastC (caA xs i) k (rep 0) = rep (nowA xs i k) := by
  induction i with
  | zero => rfl
  | succ i ih =>
    rw [caA_succ, nowA_succ]
    unfold lastC at ih ⊢
    rw [List.foldl_append, ih]
    simp only [List.foldl_cons, List.foldl_nil]
    split <;> rfl
theorem set_caA (xs : List Nat) (ks : List Bool) (n k : Nat) (bl : List (List Nat)) (hbl : bl.length = 64) (hz : ∀ k, k < 8 → bl.getD k [] = rep 0) (hk : k < 8) (i : Nat) (hi : i ≤ n) :
    (setB (caA xs n) (keptOf ks) bl i).getD k [] = rep (wantA xs ks i k) := by
  induction i with
  | zero => exact hz k hk
  | succ i ih =>
    have hl := setB_len (caA xs n) (keptOf ks) bl i
    rw [setB_succ, wantA_succ]
    unfold stepB
    rw [caA_at xs n i (by omega)]
    have ih := ih (by omega)
    have hm : xs.getD i 0 % 8 < 8 := Nat.mod_lt _ (by omega)
    generalize xs.getD i 0 % 8 = m at *
    simp only
    cases hk2 : keptOf ks i with
    | false => simpa using ih
    | true =>
      by_cases hmk : m = k
      · subst hmk
        simp only [if_true, and_self]
        unfold List.getD
        rw [List.getElem?_set, if_pos rfl, if_pos (by omega)]
        rfl
      · simp only [if_true, hmk, false_and, if_false]
        unfold List.getD at ih ⊢
        rw [List.getElem?_set, if_neg hmk]
        exact ih
def arr8 (f : Nat → Nat) : Array Value := #[.int .u8 (f 0 : Int), .int .u8 (f 1 : Int), .int .u8 (f 2 : Int), .int .u8 (f 3 : Int), .int .u8 (f 4 : Int), .int .u8 (f 5 : Int), .int .u8 (f 6 : Int), .int .u8 (f 7 : Int)]
theorem arr8_at (f : Nat → Nat) (k : Nat) (h : k < 8) : (arr8 f)[k]? = some (.int .u8 (f k : Int)) := by
  match k, h with
  | 0, _ => rfl
  | 1, _ => rfl
  | 2, _ => rfl
  | 3, _ => rfl
  | 4, _ => rfl
  | 5, _ => rfl
  | 6, _ => rfl
  | 7, _ => rfl
theorem arr8_set (f : Nat → Nat) (m v : Nat) (h : m < 8) : (arr8 f).setIfInBounds m (.int .u8 (v : Int)) = arr8 fun k => if m = k then v else f k := by
  match m, h with
  | 0, _ => rfl
  | 1, _ => rfl
  | 2, _ => rfl
  | 3, _ => rfl
  | 4, _ => rfl
  | 5, _ => rfl
  | 6, _ => rfl
  | 7, _ => rfl

set_option maxRecDepth 100000 in
set_option maxHeartbeats 8000000 in
theorem keeps_law (A : Option Addr) (n c : Nat) (zs : List Int) (v1 : Value) (w : World) (hr : IsRow .u8 w A n c zs) (hQ : ∃ m ks, View w (fun k => k < w.heap.size) 1 v1 m (bools ks)) :
    Calls Try.prog 3 #[.slice A n c, v1] w fun e w' => e = .returned (.bool true) ∧ Fr Nil w w' := by
  obtain ⟨m, ks, hK⟩ := hQ
  obtain ⟨A1, c1, rfl, hnm⟩ : ∃ A c, v1 = .slice A m c ∧ m ≤ 9223372036854775807 := let ⟨_, A, c, e, _⟩ := hK; ⟨A, c, e, hK.le⟩
  obtain ⟨hv, hlen, hwf⟩ := hr.view
  obtain ⟨he, hB⟩ := u8_bys _ hwf
  rw [he] at hv
  obtain ⟨xs, hxs⟩ : ∃ xs, xs = (zs.take n).map Int.toNat := ⟨_, rfl⟩
  rw [← hxs] at hv hB
  have hxn : xs.length = n := by rw [hxs, List.length_map, hlen]
  clear hxs he hwf hlen hr
  have hnle := hv.le
  go_enter Try.func3, Try.ntmps3
  go_wp2_with fail
  refine (awake_ok w).mono ?_
  rintro e w1 ⟨rfl, hf1⟩
  by_cases hbig : 100 < n
  · go_wp2
    go_ret
    exact ⟨rfl, hf1⟩
  by_cases hbig2 : 200 < m
  · go_wp2
    go_ret
    exact ⟨rfl, hf1⟩
  go_wp2_with fail
  refine (pnew_ok 64 (by omega) (by omega) w1).mono ?_
  rintro e w2 ⟨pb, rfl, hP2, hf2⟩
  have s1 := hf1.size
  have s2 := hf2.size
  have hpb2 := hP2.lt
  obtain ⟨W3, hW3⟩ : ∃ W3, W3 = (w2.alloc (.cells #[.int .u8 0, .int .u8 0, .int .u8 0, .int .u8 0, .int .u8 0, .int .u8 0, .int .u8 0, .int .u8 0] 29)).alloc (.cells #[.int .u8 0, .int .u8 0, .int .u8 0, .int .u8 0, .int .u8 0, .int .u8 0, .int .u8 0, .int .u8 0] 29) := ⟨_, rfl⟩
  have hw3 : Blk W3 w2.heap.size (arr8 fun _ => 0) 29 := by rw [hW3]; exact (Blk.new _ _ _).alloc _
  have hn3 : Blk W3 (w2.heap.size + 1) (arr8 fun _ => 0) 29 := by
    rw [hW3, show w2.heap.size + 1 = (w2.alloc (.cells #[.int .u8 0, .int .u8 0, .int .u8 0, .int .u8 0, .int .u8 0, .int .u8 0, .int .u8 0, .int .u8 0] 29)).heap.size by simp]; exact Blk.new _ _ _
  have hf3 : Fr Nil w2 W3 := by rw [hW3]; exact ((Fr.refl _ _).alloc _).alloc _
  have hs3 : W3.heap.size = w2.heap.size + 2 := by rw [hW3]; simp
  have hP3 : IsP W3 (fun k => w1.heap.size ≤ k ∧ k ≠ w2.heap.size ∧ k ≠ w2.heap.size + 1) pb (fresh 64) := (hP2.bd.fr hf3 fun _ _ h => h).mono fun k hk => ⟨hk.1, by have := hk.2; omega, by have := hk.2; omega⟩
  have hF3 : Fr Nil w W3 := (hf1.then hf2).then hf3
  have l0 : (fresh 64).bl.length = 64 := by simp [fresh]
  have z0 : ∀ k, k < 8 → (fresh 64).bl.getD k [] = rep 0 := by
    intro k hk
    rw [rep_eq]
    simp only [fresh, List.getD, List.getElem?_replicate]
    rw [if_pos (by omega)]
    rfl
  have k0 := okm_fresh 64 (by omega)
  have a0 : (fresh 64).fa = [] ∧ (fresh 64).ca = [] := ⟨rfl, rfl⟩
  generalize fresh 64 = p0 at *
  go_wp2_with fail
  rw [← hW3]
  clear hW3 hP2
  go_loopw [9] (fun v9 wr => ∃ (i : Nat) (p : Pl), v9 = .int .i64 i ∧ i ≤ n ∧ Fr (fun k => w1.heap.size ≤ k) W3 wr ∧ IsP wr (fun k => w1.heap.size ≤ k ∧ k ≠ w2.heap.size ∧ k ≠ w2.heap.size + 1) pb p ∧ p.okm (2 * i) ∧ p.fa = [] ∧ p.bl = p0.bl ∧ p.ca = caA xs i ∧
      Blk wr w2.heap.size (arr8 (wantA xs ks i)) 29 ∧ Blk wr (w2.heap.size + 1) (arr8 (nowA xs i)) 29) (fun v9 _ => n - (intOf v9).toNat)
  case atStart => exact ⟨0, p0, rfl, by omega, Fr.refl _ _, hP3, k0, a0.1, rfl, a0.2, hw3, hn3⟩
  case round =>
    obtain ⟨i, p, rfl, hi, hfr, hPr, hok, hfa, hbl, hca, hwr, hnr⟩ := hrel
    have sr := hfr.size
    have hvr := (hv.fr hF3 fun _ _ _ h => h).fr hfr (fun k hk _ h => by omega)
    have hKr := (hK.fr hF3 fun _ _ _ h => h).fr hfr (fun k hk _ h => by omega)
    have Hok := hid hok; have Hfa := hid hfa; have Hbl := hid hbl; have Hca := hid hca
    clear hok hfa hbl hca
    by_cases hlt : i < n
    · obtain ⟨_, A', c', hA, e1, e2, e3, e4, e5⟩ := hvr
      injection hA with hA1 _ hA2
      subst hA1; subst hA2
      obtain ⟨b, o, rfl, hb5, hb6, h5⟩ := e5 (by omega)
      have hxi : i < xs.length := by omega
      have hcell : wr.cell? ⟨b, o + i, none⟩ = some (.int .u8 ((xs[i] : Nat) : Int)) := h5 i _ (by simp [bys, List.getElem?_eq_getElem hxi])
      have hxb : xs[i] < 256 := hB _ (List.getElem_mem hxi)
      have hgd : Hid (xs.getD i 0 = xs[i]) := hid (by simp [List.getD, List.getElem?_eq_getElem hxi])
      have hand := and7 xs[i] hxb
      generalize xs[i] = x at *
      clear h5 e5 e4 e3
      have hm8 : x % 8 < 8 := Nat.mod_lt _ (by omega)
      have hm64 : x % 8 < 64 := by omega
      have hgm : Hid (xs.getD i 0 % 8 = x % 8) := hid (by rw [hgd.out])
      generalize x % 8 = mm at *
      go_wp2_with fail
      refine (full_rep (i + 1) wr).mono ?_
      rintro e w4 ⟨g4, rfl, hR4, hf4⟩
      go_wp2_with fail
      refine (write_ok (fun k => (w1.heap.size ≤ k ∧ k ≠ w2.heap.size ∧ k ≠ w2.heap.size + 1) ∧ k < wr.heap.size) (New wr) pb p mm _ _ w4 (hPr.bd.fr hf4 fun _ _ h => h) (Hok.out.ok (by omega)) (not_bad Hfa.out _) (by rw [Hbl.out, l0]; exact hm64) hR4.view (byt_full (by omega)) (fun k hk h => by have : wr.heap.size ≤ k := hk; omega)).mono ?_
      rintro e w5 ⟨rfl, hP5, hf5⟩
      have s4 := hf4.size
      have s5 := hf5.size
      have hP5' : IsP w5 (fun k => w1.heap.size ≤ k ∧ k ≠ w2.heap.size ∧ k ≠ w2.heap.size + 1) pb ((p.ask 2).put mm (rep (i + 1))) := hP5.mono fun k hk => hk.elim (fun h => h.1) (fun h => ⟨by omega, by omega, by omega⟩)
      have hw5 := (hwr.fr hf4 fun h => h).fr hf5 (fun h => by omega)
      have hn5 := (hnr.fr hf4 fun h => h).fr hf5 (fun h => by omega)
      have hfr5 : Fr (fun k => w1.heap.size ≤ k) W3 w5 := (hfr.then hf4.nil).then (hf5.mono fun k hk => hk.1.1)
      have cn5 : w5.cell? ⟨w2.heap.size + 1, mm, none⟩ = some (.int .u8 (nowA xs i mm : Int)) := (hn5.cell mm).trans (arr8_at _ _ hm8)
      have zn5 : w5.frozen? ⟨w2.heap.size + 1, mm, none⟩ = false := hn5.frozen mm
      have hf6 : Fr (fun k => k = w2.heap.size + 1) w5 (w5.setCell ⟨w2.heap.size + 1, mm, none⟩ (.int .u8 ((i : Int) + 1))) := (Fr.refl (fun k => k = w2.heap.size + 1) w5).setCell (a := ⟨w2.heap.size + 1, mm, none⟩) (.inl rfl) _
      obtain ⟨w6, hw6⟩ : ∃ w6, w6 = w5.setCell ⟨w2.heap.size + 1, mm, none⟩ (.int .u8 ((i : Int) + 1)) := ⟨_, rfl⟩
      rw [← hw6] at hf6
      have hn6 : Blk w6 (w2.heap.size + 1) (arr8 (nowA xs (i + 1))) 29 := by
        have := hn5.set mm (.int .u8 ((i + 1 : Nat) : Int))
        rw [arr8_set _ _ _ hm8, show (((i + 1 : Nat) : Int)) = (i : Int) + 1 by simp, ← hw6] at this
        have e9 : (fun k => if mm = k then i + 1 else nowA xs i k) = nowA xs (i + 1) := by funext k; rw [nowA_succ, hgm.out]
        rw [e9] at this
        exact this
      have hwk6 : Blk w6 w2.heap.size (arr8 (wantA xs ks i)) 29 := hw5.fr hf6 (fun h => by omega)
      have hP6 := hP5'.fr hf6 (fun k hk (e : k = w2.heap.size + 1) => hk.2.2 e)
      have hfr6 : Fr (fun k => w1.heap.size ≤ k) W3 w6 := hfr5.trans hf6 (fun k hk => .inl (by omega))
      have cw6 : w6.cell? ⟨w2.heap.size, mm, none⟩ = some (.int .u8 (wantA xs ks i mm : Int)) := (hwk6.cell mm).trans (arr8_at _ _ hm8)
      have zw6 : w6.frozen? ⟨w2.heap.size, mm, none⟩ = false := hwk6.frozen mm
      have hK6 := ((hKr.fr hf4 fun _ _ _ h => h).fr hf5 (fun k hk _ h => by omega)).fr hf6 (fun k hk _ (h : k = w2.heap.size + 1) => by omega)
      have hko := (Hok.out.ask 2).put (n := mm) (rep (i + 1)) (by show mm < p.bl.length; rw [Hbl.out, l0]; exact hm64)
      have hca' : Hid (((p.ask 2).put mm (rep (i + 1))).ca = caA xs (i + 1)) := hid (by show p.ca ++ [(mm, rep (i + 1))] = _; rw [Hca.out, caA_succ, hgm.out])
      have hmid : Hid (mm < 8) := hid hm8
      have hkl : ks.length = m := by have := hK.length; simpa [bools] using this
      have hN : Hid (keptOf ks i = false → wantA xs ks (i + 1) = wantA xs ks i) := hid (fun h => by funext k; rw [wantA_succ, h]; simp)
      have hY : Hid (keptOf ks i = true → (fun k => if mm = k then i + 1 else wantA xs ks i k) = wantA xs ks (i + 1)) := hid (fun h => by funext k; rw [wantA_succ, h, hgm.out]; simp)
      have Hkl := hid hkl; clear hkl
      by_cases him : i < m
      · obtain ⟨_, A', c', hA, -, -, -, -, h9⟩ := hK6
        injection hA with hA1 _ hA2
        subst hA1; subst hA2
        obtain ⟨bk, ok, rfl, -, -, h9⟩ := h9 (by omega)
        have hik : i < ks.length := by rw [Hkl.out]; exact him
        have ck : w6.cell? ⟨bk, ok + i, none⟩ = some (.bool ks[i]) := h9 i _ (by simp [bools, List.getElem?_eq_getElem hik])
        have hkv : Hid (keptOf ks i = ks[i]) := hid (by simp [keptOf, List.getD, List.getElem?_eq_getElem hik])
        generalize ks[i] = kb at *
        clear h9
        cases kb with
        | false =>
          rw [hw6] at ck
          go_wp2
          go_roundw
          case rel =>
            refine ⟨i + 1, (p.ask 2).put mm (rep (i + 1)), by go_num, by omega, ?_⟩
            rw [← hw6]
            exact ⟨hfr6, hP6, hko.mono (by omega), Hfa.out, Hbl.out, hca'.out, by rw [hN.out hkv.out]; exact hwk6, hn6⟩
          case measure => simp [intOf]; omega
        | true =>
          rw [hw6] at ck cw6 zw6
          obtain ⟨w7, hw7⟩ : ∃ w7, w7 = w6.setCell ⟨w2.heap.size, mm, none⟩ (.int .u8 ((i : Int) + 1)) := ⟨_, rfl⟩
          have hf7 : Fr (fun k => k = w2.heap.size) w6 w7 := by rw [hw7]; exact (Fr.refl (fun k => k = w2.heap.size) w6).setCell (a := ⟨w2.heap.size, mm, none⟩) (.inl rfl) _
          have hwk7 : Blk w7 w2.heap.size (arr8 (wantA xs ks (i + 1))) 29 := by
            have := hwk6.set mm (.int .u8 ((i + 1 : Nat) : Int))
            rw [arr8_set _ _ _ hm8, show (((i + 1 : Nat) : Int)) = (i : Int) + 1 by simp, ← hw7, hY.out hkv.out] at this
            exact this
          have hn7 := hn6.fr hf7 (fun h => by omega)
          have hP7 := hP6.fr hf7 (fun k hk (e : k = w2.heap.size) => hk.2.1 e)
          have hfr7 : Fr (fun k => w1.heap.size ≤ k) W3 w7 := hfr6.trans hf7 (fun k hk => .inl (by omega))
          go_wp2
          go_roundw
          case rel =>
            refine ⟨i + 1, (p.ask 2).put mm (rep (i + 1)), by go_num, by omega, ?_⟩
            rw [← hw6, ← hw7]
            exact ⟨hfr7, hP7, hko.mono (by omega), Hfa.out, Hbl.out, hca'.out, hwk7, hn7⟩
          case measure => simp [intOf]; omega
      · have hkv : Hid (keptOf ks i = false) := hid (by simp [keptOf, List.getD, List.getElem?_eq_none (show ks.length ≤ i by rw [Hkl.out]; omega)])
        go_wp2
        go_roundw
        case rel =>
          refine ⟨i + 1, (p.ask 2).put mm (rep (i + 1)), by go_num, by omega, ?_⟩
          rw [← hw6]
          exact ⟨hfr6, hP6, hko.mono (by omega), Hfa.out, Hbl.out, hca'.out, by rw [hN.out hkv.out]; exact hwk6, hn6⟩
        case measure => simp [intOf]; omega
    · have hin : i = n := by omega
      subst hin
      go_wp2_with fail
      go_loopw [11] (fun v11 wq => ∃ (j : Nat) (q : Pl), v11 = .int .i64 j ∧ j ≤ 8 ∧ Fr (fun k => w1.heap.size ≤ k) W3 wq ∧ IsP wq (fun k => w1.heap.size ≤ k ∧ k ≠ w2.heap.size ∧ k ≠ w2.heap.size + 1) pb q ∧ q.okm (300 + j) ∧ q.fa = [] ∧ q.bl = p0.bl ∧ q.ca = caA xs i ∧
        Blk wq w2.heap.size (arr8 (wantA xs ks i)) 29 ∧ Blk wq (w2.heap.size + 1) (arr8 (nowA xs i)) 29) (fun v11 _ => 8 - (intOf v11).toNat)
      case atStart => exact ⟨0, p, rfl, by omega, hfr, hPr, Hok.out.mono (by omega), Hfa.out, Hbl.out, Hca.out, hwr, hnr⟩
      case round =>
        clear hfr hPr Hok Hfa Hbl Hca hwr hnr hvr hKr
        obtain ⟨j, q, rfl, hj, hfr, hPr, hok, hfa, hbl, hca, hwr, hnr⟩ := hrel
        have sr := hfr.size
        have Hok := hid hok; have Hfa := hid hfa; have Hbl := hid hbl; have Hca := hid hca
        clear hok hfa hbl hca
        by_cases hjl : j < 8
        · have hget : q.get j = rep (nowA xs i j) := by
            unfold Pl.get
            rw [Hca.out, Hbl.out, z0 j hjl, last_caA]
          have Hget := hid hget; clear hget
          have hj0 : (0 : Int) ≤ (j : Int) := by omega
          have hj8 : (j : Int) < 8 := by omega
          go_wp2_with fail
          refine (read_ok _ pb q j _ hPr (Hok.out.ok (by omega)) (not_bad Hfa.out _) (by rw [Hbl.out, l0]; omega)).mono ?_
          rintro e w5 ⟨A5, c5, rfl, hR5, -, -, hP5, hf5⟩
          rw [Hget.out] at hR5
          have hX5 := hR5.view
          have hw5 := hwr.fr hf5 (fun h => by omega)
          have hn5 := hnr.fr hf5 (fun h => by omega)
          have cj5 : w5.cell? ⟨w2.heap.size + 1, j, none⟩ = some (.int .u8 ((nowA xs i j : Nat) : Int)) := (hn5.cell j).trans (arr8_at _ _ hjl)
          have hfr5 : Fr (fun k => w1.heap.size ≤ k) W3 w5 := hfr.then (hf5.mono fun k hk => hk.1)
          clear hR5
          have hS : ((convert 22 9 (.slice A5 64 c5)).run Try.prog w5.drew = .ok (.string (str (rep (nowA xs i j)))) w5.drew) ∧ w5.drew.cell? ⟨w2.heap.size + 1, j, none⟩ = some (.int .u8 ((nowA xs i j : Nat) : Int)) := ⟨conv_row (w := w5.drew) hX5, cj5⟩
          go_wp2_with fail
          refine wpU_region (k := 11) (S := fun w' => ((convert 22 9 (.slice A5 64 c5)).run Try.prog w' = .ok (.string (str (rep (nowA xs i j)))) w') ∧ w'.cell? ⟨w2.heap.size + 1, j, none⟩ = some (.int .u8 ((nowA xs i j : Nat) : Int))) (by kernel_rfl) ?_
          refine wpU_take (i := 0) (v := ?_) rfl (by kernel_rfl) (by kernel_rfl) (fun _ _ _ h => h) _ _ _ _ (by kernel_rfl) (by kernel_rfl) (by kernel_rfl) (Or.inl ⟨by kernel_rfl, ?_⟩) hS ?_
          rotate_left
          · (intro w9 hS9; obtain ⟨s0, s1⟩ := hS9; go_simp); (try with_reducible rfl)
          try simp only [Act.put, List.setIfInBounds_toArray, List.set_cons_zero, List.set_cons_succ]
          refine wpU_take (i := 1) (v := ?_) rfl (by kernel_rfl) (by kernel_rfl) (fun _ _ _ h => h) _ _ _ _ (by kernel_rfl) (by kernel_rfl) (by kernel_rfl) (Or.inl ⟨by kernel_rfl, ?_⟩) hS ?_
          rotate_left
          · (intro w9 hS9; obtain ⟨s0, s1⟩ := hS9; go_simp); (try with_reducible rfl)
          try simp only [Act.put, List.setIfInBounds_toArray, List.set_cons_zero, List.set_cons_succ]
          refine wpU_take (i := 2) (v := ?_) rfl (by kernel_rfl) (by kernel_rfl) (fun _ _ _ h => h) _ _ _ _ (by kernel_rfl) (by kernel_rfl) (by kernel_rfl) (Or.inl ⟨by kernel_rfl, ?_⟩) hS ?_
          rotate_left
          · (intro w9 hS9; obtain ⟨s0, s1⟩ := hS9; go_simp); (try with_reducible rfl)
          try simp only [Act.put, List.setIfInBounds_toArray, List.set_cons_zero, List.set_cons_succ]
          refine wpU_take (i := 3) (v := ?_) rfl (by kernel_rfl) (by kernel_rfl) (fun _ _ _ h => h) _ _ _ _ (by kernel_rfl) (by kernel_rfl) (by kernel_rfl) (Or.inl ⟨by kernel_rfl, ?_⟩) hS ?_
          rotate_left
          · (intro w9 hS9; obtain ⟨s0, s1⟩ := hS9; go_simp); (try with_reducible rfl)
          try simp only [Act.put, List.setIfInBounds_toArray, List.set_cons_zero, List.set_cons_succ]
          refine wpU_take (i := 4) (v := ?_) rfl (by kernel_rfl) (by kernel_rfl) (fun _ _ _ h => h) _ _ _ _ (by kernel_rfl) (by kernel_rfl) (by kernel_rfl) (Or.inl ⟨by kernel_rfl, ?_⟩) hS ?_
          rotate_left
          · (intro w9 hS9; obtain ⟨s0, s1⟩ := hS9; go_simp); (try with_reducible rfl)
          try simp only [Act.put, List.setIfInBounds_toArray, List.set_cons_zero, List.set_cons_succ]
          refine wpU_take (i := 5) (v := ?_) rfl (by kernel_rfl) (by kernel_rfl) (fun _ _ _ h => h) _ _ _ _ (by kernel_rfl) (by kernel_rfl) (by kernel_rfl) (Or.inl ⟨by kernel_rfl, ?_⟩) hS ?_
          rotate_left
          · (intro w9 hS9; obtain ⟨s0, s1⟩ := hS9; go_simp); (try with_reducible rfl)
          try simp only [Act.put, List.setIfInBounds_toArray, List.set_cons_zero, List.set_cons_succ]
          refine wpU_take (i := 6) (v := ?_) rfl (by kernel_rfl) (by kernel_rfl) (fun _ _ _ h => h) _ _ _ _ (by kernel_rfl) (by kernel_rfl) (by kernel_rfl) (Or.inl ⟨by kernel_rfl, ?_⟩) hS ?_
          rotate_left
          · (intro w9 hS9; obtain ⟨s0, s1⟩ := hS9; go_simp); (try with_reducible rfl)
          try simp only [Act.put, List.setIfInBounds_toArray, List.set_cons_zero, List.set_cons_succ]
          refine wpU_take (i := 7) (v := ?_) rfl (by kernel_rfl) (by kernel_rfl) (fun _ _ _ h => h) _ _ _ _ (by kernel_rfl) (by kernel_rfl) (by kernel_rfl) (Or.inl ⟨by kernel_rfl, ?_⟩) hS ?_
          rotate_left
          · (intro w9 hS9; obtain ⟨s0, s1⟩ := hS9; go_simp); (try with_reducible rfl)
          try simp only [Act.put, List.setIfInBounds_toArray, List.set_cons_zero, List.set_cons_succ]
          refine wpU_next (i := 8) rfl (by kernel_rfl) (fun K hK => ?_)
          go_simp
          refine (full_rep (nowA xs i j) w5.drew).mono ?_
          rintro e wA ⟨gA, rfl, hRA, hfA⟩
          have hSA := And.intro (conv_row (View.fr (w := w5.drew) hX5 hfA fun _ _ _ h => h)) (hfA.cell (w := w5.drew) cj5 id)
          have cA := conv_row hRA.view
          refine hK.out _ _ (fun _ => hSA) ?_
          clear hK K
          try simp only [Act.put, List.setIfInBounds_toArray, List.set_cons_zero, List.set_cons_succ]
          refine wpU_next (i := 9) rfl (by kernel_rfl) (fun K hK => ?_)
          go_simp
          refine hK.out _ _ (fun _ => hSA) ?_
          clear hK K
          try simp only [Act.put, List.setIfInBounds_toArray, List.set_cons_zero, List.set_cons_succ]
          refine wpU_take (i := 10) (v := ?_) rfl (by kernel_rfl) (by kernel_rfl) (fun _ _ _ h => h) _ _ _ _ (by kernel_rfl) (by kernel_rfl) (by kernel_rfl) (Or.inl ⟨by kernel_rfl, ?_⟩) hSA ?_
          rotate_left
          · (intro w9 hS9; obtain ⟨s0, s1⟩ := hS9; go_simp); (try with_reducible rfl)
          try simp only [Act.put, List.setIfInBounds_toArray, List.set_cons_zero, List.set_cons_succ]
          refine wpU_next (i := 11) rfl (by kernel_rfl) (fun K hK => ?_)
          go_simp
          refine hK.out _ _ (fun h => absurd rfl h.1) ?_
          refine wpU_done (by kernel_rfl) ?_ _
          clear hK K
          go_wp2
          go_roundw
          case rel => exact ⟨j + 1, q.ask 1, by go_num, by omega, hfr5.drew.then hfA.nil, (IsP.fr (w := w5.drew) hP5 hfA fun _ _ h => h), Hok.out.ask 1, Hfa.out, Hbl.out, Hca.out, Blk.fr (w := w5.drew) hw5 hfA (fun h => h), Blk.fr (w := w5.drew) hn5 hfA (fun h => h)⟩
          case measure => simp [intOf]; omega
        · have hcl : q.ca.length = i := by rw [Hca.out, caA_len]
          have Hcl := hid hcl; clear hcl
          have hKr := (hK.fr hF3 fun _ _ _ h => h).fr hfr (fun k hk _ h => by omega)
          go_wp2_with fail
          refine (cached_ok _ pb q _ hPr).mono ?_
          rintro e w5 ⟨rfl, rfl⟩
          rw [Hcl.out]
          go_wp2_with fail
          refine (crash_ok _ _ pb q m ks _ _ hPr (Hok.out.ok (by omega)) (by omega) hKr (fun k hk h => by omega)).mono ?_
          rintro e w6 ⟨rfl, hP6, hf6⟩
          have hw6 := hwr.fr hf6 (fun h => by omega)
          have hfr6 : Fr (fun k => w1.heap.size ≤ k) W3 w6 := hfr.then (hf6.mono fun k hk => hk.1)
          have hok6 := Hok.out.crash ks
          have hbl6 : (q.crash ks).bl.length = 64 := by rw [crash_bl, Hbl.out, l0]
          have hg6 : Hid (∀ k, k < 8 → (q.crash ks).bl.getD k [] = rep (wantA xs ks i k)) := hid (fun k hk => by
            show (setB q.ca (keptOf ks) q.bl q.ca.length).getD k [] = _
            rw [Hca.out, caA_len, Hbl.out]
            exact set_caA xs ks i k p0.bl l0 z0 hk i (Nat.le_refl _))
          have hca6 : (q.crash ks).ca = [] := rfl
          have hfa6 : (q.crash ks).fa = [] := rfl
          generalize q.crash ks = q6 at *
          have hj308 : Hid (j ≤ 8) := hid hj
          go_wp2_with fail
          go_loopw [14] (fun v14 wq => ∃ (j2 : Nat) (q2 : Pl), v14 = .int .i64 j2 ∧ j2 ≤ 8 ∧ Fr (fun k => w1.heap.size ≤ k) W3 wq ∧ IsP wq (fun k => w1.heap.size ≤ k ∧ k ≠ w2.heap.size ∧ k ≠ w2.heap.size + 1) pb q2 ∧ q2.okm (400 + j2) ∧ q2.fa = [] ∧ q2.bl = q6.bl ∧ q2.ca = [] ∧
            Blk wq w2.heap.size (arr8 (wantA xs ks i)) 29) (fun v14 _ => 8 - (intOf v14).toNat)
          case atStart => exact ⟨0, q6, rfl, by omega, hfr6, hP6, hok6.mono (by omega), hfa6, rfl, hca6, hw6⟩
          case round =>
            clear hfr hPr Hok Hfa Hbl Hca hwr hnr
            obtain ⟨j, q, rfl, hj, hfr, hPr, hok, hfa, hbl, hca, hwr⟩ := hrel
            have sr := hfr.size
            have Hok := hid hok; have Hfa := hid hfa; have Hbl := hid hbl; have Hca := hid hca
            clear hok hfa hbl hca
            by_cases hjl : j < 8
            · have hget : q.get j = rep (wantA xs ks i j) := by
                unfold Pl.get
                rw [Hca.out, Hbl.out]
                exact hg6.out j hjl
              have Hget := hid hget; clear hget
              have hj0 : (0 : Int) ≤ (j : Int) := by omega
              have hj8 : (j : Int) < 8 := by omega
              go_wp2_with fail
              refine (read_ok _ pb q j _ hPr (Hok.out.ok (by omega)) (not_bad Hfa.out _) (by rw [Hbl.out, hbl6]; omega)).mono ?_
              rintro e w5 ⟨A5, c5, rfl, hR5, -, -, hP5, hf5⟩
              rw [Hget.out] at hR5
              have hX5 := hR5.view
              have hw5 := hwr.fr hf5 (fun h => by omega)
              have cj5 : w5.cell? ⟨w2.heap.size, j, none⟩ = some (.int .u8 ((wantA xs ks i j : Nat) : Int)) := (hw5.cell j).trans (arr8_at _ _ hjl)
              have hfr5 : Fr (fun k => w1.heap.size ≤ k) W3 w5 := hfr.then (hf5.mono fun k hk => hk.1)
              clear hR5
              have hS : ((convert 22 9 (.slice A5 64 c5)).run Try.prog w5.drew = .ok (.string (str (rep (wantA xs ks i j)))) w5.drew) ∧ w5.drew.cell? ⟨w2.heap.size, j, none⟩ = some (.int .u8 ((wantA xs ks i j : Nat) : Int)) := ⟨conv_row (w := w5.drew) hX5, cj5⟩
              go_wp2_with fail
              refine wpU_region (k := 11) (S := fun w' => ((convert 22 9 (.slice A5 64 c5)).run Try.prog w' = .ok (.string (str (rep (wantA xs ks i j)))) w') ∧ w'.cell? ⟨w2.heap.size, j, none⟩ = some (.int .u8 ((wantA xs ks i j : Nat) : Int))) (by kernel_rfl) ?_
              refine wpU_take (i := 0) (v := ?_) rfl (by kernel_rfl) (by kernel_rfl) (fun _ _ _ h => h) _ _ _ _ (by kernel_rfl) (by kernel_rfl) (by kernel_rfl) (Or.inl ⟨by kernel_rfl, ?_⟩) hS ?_
              rotate_left
              · (intro w9 hS9; obtain ⟨s0, s1⟩ := hS9; go_simp); (try with_reducible rfl)
              try simp only [Act.put, List.setIfInBounds_toArray, List.set_cons_zero, List.set_cons_succ]
              refine wpU_take (i := 1) (v := ?_) rfl (by kernel_rfl) (by kernel_rfl) (fun _ _ _ h => h) _ _ _ _ (by kernel_rfl) (by kernel_rfl) (by kernel_rfl) (Or.inl ⟨by kernel_rfl, ?_⟩) hS ?_
              rotate_left
              · (intro w9 hS9; obtain ⟨s0, s1⟩ := hS9; go_simp); (try with_reducible rfl)
              try simp only [Act.put, List.setIfInBounds_toArray, List.set_cons_zero, List.set_cons_succ]
              refine wpU_take (i := 2) (v := ?_) rfl (by kernel_rfl) (by kernel_rfl) (fun _ _ _ h => h) _ _ _ _ (by kernel_rfl) (by kernel_rfl) (by kernel_rfl) (Or.inl ⟨by kernel_rfl, ?_⟩) hS ?_
              rotate_left
              · (intro w9 hS9; obtain ⟨s0, s1⟩ := hS9; go_simp); (try with_reducible rfl)
              try simp only [Act.put, List.setIfInBounds_toArray, List.set_cons_zero, List.set_cons_succ]
              refine wpU_take (i := 3) (v := ?_) rfl (by kernel_rfl) (by kernel_rfl) (fun _ _ _ h => h) _ _ _ _ (by kernel_rfl) (by kernel_rfl) (by kernel_rfl) (Or.inl ⟨by kernel_rfl, ?_⟩) hS ?_
              rotate_left
              · (intro w9 hS9; obtain ⟨s0, s1⟩ := hS9; go_simp); (try with_reducible rfl)
              try simp only [Act.put, List.setIfInBounds_toArray, List.set_cons_zero, List.set_cons_succ]
              refine wpU_take (i := 4) (v := ?_) rfl (by kernel_rfl) (by kernel_rfl) (fun _ _ _ h => h) _ _ _ _ (by kernel_rfl) (by kernel_rfl) (by kernel_rfl) (Or.inl ⟨by kernel_rfl, ?_⟩) hS ?_
              rotate_left
              · (intro w9 hS9; obtain ⟨s0, s1⟩ := hS9; go_simp); (try with_reducible rfl)
              try simp only [Act.put, List.setIfInBounds_toArray, List.set_cons_zero, List.set_cons_succ]
              refine wpU_take (i := 5) (v := ?_) rfl (by kernel_rfl) (by kernel_rfl) (fun _ _ _ h => h) _ _ _ _ (by kernel_rfl) (by kernel_rfl) (by kernel_rfl) (Or.inl ⟨by kernel_rfl, ?_⟩) hS ?_
              rotate_left
              · (intro w9 hS9; obtain ⟨s0, s1⟩ := hS9; go_simp); (try with_reducible rfl)
              try simp only [Act.put, List.setIfInBounds_toArray, List.set_cons_zero, List.set_cons_succ]
              refine wpU_take (i := 6) (v := ?_) rfl (by kernel_rfl) (by kernel_rfl) (fun _ _ _ h => h) _ _ _ _ (by kernel_rfl) (by kernel_rfl) (by kernel_rfl) (Or.inl ⟨by kernel_rfl, ?_⟩) hS ?_
              rotate_left
              · (intro w9 hS9; obtain ⟨s0, s1⟩ := hS9; go_simp); (try with_reducible rfl)
              try simp only [Act.put, List.setIfInBounds_toArray, List.set_cons_zero, List.set_cons_succ]
              refine wpU_take (i := 7) (v := ?_) rfl (by kernel_rfl) (by kernel_rfl) (fun _ _ _ h => h) _ _ _ _ (by kernel_rfl) (by kernel_rfl) (by kernel_rfl) (Or.inl ⟨by kernel_rfl, ?_⟩) hS ?_
              rotate_left
              · (intro w9 hS9; obtain ⟨s0, s1⟩ := hS9; go_simp); (try with_reducible rfl)
              try simp only [Act.put, List.setIfInBounds_toArray, List.set_cons_zero, List.set_cons_succ]
              refine wpU_next (i := 8) rfl (by kernel_rfl) (fun K hK => ?_)
              go_simp
              refine (full_rep (wantA xs ks i j) w5.drew).mono ?_
              rintro e wA ⟨gA, rfl, hRA, hfA⟩
              have hSA := And.intro (conv_row (View.fr (w := w5.drew) hX5 hfA fun _ _ _ h => h)) (hfA.cell (w := w5.drew) cj5 id)
              have cA := conv_row hRA.view
              refine hK.out _ _ (fun _ => hSA) ?_
              clear hK K
              try simp only [Act.put, List.setIfInBounds_toArray, List.set_cons_zero, List.set_cons_succ]
              refine wpU_next (i := 9) rfl (by kernel_rfl) (fun K hK => ?_)
              go_simp
              refine hK.out _ _ (fun _ => hSA) ?_
              clear hK K
              try simp only [Act.put, List.setIfInBounds_toArray, List.set_cons_zero, List.set_cons_succ]
              refine wpU_take (i := 10) (v := ?_) rfl (by kernel_rfl) (by kernel_rfl) (fun _ _ _ h => h) _ _ _ _ (by kernel_rfl) (by kernel_rfl) (by kernel_rfl) (Or.inl ⟨by kernel_rfl, ?_⟩) hSA ?_
              rotate_left
              · (intro w9 hS9; obtain ⟨s0, s1⟩ := hS9; go_simp); (try with_reducible rfl)
              try simp only [Act.put, List.setIfInBounds_toArray, List.set_cons_zero, List.set_cons_succ]
              refine wpU_next (i := 11) rfl (by kernel_rfl) (fun K hK => ?_)
              go_simp
              refine hK.out _ _ (fun h => absurd rfl h.1) ?_
              refine wpU_done (by kernel_rfl) ?_ _
              clear hK K
              go_wp2
              go_roundw
              case rel => exact ⟨j + 1, q.ask 1, by go_num, by omega, hfr5.drew.then hfA.nil, (IsP.fr (w := w5.drew) hP5 hfA fun _ _ h => h), Hok.out.ask 1, Hfa.out, Hbl.out, Hca.out, Blk.fr (w := w5.drew) hw5 hfA (fun h => h)⟩
              case measure => simp [intOf]; omega
            · have hcl : q.ca.length = 0 := by rw [Hca.out]; rfl
              have Hcl := hid hcl; clear hcl
              go_wp2_with fail
              refine (cached_ok _ pb q _ hPr).mono ?_
              rintro e w5 ⟨rfl, rfl⟩
              rw [Hcl.out]
              go_wp2
              go_ret
              exact ⟨rfl, hF3.trans hfr (fun k hk => .inr (by omega))⟩
end Go.Proofs.Ytidjmjfoheagmaa

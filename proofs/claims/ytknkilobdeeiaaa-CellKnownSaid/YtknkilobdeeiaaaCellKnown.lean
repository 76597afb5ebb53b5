/- CellKnown: numbers at their borders; bytes that are none, each by its error. -/
import Derived.Test.YtknkilobdeeiaaaCellA
import Derived.Test.YtknkilobdeeiaaaCellP2
import Derived.Deep.RegionHeld3
set_option linter.unusedSimpArgs false
set_option linter.unusedVariables false
namespace Go.Proofs.Ytknkilobdeeiaaa
open Go.RowKit

theorem isW_drew {w : World} {S : Nat → Prop} {pb : Nat} {xs : List Nat} (h : IsW w S pb xs) : IsW w.drew S pb xs := h
theorem out_okn (S : Nat → Prop) (pb : Nat) (xs : List Nat) (n : Nat) (hn : xs.length = n) (hx : n ≤ 100000000) (w : World) (hW : IsW w S pb xs) :
    Calls Try.prog 15 #[.pointer (some ⟨pb, 0, none⟩)] w fun e w' => ∃ A c, e = .returned (.slice A n c) ∧ Row w' (New w) 5 1 (.slice A n c) n (bys xs) ∧ Fr Nil w w' := by
  subst hn; exact out_ok S pb xs hx w hW

/-- $1: a number is read into a variable. -/
theorem kn1_ok (S : Nat → Prop) (rb xc y : Nat) (v0 : Value) (w : World) (hy : y < 268435456) (hR : IsR w S rb (enc y)) (hx : Blk w xc #[v0] 3) (h1 : ¬ S xc) :
    Calls Try.prog 23 #[.pointer (some ⟨rb, 0, none⟩), .pointer (some ⟨xc, 0, none⟩)] w fun e w' => e = .returned (.tuple #[]) ∧ Fr (fun k => k = xc ∨ k = rb) w w' ∧ IsR w' S rb [] ∧ Blk w' xc #[.int .i64 y] 3 := by
  have hSr := hR.1
  have hnum := num_enc y hy []
  rw [List.append_nil] at hnum
  have Hn := hid hnum; clear hnum
  have hel := (enc_len y hy).1
  go_enter Try.func23, Try.ntmps23
  go_wp2_with fail
  refine (rnum_any S rb _ (by omega) (enc_byt y) w hR).mono ?_
  intro e w1 hp
  rw [Hn.out] at hp
  obtain ⟨rfl, hf1, hR1⟩ := hp
  have hx1 := hx.fr hf1 (fun h => h1 (h ▸ hSr))
  have hcx : w1.cell? ⟨xc, 0, none⟩ = some v0 := hx1.cell 0
  have hzx : w1.frozen? ⟨xc, 0, none⟩ = false := hx1.frozen 0
  go_wp2
  go_end0
  refine ⟨rfl, (hf1.mono fun _ h => .inr h).setCell (a := ⟨xc, 0, none⟩) (.inl (.inl rfl)) _, ?_, hx1.set 0 _⟩
  exact IsR.fr (S1 := fun k => k = xc) hR1 ((Fr.refl (fun k => k = xc) w1).setCell (a := ⟨xc, 0, none⟩) (.inl rfl) _) (fun k hk _ (h : k = xc) => h1 (h ▸ hk))

/-- $2: a number is read. -/
theorem kn2_ok (S : Nat → Prop) (rb : Nat) (bs : List Nat) (w : World) (hb : Byt bs) (hl : bs.length ≤ 1000) (hR : IsR w S rb bs) :
    Calls Try.prog 24 #[.pointer (some ⟨rb, 0, none⟩)] w fun e w' => Fr (fun k => k = rb) w w' ∧
      ((∃ rest, e = .returned (.tuple #[]) ∧ IsR w' S rb rest ∧ ∃ y, num bs = .ok y rest) ∨ (∃ er, e = .panicked (brk er) ∧ num bs = .bad er)) := by
  go_enter Try.func24, Try.ntmps24
  go_wp2_with fail
  refine (rnum_any S rb _ (by omega) hb w hR).mono ?_
  intro e w1 hp
  cases hn : num bs with
  | ok y t =>
    rw [hn] at hp
    obtain ⟨rfl, hf1, hR1⟩ := hp
    have Hn := hid hn; clear hn
    go_wp2
    go_end0
    exact ⟨hf1, .inl ⟨t, rfl, hR1, y, Hn.out⟩⟩
  | bad er =>
    rw [hn] at hp
    obtain ⟨rfl, rfl⟩ := hp
    exact ⟨rfl, Fr.refl _ _, .inr ⟨er, rfl, hn⟩⟩

def knIn : List Int := [0, 1, 127, 128, 16383, 16384, 2097151, 2097152, 268435455]
def knSize : List Int := [1, 1, 1, 2, 2, 3, 3, 4, 4]
theorem kn_at : ∀ i, i < 9 → ∃ y : Nat, y < 268435456 ∧ knIn[i]? = some (y : Int) ∧ knSize[i]? = some ((enc y).length : Int) := by
  have e1 : ∀ x : Nat, x < 128 → (enc x).length = 1 := fun x h => by rw [enc_lo h]; rfl
  have e2 : ∀ x : Nat, ¬ x < 128 → x / 128 < 128 → (enc x).length = 2 := fun x h h2 => by rw [enc_hi h, List.length_cons, e1 _ h2]
  have e3 : ∀ x : Nat, ¬ x < 128 → ¬ x / 128 < 128 → x / 128 / 128 < 128 → (enc x).length = 3 := fun x h h2 h3 => by rw [enc_hi h, List.length_cons, e2 _ h2 h3]
  have e4 : ∀ x : Nat, ¬ x < 128 → ¬ x / 128 < 128 → ¬ x / 128 / 128 < 128 → x / 128 / 128 / 128 < 128 → (enc x).length = 4 := fun x h h2 h3 h4 => by rw [enc_hi h, List.length_cons, e3 _ h2 h3 h4]
  intro i hi
  have : i = 0 ∨ i = 1 ∨ i = 2 ∨ i = 3 ∨ i = 4 ∨ i = 5 ∨ i = 6 ∨ i = 7 ∨ i = 8 := by omega
  rcases this with rfl | rfl | rfl | rfl | rfl | rfl | rfl | rfl | rfl
  · exact ⟨0, by omega, rfl, by rw [e1 _ (by omega)]; rfl⟩
  · exact ⟨1, by omega, rfl, by rw [e1 _ (by omega)]; rfl⟩
  · exact ⟨127, by omega, rfl, by rw [e1 _ (by omega)]; rfl⟩
  · exact ⟨128, by omega, rfl, by rw [e2 _ (by omega) (by omega)]; rfl⟩
  · exact ⟨16383, by omega, rfl, by rw [e2 _ (by omega) (by omega)]; rfl⟩
  · exact ⟨16384, by omega, rfl, by rw [e3 _ (by omega) (by omega) (by omega)]; rfl⟩
  · exact ⟨2097151, by omega, rfl, by rw [e3 _ (by omega) (by omega) (by omega)]; rfl⟩
  · exact ⟨2097152, by omega, rfl, by rw [e4 _ (by omega) (by omega) (by omega) (by omega)]; rfl⟩
  · exact ⟨268435455, by omega, rfl, by rw [e4 _ (by omega) (by omega) (by omega) (by omega)]; rfl⟩

def knBad : List ByteArray := [⟨#[]⟩, ⟨#[128]⟩, ⟨#[128, 0]⟩, ⟨#[255, 255, 255, 255]⟩, ⟨#[255, 255, 255, 255, 1]⟩, ⟨#[1, 1]⟩]
def knWant : List Int := [2, 2, 4, 4, 4, 3]
/-- What Read answers of bytes from which one number is read. -/
def oneNum (bs : List Nat) : Int := match num bs with
  | .ok _ rest => if rest.isEmpty then 0 else 3
  | .bad e => e
theorem kn_bad : ∀ i, i < 6 → ∃ s : ByteArray, s.size ≤ 10 ∧ knBad[i]? = some s ∧ knWant[i]? = some (oneNum (nums s)) := by
  intro i hi
  have : i = 0 ∨ i = 1 ∨ i = 2 ∨ i = 3 ∨ i = 4 ∨ i = 5 := by omega
  rcases this with rfl | rfl | rfl | rfl | rfl | rfl
  all_goals exact ⟨_, by decide, rfl, by decide +kernel⟩

theorem call_kn1 (args : Array Value) (w : World) : (callFunc 23 args).run Try.prog w = .ok (.enter 23 args) w := by kernel_rfl
theorem call_kn2 (args : Array Value) (w : World) : (callFunc 24 args).run Try.prog w = .ok (.enter 24 args) w := by kernel_rfl

theorem kn3_ok (S : Nat → Prop) (rb : Nat) (bs : List Nat) (er : Int) (w : World) (hb : Byt bs) (hl : bs.length ≤ 1000) (hR : IsR w S rb bs) (hbad : byt 1 bs = .bad er) :
    Calls Try.prog 25 #[.pointer (some ⟨rb, 0, none⟩)] w fun e w' => Fr (fun k => k = rb) w w' ∧ e = .panicked (brk er) := by
  have Hb := hid hbad; clear hbad
  go_enter Try.func25, Try.ntmps25
  go_wp2_with fail
  refine (rbytes_any S rb _ 1 (by omega) hb w hR).mono ?_
  intro e w1 hp
  rw [Hb.out] at hp
  obtain ⟨hf1, rfl⟩ := hp
  exact ⟨rfl, hf1, rfl⟩
theorem call_kn3 (args : Array Value) (w : World) : (callFunc 25 args).run Try.prog w = .ok (.enter 25 args) w := by kernel_rfl
theorem kn4_ok (S : Nat → Prop) (rb : Nat) (bs : List Nat) (er : Int) (w : World) (hb : Byt bs) (hl : bs.length ≤ 1000) (hR : IsR w S rb bs) (hbad : byt 5 bs = .bad er) :
    Calls Try.prog 26 #[.pointer (some ⟨rb, 0, none⟩)] w fun e w' => Fr (fun k => k = rb) w w' ∧ e = .panicked (brk er) := by
  have Hb := hid hbad; clear hbad
  go_enter Try.func26, Try.ntmps26
  go_wp2_with fail
  refine (rbytes_any S rb _ 5 (by omega) hb w hR).mono ?_
  intro e w1 hp
  rw [Hb.out] at hp
  obtain ⟨hf1, rfl⟩ := hp
  exact ⟨rfl, hf1, rfl⟩
theorem call_kn4 (args : Array Value) (w : World) : (callFunc 26 args).run Try.prog w = .ok (.enter 26 args) w := by kernel_rfl
theorem call_kn5 (args : Array Value) (w : World) : (callFunc 27 args).run Try.prog w = .ok (.enter 27 args) w := by kernel_rfl
theorem kn5_ok (rb : Nat) (w : World) : Calls Try.prog 27 #[.pointer (some ⟨rb, 0, none⟩)] w fun e w' => e = .returned (.tuple #[]) ∧ w = w' := by
  go_enter Try.func27, Try.ntmps27
  go_wp2
  go_end0
  exact ⟨rfl, rfl⟩

/-- One number is read out of a string's bytes. -/
theorem one_ok (s : ByteArray) (hs : s.size ≤ 10) (on : Int) (hon : oneNum (nums s) = on) (w : World) :
    Calls Try.prog 19 #[.slice (some ⟨w.heap.size, 0, none⟩) s.size (grownCap w s.size 0 5), .func (.func 24) #[] #[]] (strW w 5 s) fun e w' => e = .returned (.int .i64 on) ∧ Fr Nil w w' := by
  subst hon
  refine (read_ok 24 #[] _ s.size (nums s) (New w) Nil (by omega) (strW w 5 s) (strW_view w _ s (by omega)) (fun _ h => h.elim) call_kn2
    (fun rest _ => ∃ y, num (nums s) = .ok y rest) (fun er _ => num (nums s) = .bad er) ?_).mono ?_
  · intro wa rb h1 h2 hR hfa
    refine (kn2_ok (fun k => (strW w 5 s).heap.size < k) rb (nums s) wa (nums_byt s) (by rw [nums_length]; omega) hR).mono ?_
    rintro e wb ⟨g1, g2⟩
    refine ⟨g1.mono fun _ h => .inr h, ?_⟩
    rcases g2 with ⟨rest, h1, h2, h3⟩ | ⟨er, h1, h2⟩
    · exact .inl ⟨rest, h1, h2, h3⟩
    · exact .inr ⟨er, h1, h2⟩
  · rintro e w5 ⟨w6, hf6, hf5, h⟩
    have hf : Fr Nil w w5 := ((strW_fr w _ s).thenNil hf6).trans hf5 (fun k hk => .inr (by rw [hk, strW_size]; omega))
    rcases h with ⟨rest, ⟨y, hy⟩, rfl⟩ | ⟨er, hy, rfl⟩
    · exact ⟨by simp [oneNum, hy], hf⟩
    · exact ⟨by simp [oneNum, hy], hf⟩

set_option maxRecDepth 100000 in
set_option maxHeartbeats 800000 in
/-- The law's walk. -/
theorem known_ok (w : World) :
    Calls Try.prog 6 #[] w fun e w' => e = .returned (.bool true) ∧ Fr Nil w w' := by
  go_enter Try.func6, Try.ntmps6
  go_wp2_with fail
  refine (awake_ok _).mono ?_
  rintro e w1 ⟨rfl, hf1⟩
  go_wp2_with fail
  obtain ⟨W2, hW2⟩ : ∃ W2, W2 = (w1.alloc (.cells (ints .i64 knIn).toArray 3)).alloc (.cells (ints .i64 knSize).toArray 3) := ⟨_, rfl⟩
  have hf2 : Fr Nil w1 W2 := by rw [hW2]; exact ((Fr.refl _ _).alloc _).alloc _
  have hi2 : Blk W2 w1.heap.size (ints .i64 knIn).toArray 3 := by rw [hW2]; exact (Blk.new _ _ _).alloc _
  have hs2 : Blk W2 (w1.heap.size + 1) (ints .i64 knSize).toArray 3 := by
    rw [hW2]
    have := Blk.new (w1.alloc (.cells (ints .i64 knIn).toArray 3)) (ints .i64 knSize).toArray 3
    rwa [World.size_alloc] at this
  show (Code.wp _ _ _ _ ((w1.alloc (.cells (ints .i64 knIn).toArray 3)).alloc (.cells (ints .i64 knSize).toArray 3)))
  rw [← hW2]
  clear hW2
  go_loopw [3] (fun v3 wr => ∃ i : Nat, v3 = .int .i64 i ∧ i ≤ 9 ∧ Fr Nil W2 wr) (fun v3 _ => 9 - (intOf v3).toNat)
  case atStart => exact ⟨0, rfl, by omega, Fr.refl _ _⟩
  case round =>
    obtain ⟨i, rfl, hi, hfr⟩ := hrel
    by_cases hlt : i < 9
    · obtain ⟨y, hy, hyi, hys⟩ := kn_at i hlt
      have hir := hi2.fr hfr (fun h => h)
      have hsr := hs2.fr hfr (fun h => h)
      have hci : wr.cell? ⟨w1.heap.size, i, none⟩ = some (.int .i64 y) := by rw [hir.cell i]; simp [ints, hyi]
      have hcs : wr.cell? ⟨w1.heap.size + 1, i, none⟩ = some (.int .i64 (enc y).length) := by rw [hsr.cell i]; simp [ints, hys]
      have hle := enc_len y hy
      have Hyi := hid hyi; have Hys := hid hys; clear hyi hys hir hsr
      have hL : ∃ L, (enc y).length = L := ⟨_, rfl⟩
      obtain ⟨L, hL⟩ := hL
      rw [hL] at hcs hle
      have HL := hid hL; clear hL
      have hgi := World.block_lt_of_cell? wr _ hci
      have hgs := World.block_lt_of_cell? wr _ hcs
      simp only at hgi hgs
      go_wp2_with fail
      have hW0 : IsW (wr.alloc (.cells #[.slice none 0 0] 26)) (New wr) wr.heap.size [] := ⟨Nat.le_refl _, _, Blk.new _ _ _, Row.nil _ _ _ _⟩
      refine (num_ok (New wr) wr.heap.size [] y hy (by decide) _ hW0).mono ?_
      rintro e w3 ⟨rfl, hf3, hW3⟩
      replace hf3 : Fr Nil wr w3 := ((Fr.refl Nil wr).alloc _).thenNew hf3
      replace hW3 : IsW w3 (New wr) wr.heap.size (enc y) := hW3.mono fun k hk => hk.elim id fun h => by unfold New; simp at h; omega
      have hl3 := hW3.bd.1.2
      go_wp2_with fail
      obtain ⟨W4, hW4⟩ : ∃ W4, W4 = w3.alloc (.cells #[.int .i64 (-1)] 3) := ⟨_, rfl⟩
      have hf4 : Fr Nil w3 W4 := by rw [hW4]; exact (Fr.refl _ _).alloc _
      have hx4 : Blk W4 w3.heap.size #[.int .i64 (-1)] 3 := by rw [hW4]; exact Blk.new _ _ _
      rw [← hW4]
      clear hW4
      have hW4w := hW3.bd.fr hf4 (fun _ _ h => h)
      refine (out_ok _ wr.heap.size (enc y) (by rw [HL.out]; omega) W4 hW4w).mono ?_
      rintro e w5 ⟨A5, c5, rfl, r5, hf5⟩
      have hx5 := hx4.fr hf5 (fun h => h)
      have hxl := hx5.lt
      go_wp2_with fail
      refine (read_ok 23 _ _ (enc y).length (enc y) (New W4) (fun k => k = w3.heap.size) (by rw [HL.out]; omega) w5 r5.view (by rintro k rfl; omega) call_kn1
        (fun rest w' => rest = [] ∧ Blk w' w3.heap.size #[.int .i64 y] 3) (fun _ _ => False) ?_).mono ?_
      · intro wa rb h1 h2 hR hfa
        refine (kn1_ok (fun k => w5.heap.size < k) rb w3.heap.size y _ wa hy hR (hx5.fr hfa (fun h => h)) (by omega)).mono ?_
        rintro e wb ⟨rfl, g1, g2, g3⟩
        exact ⟨g1, .inl ⟨[], rfl, g2, rfl, g3⟩⟩
      rintro e w7 ⟨w6, hf6, hf7, ⟨rest, ⟨rfl, g3⟩, rfl⟩ | ⟨_, h, _⟩⟩
      · have hx7 := g3.fr hf7 (fun h => by omega)
        have hW7 := ((hW4w.fr hf5 (fun _ _ h => h)).fr hf6 (fun k hk h => by have := hk.2; omega)).fr hf7 (fun k hk h => by have := hk.2; have := hf4.size; have := hf5.size; omega)
        have hsz := hf3.size
        have hsz4 := hf4.size
        have hsz5 := hf5.size
        have hfr7 : Fr Nil wr w7 := (((hf3.thenNil hf4).thenNil hf5).trans hf6 (fun k hk => .inr (by omega))).trans hf7 (fun k hk => .inr (by omega))
        have hci7 : w7.cell? ⟨w1.heap.size, i, none⟩ = some (.int .i64 y) := hfr7.cell hci (fun h => h)
        have hcs7 : w7.cell? ⟨w1.heap.size + 1, i, none⟩ = some (.int .i64 L) := hfr7.cell hcs (fun h => h)
        have hcx7 : w7.cell? ⟨w3.heap.size, 0, none⟩ = some (.int .i64 y) := hx7.cell 0
        clear hci hcs hx4 hx5 hx7
        go_wp2_with fail
        have hz0 : ((i : Int)) < 9 := by omega
        have hz1 : (0 : Int) ≤ (i : Int) := by omega
        have hW7d := isW_drew hW7
        go_region_held3 (fun w' => w'.cell? ⟨w1.heap.size, i, none⟩ = some (.int .i64 y) ∧ w'.cell? ⟨w1.heap.size + 1, i, none⟩ = some (.int .i64 L) ∧ w'.cell? ⟨w3.heap.size, 0, none⟩ = some (.int .i64 y))
          (first
            | exact ⟨hci7, hcs7, hcx7⟩
            | exact ⟨hf8.cell hci7 (fun h => h), hf8.cell hcs7 (fun h => h), hf8.cell hcx7 (fun h => h)⟩)
          ((go_at_call 15; refine (out_okn _ wr.heap.size (enc y) L HL.out (by omega) w7.drew hW7d).mono ?_; rintro e w8 ⟨A8, c8, rfl, r8, hf8⟩))
        go_wp2_with fail
        go_roundw
        case rel => exact ⟨i + 1, by go_num, by omega, hfr.thenNil ((Fr.drew hfr7).thenNil hf8)⟩
        case measure => simp [intOf]; omega
      · exact h.elim
    · obtain ⟨wo, rfl⟩ : ∃ wo : World, wo = wr := ⟨_, rfl⟩
      have hi9 : i = 9 := by omega
      have Hi9 := hid hi9; clear hi9
      have hf9 : Fr Nil w wo := (hf1.thenNil hf2).thenNil hfr
      go_wp2_with fail
      obtain ⟨W5, hW5⟩ : ∃ W5, W5 = (wo.alloc (.cells (knBad.map Value.string).toArray 9)).alloc (.cells (ints .i64 knWant).toArray 41) := ⟨_, rfl⟩
      have hf5 : Fr Nil wo W5 := by rw [hW5]; exact ((Fr.refl _ _).alloc _).alloc _
      have hb5 : Blk W5 wo.heap.size (knBad.map Value.string).toArray 9 := by rw [hW5]; exact (Blk.new _ _ _).alloc _
      have hw5 : Blk W5 (wo.heap.size + 1) (ints .i64 knWant).toArray 41 := by
        rw [hW5]
        have := Blk.new (wo.alloc (.cells (knBad.map Value.string).toArray 9)) (ints .i64 knWant).toArray 41
        rwa [World.size_alloc] at this
      show (Code.wp _ _ _ _ ((wo.alloc (.cells (knBad.map Value.string).toArray 9)).alloc (.cells (ints .i64 knWant).toArray 41)))
      rw [← hW5]
      replace hf9 : Fr Nil w W5 := hf9.thenNil hf5
      clear hW5 hf5
      go_loopw [9] (fun v9 wr => ∃ i : Nat, v9 = .int .i64 i ∧ i ≤ 6 ∧ Fr Nil W5 wr) (fun v9 _ => 6 - (intOf v9).toNat)
      case atStart => exact ⟨0, rfl, by omega, Fr.refl _ _⟩
      case round =>
        obtain ⟨i, rfl, hi, hfr⟩ := hrel
        by_cases hlt : i < 6
        · obtain ⟨s, hsl, hsb, hsw⟩ := kn_bad i hlt
          have hbr := hb5.fr hfr (fun h => h)
          have hwr := hw5.fr hfr (fun h => h)
          have hcb : wr.cell? ⟨wo.heap.size, i, none⟩ = some (.string s) := by rw [hbr.cell i]; simp [hsb]
          have hcw : wr.cell? ⟨wo.heap.size + 1, i, none⟩ = some (.int .i64 (oneNum (nums s))) := by rw [hwr.cell i]; simp [ints, hsw]
          have hgb := World.block_lt_of_cell? wr _ hcb
          have hgw := World.block_lt_of_cell? wr _ hcw
          simp only at hgb hgw
          have Hsb := hid hsb; have Hsw := hid hsw; clear hsb hsw hbr hwr
          generalize hon : oneNum (nums s) = on at *
          have Hon := hid hon; clear hon
          have hz0 : ((i : Int)) < 6 := by omega
          have hz1 : (0 : Int) ≤ (i : Int) := by omega
          go_wp2_with fail
          have hcw1 : (strW wr.drew 5 s).cell? ⟨wo.heap.size + 1, i, none⟩ = some (.int .i64 on) := (strW_fr wr.drew _ s).cell hcw (fun h => h)
          go_region_with (go_at_call 19; refine (one_ok s hsl on Hon.out wr.drew).mono ?_; rintro e w8 ⟨rfl, hf8⟩; have hcw8 : w8.cell? ⟨wo.heap.size + 1, i, none⟩ = some (.int .i64 on) := hf8.cell hcw (fun h => h))
          all_goals
            go_wp2
            go_roundw
            case rel => exact ⟨i + 1, by go_num, by omega, hfr.thenNil (Fr.thenNil ((Fr.refl Nil wr).drew) hf8)⟩
            case measure => simp [intOf]; omega
        · have hi6 : i = 6 := by omega
          have Hi6 := hid hi6; clear hi6
          have hf10 : Fr Nil w wr := hf9.thenNil hfr
          go_wp2_with fail
          obtain ⟨wp, rfl⟩ : ∃ wp : World, wp = wr := ⟨_, rfl⟩
          have hv3 := View.lit (s := 1) wp (bys [2, 1, 2]).toArray 5 (0, 0) 3 rfl (by decide)
          refine (read_ok 25 #[] _ 3 [2, 1, 2] (New wp) Nil (by decide) (wp.alloc (.cells (bys [2, 1, 2]).toArray 5)) hv3 (fun _ h => h.elim) call_kn3
            (fun _ _ => False) (fun er _ => er = 3) ?_).mono ?_
          · intro wa rb h1 h2 hR hfa
            refine (kn3_ok _ rb [2, 1, 2] 3 wa (by decide) (by decide) hR (by decide +kernel)).mono ?_
            rintro e wb ⟨g1, rfl⟩
            exact ⟨g1.mono fun _ h => .inr h, .inr ⟨3, rfl, rfl⟩⟩
          rintro e w12 ⟨w11, hf11, hf12, ⟨_, h, _⟩ | ⟨er, rfl, rfl⟩⟩
          · exact h.elim
          have hfa : Fr Nil w w12 := (((hf10.alloc _).thenNil hf11).trans hf12 (fun k hk => .inr (by have := hf10.size; simp at hk; omega)))
          go_wp2_with fail
          have hv4 := View.lit (s := 1) w12 (bys [2, 1]).toArray 5 (0, 0) 2 rfl (by decide)
          refine (read_ok 26 #[] _ 2 [2, 1] (New w12) Nil (by decide) (w12.alloc (.cells (bys [2, 1]).toArray 5)) hv4 (fun _ h => h.elim) call_kn4
            (fun _ _ => False) (fun er _ => er = 2) ?_).mono ?_
          · intro wa rb h1 h2 hR hfa
            refine (kn4_ok _ rb [2, 1] 2 wa (by decide) (by decide) hR (by decide +kernel)).mono ?_
            rintro e wb ⟨g1, rfl⟩
            exact ⟨g1.mono fun _ h => .inr h, .inr ⟨2, rfl, rfl⟩⟩
          rintro e w14 ⟨w13, hf13, hf14, ⟨_, h, _⟩ | ⟨er, rfl, rfl⟩⟩
          · exact h.elim
          have hfb : Fr Nil w w14 := (((hfa.alloc _).thenNil hf13).trans hf14 (fun k hk => .inr (by have := hfa.size; simp at hk; omega)))
          go_wp2_with fail
          refine (read_ok 27 #[] _ 0 [] Nil Nil (by decide) w14 (View.nil _ _ _) (fun _ h => h.elim) call_kn5
            (fun rest _ => rest = []) (fun er _ => False) ?_).mono ?_
          · intro wa rb h1 h2 hR hfa
            refine (kn5_ok rb wa).mono ?_
            rintro e wb ⟨rfl, rfl⟩
            exact ⟨Fr.refl _ _, .inl ⟨[], rfl, hR, rfl⟩⟩
          rintro e w16 ⟨w15, hf15, hf16, ⟨_, rfl, rfl⟩ | ⟨er, h, _⟩⟩
          · have hfc : Fr Nil w w16 := ((hfb.thenNil hf15).trans hf16 (fun k hk => .inr (by have := hfb.size; omega)))
            go_wp2
            go_ret
            exact ⟨rfl, hfc⟩
          · exact h.elim
end Go.Proofs.Ytknkilobdeeiaaa

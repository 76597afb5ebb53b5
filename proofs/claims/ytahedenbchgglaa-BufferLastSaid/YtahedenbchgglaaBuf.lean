/- The contracts of buffer.Buffer: New, Fits, Put, Trim, Len, Get, Clear. Conditions: the buffer is a block of the program's own. -/
import Derived.Test.YtahedenbchgglaaProg
import Derived.Test.YtahedenbchgglaaMap
import Derived.Test.YtahedenbchgglaaClone
import Derived.Deep.QuietTactic
import Derived.BigQuiet
import Derived.RegionCalls
import Derived.Deep.RegionWith
set_option linter.unusedSimpArgs false
set_option linter.unusedVariables false
namespace Go.Proofs.Ytahedenbchgglaa
open Go.RowKit

theorem zero_bytes (w : World) : (zeroValue 25).run Try.prog w = .ok (.slice none 0 0) w := by kernel_rfl
theorem zero_bool (w : World) : (zeroValue 4).run Try.prog w = .ok (.bool false) w := by kernel_rfl

theorem wrap64_fit (n : Int) (h : -9223372036854775808 ≤ n ∧ n ≤ 9223372036854775807) : wrap64 n = n := by unfold wrap64; omega
/-! ### keys -/
def addKey (K : List Int) (s : Int) : List Int := if s ∈ K then K else K ++ [s]
def addAll (K ss : List Int) : List Int := ss.foldl addKey K
theorem addAll_one (K : List Int) (ss : List Int) (s : Int) : addAll K (ss ++ [s]) = addKey (addAll K ss) s := by simp [addAll]
theorem mput_keys' {α : Type} {l : List (Int × α)} {i : Int} {v : α} : (mput l i v).map (·.1) = addKey (l.map (·.1)) i := mput_keys
theorem addKey_app {K A : List Int} {s : Int} (h : s ∉ K) : addKey (K ++ A) s = K ++ addKey A s := by
  unfold addKey
  by_cases hA : s ∈ A <;> simp [h, hA]
theorem addKey_in {K : List Int} {s : Int} (h : s ∈ K) : addKey K s = K := by simp [addKey, h]
theorem addKey_len (K : List Int) (s : Int) : (addKey K s).length ≤ K.length + 1 := by unfold addKey; split <;> simp
theorem addAll_len (K ss : List Int) : (addAll K ss).length ≤ K.length + ss.length := by
  induction ss generalizing K with
  | nil => simp [addAll]
  | cons s ss ih => have := ih (addKey K s); have := addKey_len K s; simp only [addAll, List.foldl_cons, List.length_cons] at *; omega

theorem addKey_ge (K : List Int) (s : Int) : K.length ≤ (addKey K s).length := by unfold addKey; split <;> simp
theorem addAll_ge (K ss : List Int) : K.length ≤ (addAll K ss).length := by
  induction ss generalizing K with
  | nil => simp [addAll]
  | cons s ss ih => exact Nat.le_trans (addKey_ge K s) (ih (addKey K s))
/-- A Buffer at block pb, its map at block mb: room for 'most' sectors; what waits: l. -/
def IsB (w : World) (S : Nat → Prop) (pb mb : Nat) (most : Nat) (l : List (Int × Value)) : Prop :=
  S pb ∧ S mb ∧ Blk w pb #[.int .i64 (most : Int), .map (some mb)] 43 ∧ KV w mb l ∧ l.length ≤ 2000 ∧ most ≤ 512
section
variable {w w1 : World} {S S1 : Nat → Prop} {pb mb most : Nat} {l : List (Int × Value)}
theorem IsB.fr (h : IsB w S pb mb most l) (hf : Fr S1 w w1) (hn : ∀ k, S k → ¬ S1 k) : IsB w1 S pb mb most l :=
  ⟨h.1, h.2.1, h.2.2.1.fr hf (hn _ h.1), h.2.2.2.1.fr hf (hn _ h.2.1), h.2.2.2.2⟩
theorem IsB.mono (h : IsB w S pb mb most l) (hs : ∀ k, S k → S1 k) : IsB w S1 pb mb most l := ⟨hs _ h.1, hs _ h.2.1, h.2.2⟩
theorem IsB.ne (h : IsB w S pb mb most l) : pb ≠ mb := by
  intro e
  obtain ⟨es, c, he, _⟩ := h.2.2.2.1
  have := h.2.2.1
  unfold Blk at this
  rw [e, he] at this
  cases this
theorem IsB.drew (h : IsB w S pb mb most l) : IsB w.drew S pb mb most l := h
theorem IsB.drewN (h : IsB w S pb mb most l) (n : Nat) : IsB (w.drewN n) S pb mb most l := h
end

@[go_sem] theorem neq_map_nil (w : World) (b : Nat) : (binOp .neq 41 (.map (some b)) (.map none)).run Try.prog w = .ok (.bool true) w := by kernel_rfl

theorem made_ok (S : Nat → Prop) (pb mb most : Nat) (l : List (Int × Value)) (w : World) (h : IsB w S pb mb most l) :
    Calls Try.prog 15 #[.pointer (some ⟨pb, 0, none⟩)] w fun e w' => e = .returned (.bool true) ∧ w = w' := by
  have hc : w.cell? ⟨pb, 1, none⟩ = some (.map (some mb)) := h.2.2.1.cell 1
  go_enter Try.func15, Try.ntmps15
  go_wp2
  go_ret
  exact ⟨rfl, rfl⟩

theorem new_world (w : World) (k : Nat) (hk : k ≤ 512) (W : World) (hW : W = (w.alloc (.map #[] 0)).alloc (.cells #[.int .i64 (k : Int), .map (some w.heap.size)] 43)) :
    IsB W (New w) (w.heap.size + 1) w.heap.size k [] ∧ Fr Nil w W := by
  subst hW
  have h1 : (w.alloc (.map #[] 0)).heap.size = w.heap.size + 1 := by simp
  refine ⟨⟨by unfold New; omega, by unfold New; omega, ?_, (KV.made w).alloc _, by simp, hk⟩, ((Fr.refl _ _).alloc _).alloc _⟩
  rw [← h1]
  exact Blk.new _ _ _

theorem new_ok (most : Int) (hm : -1000000 ≤ most ∧ most ≤ 1000000) (w : World) :
    Calls Try.prog 7 #[.int .i64 most] w fun e w' => ∃ pb mb, e = .returned (.pointer (some ⟨pb, 0, none⟩)) ∧ IsB w' (New w) pb mb (min (max most 0) 512).toNat [] ∧ Fr Nil w w' := by
  have e1 : most < 0 → (min (max most 0) 512).toNat = 0 := by omega
  have e2 : 0 ≤ most → 512 < most → (min (max most 0) 512).toNat = 512 := by omega
  have e3 : 0 ≤ most → most ≤ 512 → (((min (max most 0) 512).toNat : Nat) : Int) = most ∧ (min (max most 0) 512).toNat ≤ 512 := by omega
  generalize (min (max most 0) 512).toNat = m at *
  go_enter Try.func7, Try.ntmps7
  go_wp2
  all_goals go_ret
  · obtain rfl := e1 (by omega)
    exact ⟨_, rfl, ⟨_, (new_world w 0 (by omega) _ rfl).1⟩, (new_world w 0 (by omega) _ rfl).2⟩
  · obtain rfl := e2 (by omega) (by omega)
    exact ⟨_, rfl, ⟨_, (new_world w 512 (by omega) _ rfl).1⟩, (new_world w 512 (by omega) _ rfl).2⟩
  · obtain ⟨h1, h2⟩ := e3 (by omega) (by omega)
    subst h1
    exact ⟨_, rfl, ⟨_, (new_world w m (by omega) _ rfl).1⟩, (new_world w m (by omega) _ rfl).2⟩

theorem len_ok (S : Nat → Prop) (pb mb most : Nat) (l : List (Int × Value)) (w : World) (h : IsB w S pb mb most l) :
    Calls Try.prog 11 #[.pointer (some ⟨pb, 0, none⟩)] w fun e w' => e = .returned (.int .i64 (l.length : Int)) ∧ w = w' := by
  have hc : w.cell? ⟨pb, 1, none⟩ = some (.map (some mb)) := h.2.2.1.cell 1
  have hl := h.2.2.2.1.len (P := Try.prog) (t := 41) Try.underlying41
  go_enter Try.func11, Try.ntmps11
  go_wp2
  go_ret
  exact ⟨rfl, rfl⟩

theorem clear_ok (S : Nat → Prop) (pb mb most : Nat) (l : List (Int × Value)) (w : World) (h : IsB w S pb mb most l) :
    Calls Try.prog 13 #[.pointer (some ⟨pb, 0, none⟩)] w fun e w' => e = .returned (.tuple #[]) ∧ IsB w' S pb mb most [] ∧ Fr (fun k => k = mb) w w' := by
  have hc : w.cell? ⟨pb, 1, none⟩ = some (.map (some mb)) := h.2.2.1.cell 1
  obtain ⟨w1, hrun, hkv, hfr⟩ := h.2.2.2.1.clear (P := Try.prog) (t := 41) Try.underlying41 0
  go_enter Try.func13, Try.ntmps13
  go_wp2_with fail
  refine (made_ok S pb mb most l w h).mono ?_
  rintro e w2 ⟨rfl, rfl⟩
  go_wp2
  go_end0
  exact ⟨rfl, ⟨h.1, h.2.1, h.2.2.1.fr hfr (h.ne), hkv, by simp, h.2.2.2.2.2⟩, hfr⟩

set_option maxHeartbeats 1600000 in
theorem fits_ok (S S1 : Nat → Prop) (pb mb most : Nat) (l : List (Int × Value)) (v : Value) (n : Nat) (ss : List Int) (w : World) (h : IsB w S pb mb most l) (hv : View w S1 1 v n (ints .i64 ss)) (hw : ∀ s ∈ ss, (Lit.int .i64 s).wf = true) (hn : n ≤ 2000) :
    Calls Try.prog 8 #[.pointer (some ⟨pb, 0, none⟩), v] w fun e w' => e = .returned (.bool (decide ((addAll (l.map (·.1)) ss).length ≤ most))) ∧ Fr Nil w w' := by
  have hsn : ss.length = n := by have := hv.length; rwa [ints_length, Nat.mul_one] at this
  obtain ⟨_, A, c, rfl, e1, e2, e3, e4, e5⟩ := id hv
  go_enter Try.func8, Try.ntmps8
  go_wp2_with fail
  refine (made_ok S pb mb most l w h).mono ?_
  rintro e w2 ⟨rfl, rfl⟩
  go_wp2_with fail
  obtain ⟨W1, hW1⟩ : ∃ W1, W1 = w.alloc (.map #[] 0) := ⟨_, rfl⟩
  have hf1 : Fr Nil w W1 := by rw [hW1]; exact (Fr.refl _ _).alloc _
  have ha1 : KV W1 w.heap.size [] := by rw [hW1]; exact KV.made w
  have hs1 : W1.heap.size = w.heap.size + 1 := by rw [hW1]; simp
  rw [← hW1]
  clear hW1
  have hb1 := h.fr hf1 (fun _ _ h => h)
  have hv1 := hv.fr hf1 (fun _ _ _ h => h)
  have hlt := h.2.2.1.lt
  have hltm := h.2.2.2.1.lt
  go_wp2_with fail
  go_loopw [16] (fun v16 wr => ∃ (i : Nat) (acc : List (Int × Value)), v16 = .int .i64 i ∧ i ≤ n ∧ Fr (fun k => k = w.heap.size) W1 wr ∧ KV wr w.heap.size acc ∧ l.map (·.1) ++ acc.map (·.1) = addAll (l.map (·.1)) (ss.take i)) (fun v16 _ => n - (intOf v16).toNat)
  case atStart => exact ⟨0, [], rfl, by omega, Fr.refl _ _, ha1, by simp [addAll]⟩
  case round =>
    obtain ⟨i, acc, rfl, hi, hfr, hKr, hacc⟩ := hrel
    have hbr : IsB wr S pb mb most l := ⟨hb1.1, hb1.2.1, hb1.2.2.1.fr hfr (by omega), hb1.2.2.2.1.fr hfr (by omega), hb1.2.2.2.2⟩
    have hc1 : wr.cell? ⟨pb, 1, none⟩ = some (.map (some mb)) := hbr.2.2.1.cell 1
    have hc0 : wr.cell? ⟨pb, 0, none⟩ = some (.int .i64 (most : Int)) := hbr.2.2.1.cell 0
    have Hacc := hid hacc; clear hacc
    by_cases hlt : i < n
    · obtain ⟨b, o, rfl, h5a, h5b, h5⟩ := e5 (by omega)
      have hsi : i < ss.length := by omega
      have hcell : wr.cell? ⟨b, o + i, none⟩ = some (.int .i64 ss[i]) := hfr.cell (hf1.cell (h5 i _ (ints_at _ _ _ hsi)) id) (fun (e : b = w.heap.size) => by omega)
      have hwi := hw ss[i] (List.getElem_mem hsi)
      have hlk := hbr.2.2.2.1.look (P := Try.prog) Try.underlying3 Try.underlying41 (zero_bytes wr) true hwi
      have Htake := hid (show ss.take (i + 1) = ss.take i ++ [ss[i]] from List.take_succ_eq_append_getElem hsi)
      cases hg : (mget l ss[i]).isSome with
      | true =>
        have hin : ss[i] ∈ l.map (·.1) := by rw [mget_isSome] at hg; simpa using hg
        have Hin := hid hin; clear hin
        rw [hg] at hlk
        go_wp2
        go_roundw
        case rel => exact ⟨i + 1, acc, by go_num, by omega, hfr, hKr, by
          rw [Htake.out, addAll_one, ← Hacc.out, addKey_in (by simp only [List.mem_append]; exact .inl Hin.out)]⟩
        case measure => simp [intOf]; omega
      | false =>
        have hin : ss[i] ∉ l.map (·.1) := by rw [mget_isSome] at hg; simpa using hg
        have Hin := hid hin; clear hin
        rw [hg] at hlk
        have hal : acc.length + l.length = (addAll (l.map (·.1)) (ss.take i)).length := by rw [← Hacc.out]; simp; omega
        have hal2 := addAll_len (l.map (·.1)) (ss.take i)
        have hal3 : (mput acc ss[i] (.bool true)).length ≤ 1000000 := by
          have := hbr.2.2.2.2.1
          rw [mput_length]
          rw [List.length_take, List.length_map] at hal2
          split <;> omega
        clear hal hal2
        go_wp2_with (at_mapUpdate; refine wp_mapput rfl _ _ _ rfl Try.underlying3 Try.underlying44 hKr rfl rfl rfl hwi hal3 ?_)
        intro w3 hK3 hf3
        go_wp2
        go_roundw
        case rel => exact ⟨i + 1, _, by go_num, by omega, hfr.then hf3, hK3, by
          rw [Htake.out, addAll_one, ← Hacc.out, mput_keys', addKey_app Hin.out]⟩
        case measure => simp [intOf]; omega
    · have hin : i = n := by omega
      have hls := fun nq => KV.len (w := wr.drewN nq) hbr.2.2.2.1 (P := Try.prog) (t := 41) Try.underlying41
      have hla := fun nq => KV.len (w := wr.drewN nq) hKr (P := Try.prog) (t := 44) Try.underlying44
      have hal : l.length + acc.length = (addAll (l.map (·.1)) ss).length := by rw [← show ss.take i = ss from List.take_of_length_le (by omega), ← Hacc.out]; simp
      have Hal := hid hal; clear hal
      go_wp2_with fail
      go_quiet (fail)
      go_wp2
      go_ret
      have hl2 := h.2.2.2.2.1
      have hal := addAll_len (l.map (·.1)) ss
      rw [List.length_map] at hal
      have hwr : wrap64 ((l.length : Int) + (acc.length : Int)) = ((addAll (l.map (·.1)) ss).length : Int) := by
        rw [← Hal.out] at hal ⊢
        rw [wrap64_fit _ (by simp at hal; omega)]
        simp
      refine ⟨?_, (hf1.trans hfr (fun k hk => .inr ?_)).drewN _⟩
      · show Ending.returned (.bool (decide (wrap64 ((l.length : Int) + (acc.length : Int)) ≤ (most : Int)))) = _
        rw [hwr]
        simp
      · omega

/-- Get: what waits of a sector, a copy of it. -/
theorem get_none (S : Nat → Prop) (pb mb most : Nat) (l : List (Int × Value)) (s : Int) (hs : (Lit.int .i64 s).wf = true) (w : World) (h : IsB w S pb mb most l) (hg : mget l s = none) :
    Calls Try.prog 12 #[.pointer (some ⟨pb, 0, none⟩), .int .i64 s] w fun e w' => e = .returned (.tuple #[.slice none 0 0, .bool false]) ∧ Fr Nil w w' := by
  have hc : w.cell? ⟨pb, 1, none⟩ = some (.map (some mb)) := h.2.2.1.cell 1
  have hlk := h.2.2.2.1.look (P := Try.prog) Try.underlying3 Try.underlying41 (zero_bytes w) true hs
  rw [hg] at hlk
  go_enter Try.func12, Try.ntmps12
  go_wp2_with fail
  refine (made_ok S pb mb most l w h).mono ?_
  rintro e w2 ⟨rfl, rfl⟩
  go_wp2_with fail
  refine (clone_ok Nil (.slice none 0 0) 0 [] (by omega) w (View.nil _ _ _)).mono ?_
  rintro e w3 ⟨A, c, rfl, hR, hf, hA⟩
  obtain rfl := hA.2 rfl
  have : c = 0 := by
    rcases hR.1.2 with ⟨h1, _⟩ | ⟨g, cap, cur, h1, _⟩
    · injection h1
    · cases h1
  subst this
  go_wp2
  go_ret2
  exact ⟨rfl, hf⟩
theorem get_some (S S1 : Nat → Prop) (pb mb most : Nat) (l : List (Int × Value)) (s : Int) (v : Value) (n : Nat) (xs : List Nat) (hn : n < 1000000) (hs : (Lit.int .i64 s).wf = true) (w : World) (h : IsB w S pb mb most l) (hg : mget l s = some v) (hv : View w S1 1 v n (bys xs)) :
    Calls Try.prog 12 #[.pointer (some ⟨pb, 0, none⟩), .int .i64 s] w fun e w' => ∃ A c, e = .returned (.tuple #[.slice A n c, .bool true]) ∧ Row w' (New w) 5 1 (.slice A n c) n (bys xs) ∧ Fr Nil w w' := by
  have hc : w.cell? ⟨pb, 1, none⟩ = some (.map (some mb)) := h.2.2.1.cell 1
  have hlk := h.2.2.2.1.look (P := Try.prog) Try.underlying3 Try.underlying41 (zero_bytes w) true hs
  rw [hg] at hlk
  go_enter Try.func12, Try.ntmps12
  go_wp2_with fail
  refine (made_ok S pb mb most l w h).mono ?_
  rintro e w2 ⟨rfl, rfl⟩
  go_wp2_with fail
  refine (clone_ok S1 v n xs (by omega) w hv).mono ?_
  rintro e w3 ⟨A, c, rfl, hR, hf, hA⟩
  go_wp2
  go_ret2
  exact ⟨A, c, rfl, hR, hf⟩

theorem ints_one (w : World) (s : Int) : View (w.alloc (.cells #[.int .i64 s] 3)) (New w) 1 (.slice (some ⟨w.heap.size, 0, none⟩) 1 1) 1 (ints .i64 [s]) :=
  View.lit w #[.int .i64 s] 3 (0, 0) 1 rfl (by omega)

/-- Put: a sector waits that may. -/
theorem put_bad (p : Option Addr) (v : Value) (s : Int) (A : Option Addr) (n c : Nat) (hb : n ≠ 128 ∨ s < 0) (w : World) :
    Calls Try.prog 9 #[.pointer p, .int .i64 s, .slice A n c] w fun e w' => e = .returned (.bool false) ∧ w = w' := by
  by_cases hn : n = 128
  · subst hn
    have hs : s < 0 := by omega
    go_enter Try.func9, Try.ntmps9
    go_wp2
    go_ret
    exact ⟨rfl, rfl⟩
  · have hn1 : ((n : Int) == 128) = false := by simp; omega
    have hn2 : ((n : Int) != 128) = true := by simp; omega
    have Hn := hid hn; clear hn
    go_enter Try.func9, Try.ntmps9
    go_wp2
    go_ret
    exact ⟨rfl, rfl⟩

theorem put_full (S : Nat → Prop) (pb mb most : Nat) (l : List (Int × Value)) (s : Int) (A : Option Addr) (c : Nat) (hs : 0 ≤ s) (hw : (Lit.int .i64 s).wf = true) (hf : most < (addKey (l.map (·.1)) s).length) (w : World) (h : IsB w S pb mb most l) :
    Calls Try.prog 9 #[.pointer (some ⟨pb, 0, none⟩), .int .i64 s, .slice A 128 c] w fun e w' => e = .returned (.bool false) ∧ Fr Nil w w' := by
  have hs0 : ¬ s < 0 := by omega
  go_enter Try.func9, Try.ntmps9
  go_wp2_with fail
  obtain ⟨W1, hW1⟩ : ∃ W1, W1 = w.alloc (.cells #[.int .i64 s] 3) := ⟨_, rfl⟩
  have hf1 : Fr Nil w W1 := by rw [hW1]; exact (Fr.refl _ _).alloc _
  have hv1 : View W1 (New w) 1 (.slice (some ⟨w.heap.size, 0, none⟩) 1 1) 1 (ints .i64 [s]) := by rw [hW1]; exact ints_one w s
  rw [← hW1]
  clear hW1
  refine (fits_ok S (New w) pb mb most l _ 1 [s] W1 (h.fr hf1 fun _ _ h => h) hv1 (by simpa using hw) (by omega)).mono ?_
  rintro e w2 ⟨rfl, hf2⟩
  have hd : decide ((addAll (l.map (·.1)) [s]).length ≤ most) = false := by
    have : addAll (l.map (·.1)) [s] = addKey (l.map (·.1)) s := rfl
    rw [this]; simpa using hf
  rw [hd]
  go_wp2
  go_ret
  exact ⟨rfl, hf1.then hf2⟩

set_option maxHeartbeats 1600000 in
theorem put_ok (S S1 : Nat → Prop) (pb mb most : Nat) (l : List (Int × Value)) (s : Int) (v : Value) (xs : List Nat) (hs : 0 ≤ s) (hw : (Lit.int .i64 s).wf = true) (hf : (addKey (l.map (·.1)) s).length ≤ most) (w : World) (h : IsB w S pb mb most l) (hv : View w S1 1 v 128 (bys xs)) :
    Calls Try.prog 9 #[.pointer (some ⟨pb, 0, none⟩), .int .i64 s, v] w fun e w' => e = .returned (.bool true) ∧ ∃ u, IsB w' S pb mb most (mput l s u) ∧ View w' (New w) 1 u 128 (bys xs) ∧ Fr (fun k => k = mb) w w' := by
  have hs0 : ¬ s < 0 := by omega
  obtain ⟨_, A, c, rfl, -⟩ := id hv
  have hlt := h.2.2.1.lt
  have hltm := h.2.2.2.1.lt
  have hml : ∀ u, (mput l s u).length ≤ most := fun u => by
    have := congrArg List.length (mput_keys' (l := l) (i := s) (v := u))
    rw [List.length_map] at this; omega
  have hm5 := h.2.2.2.2.2
  go_enter Try.func9, Try.ntmps9
  go_wp2_with fail
  obtain ⟨W1, hW1⟩ : ∃ W1, W1 = w.alloc (.cells #[.int .i64 s] 3) := ⟨_, rfl⟩
  have hf1 : Fr Nil w W1 := by rw [hW1]; exact (Fr.refl _ _).alloc _
  have hv1 : View W1 (New w) 1 (.slice (some ⟨w.heap.size, 0, none⟩) 1 1) 1 (ints .i64 [s]) := by rw [hW1]; exact ints_one w s
  rw [← hW1]
  clear hW1
  refine (fits_ok S (New w) pb mb most l _ 1 [s] W1 (h.fr hf1 fun _ _ h => h) hv1 (by simpa using hw) (by omega)).mono ?_
  rintro e w2 ⟨rfl, hf2⟩
  have hd : decide ((addAll (l.map (·.1)) [s]).length ≤ most) = true := by
    have : addAll (l.map (·.1)) [s] = addKey (l.map (·.1)) s := rfl
    rw [this]; simpa using hf
  rw [hd]
  have hf3 : Fr Nil w w2 := hf1.then hf2
  have hb2 := h.fr hf3 fun _ _ h => h
  have hv2 := hv.fr hf3 fun _ _ _ h => h
  have hc : w2.cell? ⟨pb, 1, none⟩ = some (.map (some mb)) := hb2.2.2.1.cell 1
  go_wp2_with fail
  go_region_with (go_at_call 16; refine (clone_ok S1 (.slice A 128 c) 128 xs (by omega) w2.drew hv2.drew).mono ?_; rintro e w4 ⟨A3, c3, rfl, hR3, hf4, -⟩; have hb3 := hb2.drew.fr hf4 (fun _ _ h => h); have hc3 : w4.cell? ⟨pb, 1, none⟩ = some (.map (some mb)) := hb3.2.2.1.cell 1; obtain ⟨w5, hrun5, hK5, hf5⟩ := hb3.2.2.2.1.store (P := Try.prog) (v := .slice A3 128 c3) Try.underlying3 Try.underlying41 hw (by have := hml (.slice A3 128 c3); omega))
  all_goals
    have hb6 : IsB w5 S pb mb most (mput l s (.slice A3 128 c3)) := ⟨h.1, h.2.1, hb3.2.2.1.fr hf5 h.ne, hK5, by have := hml (.slice A3 128 c3); omega, hm5⟩
    have hs2 : w.heap.size ≤ w2.heap.size := hf3.size
    have hv6 : View w5 (New w) 1 (.slice A3 128 c3) 128 (bys xs) := (hR3.view.fr hf5 (fun k hk _ (e : k = mb) => by have : w2.heap.size ≤ k := hk; omega)).mono (fun k hk => by have : w2.heap.size ≤ k := hk; unfold New; omega)
    have hf6 : Fr (fun k => k = mb) w w5 := ((hf3.nil.drew).then (hf4.mono fun _ h => h.elim)).then hf5
    go_wp2
    go_ret
    exact ⟨rfl, _, hb6, hv6, hf6⟩

/-- What is trimmed. -/
def secs (a n : Nat) : List Int := (List.range n).map (fun i : Nat => ((a + i : Nat) : Int))
theorem secs_length (a n : Nat) : (secs a n).length = n := by simp [secs]
theorem secs_one (a n : Nat) : secs a (n + 1) = secs a n ++ [((a + n : Nat) : Int)] := by simp [secs, List.range_succ]
def trimmed (l : List (Int × Value)) (ss : List Int) : List (Int × Value) := ss.foldl (fun l s => mput l s (.slice none 0 0)) l
theorem trimmed_one (l : List (Int × Value)) (ss : List Int) (s : Int) : trimmed l (ss ++ [s]) = mput (trimmed l ss) s (.slice none 0 0) := by simp [trimmed]
theorem trimmed_keys (l : List (Int × Value)) (ss : List Int) : (trimmed l ss).map (·.1) = addAll (l.map (·.1)) ss := by
  induction ss generalizing l with
  | nil => rfl
  | cons s ss ih => simp only [trimmed, addAll, List.foldl_cons] at *; rw [ih, mput_keys']

/-- Trim: that may not be. -/
theorem trim_bad (p : Value) (a n : Int) (hb : n < 0 ∨ a < 0 ∨ 512 < n ∨ 512 - n < a) (ha : -1000000 ≤ a ∧ a ≤ 1000000) (hn : -1000000 ≤ n ∧ n ≤ 1000000) (w : World) :
    Calls Try.prog 10 #[p, .int .i64 a, .int .i64 n] w fun e w' => e = .returned (.bool false) ∧ w = w' := by
  have hwr : wrap64 (512 - n) = 512 - n := wrap64_fit _ (by omega)
  have Hwr := hid hwr
  by_cases h1 : n < 0
  · clear hwr
    go_enter Try.func10, Try.ntmps10
    go_wp2
    go_ret
    exact ⟨rfl, rfl⟩
  by_cases h2 : a < 0
  · clear hwr
    go_enter Try.func10, Try.ntmps10
    go_wp2
    go_ret
    exact ⟨rfl, rfl⟩
  by_cases h3 : 512 < n
  · clear hwr
    go_enter Try.func10, Try.ntmps10
    go_wp2
    go_ret
    exact ⟨rfl, rfl⟩
  have h4 : 512 - n < a := by omega
  go_enter Try.func10, Try.ntmps10
  go_wp2
  go_ret
  exact ⟨rfl, rfl⟩

theorem info_int : (Try.prog.info? 3).map (fun i => (i.zero, i.size, i.bytes)) = some (some (.int .i64 0), 1, 8) := by kernel_rfl
theorem ints_app (xs : List Int) (x : Int) : ints .i64 (xs ++ [x]) = ints .i64 xs ++ [.int .i64 x] := by simp [ints]
/-- x = append(x, u) of an int, its cell just made. -/
theorem app_int {ops : Array Oper} {rest : List Oper} {o : Oper} {a : Act} {Q : Exit → Act → World → Prop} {w : World} {S : Nat → Prop} {v : Value} {n : Nat} {xs : List Int} (hgd : o.guard = none) (x y : Operand)
    (ho : o.op = .call { callee := .builtin .append, args := #[x, y], argTypes := #[27, 27] }) (u : Int)
    (hrow : Row w S 3 1 v n (ints .i64 xs)) (hs : a.eval x = v) (hx : a.eval y = .slice (some ⟨w.heap.size, 0, none⟩) 1 1) (hb : n < 1000000000)
    (h : Stop (∀ g cap w', Row w' (fun k => k = g) 3 1 (.slice (some ⟨g, 0, none⟩) (n + 1) cap) (n + 1) (ints .i64 (xs ++ [u])) → (v.ownBlock = some g ∨ w.heap.size ≤ g) → Fr (fun k => v.ownBlock = some k) w w' → g < w'.heap.size →
      wpList Try.prog ops Q rest (a.put o.dst (.slice (some ⟨g, 0, none⟩) (n + 1) cap)) w') .mk) : wpList Try.prog ops Q (o :: rest) a (w.alloc (.cells #[.int .i64 u] 3)) := by
  refine wp_app hgd x y 27 ho (.int .i64 0) 8 Try.underlying27 info_int rfl (by decide) (hrow.alloc _) hs _ 1 1 [.int .i64 u] hx (by decide) rfl (cell_one_new _ _ _) (by simp [Value.oneCell']) (by omega) (by decide) ?_
  intro g cap w' h1 h2 h3 h4 _
  rw [← ints_app] at h1
  refine h g cap w' h1 (h2.imp id fun h => by simp at h; omega) ?_ h4
  exact ((Fr.refl _ w).alloc _).trans h3 (fun _ h => .inl h)

set_option maxHeartbeats 3200000 in
theorem trim_any (S : Nat → Prop) (pb mb most : Nat) (l : List (Int × Value)) (a n : Nat) (hn : a + n ≤ 512) (w : World) (h : IsB w S pb mb most l) :
    Calls Try.prog 10 #[.pointer (some ⟨pb, 0, none⟩), .int .i64 a, .int .i64 n] w fun e w' =>
      (e = .returned (.bool true) ∧ (addAll (l.map (·.1)) (secs a n)).length ≤ most ∧ IsB w' S pb mb most (trimmed l (secs a n)) ∧ Fr (fun k => k = mb) w w') ∨ (e = .returned (.bool false) ∧ ¬ (addAll (l.map (·.1)) (secs a n)).length ≤ most ∧ Fr Nil w w') := by
  have hwr : wrap64 (512 - (n : Int)) = 512 - n := wrap64_fit _ (by omega)
  have h1 : decide ((n : Int) < 0) = false := by simp
  have h2 : decide ((a : Int) < 0) = false := by simp
  have h3 : decide ((512 : Int) < n) = false := by simp; omega
  have h4 : decide ((512 : Int) - n < a) = false := by simp; omega
  have hlt := h.2.2.1.lt
  have hltm := h.2.2.2.1.lt
  go_enter Try.func10, Try.ntmps10
  go_wp2_with fail
  go_loopw [7, 28] (fun v7 v28 wr => ∃ (i : Nat), v28 = .int .i64 i ∧ i ≤ n ∧ Fr Nil w wr ∧ ∃ v, v7 = v ∧ Row wr (New w) 3 1 v i (ints .i64 (secs a i))) (fun _ v28 _ => n - (intOf v28).toNat)
  case atStart => exact ⟨0, rfl, by omega, Fr.refl _ _, _, rfl, Row.nil _ _ _ _⟩
  case round =>
    obtain ⟨i, rfl, hi, hfr, v, hv7, hRr⟩ := hrel
    have hv7' := hv7.symm
    subst hv7'
    by_cases hlt : i < n
    · have hwi : wrap64 ((a : Int) + (i : Int)) = ((a + i : Nat) : Int) := by rw [wrap64_fit _ (by omega)]; simp
      go_wp2_with (at_builtin; refine app_int rfl _ _ rfl _ hRr rfl rfl (by omega) ?_)
      intro g cap w3 r1 r2 r3 r4
      go_wp2
      go_roundw
      case rel =>
        refine ⟨i + 1, by go_num, by omega, hfr.trans r3 (fun k hk => .inr (hRr.2 k hk)), _, rfl, ?_⟩
        rw [secs_one]
        refine Row.mono (by rw [Int.natCast_add]; exact r1) fun k hk => ?_
        subst hk
        rcases r2 with h | h
        · exact hRr.2 _ h
        · have := hfr.size; unfold New; omega
      case measure => simp [intOf]; omega
    · have hin : i = n := by omega
      subst hin
      have hb1 := h.fr hfr fun _ _ h => h
      have hwf : ∀ s ∈ secs a i, (Lit.int .i64 s).wf = true := fun s hs => by
        obtain ⟨j, hj, rfl⟩ := List.mem_map.1 hs
        simp only [List.mem_range] at hj
        simp [Lit.wf, IntKind.min, IntKind.max, IntKind.signed, IntKind.bits]
        omega
      obtain ⟨A, c, rfl⟩ := hRr.slice
      have hH4 := hid h4
      clear hwr h4
      go_wp2_with fail
      refine (fits_ok S (New w) pb mb most l _ i (secs a i) wr hb1 hRr.view hwf (by omega)).mono ?_
      rintro e w2 ⟨rfl, hf2⟩
      have hf3 : Fr Nil w w2 := hfr.then hf2
      have hb2 := hb1.fr hf2 fun _ _ h => h
      have hR2 := hRr.frS hf2 fun _ _ h => h
      by_cases hle : (addAll (l.map (·.1)) (secs a i)).length ≤ most
      · rw [show decide ((addAll (l.map (·.1)) (secs a i)).length ≤ most) = true by simpa using hle]
        have Hle := hid hle; clear hle
        go_wp2_with fail
        go_loopw [44] (fun v44 wr => ∃ (j : Nat), v44 = .int .i64 j ∧ j ≤ i ∧ Fr (fun k => k = mb) w2 wr ∧ IsB wr S pb mb most (trimmed l (secs a j))) (fun v44 _ => i - (intOf v44).toNat)
        case atStart => exact ⟨0, rfl, by omega, Fr.refl _ _, hb2⟩
        case round =>
          obtain ⟨j, rfl, hj, hfj, hbj⟩ := hrel
          have hRj := hR2.view.fr hfj (fun k hk _ (e : k = mb) => by have : w.heap.size ≤ k := hk; omega)
          have hcj : _root_.Go.World.cell? _ ⟨pb, 1, none⟩ = some (.map (some mb)) := hbj.2.2.1.cell 1
          by_cases hjl : j < i
          · obtain ⟨_, A', c', hA', _, _, _, _, h5⟩ := hRj
            injection hA' with hA1 _ _
            subst hA1
            obtain ⟨b, o, rfl, h5a, h5b, h5⟩ := h5 (by omega)
            have hsj : j < (secs a i).length := by rw [secs_length]; omega
            have hcell := h5 j _ (ints_at .i64 (secs a i) j hsj)
            have hval : (secs a i)[j] = ((a + j : Nat) : Int) := by simp [secs]
            rw [hval] at hcell
            have hwj : (Lit.int .i64 ((a + j : Nat) : Int)).wf = true := hwf _ (by rw [← hval]; exact List.getElem_mem hsj)
            clear h5
            have hlen : (mput (trimmed l (secs a j)) ((a + j : Nat) : Int) (.slice none 0 0)).length ≤ 1000000 := by
              have := hbj.2.2.2.2.1
              rw [mput_length]
              split <;> omega
            go_wp2_with (at_mapUpdate; refine wp_mapput rfl _ _ _ rfl Try.underlying3 Try.underlying41 hbj.2.2.2.1 rfl rfl rfl hwj hlen ?_)
            intro w3 hK3 hf3'
            go_wp2
            go_roundw
            case rel =>
              refine ⟨j + 1, by go_num, by omega, hfj.then hf3', h.1, h.2.1, hbj.2.2.1.fr hf3' h.ne, ?_, ?_, h.2.2.2.2.2⟩
              · rw [secs_one, trimmed_one]; exact hK3
              · have h6 := congrArg List.length (trimmed_keys l (secs a (j + 1)))
                have h7 := addAll_len (l.map (·.1)) (secs a (j + 1))
                rw [List.length_map] at h6 h7
                rw [secs_length] at h7
                rw [h6]
                have h8 : l.length ≤ most := Nat.le_trans (by have := addAll_ge (l.map (·.1)) (secs a i); rw [List.length_map] at this; exact this) Hle.out
                have h9 := h.2.2.2.2.2
                omega
            case measure => simp [intOf]; omega
          · have hji : j = i := by omega
            subst hji
            go_wp2
            go_ret
            exact .inl ⟨rfl, Hle.out, hbj, hf3.nil.then hfj⟩
      · rw [show decide ((addAll (l.map (·.1)) (secs a i)).length ≤ most) = false by simpa using hle]
        have Hle := hid hle; clear hle
        go_wp2
        go_ret
        exact .inr ⟨rfl, Hle.out, hf3⟩

theorem trim_ok (S : Nat → Prop) (pb mb most : Nat) (l : List (Int × Value)) (a n : Nat) (hn : a + n ≤ 512) (w : World) (h : IsB w S pb mb most l) (hle : (addAll (l.map (·.1)) (secs a n)).length ≤ most) :
    Calls Try.prog 10 #[.pointer (some ⟨pb, 0, none⟩), .int .i64 a, .int .i64 n] w fun e w' => e = .returned (.bool true) ∧ IsB w' S pb mb most (trimmed l (secs a n)) ∧ Fr (fun k => k = mb) w w' :=
  (trim_any S pb mb most l a n hn w h).mono fun _ _ h => h.elim (fun ⟨a, _, b⟩ => ⟨a, b⟩) (fun h => absurd hle h.2.1)
theorem trim_full (S : Nat → Prop) (pb mb most : Nat) (l : List (Int × Value)) (a n : Nat) (hn : a + n ≤ 512) (w : World) (h : IsB w S pb mb most l) (hle : ¬ (addAll (l.map (·.1)) (secs a n)).length ≤ most) :
    Calls Try.prog 10 #[.pointer (some ⟨pb, 0, none⟩), .int .i64 a, .int .i64 n] w fun e w' => e = .returned (.bool false) ∧ Fr Nil w w' :=
  (trim_any S pb mb most l a n hn w h).mono fun _ _ h => h.elim (fun h => absurd h.2.1 hle) (fun ⟨a, _, b⟩ => ⟨a, b⟩)
end Go.Proofs.Ytahedenbchgglaa

/- The law CellReads: its walk. -/
import Derived.Test.YtknkilobdeeiaaaCellReads1
set_option linter.unusedSimpArgs false
set_option linter.unusedVariables false
namespace Go.Proofs.Ytknkilobdeeiaaa
open Go.RowKit

theorem u8_bys : ∀ (l : List Int), (∀ z ∈ l, (Lit.int .u8 z).wf = true) → ints .u8 l = bys (l.map Int.toNat) ∧ Byt (l.map Int.toNat)
  | [], _ => ⟨rfl, by intro c hc; simp at hc⟩
  | z :: l, h => by
    obtain ⟨h1, h2⟩ := u8_bys l fun z hz => h z (List.mem_cons_of_mem _ hz)
    have hz := bounds_u8 (h z (by simp))
    refine ⟨?_, ?_⟩
    · show Value.int .u8 z :: ints .u8 l = Value.int .u8 ((z.toNat : Nat) : Int) :: bys (l.map Int.toNat)
      rw [h1, show ((z.toNat : Nat) : Int) = z by omega]
    · intro c hc
      rcases List.mem_cons.1 hc with rfl | hc
      · omega
      · exact h2 c hc

set_option maxRecDepth 100000 in
set_option maxHeartbeats 8000000 in
theorem reads_ok (A : Option Addr) (n c : Nat) (zs : List Int) (v1 : Value) (w : World) (hr : IsRow .u8 w A n c zs) (hQ : ∃ n ps, Parts w (fun k => k < w.heap.size) v1 n ps) :
    Calls Try.prog 7 #[.slice A n c, v1] w fun e w' => e = .returned (.bool true) ∧ Fr Nil w w' := by
  obtain ⟨m, ps, hP⟩ := hQ
  obtain ⟨A1, c1, rfl, hnm⟩ : ∃ A c, v1 = .slice A m c ∧ m ≤ 9223372036854775807 := let ⟨_, A, c, e, h, _⟩ := hP; ⟨A, c, e, h⟩
  obtain ⟨hv, hlen, hwf⟩ := hr.view
  obtain ⟨he, hB⟩ := u8_bys _ hwf
  rw [he] at hv
  obtain ⟨xs, hxs⟩ : ∃ xs, xs = (zs.take n).map Int.toNat := ⟨_, rfl⟩
  rw [← hxs] at hv hB
  have hxn : xs.length = n := by rw [hxs, List.length_map, hlen]
  clear hxs he hwf hlen hr
  have hnle := hv.le
  go_enter Try.func7, Try.ntmps7
  go_wp2_with fail
  obtain ⟨W1, hW1⟩ : ∃ W1, W1 = (w.alloc (.cells #[.slice A n c] 24)).alloc (.cells #[.slice A1 m c1] 22) := ⟨_, rfl⟩
  have hs1 : W1.heap.size = w.heap.size + 2 := by rw [hW1]; simp
  have hf1 : Fr Nil w W1 := by rw [hW1]; exact ((Fr.refl _ _).alloc _).alloc _
  have hb1 : Blk W1 w.heap.size #[.slice A n c] 24 := by rw [hW1]; exact (Blk.new _ _ _).alloc _
  have hl1 : Blk W1 (w.heap.size + 1) #[.slice A1 m c1] 22 := by rw [hW1, show w.heap.size + 1 = (w.alloc (.cells #[.slice A n c] 24)).heap.size by simp]; exact Blk.new _ _ _
  rw [← hW1]
  clear hW1
  refine (awake_ok _).mono ?_
  rintro e w1 ⟨rfl, hf2⟩
  have hsz1 := hf2.size
  have hb2 := hb1.fr hf2 (fun h => h)
  have hl2 := hl1.fr hf2 (fun h => h)
  have hf : Fr Nil w w1 := hf1.then hf2
  have hcb2 : w1.cell? ⟨w.heap.size, 0, none⟩ = some (.slice A n c) := hb2.cell 0
  have hcl2 : w1.cell? ⟨w.heap.size + 1, 0, none⟩ = some (.slice A1 m c1) := hl2.cell 0
  clear hf1 hf2 hb1 hl1
  by_cases hbig : 2000 < n
  · go_wp2
    go_ret
    exact ⟨rfl, hf⟩
  by_cases hbig2 : 100 < m
  · go_wp2
    go_ret
    exact ⟨rfl, hf⟩
  obtain ⟨W2, hW2⟩ : ∃ W2, W2 = ((w1.alloc (.cells #[.slice A n c, .int .i64 0, .int .i64 0] 52)).alloc (.cells #[.pointer (some ⟨w1.heap.size, 0, none⟩)] 50)).alloc (.cells #[.bool true] 4) := ⟨_, rfl⟩
  have hs2 : W2.heap.size = w1.heap.size + 3 := by rw [hW2]; simp
  have hf2 : Fr Nil w1 W2 := by rw [hW2]; exact (((Fr.refl _ _).alloc _).alloc _).alloc _
  have hC2 : Blk W2 w1.heap.size #[.slice A n c, .int .i64 0, .int .i64 0] 52 := by rw [hW2]; exact ((Blk.new _ _ _).alloc _).alloc _
  have hM2 : Blk W2 (w1.heap.size + 1) #[.pointer (some ⟨w1.heap.size, 0, none⟩)] 50 := by
    rw [hW2, show w1.heap.size + 1 = (w1.alloc (.cells #[.slice A n c, .int .i64 0, .int .i64 0] 52)).heap.size by simp]
    exact (Blk.new _ _ _).alloc _
  have hO2 : Blk W2 (w1.heap.size + 2) #[.bool true] 4 := by
    rw [hW2, show w1.heap.size + 2 = ((w1.alloc (.cells #[.slice A n c, .int .i64 0, .int .i64 0] 52)).alloc (.cells #[.pointer (some ⟨w1.heap.size, 0, none⟩)] 50)).heap.size by simp]
    exact Blk.new _ _ _
  have hb3 := hb2.fr hf2 (fun h => h)
  have hl3 := hl2.fr hf2 (fun h => h)
  have hcb3 : W2.cell? ⟨w.heap.size, 0, none⟩ = some (.slice A n c) := hb3.cell 0
  have hcb4 := hcb3
  rw [hW2] at hcb4
  go_wp2_with fail
  rw [← hW2]
  clear hcb4 hW2
  have hv2 := hv.fr (hf.then hf2) (fun _ _ _ h => h)
  have hP2 := hP.fr (hf.then hf2) (fun _ _ _ h => h)
  clear hv hP
  have hIC : IsC W2 (fun k => k < w.heap.size) w1.heap.size xs xs 0 := ⟨A, c, 0, by rw [hxn]; exact hC2, by rw [hxn]; exact hv2, by simp, rfl⟩
  refine (read_ok 28 _ _ n xs (fun k => k < w.heap.size) (fun k => k = w1.heap.size + 2 ∨ k = w1.heap.size) (by omega) W2 hv2 (by rintro k (rfl | rfl) <;> omega) call_reads1
    (fun rest w' => IsC w' (fun k => k < w.heap.size) w1.heap.size xs rest 0 ∧ Blk w' (w1.heap.size + 2) #[.bool true] 4)
    (fun er w' => er ≠ 0 ∧ Blk w' (w1.heap.size + 2) #[.bool true] 4 ∧ ∃ (A : Option Addr) (c a : Nat), Blk w' w1.heap.size #[.slice A xs.length c, .int .i64 a, .int .i64 er] 52) ?_).mono ?_
  · intro wb rb q1 q2 hRb hfb
    have hCb : IsC wb (fun k => k < w.heap.size) w1.heap.size xs xs 0 := hIC.fr hfb (fun h => h) (fun _ _ _ h => h)
    refine (reads1_ok (fun k => W2.heap.size < k) (fun k => k < w.heap.size) (fun k => k < w.heap.size) rb (w.heap.size + 1) w.heap.size (w1.heap.size + 1) (w1.heap.size + 2) w1.heap.size m c1 c A1 A ps xs wb hB (by omega) hRb hCb (hP2.fr hfb (fun _ _ _ h => h)) (hl3.fr hfb (fun h => h)) (by rw [hxn]; exact hb3.fr hfb (fun h => h)) (hM2.fr hfb (fun h => h)) (hO2.fr hfb (fun h => h))
      (fun k hk => ⟨by omega, by omega, by omega⟩) (fun k hk => ⟨by omega, by omega, by omega⟩) ⟨by omega, by omega, by omega, by omega, by omega⟩ ⟨by omega, by omega, by omega, by omega, by omega, by omega, by omega⟩).mono ?_
    rintro e w3 ⟨g1, g2, ⟨rest, rfl, g3, g4⟩ | ⟨er, A', c', a', rfl, g3, g4⟩⟩
    · exact ⟨g1.mono (by rintro k (h | h | h); exact .inl (.inl h); exact .inr h; exact .inl (.inr h)), .inl ⟨rest, rfl, g3, g4, g2⟩⟩
    · exact ⟨g1.mono (by rintro k (h | h | h); exact .inl (.inl h); exact .inr h; exact .inl (.inr h)), .inr ⟨er, rfl, g3, g2, A', c', a', g4⟩⟩
  rintro e w5 ⟨w6, hf6, hf5, hres⟩
  have hsz6 := hf6.size
  have hsz5 := hf5.size
  have hM5 := (hM2.fr hf6 (fun h => by omega)).fr hf5 (fun h => by omega)
  have hb5 := (hb3.fr hf6 (fun h => by omega)).fr hf5 (fun h => by omega)
  have hcM : w5.cell? ⟨w1.heap.size + 1, 0, none⟩ = some (.pointer (some ⟨w1.heap.size, 0, none⟩)) := hM5.cell 0
  have hcb5 : w5.cell? ⟨w.heap.size, 0, none⟩ = some (.slice A n c) := hb5.cell 0
  have hall : Fr Nil w w5 := ((hf.then hf2).trans hf6 (by rintro k (h | h) <;> exact .inr (by omega))).trans hf5 (fun k hk => .inr (by omega))
  have hend : ∀ r : Int, e = .returned (.int .i64 r) → Blk w5 (w1.heap.size + 2) #[.bool true] 4 → Hid (∀ w', w' = w5 → Calls Try.prog 32 #[.pointer (some ⟨w1.heap.size, 0, none⟩)] w' fun e w' => e = .returned (.int .i64 r) ∧ ∃ n, w' = w5.drewN n) → True := fun _ _ _ _ => trivial
  clear hend
  obtain ⟨r, rfl, hO5, hE⟩ : ∃ r, e = .returned (.int .i64 r) ∧ Blk w5 (w1.heap.size + 2) #[.bool true] 4 ∧ Hid (Calls Try.prog 32 #[.pointer (some ⟨w1.heap.size, 0, none⟩)] w5 fun e w' => e = .returned (.int .i64 r) ∧ ∃ n, w' = w5.drewN n) := by
    rcases hres with ⟨rest, ⟨g3, g4⟩, rfl⟩ | ⟨er, ⟨g3, g4, A', c', a', g5⟩, rfl⟩
    · exact ⟨_, rfl, g4.fr hf5 (fun h => by omega), hid (refend_ok _ _ xs rest (by omega) _ rfl w5 (g3.fr hf5 (fun h => by omega) (fun k hk _ h => by omega)))⟩
    · exact ⟨_, rfl, g4.fr hf5 (fun h => by omega), hid (refend_bad _ _ a' c' A' er g3 w5 (g5.fr hf5 (fun h => by omega)))⟩
  have hcO : w5.cell? ⟨w1.heap.size + 2, 0, none⟩ = some (.bool true) := hO5.cell 0
  go_wp2_with fail
  refine hE.out.mono ?_
  rintro e w7 ⟨rfl, nq, rfl⟩
  have hcb7 : (w5.drewN nq).cell? ⟨w.heap.size, 0, none⟩ = some (.slice A n c) := hcb5
  go_wp2_with fail
  refine (read_nil _ _).mono ?_
  rintro e w8 ⟨rfl, hf8⟩
  go_wp2
  go_ret
  exact ⟨rfl, (hall.drewN nq).then hf8⟩
end Go.Proofs.Ytknkilobdeeiaaa

/- The texts SlP, SlQ of this proof, one behind the other. Conditions: those of each. -/
import Derived.Test.YtgoghmblfdlnbaaGreatGR37
section
/- Slab: frames written one behind the other: plain laws; what a law keeps of them. No program. -/
set_option linter.unusedSimpArgs false
set_option linter.unusedVariables false
namespace Go.Proofs.YtgoghmblfdlnbaaGreat
open Go.RowKit
/-- What is free when the last left blocks are. -/
def freeN (bl left : Nat) : List Rn := if left = 0 then [] else [⟨bl - left, left⟩]
def us1 (rs : List Rn) : List Us := rs.map fun r => ⟨r.a, r.n, 1⟩
theorem freeN_no {bl left n : Nat} (h : left < n) : ¬ takeI (freeN bl left) (n : Int) < (freeN bl left).length := by
  unfold freeN takeI
  rw [if_pos (show (1 : Int) ≤ (n : Int) by omega)]
  by_cases h0 : left = 0
  · rw [if_pos h0]; simp
  · rw [if_neg h0, List.findIdx_cons]
    have : fits (n : Int) ⟨bl - left, left⟩ = false := by unfold fits; simp; omega
    rw [this]
    simp
theorem freeN_yes {bl left n : Nat} (h1 : 1 ≤ n) (h : n ≤ left) (hb : left ≤ bl) : takeI (freeN bl left) (n : Int) < (freeN bl left).length ∧ (rn (freeN bl left) (takeI (freeN bl left) (n : Int))).a = bl - left ∧ takeL (freeN bl left) (n : Int) = freeN bl (left - n) := by
  have h0 : ¬ left = 0 := by omega
  have e : freeN bl left = [⟨bl - left, left⟩] := by unfold freeN; rw [if_neg h0]
  have hi : takeI (freeN bl left) (n : Int) = 0 := by
    rw [e]
    unfold takeI
    rw [if_pos (show (1 : Int) ≤ (n : Int) by omega), List.findIdx_cons]
    have : fits (n : Int) ⟨bl - left, left⟩ = true := by unfold fits; simp; omega
    rw [this]; rfl
  have hl : (freeN bl left).length = 1 := by rw [e]; rfl
  refine ⟨by rw [hi, hl]; decide, by rw [hi, e]; rfl, ?_⟩
  unfold takeL
  rw [if_pos (by rw [hi, hl]; decide), hi, e]
  unfold putl freeN
  show [] ++ List.filter nz [⟨bl - left + (n : Int).toNat, left - (n : Int).toNat⟩] ++ [] = _
  rw [List.nil_append, List.append_nil, Int.toNat_natCast]
  by_cases hn : left - n = 0
  · have : nz ⟨bl - left + n, left - n⟩ = false := by unfold nz; simp; omega
    rw [if_pos hn, List.filter_cons_of_neg (by rw [this]; decide), List.filter_nil]
  · have : nz ⟨bl - left + n, left - n⟩ = true := by unfold nz; simp; omega
    rw [if_neg hn, List.filter_cons_of_pos this, List.filter_nil]
    have : bl - left + n = bl - (left - n) := by omega
    rw [this]
theorem freeN_sum (bl left : Nat) : sumN (freeN bl left) = left := by
  unfold freeN
  by_cases h : left = 0
  · rw [if_pos h, h]; rfl
  · rw [if_neg h, sumN_eq]; simp
theorem us1_none {bl left : Nat} {rs : List Rn} (h : ∀ r ∈ rs, 1 ≤ r.n ∧ r.a + r.n ≤ bl - left) : uget (us1 rs) ((bl - left : Nat) : Int) = none := by
  refine uget_none.2 fun u hu e => ?_
  obtain ⟨r, hr, rfl⟩ := List.mem_map.1 hu
  have := h r hr
  dsimp only at e
  omega
theorem us1_put {bl left n : Nat} {rs : List Rn} (h : ∀ r ∈ rs, 1 ≤ r.n ∧ r.a + r.n ≤ bl - left) : uput (us1 rs) ⟨bl - left, n, 1⟩ = us1 (rs ++ [⟨bl - left, n⟩]) := by
  rw [uput_new (us1_none h)]
  simp [us1]
theorem us1_uses {bl left n : Nat} {rs : List Rn} (h : ∀ r ∈ rs, 1 ≤ r.n ∧ r.a + r.n ≤ bl - left) : usesI (us1 (rs ++ [⟨bl - left, n⟩])) ((bl - left : Nat) : Int) = 1 := by
  rw [← us1_put (n := n) h, uput_new (us1_none h)]
  unfold usesI uget
  rw [List.find?_append]
  have := us1_none h
  unfold uget at this
  rw [this]
  simp
theorem pos_add {bl left n : Nat} {rs : List Rn} (h : ∀ r ∈ rs, 1 ≤ r.n ∧ r.a + r.n ≤ bl - left) (h1 : 1 ≤ n) (hn : n ≤ left) (hb : left ≤ bl) : ∀ r ∈ rs ++ [⟨bl - left, n⟩], 1 ≤ r.n ∧ r.a + r.n ≤ bl - (left - n) := by
  intro r hr
  rcases List.mem_append.1 hr with hr | hr
  · have := h r hr; omega
  · rw [List.mem_singleton] at hr; subst hr; exact ⟨h1, by dsimp only; omega⟩
theorem rn_add {rs : List Rn} {r : Rn} {j : Nat} (h : j < rs.length) : rn (rs ++ [r]) j = rn rs j := by unfold rn; rw [List.getD_eq_getElem?_getD, List.getD_eq_getElem?_getD, List.getElem?_append_left h]
theorem rn_new (rs : List Rn) (r : Rn) : rn (rs ++ [r]) rs.length = r := by unfold rn; simp
theorem fs_add {fs : List (List Nat)} {fb : List Nat} {j : Nat} (h : j < fs.length) : (fs ++ [fb]).getD j [] = fs.getD j [] := by rw [List.getD_eq_getElem?_getD, List.getD_eq_getElem?_getD, List.getElem?_append_left h]
theorem fs_new (fs : List (List Nat)) (fb : List Nat) : (fs ++ [fb]).getD fs.length [] = fb := by simp
theorem rn_mem {rs : List Rn} {j : Nat} (h : j < rs.length) : rn rs j ∈ rs := by rw [rn_eq h]; exact List.getElem_mem h
theorem get_add {p p' : Pl} {rs : List Rn} {fs : List (List Nat)} {bl left x : Nat} {fb : List Nat} (hpos : ∀ r ∈ rs, 1 ≤ r.n ∧ r.a + r.n ≤ bl - left) (hA : After p p' (fun j => bl - left ≤ j ∧ j < bl - left + x)) (hln : fs.length = rs.length)
    (hg : ∀ j, j < rs.length → ∀ i, i < (rn rs j).n → p.get ((rn rs j).a + i) = chunk (fs.getD j []) i) (hg3 : ∀ i, i < x → p'.get (bl - left + i) = chunk fb i) :
    ∀ j, j < (rs ++ [(⟨bl - left, x⟩ : Rn)]).length → ∀ i, i < (rn (rs ++ [⟨bl - left, x⟩]) j).n → p'.get ((rn (rs ++ [⟨bl - left, x⟩]) j).a + i) = chunk ((fs ++ [fb]).getD j []) i := by
  intro j hj i hi
  rw [List.length_append, List.length_singleton] at hj
  by_cases h : j < rs.length
  · rw [rn_add h] at hi ⊢
    rw [fs_add (by omega)]
    have hp := hpos _ (rn_mem h)
    rw [hA.get _ (by omega)]
    exact hg j h i hi
  · obtain rfl : j = rs.length := by omega
    rw [rn_new] at hi ⊢
    rw [← hln, fs_new]
    exact hg3 i hi
theorem fl_add {rs : List Rn} {fs : List (List Nat)} {r : Rn} {fb : List Nat} (hln : fs.length = rs.length) (h : ∀ j, j < rs.length → (fs.getD j []).length = 64 * (rn rs j).n) (hb : fb.length = 64 * r.n) : ∀ j, j < (rs ++ [r]).length → ((fs ++ [fb]).getD j []).length = 64 * (rn (rs ++ [r]) j).n := by
  intro j hj
  rw [List.length_append, List.length_singleton] at hj
  by_cases h2 : j < rs.length
  · rw [rn_add h2, fs_add (by omega)]; exact h j h2
  · obtain rfl : j = rs.length := by omega
    rw [rn_new, ← hln, fs_new]; exact hb
/-- A frame is written behind the others: it is there, or the Platter refused. -/
theorem swrite_next {Q TP SD : Nat → Prop} {w0 w : World} {lb plb sb pb bl N gen m left : Nat} {p : Pl} {rs : List Rn} (h : Sl Q TP w0 w lb plb sb pb bl N gen m p (us1 rs) [] [] rs (freeN bl left)) (hN : 1 ≤ N) (hD : ∀ k, SD k → Q k) (D : Option Addr) (c len : Nat) (bs : List Nat) (n : Nat) (hn : 1 ≤ n) (hnl : n ≤ left) (hlb : left ≤ bl) (hlen : len = 64 * n) (hv : View w SD 1 (.slice D len c) len (bys bs)) (hB : Byt bs) (hm : m ≤ 900000) (hn9 : n ≤ 1000)
    (hpos : ∀ r ∈ rs, 1 ≤ r.n ∧ r.a + r.n ≤ bl - left) :
    Calls Tryz.prog 8 #[.pointer (some ⟨lb, 0, none⟩), .slice D len c] w fun e w' => ∃ (okb : Bool) (p' : Pl) (TP' : Nat → Prop),
      e = .returned (.tuple #[.agg #[.int .i64 ((if okb then bl - left else 0 : Nat) : Nat), .int .i64 ((if okb then n else 0 : Nat) : Nat)], .int .i64 (if okb then 0 else 6)]) ∧
      Sl Q TP' w0 w' lb plb sb pb bl N gen (m + 2 * n) p' (us1 (rs ++ [⟨bl - left, n⟩])) [] [] (rs ++ [⟨bl - left, n⟩]) (freeN bl (left - n)) ∧ After p p' (fun j => bl - left ≤ j ∧ j < bl - left + n) ∧ (okb = true → ∀ i, i < n → p'.get (bl - left + i) = chunk bs i) ∧ (p.fa = [] → okb = true) ∧ Fr (fun k => ¬ Q k) w w' := by
  obtain ⟨h1, h2, h3⟩ := freeN_yes hn hnl hlb
  refine (swrite_ok h hN hD D c len bs n hn hn9 hlen hv hB hm h1).mono ?_
  rintro e w' ⟨okb, a, p', TP', ha, hab, rfl, hS, hA, hg, hok, -, hf⟩
  rw [h2] at ha
  subst ha
  rw [h3, us1_put hpos] at hS
  exact ⟨okb, p', TP', rfl, hS, hA, hg, hok, hf⟩
/-- A number of a row that came in. -/
theorem intAt {k : IntKind} {w : World} {S : Nat → Prop} {A : Option Addr} {n c : Nat} {l : List Int} (h : View w S 1 (.slice A n c) n (ints k l)) {i : Nat} (hi : i < n) :
    ∃ b o, A = some ⟨b, o, none⟩ ∧ S b ∧ b < w.heap.size ∧ w.cell? ⟨b, o + i, none⟩ = some (.int k (l.getD i 0)) := by
  obtain ⟨hl, A', c', e, _, _, _, _, h5⟩ := h
  injection e with ea _ ec
  subst ea; subst ec
  obtain ⟨b, o, hA, hS, hb, hc⟩ := h5 (by omega)
  have hl' : i < l.length := by rw [ints_length] at hl; omega
  exact ⟨b, o, hA, hS, hb, hc _ _ (by rw [ints_at _ _ _ hl']; simp [List.getElem?_eq_getElem hl'])⟩
/-- The law's own lists: the frames' bytes and where they went. -/
structure Kp (w0 w : World) (D : Nat → Prop) (v9 v10 : Value) (rs : List Rn) (fs : List (List Nat)) (vs : List Value) : Prop where
  r9 : Row w (fun k => ¬ D k ∧ w0.heap.size ≤ k) 30 1 v9 rs.length vs
  r10 : Row w (fun k => (¬ D k ∧ w0.heap.size ≤ k) ∧ v9.ownBlock ≠ some k) 39 2 v10 rs.length (dbl rs)
  vd : ∀ j, j < rs.length → ∃ A c, vs[j]? = some (.slice A (64 * (rn rs j).n) c) ∧ View w D 1 (.slice A (64 * (rn rs j).n) c) (64 * (rn rs j).n) (bys (fs.getD j [])) ∧ Byt (fs.getD j [])
section
variable {w0 w wA wB wC wD wE : World} {D S : Nat → Prop} {v9 v10 v9' v10' : Value} {rs : List Rn} {fs : List (List Nat)} {vs : List Value}
theorem Kp.fr (h : Kp w0 w D v9 v10 rs fs vs) (hf : Fr S w wA) (hS : ∀ k, D k ∨ v9.ownBlock = some k ∨ v10.ownBlock = some k → ¬ S k) : Kp w0 wA D v9 v10 rs fs vs :=
  ⟨h.r9.fr hf fun k hk => hS k (.inr (.inl hk)), h.r10.fr hf fun k hk => hS k (.inr (.inr hk)), fun j hj => let ⟨A, c, h1, h2, h3⟩ := h.vd j hj; ⟨A, c, h1, h2.fr hf fun k hk _ => hS k (.inl hk), h3⟩⟩
theorem Kp.nil (h : Kp w0 w D v9 v10 rs fs vs) (hf : Fr Nil w wA) : Kp w0 wA D v9 v10 rs fs vs := h.fr hf fun _ _ h => h
theorem Kp.add (h : Kp w0 wA D v9 v10 rs fs vs) (h0 : w0.heap.size ≤ wA.heap.size) (hD : ∀ k, D k → k < wA.heap.size) {gb : Nat} (hgl : gb < wA.heap.size) (hg9 : v9.ownBlock ≠ some gb) (hg10 : v10.ownBlock ≠ some gb)
    (f1 : Fr Nil wA wB) {r : Rn} {fb : List Nat} {A : Option Addr} {L c : Nat} (hL : L = 64 * r.n) (hv : View wA (fun k => k = gb) 1 (.slice A L c) L (bys fb)) (hB : Byt fb) (hfs : fs.length = rs.length)
    (q9 : Row wC (fun k => v9.ownBlock = some k ∨ wB.heap.size ≤ k) 30 1 v9' (rs.length + 1) (vs ++ [.slice A L c])) (g1 : Fr (fun k => v9.ownBlock = some k) wB wC) (f2 : Fr Nil wC wD)
    (q10 : Row wE (fun k => v10.ownBlock = some k ∨ wD.heap.size ≤ k) 39 2 v10' (rs.length + 1) (dbl rs ++ dbl [r])) (g2 : Fr (fun k => v10.ownBlock = some k) wD wE) :
    Kp w0 wE (fun k => D k ∨ k = gb) v9' v10' (rs ++ [r]) (fs ++ [fb]) (vs ++ [.slice A L c]) := by
  subst hL
  have s1 := f1.size
  have s2 := g1.size
  have s3 := f2.size
  have s4 := g2.size
  have l9 := h.r9.lt
  have l10 := h.r10.lt
  have m9 := q9.lt
  have hne : ∀ k, v9.ownBlock = some k → v10.ownBlock ≠ some k := fun k hk hk2 => (h.r10.2 k hk2).2 hk
  have hfr : ∀ {S1 : Nat → Prop} {w1 w2 : World} {v : Value} {n : Nat} {xs : List Value}, View w1 S1 1 v n xs → Fr (fun k => v9.ownBlock = some k) w1 w2 → (∀ k, S1 k → v9.ownBlock ≠ some k) → View w2 S1 1 v n xs := fun hv hf hs => hv.fr hf fun k hk _ => hs k hk
  have n9 : ∀ k, v9'.ownBlock = some k → ¬ (D k ∨ k = gb) ∧ w0.heap.size ≤ k := by
    intro k hk
    rcases q9.2 k hk with h1 | h1
    · refine ⟨?_, (h.r9.2 k h1).2⟩
      rintro (h2 | h2)
      · exact (h.r9.2 k h1).1 h2
      · exact hg9 (by rw [← h2]; exact h1)
    · refine ⟨?_, by omega⟩
      rintro (h2 | h2)
      · have := hD k h2; omega
      · omega
  have n10 : ∀ k, v10'.ownBlock = some k → (¬ (D k ∨ k = gb) ∧ w0.heap.size ≤ k) ∧ v9'.ownBlock ≠ some k := by
    intro k hk
    rcases q10.2 k hk with h1 | h1
    · refine ⟨⟨?_, (h.r10.2 k h1).1.2⟩, fun h2 => ?_⟩
      · rintro (h2 | h2)
        · exact (h.r10.2 k h1).1.1 h2
        · exact hg10 (by rw [← h2]; exact h1)
      · rcases q9.2 k h2 with h3 | h3
        · exact hne k h3 h1
        · have := l10 k h1; omega
    · refine ⟨⟨?_, by omega⟩, fun h2 => ?_⟩
      · rintro (h2 | h2)
        · have := hD k h2; omega
        · omega
      · have := m9 k h2; omega
  have hv10 : ∀ k, v9'.ownBlock = some k → v10.ownBlock ≠ some k := by
    intro k hk h2
    rcases q9.2 k hk with h1 | h1
    · exact hne k h1 h2
    · have := l10 k h2; omega
  have view : ∀ {S1 : Nat → Prop} {v : Value} {n : Nat} {xs : List Value}, View wA S1 1 v n xs → (∀ k, S1 k → v9.ownBlock ≠ some k) → (∀ k, S1 k → v10.ownBlock ≠ some k) → View wE S1 1 v n xs := fun hv h1 h2 =>
    (((hv.fr f1 fun _ _ _ h => h).fr g1 fun k hk _ => h1 k hk).fr f2 fun _ _ _ h => h).fr g2 fun k hk _ => h2 k hk
  have e1 : (rs ++ [r]).length = rs.length + 1 := by simp
  refine ⟨by rw [e1]; exact ((show Row wC (fun k => ¬ (D k ∨ k = gb) ∧ w0.heap.size ≤ k) 30 1 v9' (rs.length + 1) (vs ++ [.slice A (64 * r.n) c]) from ⟨q9.1, n9⟩).fr f2 fun _ _ h => h).fr g2 fun k hk => hv10 k hk, by rw [e1, dbl_append]; exact ⟨q10.1, n10⟩, fun j hj => ?_⟩
  rw [e1] at hj
  have hvl : vs.length = rs.length := by have := h.r9.length; omega
  by_cases hjl : j < rs.length
  · obtain ⟨A', c', h1, h2, h3⟩ := h.vd j hjl
    have er : rn (rs ++ [r]) j = rn rs j := by unfold rn; rw [List.getD_eq_getElem?_getD, List.getD_eq_getElem?_getD, List.getElem?_append_left hjl]
    have ef : (fs ++ [fb]).getD j [] = fs.getD j [] := by rw [List.getD_eq_getElem?_getD, List.getD_eq_getElem?_getD, List.getElem?_append_left (by omega)]
    rw [er, ef]
    exact ⟨A', c', by rw [List.getElem?_append_left (by omega)]; exact h1, (view h2 (fun k hk h4 => (h.r9.2 k h4).1 hk) (fun k hk h4 => (h.r10.2 k h4).1.1 hk)).mono fun k hk => .inl hk, h3⟩
  · have hje : j = rs.length := by omega
    subst hje
    have er : rn (rs ++ [r]) rs.length = r := by unfold rn; simp
    have ef : (fs ++ [fb]).getD rs.length [] = fb := by rw [← hfs]; simp
    rw [er, ef]
    exact ⟨A, c, by rw [← hvl]; simp, (view hv (fun k hk h4 => hg9 (by rw [← hk]; exact h4)) (fun k hk h4 => hg10 (by rw [← hk]; exact h4))).mono fun k hk => .inr hk, hB⟩
end
end Go.Proofs.YtgoghmblfdlnbaaGreat
end

section
/- Slab: plain laws of SlabReuses: where the first run with room lies; what is free when some of twenty frames are gone. No program. -/
set_option linter.unusedSimpArgs false
set_option linter.unusedVariables false
namespace Go.Proofs.YtgoghmblfdlnbaaGreat
open Go.RowKit
theorem fits_nat {n : Nat} {r : Rn} : fits (n : Int) r = true ↔ n ≤ r.n := by unfold fits; rw [decide_eq_true_iff]; omega
theorem takeI_nat {l : List Rn} {n : Nat} (h : 1 ≤ n) : takeI l (n : Int) = l.findIdx (fits (n : Int)) := by unfold takeI; rw [if_pos (by omega)]
theorem has_of {l : List Rn} {i k : Nat} (hi : i < l.length) (h1 : (rn l i).a ≤ k) (h2 : k < (rn l i).a + (rn l i).n) : has l k = true :=
  List.any_eq_true.2 ⟨rn l i, mem_rn hi, isin_iff.2 ⟨h1, h2⟩⟩
theorem rn_order {lo : Nat} {l : List Rn} (hn : norm lo l) {t i : Nat} (hti : t < i) (hi : i < l.length) : (rn l t).a + (rn l t).n < (rn l i).a := by
  have h2 := (norm_take hn t).2
  rw [drop_post (by omega)] at h2
  have hm : rn l i ∈ l.drop (t + 1) := by
    rw [rn_eq hi]
    exact List.mem_drop_iff_getElem.2 ⟨i - (t + 1), by omega, by congr 1; omega⟩
  have h3 : norm ((rn l t).a + (rn l t).n + 1) (l.drop (t + 1)) := h2.2.2
  have h1 := norm_n hn hi
  have := has_ge h3 (List.any_eq_true.2 ⟨rn l i, hm, isin_iff.2 ⟨Nat.le_refl _, by omega⟩⟩ : has (l.drop (t + 1)) (rn l i).a = true)
  omega
theorem first_at {bl : Nat} {l : List Rn} (h : Wf bl l) {n W : Nat} (hn : 1 ≤ n) (hW : ∀ k, W ≤ k → k < W + n → has l k = true) (hm : ∀ a, a < W → ∃ k, a ≤ k ∧ k < a + n ∧ has l k = false) :
    takeI l (n : Int) < l.length ∧ (rn l (takeI l (n : Int))).a = W := by
  obtain ⟨i, hi, h1, h2⟩ := run_of h.2.1 hn hW
  have hlt : takeI l (n : Int) < l.length := by
    rw [takeI_nat hn]
    exact List.findIdx_lt_length_of_exists ⟨rn l i, mem_rn hi, fits_nat.2 (by omega)⟩
  refine ⟨hlt, ?_⟩
  have hf : n ≤ (rn l (takeI l (n : Int))).n := by
    rw [takeI_nat hn] at hlt ⊢
    exact fits_nat.1 (idx_is hlt)
  have hge : W ≤ (rn l (takeI l (n : Int))).a := by
    refine Nat.le_of_not_lt fun hc => ?_
    obtain ⟨k, k1, k2, k3⟩ := hm _ hc
    rw [has_of hlt k1 (by omega)] at k3
    exact absurd k3 (by decide)
  have hle : takeI l (n : Int) ≤ i := by
    refine Nat.le_of_not_lt fun hc => ?_
    rw [takeI_nat hn] at hc
    have := idx_not hc
    rw [fits_nat.2 (show n ≤ (rn l i).n by omega)] at this
    exact absurd this (by decide)
  rcases Nat.lt_or_eq_of_le hle with hc | hc
  · have := rn_order h.2.1 hc hi; omega
  · rw [hc] at hge ⊢; omega
theorem first_none {bl : Nat} {l : List Rn} (h : Wf bl l) {n : Nat} (hn : 1 ≤ n) (hm : ∀ a, a + n ≤ bl → ∃ k, a ≤ k ∧ k < a + n ∧ has l k = false) : ¬ takeI l (n : Int) < l.length := by
  intro hlt
  have hf : n ≤ (rn l (takeI l (n : Int))).n := by
    rw [takeI_nat hn] at hlt ⊢
    exact fits_nat.1 (idx_is hlt)
  obtain ⟨k, k1, k2, k3⟩ := hm (rn l (takeI l (n : Int))).a (by have := h.2.2 _ (mem_rn hlt); omega)
  rw [has_of hlt k1 (by omega)] at k3
  exact absurd k3 (by decide)
/-- Twenty frames of three blocks, those that G tells gone. -/
def rsT (i : Nat) : List Rn := (List.range i).map fun k => ⟨2 + 3 * k, 3⟩
def rsG (G : Nat → Bool) : List Rn := ((List.range 20).filter fun k => !G k).map fun k => ⟨2 + 3 * k, 3⟩
def fre (G : Nat → Bool) (j : Nat) : Bool := decide (2 ≤ j ∧ j < 64) && (decide (62 ≤ j) || G ((j - 2) / 3))
def goneW (G : Nat → Bool) (k : Nat) : Nat → Bool := fun j => G j || decide (j = k)
theorem rsT_succ (i : Nat) : rsT (i + 1) = rsT i ++ [⟨2 + 3 * i, 3⟩] := by unfold rsT; rw [List.range_succ, List.map_append]; rfl
theorem rsT_length (i : Nat) : (rsT i).length = i := by simp [rsT]
theorem rsT_at {i j : Nat} (h : j < i) : rn (rsT i) j = ⟨2 + 3 * j, 3⟩ := by
  rw [rn_eq (by rw [rsT_length]; exact h)]
  simp [rsT]
theorem rsT_pos {i : Nat} (hi : i ≤ 20) : ∀ r ∈ rsT i, 1 ≤ r.n ∧ r.a + r.n ≤ 64 - (62 - 3 * i) := by
  intro r hr
  obtain ⟨k, hk, rfl⟩ := List.mem_map.1 hr
  have := List.mem_range.1 hk
  exact ⟨by dsimp only; omega, by dsimp only; omega⟩
theorem rsG_none : rsG (fun _ => false) = rsT 20 := by
  unfold rsG rsT
  congr 1
theorem rsG_mem {G : Nat → Bool} {r : Rn} : r ∈ rsG G ↔ ∃ k, k < 20 ∧ G k = false ∧ r = ⟨2 + 3 * k, 3⟩ := by
  unfold rsG
  rw [List.mem_map]
  constructor
  · rintro ⟨k, hk, rfl⟩
    have := List.mem_filter.1 hk
    exact ⟨k, List.mem_range.1 this.1, by simpa using this.2, rfl⟩
  · rintro ⟨k, h1, h2, rfl⟩
    exact ⟨k, List.mem_filter.2 ⟨List.mem_range.2 h1, by rw [h2]; rfl⟩, rfl⟩
theorem rsG_has (G : Nat → Bool) (j : Nat) : has (rsG G) j = (decide (2 ≤ j ∧ j < 62) && !G ((j - 2) / 3)) := by
  rw [Bool.eq_iff_iff]
  unfold has
  rw [List.any_eq_true, Bool.and_eq_true, decide_eq_true_iff, Bool.not_eq_true']
  constructor
  · rintro ⟨r, hr, hi⟩
    obtain ⟨k, h1, h2, rfl⟩ := rsG_mem.1 hr
    rw [isin_iff] at hi
    dsimp only at hi
    refine ⟨by omega, ?_⟩
    rw [show (j - 2) / 3 = k by omega]
    exact h2
  · rintro ⟨h1, h2⟩
    exact ⟨⟨2 + 3 * ((j - 2) / 3), 3⟩, rsG_mem.2 ⟨(j - 2) / 3, by omega, h2, rfl⟩, isin_iff.2 ⟨by dsimp only; omega, by dsimp only; omega⟩⟩
theorem us1_r (rs : List Rn) : (us1 rs).map Us.r = rs := by unfold us1; rw [List.map_map]; exact List.map_id'' (fun r => rfl) rs
theorem free_is {G : Nat → Bool} {l : List Rn} (h : InvR 64 ((us1 (rsG G)).map Us.r) l) (j : Nat) : has l j = fre G j := by
  rw [h.fr j, us1_r, rsG_has]
  unfold fre
  rw [Bool.eq_iff_iff]
  simp only [Bool.and_eq_true, Bool.or_eq_true, decide_eq_true_iff, Bool.not_eq_true', Bool.and_eq_false_iff, decide_eq_false_iff_not, Bool.not_eq_false']
  constructor
  · rintro ⟨h1, h2⟩
    exact ⟨h1, h2.imp (fun h => by omega) id⟩
  · rintro ⟨h1, h2⟩
    exact ⟨h1, h2.imp (fun h => by omega) id⟩
theorem rsG_uses {G : Nat → Bool} {k : Nat} (hk : k < 20) : usesI (us1 (rsG G)) ((2 + 3 * k : Nat) : Int) = if G k then 0 else 1 := by
  cases hG : G k with
  | true =>
    have : uget (us1 (rsG G)) ((2 + 3 * k : Nat) : Int) = none := uget_none.2 fun u hu e => by
      obtain ⟨r, hr, rfl⟩ := List.mem_map.1 hu
      obtain ⟨k', h1, h2, rfl⟩ := rsG_mem.1 hr
      dsimp only at e
      obtain rfl : k' = k := by omega
      rw [h2] at hG; exact absurd hG (by decide)
    unfold usesI; rw [this]; rfl
  | false =>
    unfold usesI
    cases hg : uget (us1 (rsG G)) ((2 + 3 * k : Nat) : Int) with
    | none => exact absurd rfl (uget_none.1 hg ⟨2 + 3 * k, 3, 1⟩ (List.mem_map.2 ⟨⟨2 + 3 * k, 3⟩, rsG_mem.2 ⟨k, hk, hG, rfl⟩, rfl⟩))
    | some u =>
      obtain ⟨r, hr, rfl⟩ := List.mem_map.1 (uget_mem hg).1
      rfl
theorem rsG_less {G : Nat → Bool} {k : Nat} (hk : k < 20) : lessU (us1 (rsG G)) ((2 + 3 * k : Nat) : Int) = us1 (rsG (goneW G k)) := by
  unfold lessU
  rw [rsG_uses hk]
  cases hG : G k with
  | true =>
    rw [if_pos (by simp)]
    congr 1
    unfold rsG goneW
    congr 1
    refine List.filter_congr fun j hj => ?_
    by_cases h : j = k
    · rw [h, hG]; simp
    · simp [h]
  | false =>
    rw [if_neg (by simp), if_pos (by simp)]
    unfold udel us1 rsG goneW
    rw [List.filter_map, List.filter_map, List.filter_filter]
    congr 2
    refine List.filter_congr fun j hj => ?_
    simp only [Function.comp]
    by_cases h : j = k
    · subst h; simp
    · have : (((2 + 3 * j : Nat) : Int) == ((2 + 3 * k : Nat) : Int)) = false := by simp; omega
      rw [this]; simp [h]
/-- The scan has looked at all below i; r of them, up to i, are free. -/
structure Scan (G : Nat → Bool) (n i r : Nat) : Prop where
  hr : r + 2 ≤ i
  hn : r < n
  fr : ∀ k, i - r ≤ k → k < i → fre G k = true
  mx : i - r = 2 ∨ fre G (i - r - 1) = false
  no : ∀ a, a + n ≤ i → ∃ k, a ≤ k ∧ k < a + n ∧ fre G k = false
theorem Scan.start (G : Nat → Bool) {n : Nat} (hn : 1 ≤ n) : Scan G n 2 0 :=
  ⟨by omega, by omega, fun k h1 h2 => by omega, .inl rfl, fun a ha => ⟨a, Nat.le_refl _, by omega, by unfold fre; rw [show decide (2 ≤ a ∧ a < 64) = false from by simp; omega]; rfl⟩⟩
theorem Scan.not {G : Nat → Bool} {n i r : Nat} (h : Scan G n i r) (hf : fre G i = false) : Scan G n (i + 1) 0 :=
  ⟨by have := h.hr; omega, by have := h.hn; omega, fun k h1 h2 => by omega, .inr (by simpa using hf), fun a ha => by
    by_cases h2 : a + n ≤ i
    · exact h.no a h2
    · exact ⟨i, by have := h.hn; omega, by omega, hf⟩⟩
/-- One more is free: all a that lie further ahead have a taken one. -/
theorem Scan.ahead {G : Nat → Bool} {n i r : Nat} (h : Scan G n i r) : ∀ a, a < i - r → ∃ k, a ≤ k ∧ k < a + n ∧ fre G k = false := by
  intro a ha
  have h1 := h.hr
  have h2 := h.hn
  by_cases h3 : a + n ≤ i
  · exact h.no a h3
  · rcases h.mx with hm | hm
    · exact ⟨a, Nat.le_refl _, by omega, by unfold fre; rw [show decide (2 ≤ a ∧ a < 64) = false from by simp; omega]; rfl⟩
    · exact ⟨i - r - 1, by omega, by omega, hm⟩
theorem Scan.yes {G : Nat → Bool} {n i r : Nat} (h : Scan G n i r) (hf : fre G i = true) (hr : r + 1 ≠ n) : Scan G n (i + 1) (r + 1) := by
  have h1 := h.hr
  have h2 := h.hn
  refine ⟨by omega, by omega, fun k k1 k2 => ?_, ?_, fun a ha => ?_⟩
  · by_cases hk : k = i
    · rw [hk]; exact hf
    · exact h.fr k (by omega) (by omega)
  · rw [show i + 1 - (r + 1) = i - r by omega]; exact h.mx
  · exact h.ahead a (by omega)
theorem Scan.found {G : Nat → Bool} {n i r : Nat} (h : Scan G n i r) (hf : fre G i = true) (hr : r + 1 = n) : (∀ k, i - r ≤ k → k < i - r + n → fre G k = true) ∧ ∀ a, a < i - r → ∃ k, a ≤ k ∧ k < a + n ∧ fre G k = false := by
  have h1 := h.hr
  refine ⟨fun k k1 k2 => ?_, h.ahead⟩
  by_cases hk : k = i
  · rw [hk]; exact hf
  · exact h.fr k k1 (by omega)
/-- What stays is apart from what is free. -/
theorem fre_kept {G : Nat → Bool} {k j : Nat} (hk : k < 20) (hG : G k = false) (h1 : 2 + 3 * k ≤ j) (h2 : j < 5 + 3 * k) : fre G j = false := by
  unfold fre
  rw [show (j - 2) / 3 = k by omega, hG, show decide (62 ≤ j) = false from by simp; omega]
  simp
end Go.Proofs.YtgoghmblfdlnbaaGreat
end

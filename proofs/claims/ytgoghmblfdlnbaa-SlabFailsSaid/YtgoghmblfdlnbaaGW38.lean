/- The texts SlP of this proof, one behind the other. Conditions: those of each. -/
import Derived.Test.YtgoghmblfdlnbaaGW37
section
/- Slab: frames written one behind the other: plain laws; what a law keeps of them. No program. -/
set_option linter.unusedSimpArgs false
set_option linter.unusedVariables false
namespace Go.Proofs.Ytgoghmblfdlnbaa
open Go.RowKit
/-- What is free when the last left blocks are. -/
def freeN (bl left : Nat) : List Rn := if left = 0 then [] else [⟨bl - left, left⟩]
def us1 (rs : List Rn) : List Us := rs.map fun r => ⟨r.a, r.n, 1⟩
theorem freeN_no {bl left n : Nat} (h : left < n) : ¬ takeI (freeN bl left) (n : Int) < (freeN bl left).length := by
  unfold freeN takeI
  rw [if_pos (show (1 : Int) ≤ (n : Int) by omega)]
  by_cases h0 : left = 0
  · rw [if_pos h0]; simp
  · rw [if_neg h0, List.findIdx_cons]
    have : fits (n : Int) ⟨bl - left, left⟩ = false := by unfold fits; simp; omega
    rw [this]
    simp
theorem freeN_yes {bl left n : Nat} (h1 : 1 ≤ n) (h : n ≤ left) (hb : left ≤ bl) : takeI (freeN bl left) (n : Int) < (freeN bl left).length ∧ (rn (freeN bl left) (takeI (freeN bl left) (n : Int))).a = bl - left ∧ takeL (freeN bl left) (n : Int) = freeN bl (left - n) := by
  have h0 : ¬ left = 0 := by omega
  have e : freeN bl left = [⟨bl - left, left⟩] := by unfold freeN; rw [if_neg h0]
  have hi : takeI (freeN bl left) (n : Int) = 0 := by
    rw [e]
    unfold takeI
    rw [if_pos (show (1 : Int) ≤ (n : Int) by omega), List.findIdx_cons]
    have : fits (n : Int) ⟨bl - left, left⟩ = true := by unfold fits; simp; omega
    rw [this]; rfl
  have hl : (freeN bl left).length = 1 := by rw [e]; rfl
  refine ⟨by rw [hi, hl]; decide, by rw [hi, e]; rfl, ?_⟩
  unfold takeL
  rw [if_pos (by rw [hi, hl]; decide), hi, e]
  unfold putl freeN
  show [] ++ List.filter nz [⟨bl - left + (n : Int).toNat, left - (n : Int).toNat⟩] ++ [] = _
  rw [List.nil_append, List.append_nil, Int.toNat_natCast]
  by_cases hn : left - n = 0
  · have : nz ⟨bl - left + n, left - n⟩ = false := by unfold nz; simp; omega
    rw [if_pos hn, List.filter_cons_of_neg (by rw [this]; decide), List.filter_nil]
  · have : nz ⟨bl - left + n, left - n⟩ = true := by unfold nz; simp; omega
    rw [if_neg hn, List.filter_cons_of_pos this, List.filter_nil]
    have : bl - left + n = bl - (left - n) := by omega
    rw [this]
theorem freeN_sum (bl left : Nat) : sumN (freeN bl left) = left := by
  unfold freeN
  by_cases h : left = 0
  · rw [if_pos h, h]; rfl
  · rw [if_neg h, sumN_eq]; simp
theorem us1_none {bl left : Nat} {rs : List Rn} (h : ∀ r ∈ rs, 1 ≤ r.n ∧ r.a + r.n ≤ bl - left) : uget (us1 rs) ((bl - left : Nat) : Int) = none := by
  refine uget_none.2 fun u hu e => ?_
  obtain ⟨r, hr, rfl⟩ := List.mem_map.1 hu
  have := h r hr
  dsimp only at e
  omega
theorem us1_put {bl left n : Nat} {rs : List Rn} (h : ∀ r ∈ rs, 1 ≤ r.n ∧ r.a + r.n ≤ bl - left) : uput (us1 rs) ⟨bl - left, n, 1⟩ = us1 (rs ++ [⟨bl - left, n⟩]) := by
  rw [uput_new (us1_none h)]
  simp [us1]
theorem us1_uses {bl left n : Nat} {rs : List Rn} (h : ∀ r ∈ rs, 1 ≤ r.n ∧ r.a + r.n ≤ bl - left) : usesI (us1 (rs ++ [⟨bl - left, n⟩])) ((bl - left : Nat) : Int) = 1 := by
  rw [← us1_put (n := n) h, uput_new (us1_none h)]
  unfold usesI uget
  rw [List.find?_append]
  have := us1_none h
  unfold uget at this
  rw [this]
  simp
theorem pos_add {bl left n : Nat} {rs : List Rn} (h : ∀ r ∈ rs, 1 ≤ r.n ∧ r.a + r.n ≤ bl - left) (h1 : 1 ≤ n) (hn : n ≤ left) (hb : left ≤ bl) : ∀ r ∈ rs ++ [⟨bl - left, n⟩], 1 ≤ r.n ∧ r.a + r.n ≤ bl - (left - n) := by
  intro r hr
  rcases List.mem_append.1 hr with hr | hr
  · have := h r hr; omega
  · rw [List.mem_singleton] at hr; subst hr; exact ⟨h1, by dsimp only; omega⟩
theorem rn_add {rs : List Rn} {r : Rn} {j : Nat} (h : j < rs.length) : rn (rs ++ [r]) j = rn rs j := by unfold rn; rw [List.getD_eq_getElem?_getD, List.getD_eq_getElem?_getD, List.getElem?_append_left h]
theorem rn_new (rs : List Rn) (r : Rn) : rn (rs ++ [r]) rs.length = r := by unfold rn; simp
theorem fs_add {fs : List (List Nat)} {fb : List Nat} {j : Nat} (h : j < fs.length) : (fs ++ [fb]).getD j [] = fs.getD j [] := by rw [List.getD_eq_getElem?_getD, List.getD_eq_getElem?_getD, List.getElem?_append_left h]
theorem fs_new (fs : List (List Nat)) (fb : List Nat) : (fs ++ [fb]).getD fs.length [] = fb := by simp
theorem rn_mem {rs : List Rn} {j : Nat} (h : j < rs.length) : rn rs j ∈ rs := by rw [rn_eq h]; exact List.getElem_mem h
theorem get_add {p p' : Pl} {rs : List Rn} {fs : List (List Nat)} {bl left x : Nat} {fb : List Nat} (hpos : ∀ r ∈ rs, 1 ≤ r.n ∧ r.a + r.n ≤ bl - left) (hA : After p p' (fun j => bl - left ≤ j ∧ j < bl - left + x)) (hln : fs.length = rs.length)
    (hg : ∀ j, j < rs.length → ∀ i, i < (rn rs j).n → p.get ((rn rs j).a + i) = chunk (fs.getD j []) i) (hg3 : ∀ i, i < x → p'.get (bl - left + i) = chunk fb i) :
    ∀ j, j < (rs ++ [(⟨bl - left, x⟩ : Rn)]).length → ∀ i, i < (rn (rs ++ [⟨bl - left, x⟩]) j).n → p'.get ((rn (rs ++ [⟨bl - left, x⟩]) j).a + i) = chunk ((fs ++ [fb]).getD j []) i := by
  intro j hj i hi
  rw [List.length_append, List.length_singleton] at hj
  by_cases h : j < rs.length
  · rw [rn_add h] at hi ⊢
    rw [fs_add (by omega)]
    have hp := hpos _ (rn_mem h)
    rw [hA.get _ (by omega)]
    exact hg j h i hi
  · obtain rfl : j = rs.length := by omega
    rw [rn_new] at hi ⊢
    rw [← hln, fs_new]
    exact hg3 i hi
theorem fl_add {rs : List Rn} {fs : List (List Nat)} {r : Rn} {fb : List Nat} (hln : fs.length = rs.length) (h : ∀ j, j < rs.length → (fs.getD j []).length = 64 * (rn rs j).n) (hb : fb.length = 64 * r.n) : ∀ j, j < (rs ++ [r]).length → ((fs ++ [fb]).getD j []).length = 64 * (rn (rs ++ [r]) j).n := by
  intro j hj
  rw [List.length_append, List.length_singleton] at hj
  by_cases h2 : j < rs.length
  · rw [rn_add h2, fs_add (by omega)]; exact h j h2
  · obtain rfl : j = rs.length := by omega
    rw [rn_new, ← hln, fs_new]; exact hb
/-- A frame is written behind the others: it is there, or the Platter refused. -/
theorem swrite_next {Q TP SD : Nat → Prop} {w0 w : World} {lb plb sb pb bl N gen m left : Nat} {p : Pl} {rs : List Rn} (h : Sl Q TP w0 w lb plb sb pb bl N gen m p (us1 rs) [] [] rs (freeN bl left)) (hN : 1 ≤ N) (hD : ∀ k, SD k → Q k) (D : Option Addr) (c len : Nat) (bs : List Nat) (n : Nat) (hn : 1 ≤ n) (hnl : n ≤ left) (hlb : left ≤ bl) (hlen : len = 64 * n) (hv : View w SD 1 (.slice D len c) len (bys bs)) (hB : Byt bs) (hm : m ≤ 900000) (hn9 : n ≤ 1000)
    (hpos : ∀ r ∈ rs, 1 ≤ r.n ∧ r.a + r.n ≤ bl - left) :
    Calls Try.prog 7 #[.pointer (some ⟨lb, 0, none⟩), .slice D len c] w fun e w' => ∃ (okb : Bool) (p' : Pl) (TP' : Nat → Prop),
      e = .returned (.tuple #[.agg #[.int .i64 ((if okb then bl - left else 0 : Nat) : Nat), .int .i64 ((if okb then n else 0 : Nat) : Nat)], .int .i64 (if okb then 0 else 6)]) ∧
      Sl Q TP' w0 w' lb plb sb pb bl N gen (m + 2 * n) p' (us1 (rs ++ [⟨bl - left, n⟩])) [] [] (rs ++ [⟨bl - left, n⟩]) (freeN bl (left - n)) ∧ After p p' (fun j => bl - left ≤ j ∧ j < bl - left + n) ∧ (okb = true → ∀ i, i < n → p'.get (bl - left + i) = chunk bs i) ∧ (p.fa = [] → okb = true) ∧ Fr (fun k => ¬ Q k) w w' := by
  obtain ⟨h1, h2, h3⟩ := freeN_yes hn hnl hlb
  refine (swrite_ok h hN hD D c len bs n hn hn9 hlen hv hB hm h1).mono ?_
  rintro e w' ⟨okb, a, p', TP', ha, hab, rfl, hS, hA, hg, hok, -, hf⟩
  rw [h2] at ha
  subst ha
  rw [h3, us1_put hpos] at hS
  exact ⟨okb, p', TP', rfl, hS, hA, hg, hok, hf⟩
/-- A number of a row that came in. -/
theorem intAt {k : IntKind} {w : World} {S : Nat → Prop} {A : Option Addr} {n c : Nat} {l : List Int} (h : View w S 1 (.slice A n c) n (ints k l)) {i : Nat} (hi : i < n) :
    ∃ b o, A = some ⟨b, o, none⟩ ∧ S b ∧ b < w.heap.size ∧ w.cell? ⟨b, o + i, none⟩ = some (.int k (l.getD i 0)) := by
  obtain ⟨hl, A', c', e, _, _, _, _, h5⟩ := h
  injection e with ea _ ec
  subst ea; subst ec
  obtain ⟨b, o, hA, hS, hb, hc⟩ := h5 (by omega)
  have hl' : i < l.length := by rw [ints_length] at hl; omega
  exact ⟨b, o, hA, hS, hb, hc _ _ (by rw [ints_at _ _ _ hl']; simp [List.getElem?_eq_getElem hl'])⟩
/-- The law's own lists: the frames' bytes and where they went. -/
structure Kp (w0 w : World) (D : Nat → Prop) (v9 v10 : Value) (rs : List Rn) (fs : List (List Nat)) (vs : List Value) : Prop where
  r9 : Row w (fun k => ¬ D k ∧ w0.heap.size ≤ k) 22 1 v9 rs.length vs
  r10 : Row w (fun k => (¬ D k ∧ w0.heap.size ≤ k) ∧ v9.ownBlock ≠ some k) 33 2 v10 rs.length (dbl rs)
  vd : ∀ j, j < rs.length → ∃ A c, vs[j]? = some (.slice A (64 * (rn rs j).n) c) ∧ View w D 1 (.slice A (64 * (rn rs j).n) c) (64 * (rn rs j).n) (bys (fs.getD j [])) ∧ Byt (fs.getD j [])
section
variable {w0 w wA wB wC wD wE : World} {D S : Nat → Prop} {v9 v10 v9' v10' : Value} {rs : List Rn} {fs : List (List Nat)} {vs : List Value}
theorem Kp.fr (h : Kp w0 w D v9 v10 rs fs vs) (hf : Fr S w wA) (hS : ∀ k, D k ∨ v9.ownBlock = some k ∨ v10.ownBlock = some k → ¬ S k) : Kp w0 wA D v9 v10 rs fs vs :=
  ⟨h.r9.fr hf fun k hk => hS k (.inr (.inl hk)), h.r10.fr hf fun k hk => hS k (.inr (.inr hk)), fun j hj => let ⟨A, c, h1, h2, h3⟩ := h.vd j hj; ⟨A, c, h1, h2.fr hf fun k hk _ => hS k (.inl hk), h3⟩⟩
theorem Kp.nil (h : Kp w0 w D v9 v10 rs fs vs) (hf : Fr Nil w wA) : Kp w0 wA D v9 v10 rs fs vs := h.fr hf fun _ _ h => h
theorem Kp.add (h : Kp w0 wA D v9 v10 rs fs vs) (h0 : w0.heap.size ≤ wA.heap.size) (hD : ∀ k, D k → k < wA.heap.size) {gb : Nat} (hgl : gb < wA.heap.size) (hg9 : v9.ownBlock ≠ some gb) (hg10 : v10.ownBlock ≠ some gb)
    (f1 : Fr Nil wA wB) {r : Rn} {fb : List Nat} {A : Option Addr} {L c : Nat} (hL : L = 64 * r.n) (hv : View wA (fun k => k = gb) 1 (.slice A L c) L (bys fb)) (hB : Byt fb) (hfs : fs.length = rs.length)
    (q9 : Row wC (fun k => v9.ownBlock = some k ∨ wB.heap.size ≤ k) 22 1 v9' (rs.length + 1) (vs ++ [.slice A L c])) (g1 : Fr (fun k => v9.ownBlock = some k) wB wC) (f2 : Fr Nil wC wD)
    (q10 : Row wE (fun k => v10.ownBlock = some k ∨ wD.heap.size ≤ k) 33 2 v10' (rs.length + 1) (dbl rs ++ dbl [r])) (g2 : Fr (fun k => v10.ownBlock = some k) wD wE) :
    Kp w0 wE (fun k => D k ∨ k = gb) v9' v10' (rs ++ [r]) (fs ++ [fb]) (vs ++ [.slice A L c]) := by
  subst hL
  have s1 := f1.size
  have s2 := g1.size
  have s3 := f2.size
  have s4 := g2.size
  have l9 := h.r9.lt
  have l10 := h.r10.lt
  have m9 := q9.lt
  have hne : ∀ k, v9.ownBlock = some k → v10.ownBlock ≠ some k := fun k hk hk2 => (h.r10.2 k hk2).2 hk
  have hfr : ∀ {S1 : Nat → Prop} {w1 w2 : World} {v : Value} {n : Nat} {xs : List Value}, View w1 S1 1 v n xs → Fr (fun k => v9.ownBlock = some k) w1 w2 → (∀ k, S1 k → v9.ownBlock ≠ some k) → View w2 S1 1 v n xs := fun hv hf hs => hv.fr hf fun k hk _ => hs k hk
  have n9 : ∀ k, v9'.ownBlock = some k → ¬ (D k ∨ k = gb) ∧ w0.heap.size ≤ k := by
    intro k hk
    rcases q9.2 k hk with h1 | h1
    · refine ⟨?_, (h.r9.2 k h1).2⟩
      rintro (h2 | h2)
      · exact (h.r9.2 k h1).1 h2
      · exact hg9 (by rw [← h2]; exact h1)
    · refine ⟨?_, by omega⟩
      rintro (h2 | h2)
      · have := hD k h2; omega
      · omega
  have n10 : ∀ k, v10'.ownBlock = some k → (¬ (D k ∨ k = gb) ∧ w0.heap.size ≤ k) ∧ v9'.ownBlock ≠ some k := by
    intro k hk
    rcases q10.2 k hk with h1 | h1
    · refine ⟨⟨?_, (h.r10.2 k h1).1.2⟩, fun h2 => ?_⟩
      · rintro (h2 | h2)
        · exact (h.r10.2 k h1).1.1 h2
        · exact hg10 (by rw [← h2]; exact h1)
      · rcases q9.2 k h2 with h3 | h3
        · exact hne k h3 h1
        · have := l10 k h1; omega
    · refine ⟨⟨?_, by omega⟩, fun h2 => ?_⟩
      · rintro (h2 | h2)
        · have := hD k h2; omega
        · omega
      · have := m9 k h2; omega
  have hv10 : ∀ k, v9'.ownBlock = some k → v10.ownBlock ≠ some k := by
    intro k hk h2
    rcases q9.2 k hk with h1 | h1
    · exact hne k h1 h2
    · have := l10 k h2; omega
  have view : ∀ {S1 : Nat → Prop} {v : Value} {n : Nat} {xs : List Value}, View wA S1 1 v n xs → (∀ k, S1 k → v9.ownBlock ≠ some k) → (∀ k, S1 k → v10.ownBlock ≠ some k) → View wE S1 1 v n xs := fun hv h1 h2 =>
    (((hv.fr f1 fun _ _ _ h => h).fr g1 fun k hk _ => h1 k hk).fr f2 fun _ _ _ h => h).fr g2 fun k hk _ => h2 k hk
  have e1 : (rs ++ [r]).length = rs.length + 1 := by simp
  refine ⟨by rw [e1]; exact ((show Row wC (fun k => ¬ (D k ∨ k = gb) ∧ w0.heap.size ≤ k) 22 1 v9' (rs.length + 1) (vs ++ [.slice A (64 * r.n) c]) from ⟨q9.1, n9⟩).fr f2 fun _ _ h => h).fr g2 fun k hk => hv10 k hk, by rw [e1, dbl_append]; exact ⟨q10.1, n10⟩, fun j hj => ?_⟩
  rw [e1] at hj
  have hvl : vs.length = rs.length := by have := h.r9.length; omega
  by_cases hjl : j < rs.length
  · obtain ⟨A', c', h1, h2, h3⟩ := h.vd j hjl
    have er : rn (rs ++ [r]) j = rn rs j := by unfold rn; rw [List.getD_eq_getElem?_getD, List.getD_eq_getElem?_getD, List.getElem?_append_left hjl]
    have ef : (fs ++ [fb]).getD j [] = fs.getD j [] := by rw [List.getD_eq_getElem?_getD, List.getD_eq_getElem?_getD, List.getElem?_append_left (by omega)]
    rw [er, ef]
    exact ⟨A', c', by rw [List.getElem?_append_left (by omega)]; exact h1, (view h2 (fun k hk h4 => (h.r9.2 k h4).1 hk) (fun k hk h4 => (h.r10.2 k h4).1.1 hk)).mono fun k hk => .inl hk, h3⟩
  · have hje : j = rs.length := by omega
    subst hje
    have er : rn (rs ++ [r]) rs.length = r := by unfold rn; simp
    have ef : (fs ++ [fb]).getD rs.length [] = fb := by rw [← hfs]; simp
    rw [er, ef]
    exact ⟨A, c, by rw [← hvl]; simp, (view hv (fun k hk h4 => hg9 (by rw [← hk]; exact h4)) (fun k hk h4 => hg10 (by rw [← hk]; exact h4))).mono fun k hk => .inr hk, hB⟩
end
end Go.Proofs.Ytgoghmblfdlnbaa
end

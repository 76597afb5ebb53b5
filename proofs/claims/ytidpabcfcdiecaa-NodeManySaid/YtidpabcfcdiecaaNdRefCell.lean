/- The reference's Cell (chapter 4): Num, Bytes, End. -/
import Derived.Test.YtidpabcfcdiecaaNdRefNum
import Derived.Deep.QuietTactic
import Derived.BigQuiet
set_option linter.unusedSimpArgs false
set_option linter.unusedVariables false
namespace Go.Proofs.Ytidpabcfcdiecaa
open Go.RowKit

/-- A reference Cell at block cb over the bytes xs, of which bs are left. -/
def IsC (w : World) (S : Nat → Prop) (cb : Nat) (xs bs : List Nat) (bad : Int) : Prop :=
  ∃ A c a, Blk w cb #[.slice A xs.length c, .int .i64 (a : Nat), .int .i64 bad] 76 ∧ View w S 1 (.slice A xs.length c) xs.length (bys xs) ∧ a + bs.length = xs.length ∧ xs.drop a = bs

/-- What the reference's Num leaves. -/
def RNumPost (w : World) (S : Nat → Prop) (cb : Nat) (xs : List Nat) (e : Ending) (w' : World) : Got Nat → Prop
  | .ok x rest => e = .returned (.int .i64 x) ∧ Fr (fun k => k = cb) w w' ∧ IsC w' S cb xs rest 0
  | .bad er => e = .returned (.int .i64 0) ∧ Fr (fun k => k = cb) w w' ∧ ∃ A c a, Blk w' cb #[.slice A xs.length c, .int .i64 (a : Nat), .int .i64 er] 76 ∧ er ≠ 0

theorem Blk.drewN {w : World} {g : Nat} {cs : Array Value} {T : TypeId} (h : Blk w g cs T) (n : Nat) : Blk (w.drewN n) g cs T := h

theorem bys_at {xs bs pre t : List Nat} {a d : Nat} (h : xs.drop a = bs) (h2 : bs = pre ++ d :: t) : (bys xs)[a + pre.length]? = some (.int .u8 (d : Int)) := by
  have h1 : xs[a + pre.length]? = some d := by
    rw [← List.getElem?_drop, h, h2, List.getElem?_append_right (Nat.le_refl _)]; simp
  unfold bys
  rw [List.getElem?_map, h1]; rfl

theorem grp64 (x c i : Nat) (hx : x < 128 ^ i) (hc : c < 256) (hi : i < 4) : bits .or .i64 (x : Int) (wrap64 (bits .and .i64 (c : Int) 127 * 2 ^ (7 * i))) = ((x + c % 128 * 128 ^ i : Nat) : Int) := by
  have h := grp x c i hx hc hi
  have h1 : bits .and .u8 (c : Int) 127 = ((c % 128 : Nat) : Int) := by
    rw [u8_and (c : Int) 127 (by omega) (by omega) (by omega) (by omega), show (c : Int).toNat = c by omega, show (127 : Int).toNat = 127 from rfl, and127_nat _ hc]
  have h2 : wrap64 ((c % 128 : Nat) : Int) = ((c % 128 : Nat) : Int) := by unfold wrap64; omega
  have h3 : bits .and .i64 (c : Int) 127 = ((c % 128 : Nat) : Int) := by
    have := i64_and_nat c 127 (by omega) (by omega)
    rw [show ((127 : Nat) : Int) = 127 from rfl] at this
    rw [this, and127_nat _ hc]
  rw [h1, h2] at h
  rw [h3]
  exact h

theorem drop_at {xs bs pre t : List Nat} {a d m i : Nat} (h : xs.drop a = bs) (h2 : bs = pre ++ d :: t) (hp : pre.length = i) (hm : m = a + i) (hl : a + bs.length = xs.length) : (m + 1) + t.length = xs.length ∧ xs.drop (m + 1) = t := by
  subst hp hm
  constructor
  · rw [h2, List.length_append, List.length_cons] at hl; omega
  · rw [show a + pre.length + 1 = a + (pre.length + 1) by omega, ← List.drop_drop, h, h2, List.drop_append]
    simp

set_option maxRecDepth 100000 in
set_option maxHeartbeats 1600000 in
theorem refcellnum (S : Nat → Prop) (cb : Nat) (xs bs : List Nat) (hx : xs.length ≤ 1000000) (hB : Byt xs) (w : World) (hS : ¬ S cb) (hC : IsC w S cb xs bs 0) :
    Calls Try.prog 35 #[.pointer (some ⟨cb, 0, none⟩)] w fun e w' => RNumPost w S cb xs e w' (num bs) := by
  obtain ⟨A, c, a, hb, hv, ha, hbs⟩ := hC
  have hb0 := hb
  obtain ⟨hl, A', c', e, e1, e2, e3, e4, e5⟩ := id hv
  injection e with ea _ ec
  subst ea; subst ec
  have E5 := hid e5; clear e5; have Hbs := hid hbs; clear hbs hl e3 e4
  go_enter Try.func35, Try.ntmps35
  go_wp2_with fail
  go_loopw [3, 4] (fun v3 v4 wr => ∃ (i x m : Nat) (pre rest : List Nat) (bad : Int), v3 = .int .i64 x ∧ v4 = .int .i64 i ∧ i ≤ 4 ∧ m = a + i ∧ Blk wr cb #[.slice A xs.length c, .int .i64 (m : Int), .int .i64 bad] 76 ∧ Fr (fun k => k = cb) w wr ∧
    Hid (bs = pre ++ rest) ∧ Hid (pre.length = i) ∧ Hid (numF (4 - i) i x rest = num bs) ∧ Hid (x < 128 ^ i) ∧ ((i < 4 ∧ bad = 0) ∨ (i = 4 ∧ bad = 4))) (fun _ v4 _ => 4 - (intOf v4).toNat)
  case atStart => exact ⟨0, 0, a, [], bs, 0, rfl, rfl, by omega, rfl, hb, Fr.refl _ _, rfl, rfl, rfl, hid (by decide), .inl ⟨by omega, rfl⟩⟩
  case round =>
    obtain ⟨i, x, m, pre, rest, bad, rfl, rfl, hi, hm, hbr, hfr, hxs, hpre, hn, hxi, hbad⟩ := hrel
    have c0 : wr.cell? ⟨cb, 0, none⟩ = some (.slice A xs.length c) := hbr.cell 0
    have c1 : wr.cell? ⟨cb, 1, none⟩ = some (.int .i64 (m : Int)) := hbr.cell 1
    have c2 : wr.cell? ⟨cb, 2, none⟩ = some (.int .i64 bad) := hbr.cell 2
    have z0 : wr.frozen? ⟨cb, 0, none⟩ = false := hbr.frozen 0
    have z1 : wr.frozen? ⟨cb, 1, none⟩ = false := hbr.frozen 1
    have z2 : wr.frozen? ⟨cb, 2, none⟩ = false := hbr.frozen 2
    rcases hbad with ⟨hi4, rfl⟩ | ⟨hi4, rfl⟩
    · cases rest with
      | nil =>
        have hlen : xs.length ≤ m := by have h1 := hxs.out; rw [List.append_nil] at h1; have := hpre.out; rw [← h1] at this; omega
        have Hm := hid hm; clear hm
        go_wp2_with fail
        go_quiet (fail)
        go_wp2
        go_ret
        rw [← hn.out, show 4 - i = (3 - i) + 1 by omega]
        exact ⟨rfl, (hfr.drewN _).setCell (a := ⟨cb, 2, none⟩) (.inl rfl) _, A, c, m, (hbr.drewN _).set 2 _, by decide⟩
      | cons d t =>
        have hlen : m < xs.length := by have h1 := congrArg List.length hxs.out; have := hpre.out; rw [List.length_append, List.length_cons] at h1; omega
        have hz0 : (0 : Int) ≤ (m : Int) := by omega
        have hz1 : (m : Int) < (xs.length : Int) := by omega
        obtain ⟨b, o, rfl, hSb, hbl, hcells⟩ := E5.out (by omega)
        have hne : b ≠ cb := fun h => hS (h ▸ hSb)
        have hcell : wr.cell? ⟨b, o + m, none⟩ = some (.int .u8 (d : Int)) := hfr.cell (hcells m _ (by rw [hm, ← hpre.out]; exact bys_at Hbs.out hxs.out)) hne
        have hd256 : d < 256 := hB d (by
          have : d ∈ bs := by rw [hxs.out]; simp
          rw [← Hbs.out] at this
          exact List.mem_of_mem_drop this)
        clear hcells
        have Hdr := hid (drop_at Hbs.out hxs.out hpre.out hm ha)
        have Hg := hid (grp64 x d i hxi.out hd256 hi4)
        have Hnum : Hid (num bs = if d < 128 then (if d = 0 ∧ 0 < i then .bad 4 else .ok (x + d % 128 * 128 ^ i) t) else numF (4 - (i + 1)) (i + 1) (x + d % 128 * 128 ^ i) t) := hid (by
          rw [← hn.out, show 4 - i = (4 - (i + 1)) + 1 by omega, numF])
        have hd0 : (0 : Int) ≤ (d : Int) := by omega
        by_cases h128 : d < 128
        · by_cases hz : d = 0 ∧ 0 < i
          · obtain ⟨rfl, hi0⟩ := hz
            have Hm := hid hm; clear hm
            go_wp2_with fail
            go_quiet (fail)
            go_wp2_with fail
            go_quiet (fail)
            go_wp2
            go_ret
            rw [Hnum.out, if_pos (by omega), if_pos (by simp [hi0])]
            exact ⟨rfl, ((hfr.drewN _).setCell (a := ⟨cb, 1, none⟩) (.inl rfl) _).setCell (a := ⟨cb, 2, none⟩) (.inl rfl) _, _, c, m + 1, ((hbr.drewN _).set 1 _).set 2 _, by decide⟩
          · have hres : num bs = .ok (x + d % 128 * 128 ^ i) t := by rw [Hnum.out, if_pos h128, if_neg hz]
            have Hres := hid hres; clear hres
            have hend : ∀ nq, RNumPost w S cb xs (.returned (.int .i64 ((x + d % 128 * 128 ^ i : Nat) : Int))) ((wr.drewN nq).setCell ⟨cb, 1, none⟩ (.int .i64 ((m : Int) + 1))) (.ok (x + d % 128 * 128 ^ i) t) := fun nq =>
              have hf9 := (hfr.drewN nq).setCell (a := ⟨cb, 1, none⟩) (.inl rfl) (.int .i64 ((m : Int) + 1))
              ⟨rfl, hf9, _, c, m + 1, (hbr.drewN nq).set 1 _, hv.fr hf9 (fun k hk _ (h : k = cb) => hS (h ▸ hk)), Hdr.out⟩
            have Hend := hid hend; clear hend
            by_cases hdz : d = 0
            · have hdb : ((d : Int) == 0) = true := by simp; omega
              have hib : decide (0 < i) = false := by simp; omega
              have Hdz := hid hdz; clear hdz
              have Hm := hid hm; clear hm hz
              go_wp2_with fail
              go_quiet (fail)
              go_wp2_with fail
              go_quiet (fail)
              go_wp2
              go_ret
              rw [Hres.out]
              rw [Hg.out]
              exact Hend.out _
            · have hdp : 0 < d := by omega
              have Hm := hid hm; clear hm hz
              go_wp2_with fail
              go_quiet (fail)
              go_wp2_with fail
              go_quiet (fail)
              go_wp2
              go_ret
              rw [Hres.out]
              rw [Hg.out]
              exact Hend.out _
        · have Hm := hid hm; clear hm
          by_cases hi3 : i = 3
          · have hib : ((i : Int) == 3) = true := by simp; omega
            have Hi3 := hid hi3; clear hi3
            go_wp2_with fail
            go_quiet (fail)
            go_wp2_with fail
            go_quiet (fail)
            go_wp2
            go_roundw
            case rel =>
              refine ⟨i + 1, x + d % 128 * 128 ^ i, m + 1, pre ++ [d], t, 4, by rw [Hg.out], by go_num, by omega, by have := Hm.out; omega, ((hbr.drewN _).set 1 _).set 2 _, ((hfr.drewN _).setCell (a := ⟨cb, 1, none⟩) (.inl rfl) _).setCell (a := ⟨cb, 2, none⟩) (.inl rfl) _, hid (by rw [hxs.out]; simp), hid (by rw [List.length_append, hpre.out]; rfl), hid ?_, hid (numF_lt x d i hxi.out), .inr ⟨by have := Hi3.out; omega, rfl⟩⟩
              rw [Hnum.out, if_neg h128]
            case measure => simp [intOf]; omega
          · have hib : ((i : Int) == 3) = false := by simp; omega
            go_wp2_with fail
            go_quiet (fail)
            go_wp2_with fail
            go_quiet (fail)
            go_wp2
            go_roundw
            case rel =>
              refine ⟨i + 1, x + d % 128 * 128 ^ i, m + 1, pre ++ [d], t, 0, by rw [Hg.out], by go_num, by omega, by have := Hm.out; omega, (hbr.drewN _).set 1 _, (hfr.drewN _).setCell (a := ⟨cb, 1, none⟩) (.inl rfl) _, hid (by rw [hxs.out]; simp), hid (by rw [List.length_append, hpre.out]; rfl), hid ?_, hid (numF_lt x d i hxi.out), .inl ⟨by omega, rfl⟩⟩
              rw [Hnum.out, if_neg h128]
            case measure => simp [intOf]; omega
    · subst hi4
      have Hm := hid hm; clear hm
      go_wp2
      go_ret
      rw [← hn.out]
      exact ⟨rfl, hfr, A, c, m, hbr, by decide⟩

/-- End. -/
theorem refend_ok (S : Nat → Prop) (cb : Nat) (xs bs : List Nat) (hx : xs.length ≤ 1000000) (r : Int) (hr : r = if bs.isEmpty then 0 else 3) (w : World) (hC : IsC w S cb xs bs 0) :
    Calls Try.prog 36 #[.pointer (some ⟨cb, 0, none⟩)] w fun e w' => e = .returned (.int .i64 r) ∧ ∃ n, w' = w.drewN n := by
  obtain ⟨A, c, a, hb, hv, ha, hbs⟩ := hC
  clear hv hbs
  have c0 : w.cell? ⟨cb, 0, none⟩ = some (.slice A xs.length c) := hb.cell 0
  have c1 : w.cell? ⟨cb, 1, none⟩ = some (.int .i64 (a : Int)) := hb.cell 1
  have c2 : w.cell? ⟨cb, 2, none⟩ = some (.int .i64 0) := hb.cell 2
  by_cases h : bs = []
  · subst h
    simp at hr
    subst hr
    have hd : decide (a < xs.length) = false := by simp at ha ⊢; omega
    go_enter Try.func36, Try.ntmps36
    go_wp2_with fail
    go_quiet (fail)
    go_wp2
    go_ret
    exact ⟨rfl, _, rfl⟩
  · have hd : decide (a < xs.length) = true := by
      have := List.length_pos_iff.2 h
      simp; omega
    simp [h] at hr
    subst hr
    clear h
    go_enter Try.func36, Try.ntmps36
    go_wp2_with fail
    go_quiet (fail)
    go_wp2
    go_ret
    exact ⟨rfl, _, rfl⟩

theorem refend_bad (cb n a c : Nat) (A : Option Addr) (er : Int) (hz : er ≠ 0) (w : World) (hb : Blk w cb #[.slice A n c, .int .i64 (a : Nat), .int .i64 er] 76) :
    Calls Try.prog 36 #[.pointer (some ⟨cb, 0, none⟩)] w fun e w' => e = .returned (.int .i64 er) ∧ ∃ n, w' = w.drewN n := by
  have c0 : w.cell? ⟨cb, 0, none⟩ = some (.slice A n c) := hb.cell 0
  have c1 : w.cell? ⟨cb, 1, none⟩ = some (.int .i64 (a : Int)) := hb.cell 1
  have c2 : w.cell? ⟨cb, 2, none⟩ = some (.int .i64 er) := hb.cell 2
  have hd : (er == 0) = false := by simpa using hz
  have Hz := hid hz; clear hz
  go_enter Try.func36, Try.ntmps36
  go_wp2_with fail
  go_quiet (fail)
  go_wp2
  go_ret
  exact ⟨rfl, _, rfl⟩
end Go.Proofs.Ytidpabcfcdiecaa

/- The reference's Cell, whether or not it has met an error (chapter 4). -/
import Derived.Test.YtidpabcfcdiecaaNdRefCell
import Derived.Test.YtidpabcfcdiecaaNdD2
set_option linter.unusedSimpArgs false
set_option linter.unusedVariables false
namespace Go.Proofs.Ytidpabcfcdiecaa
open Go.RowKit

/-- What is left, or the error. -/
abbrev St := Sum (List Nat) Int
def numS : St → Nat × St
  | .inl bs => match num bs with
    | .ok x r => (x, .inl r)
    | .bad e => (0, .inr e)
  | .inr e => (0, .inr e)
def numV (st : St) : Nat := (numS st).1
def numR (st : St) : St := (numS st).2
def endS : St → Int
  | .inl bs => if bs.isEmpty then 0 else 3
  | .inr e => e
def IsCs (w : World) (S : Nat → Prop) (cb : Nat) (xs : List Nat) : St → Prop
  | .inl bs => IsC w S cb xs bs 0
  | .inr er => ∃ A c a, Blk w cb #[.slice A xs.length c, .int .i64 (a : Nat), .int .i64 er] 76 ∧ er ≠ 0
theorem IsC.fr {w w1 : World} {S S1 : Nat → Prop} {cb : Nat} {xs bs : List Nat} {bad : Int} (h : IsC w S cb xs bs bad) (hf : Fr S1 w w1) (hc : ¬ S1 cb) (hn : ∀ k, S k → ¬ S1 k) : IsC w1 S cb xs bs bad :=
  let ⟨A, c, a, h1, h2, h3, h4⟩ := h; ⟨A, c, a, h1.fr hf hc, h2.fr hf (fun k hk _ => hn k hk), h3, h4⟩
theorem IsCs.fr {w w1 : World} {S S1 : Nat → Prop} {cb : Nat} {xs : List Nat} (st : St) (h : IsCs w S cb xs st) (hf : Fr S1 w w1) (hc : ¬ S1 cb) (hn : ∀ k, S k → ¬ S1 k) : IsCs w1 S cb xs st := by
  cases st with
  | inl bs => exact IsC.fr h hf hc hn
  | inr er => obtain ⟨A, c, a, h1, h2⟩ := h; exact ⟨A, c, a, h1.fr hf hc, h2⟩
/-- Its error. -/
def badS : St → Int
  | .inl _ => 0
  | .inr e => e
theorem IsCs.cell {w : World} {S : Nat → Prop} {cb : Nat} {xs : List Nat} (st : St) (h : IsCs w S cb xs st) : w.cell? ⟨cb, 2, none⟩ = some (.int .i64 (badS st)) ∧ ((badS st = 0) ↔ ∃ bs, st = .inl bs) := by
  cases st with
  | inl bs => obtain ⟨A, c, a, h1, _⟩ := h; exact ⟨h1.cell 2, fun _ => ⟨bs, rfl⟩, fun _ => rfl⟩
  | inr er => obtain ⟨A, c, a, h1, h2⟩ := h; exact ⟨h1.cell 2, fun h => absurd h h2, fun ⟨_, h⟩ => by cases h⟩

set_option maxRecDepth 100000 in
theorem refcellnum_er (cb n a c : Nat) (A : Option Addr) (er : Int) (hz : er ≠ 0) (w : World) (hb : Blk w cb #[.slice A n c, .int .i64 (a : Nat), .int .i64 er] 76) :
    Calls Try.prog 35 #[.pointer (some ⟨cb, 0, none⟩)] w fun e w' => e = .returned (.int .i64 0) ∧ w = w' := by
  have c2 : w.cell? ⟨cb, 2, none⟩ = some (.int .i64 er) := hb.cell 2
  have hd : (er == 0) = false := by simpa using hz
  have Hz := hid hz; clear hz
  go_enter Try.func35, Try.ntmps35
  go_wp2_with fail
  go_loop [4] (fun v4 => v4 = .int .i64 0) (fun _ => 0)
  case atStart => rfl
  case round =>
    obtain rfl := hrel
    go_wp2
    go_ret
    exact ⟨rfl, rfl⟩

theorem refnum_st (S : Nat → Prop) (cb : Nat) (xs : List Nat) (st : St) (hx : xs.length ≤ 1000000) (hB : Byt xs) (w : World) (hS : ¬ S cb) (hC : IsCs w S cb xs st) :
    Calls Try.prog 35 #[.pointer (some ⟨cb, 0, none⟩)] w fun e w' => e = .returned (.int .i64 (numV st)) ∧ Fr (fun k => k = cb) w w' ∧ IsCs w' S cb xs (numR st) := by
  cases st with
  | inl bs =>
    refine (refcellnum S cb xs bs hx hB w hS hC).mono ?_
    intro e w' hp
    unfold numV numR numS
    dsimp only
    obtain ⟨A, c, a, -, hv, -⟩ := hC
    cases hn : num bs with
    | ok x r => rw [hn] at hp; exact ⟨hp.1, hp.2.1, hp.2.2⟩
    | bad er =>
      rw [hn] at hp
      obtain ⟨h1, h2, A2, c2, a2, h3, h4⟩ := hp
      exact ⟨h1, h2, A2, c2, a2, h3, h4⟩
  | inr er =>
    obtain ⟨A, c, a, h1, h2⟩ := hC
    refine (refcellnum_er cb xs.length a c A er h2 w h1).mono ?_
    rintro e w' ⟨rfl, rfl⟩
    exact ⟨rfl, Fr.refl _ _, A, c, a, h1, h2⟩
theorem refend_st (S : Nat → Prop) (cb : Nat) (xs : List Nat) (st : St) (hx : xs.length ≤ 1000000) (w : World) (hC : IsCs w S cb xs st) :
    Calls Try.prog 36 #[.pointer (some ⟨cb, 0, none⟩)] w fun e w' => e = .returned (.int .i64 (endS st)) ∧ Fr Nil w w' := by
  cases st with
  | inl bs =>
    refine (refend_ok S cb xs bs hx _ rfl w hC).mono ?_
    rintro e w' ⟨rfl, n, rfl⟩
    exact ⟨rfl, (Fr.refl _ _).drewN _⟩
  | inr er =>
    obtain ⟨A, c, a, h1, h2⟩ := hC
    refine (refend_bad cb xs.length a c A er h2 w h1).mono ?_
    rintro e w' ⟨rfl, n, rfl⟩
    exact ⟨rfl, (Fr.refl _ _).drewN _⟩

/-! ### what is read (no program) -/
/-- An entry more, as the reference reads it: the numbers of an error are 0. -/
def numsS : Nat → St → List Nat × St
  | 0, st => ([], st)
  | c + 1, st => ((numV st) :: (numsS c (numR st)).1, (numsS c (numR st)).2)
def rdS : Nat → Nd → St → Nd × St
  | 0, x, st => (x, st)
  | _ + 1, x, .inr e => (x, .inr e)
  | m + 1, x, .inl bs => rdS m (addE x (numsS (wd x) (.inl bs)).1) (numsS (wd x) (.inl bs)).2
theorem numS_ok {bs : List Nat} {x : Nat} {r : List Nat} (h : num bs = .ok x r) : numV (.inl bs) = x ∧ numR (.inl bs) = .inl r := by
  unfold numV numR numS; simp [h]
theorem numS_er {bs : List Nat} {e : Int} (h : num bs = .bad e) : numV (.inl bs) = 0 ∧ numR (.inl bs) = .inr e := by
  unfold numV numR numS; simp [h]
theorem numsS_bad : ∀ (c : Nat) (e : Int), (numsS c (.inr e)).2 = .inr e
  | 0, _ => rfl
  | c + 1, e => numsS_bad c e
theorem numsS_eq : ∀ (c : Nat) (bs : List Nat), match nums' c bs with
    | .ok l r => numsS c (.inl bs) = (l, .inl r)
    | .bad e => (numsS c (.inl bs)).2 = .inr e
  | 0, bs => rfl
  | c + 1, bs => by
    have ih := numsS_eq c
    unfold nums' numsS
    cases hn : num bs with
    | bad e =>
      obtain ⟨h1, h2⟩ := numS_er hn
      rw [h1, h2]
      exact numsS_bad c e
    | ok n r =>
      obtain ⟨h1, h2⟩ := numS_ok hn
      rw [h1, h2]
      have := ih r
      cases hm : nums' c r with
      | bad e => rw [hm] at this; dsimp only at this ⊢; simp only [hm]; exact this
      | ok l r' => rw [hm] at this; dsimp only at this ⊢; simp only [hm]; rw [this]
theorem rdS_bad : ∀ (m : Nat) (x : Nd) (e : Int), rdS m x (.inr e) = (x, .inr e)
  | 0, _, _ => rfl
  | _ + 1, _, _ => rfl
theorem rdS_eq : ∀ (m : Nat) (x : Nd) (bs : List Nat), match rdN m x bs with
    | .ok y r => rdS m x (.inl bs) = (y, .inl r)
    | .bad e => (rdS m x (.inl bs)).2 = .inr e
  | 0, x, bs => rfl
  | m + 1, x, bs => by
    have h := numsS_eq (wd x) bs
    unfold rdN rdS
    cases hn : nums' (wd x) bs with
    | bad e =>
      rw [hn] at h
      dsimp only at h ⊢
      rw [h, rdS_bad]
    | ok l r =>
      rw [hn] at h
      dsimp only at h ⊢
      rw [h]
      exact rdS_eq m (addE x l) r
/-- What the reference comes to. -/
def finS (y : Nd × St) : Sum Nd Int := if endS y.2 ≠ 0 then .inr (endS y.2) else if MayNd y.1 then .inl y.1 else .inr 4
def decT (h m : Nat) (st : St) : Sum Nd Int := if badS st = 0 ∧ 8 < m then .inr 4 else finS (rdS m ⟨(h : Nat), [], [], [], []⟩ st)
def decS (xs : List Nat) : Sum Nd Int := decT (numV (.inl xs)) (numV (numR (.inl xs))) (numR (numR (.inl xs)))
theorem bad_ne {e : Int} (h : e = 2 ∨ e = 4) : e ≠ 0 := by omega
theorem decT_er (h : Nat) {e : Int} (hne : e ≠ 0) : decT h 0 (.inr e) = .inr e := by
  simp [decT, finS, rdS, endS, hne]
theorem decS_eq (xs : List Nat) : decS xs = decd xs := by
  unfold decS decd outc
  cases hn : num xs with
  | bad e =>
    obtain ⟨h1, h2⟩ := numS_er hn
    rw [h2]
    exact decT_er _ (bad_ne (num_bad' hn))
  | ok h r =>
    obtain ⟨h1, h2⟩ := numS_ok hn
    rw [h1, h2]
    dsimp only
    cases hm : num r with
    | bad e =>
      obtain ⟨h3, h4⟩ := numS_er hm
      rw [h3, h4]
      exact decT_er _ (bad_ne (num_bad' hm))
    | ok m r2 =>
      obtain ⟨h3, h4⟩ := numS_ok hm
      rw [h3, h4]
      unfold decT
      dsimp only
      by_cases hb : 8 < m
      · rw [if_pos ⟨rfl, hb⟩, if_pos hb]
      · rw [if_neg (fun h => hb h.2), if_neg hb]
        have hr := rdS_eq m ⟨(h : Nat), [], [], [], []⟩ r2
        cases hd : rdN m ⟨(h : Nat), [], [], [], []⟩ r2 with
        | bad e =>
          rw [hd] at hr
          dsimp only at hr
          have hne := bad_ne (rdN_bad _ _ _ _ hd)
          unfold finS
          rw [hr]
          show (if e ≠ 0 then Sum.inr e else _) = _
          rw [if_pos hne]; rfl
        | ok y rest =>
          rw [hd] at hr
          dsimp only at hr
          rw [hr]
          unfold finS
          cases rest with
          | nil => simp [endS, oc]
          | cons a l => simp [endS, oc]
end Go.Proofs.Ytidpabcfcdiecaa

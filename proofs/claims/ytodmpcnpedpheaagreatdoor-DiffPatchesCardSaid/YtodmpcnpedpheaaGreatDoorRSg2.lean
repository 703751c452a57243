/- Levels (plain): one level after the other, until one symbol is left. -/
import Derived.Test.YtodmpcnpedpheaaGreatDoorRAvl2
import Derived.Lib.TrailingZeros
import Derived.Test.YtodmpcnpedpheaaGreatDoorRBase
import Derived.Test.YtodmpcnpedpheaaGreatDoorRSt5
import Derived.Laws.BitsAllLaws
import Derived.Laws.Bits64
set_option linter.unusedSimpArgs false
set_option linter.unusedVariables false
namespace Go.Proofs.YtodmpcnpedpheaaGreatDoor
open Go.RowKit

/-- One level. -/
def lvL (l : Int) (L : List Ent) (ids : List Int) : List Ent × List Int := if l % 2 = 1 then rnL L (rle ids) else prL ((l / 2 - 1).toNat % 123) L ids

theorem lvL_ok {l : Int} (hl : 1 ≤ l) {L : List Ent} {ids : List Int} (hS : SOk L) (hD : DOk L) (hU : Uq L) (hI : SeqI L l ids) (ht : (txts L ids).length ≤ 1152921504606846976) :
    Left L ids l (lvL l L ids).1 (lvL l L ids).2 ∧ (ids ≠ [] → (lvL l L ids).2 ≠ []) := by
  unfold lvL
  split
  · rename_i h
    obtain ⟨r1, r2, r3, r4⟩ := rle_ok ids
    have q := rnL_ok hl h (rle ids) L r1 hS hD hU (by rw [r2]; exact hI) (by rw [r2]; exact ht)
    rw [r2] at q
    refine ⟨q.1, fun hne => ?_⟩
    cases hr : rle ids with
    | nil => rw [hr] at r2; exact absurd r2.symm hne
    | cons p g =>
      obtain ⟨h', s, e, _⟩ := q.2.2 p.1 p.2 g hr
      rw [hr] at e
      rw [e]; simp
  · rename_i h
    have q := prL_ok (c := (l / 2 - 1).toNat % 123) (l := l) (by omega) (by omega) rfl _ ids L (Nat.le_refl _) hS hD hU hI ht
    refine ⟨q.1, fun hne => ?_⟩
    cases ids with
    | nil => exact absurd rfl hne
    | cons x t =>
      obtain ⟨h', s, e, _⟩ := q.2 x t rfl
      rw [e]; simp

/-- How much there is to do. -/
def meas (l : Int) (L : List Ent) : List Int → Nat
  | x :: y :: t => (t.length + 2) * 1000 + (aftI (l - 1) (kkey L x) (kkey L y) - l).toNat
  | [_] => 1000
  | [] => 0

theorem meas_le {l : Int} (hl : 1 ≤ l) {L : List Ent} (hD : DOk L) : ∀ {ids : List Int}, (∀ u ∈ ids, isKnown L u ∧ u ≠ 0) → ids.length * 1000 ≤ meas l L ids ∧ meas l L ids ≤ ids.length * 1000 + 500
  | [], _ => by simp [meas]
  | [_], _ => by simp [meas]
  | x :: y :: t, h => by
    have kx := h x (by simp)
    have ky := h y (by simp)
    have rx := kkey_rng hD kx.1 kx.2
    have ry := kkey_rng hD ky.1 ky.2
    have a := aftI_spec (low := l - 1) (by omega) rx.1 rx.2 ry.1 ry.2
    have a1 := a.1
    have a2 := a.2.1
    simp only [meas, List.length_cons]
    omega

/-- Every level brings the end nearer. -/
theorem meas_lt {l : Int} (hl : 1 ≤ l) {L : List Ent} {ids : List Int} (hS : SOk L) (hD : DOk L) (hU : Uq L) (hI : SeqI L l ids) (ht : (txts L ids).length ≤ 1152921504606846976) (h2 : 1 < ids.length) :
    meas (l + 1) (lvL l L ids).1 (lvL l L ids).2 < meas l L ids := by
  have q := (lvL_ok hl hS hD hU hI ht).1
  have m1 := meas_le (l := l + 1) (by omega) q.gu.gr.dok q.seq.kn
  have m2 := meas_le hl hD hI.kn
  have hle := q.len
  by_cases c : (lvL l L ids).2.length = ids.length
  · have hsame : lvL l L ids = (L, ids) ∧ ∀ x y t, ids = x :: y :: t → ¬ fitL l (kkey L x) (kkey L y) := by
      unfold lvL at c ⊢
      split at c
      · rename_i ho
        rw [if_pos ho]
        obtain ⟨r1, r2, r3, r4⟩ := rle_ok ids
        have k := rnL_ok hl ho (rle ids) L r1 hS hD hU (by rw [r2]; exact hI) (by rw [r2]; exact ht)
        rw [k.2.1] at c
        refine ⟨by rw [rnL_same _ _ (r4 c), r2], fun x y t _ => ?_⟩
        rintro ⟨_, k2, _⟩
        omega
      · rename_i ho
        rw [if_neg ho]
        obtain ⟨k1, k2⟩ := (prL_same (c := (l / 2 - 1).toNat % 123) _ ids L (Nat.le_refl _)).2 c
        refine ⟨k1, fun x y t e => ?_⟩
        rintro ⟨_, _, k3⟩
        rw [e] at k2
        have := k2.1
        rw [this] at k3
        cases k3
    obtain ⟨e1, e2⟩ := hsame
    rw [e1]
    obtain ⟨x, y, t, rfl⟩ : ∃ x y t, ids = x :: y :: t := by
      cases ids with
      | nil => simp at h2
      | cons x s => cases s with
        | nil => simp at h2
        | cons y t => exact ⟨x, y, t, rfl⟩
    have kx := hI.kn x (by simp)
    have ky := hI.kn y (by simp)
    have rx := kkey_rng hD kx.1 kx.2
    have ry := kkey_rng hD ky.1 ky.2
    obtain ⟨a1, a2, a3, a4⟩ := aftI_spec (low := l - 1) (by omega) rx.1 rx.2 ry.1 ry.2
    have hne : aftI (l - 1) (kkey L x) (kkey L y) ≠ l := fun e => e2 x y t rfl (by rw [e] at a3; exact a3)
    have he : aftI l (kkey L x) (kkey L y) = aftI (l - 1) (kkey L x) (kkey L y) :=
      aftI_eq (by omega) rx.1 rx.2 ry.1 ry.2 (by omega) a3 (fun k k1 k2 => a4 k (by omega) k2)
    simp only [meas]
    rw [show l + 1 - 1 = l by omega, he]
    omega
  · omega

end Go.Proofs.YtodmpcnpedpheaaGreatDoor

/- The least number that two keys fit, by their bits (plain); the pairs of a level, by their indices. -/
set_option linter.unusedSimpArgs false
set_option linter.unusedVariables false
namespace Go.Proofs.YtodmpcnpedpheaaGreatDoor
open Go.RowKit

theorem ctz_bits {D : Nat} (h0 : D ≠ 0) (hD : D < 2 ^ 64) : D.testBit (Lib.ctz 64 D) = true ∧ ∀ b, b < Lib.ctz 64 D → D.testBit b = false := by
  obtain ⟨m, h1, h2⟩ := Lib.ctzFrom_spec 64 D (by omega) hD
  have e : Lib.ctz 64 D = Lib.ctzFrom 64 D := by unfold Lib.ctz; rw [if_neg h0]
  rw [e]
  generalize Lib.ctzFrom 64 D = k at *
  subst h1
  refine ⟨?_, fun b hb => ?_⟩
  · rw [Nat.testBit_two_pow_mul]
    simp
  · rw [Nat.testBit_two_pow_mul]
    simp [Nat.not_le.2 hb]

theorem fitB_odd {x y : Nat} {b : Nat} (hb : b < 61) (h1 : x.testBit b = true) (h2 : y.testBit b = false) : fitB (2 * b + 1) x y = true := by
  unfold fitB
  rw [if_neg (by omega), show (2 * b + 1) / 2 = b by omega, show (2 * b + 1) % 2 = 1 by omega, Int.toNat_natCast, Int.toNat_natCast, h1, h2]
  rfl

theorem fitB_even {x y : Nat} {b : Nat} (hb : b < 61) (h1 : x.testBit b = false) (h2 : y.testBit b = true) : fitB (2 * b) x y = true := by
  unfold fitB
  rw [if_neg (by omega), show (2 * b) / 2 = b by omega, show (2 * b) % 2 = 0 by omega, Int.toNat_natCast, Int.toNat_natCast, h1, h2]
  rfl

theorem fitB_parts {x y : Nat} {c : Nat} (h : fitB c x y = true) (hc : c ≠ 122) : x.testBit (c / 2) = (c % 2 == 1) ∧ y.testBit (c / 2) = (c % 2 == 0) := by
  unfold fitB at h
  rw [if_neg hc, Bool.and_eq_true, beq_iff_eq, beq_iff_eq, Int.toNat_natCast, Int.toNat_natCast] at h
  exact h

theorem fitN_is {x y : Int} {n : Nat} : ∀ (f c : Nat), c ≤ n → n < c + f → fitB n x y = true → (∀ k, c ≤ k → k < n → fitB k x y = false) → fitN x y f c = some n
  | 0, c => by intro h1 h2; omega
  | f + 1, c => by
    intro h1 h2 h3 h4
    unfold fitN
    by_cases e : c = n
    · rw [e, h3, if_pos rfl]
    · rw [h4 c (Nat.le_refl _) (by omega), if_neg (by decide)]
      exact fitN_is f (c + 1) (by omega) (by omega) h3 (fun k k1 k2 => h4 k (by omega) k2)

theorem fitN_no {x y : Int} : ∀ (f c : Nat), (∀ k, c ≤ k → k < c + f → fitB k x y = false) → fitN x y f c = none
  | 0, c => by intro h; rfl
  | f + 1, c => by
    intro h
    unfold fitN
    rw [h c (Nat.le_refl _) (by omega), if_neg (by decide)]
    exact fitN_no f (c + 1) (fun k k1 k2 => h k (by omega) (by omega))

/-- By the bits in which two keys differ. -/
theorem fit_bits {x y c D : Nat} (hx : x < 2305843009213693951) (hy : y < 2305843009213693951) (hne : x ≠ y) (hc : c < 122) (hD64 : D < 2 ^ 64)
    (hD : ∀ b, b < 61 → D.testBit b = ((x.testBit b != y.testBit b) && decide (c / 2 ≤ b) && !(c % 2 == 1 && !x.testBit (c / 2) && b == c / 2))) (hD61 : ∀ b, 61 ≤ b → D.testBit b = false) :
    (D = 0 → fitN (x : Int) y (123 - c) c = none) ∧ (D ≠ 0 → Lib.ctz 64 D < 61 ∧ fitN (x : Int) y (123 - c) c = some (2 * Lib.ctz 64 D + if x.testBit (Lib.ctz 64 D) then 1 else 0)) := by
  have h122 : fitB 122 (x : Int) y = false := by
    unfold fitB
    rw [if_pos rfl, beq_eq_false_iff_ne]
    omega
  -- what fits, differs
  have key : ∀ k, c ≤ k → k < 122 → fitB k (x : Int) y = true → D.testBit (k / 2) = true := by
    intro k k1 k2 hk
    obtain ⟨p1, p2⟩ := fitB_parts hk (by omega)
    rw [hD _ (by omega), p1, p2]
    have hd : decide (c / 2 ≤ k / 2) = true := decide_eq_true (by omega)
    rw [hd]
    have hx1 : ((k % 2 == 1) != (k % 2 == 0)) = true := by
      rcases Nat.mod_two_eq_zero_or_one k with e | e <;> rw [e] <;> rfl
    rw [hx1]
    cases hb : (c % 2 == 1 && !x.testBit (c / 2) && k / 2 == c / 2) with
    | false => rfl
    | true =>
      exfalso
      rw [Bool.and_eq_true, Bool.and_eq_true, beq_iff_eq, beq_iff_eq, Bool.not_eq_true'] at hb
      obtain ⟨⟨b1, b2⟩, b3⟩ := hb
      rw [← b3, p1, beq_eq_false_iff_ne] at b2
      omega
  constructor
  · intro h0
    refine fitN_no _ _ (fun k k1 k2 => ?_)
    by_cases e : k = 122
    · rw [e]; exact h122
    · cases hf : fitB k (x : Int) y with
      | false => rfl
      | true =>
        have := key k k1 (by omega) hf
        rw [h0, Nat.zero_testBit] at this
        cases this
  · intro h0
    obtain ⟨t1, t2⟩ := ctz_bits h0 hD64
    generalize Lib.ctz 64 D = b at *
    have hb : b < 61 := by
      rcases Nat.lt_or_ge b 61 with g | g
      · exact g
      · rw [hD61 b g] at t1; cases t1
    refine ⟨hb, ?_⟩
    rw [hD b hb, Bool.and_eq_true, Bool.and_eq_true, decide_eq_true_eq, Bool.not_eq_true'] at t1
    obtain ⟨⟨d1, d2⟩, d3⟩ := t1
    -- nothing smaller fits
    have low : ∀ k, c ≤ k → k < 2 * b → fitB k (x : Int) y = false := by
      intro k k1 k2
      cases hf : fitB k (x : Int) y with
      | false => rfl
      | true =>
        have := key k k1 (by omega) hf
        rw [t2 (k / 2) (by omega)] at this
        cases this
    cases hxb : x.testBit b with
    | true =>
      have hyb : y.testBit b = false := by rw [hxb] at d1; cases h : y.testBit b with | true => rw [h] at d1; cases d1 | false => rfl
      rw [if_pos rfl]
      refine fitN_is _ _ (by omega) (by omega) (fitB_odd hb hxb hyb) (fun k k1 k2 => ?_)
      by_cases e : k = 2 * b
      · cases hf : fitB k (x : Int) y with
        | false => rfl
        | true =>
          obtain ⟨p1, p2⟩ := fitB_parts hf (by omega)
          rw [e, show 2 * b / 2 = b by omega, show 2 * b % 2 = 0 by omega, hxb] at p1
          cases p1
      · exact low k k1 (by omega)
    | false =>
      have hyb : y.testBit b = true := by rw [hxb] at d1; cases h : y.testBit b with | false => rw [h] at d1; cases d1 | true => rfl
      rw [if_neg (by decide)]
      have hcb : c ≤ 2 * b := by
        rcases Nat.lt_or_ge (2 * b) c with g | g
        · exfalso
          have e1 : b = c / 2 := by omega
          have e2 : c % 2 = 1 := by omega
          rw [e2, ← e1, hxb] at d3
          simp at d3
        · exact g
      exact fitN_is _ _ (by omega) (by omega) (fitB_even hb hxb hyb) (fun k k1 k2 => low k k1 (by omega))

/-- Where the pairs begin, from the left. -/
def grd (c : Nat) : Nat → List Int → List Nat
  | i, x :: y :: t => if fitB c x y = true then i :: grd c (i + 2) t else grd c (i + 1) (y :: t)
  | _, [_] => []
  | _, [] => []
termination_by _ l => l.length

end Go.Proofs.YtodmpcnpedpheaaGreatDoor

/- Levels by indices (plain): how the loops over the pairs and the stretches make a level. -/
set_option linter.unusedSimpArgs false
set_option linter.unusedVariables false
namespace Go.Proofs.YtodmpcnpedpheaaGreatDoor
open Go.RowKit

theorem grd_fit {c i : Nat} {x y : Int} {t : List Int} (h : fitB c x y = true) : grd c i (x :: y :: t) = i :: grd c (i + 2) t := by rw [grd, if_pos h]
theorem grd_not {c i : Nat} {x y : Int} {t : List Int} (h : fitB c x y = false) : grd c i (x :: y :: t) = grd c (i + 1) (y :: t) := by rw [grd, if_neg (by rw [h]; decide)]
theorem grd_one (c i : Nat) (x : Int) : grd c i [x] = [] := by rw [grd]
theorem grd_nil (c i : Nat) : grd c i [] = [] := by rw [grd]

/-- No two neighbours of a level that is no tie level share a key. -/
theorem fit_next {c : Nat} (hc : c ≠ 122) {x y z : Int} (h : fitB c x y = true) : fitB c y z = false := by
  unfold fitB at h ⊢
  rw [if_neg hc] at h ⊢
  rw [Bool.and_eq_true, beq_iff_eq, beq_iff_eq] at h
  rw [h.2]
  rcases Nat.mod_two_eq_zero_or_one c with e | e <;> rw [e] <;> rfl

theorem grd_step {c : Nat} (hc : c ≠ 122) (i : Nat) (x y : Int) (t : List Int) : grd c i (x :: y :: t) = (if fitB c x y = true then [i] else []) ++ grd c (i + 1) (y :: t) := by
  cases h : fitB c x y with
  | true =>
    rw [grd_fit h, if_pos rfl]
    cases t with
    | nil => rw [grd_one, grd_nil]; rfl
    | cons z t => rw [grd_not (fit_next hc h)]; rfl
  | false => rw [grd_not h, if_neg (by decide)]; rfl

/-- The pairs of a stretch of n equal keys. -/
def strP : Nat → Nat → List Nat
  | i, n + 2 => i :: strP (i + 2) n
  | _, 1 => []
  | _, 0 => []

theorem fit_tie (x : Int) : fitB 122 x x = true := by unfold fitB; rw [if_pos rfl]; simp
theorem fit_tie_ne {x y : Int} (h : x ≠ y) : fitB 122 x y = false := by unfold fitB; rw [if_pos rfl]; simpa using h

theorem grd_stretch (x : Int) : ∀ (n i : Nat) (t : List Int), (∀ y s, t = y :: s → x ≠ y) → grd 122 i (List.replicate n x ++ t) = strP i n ++ grd 122 (i + n) t
  | 0, i, t, _ => rfl
  | 1, i, t, h => by
    show grd 122 i (x :: t) = [] ++ grd 122 (i + 1) t
    cases t with
    | nil => rw [grd_one, grd_nil]; rfl
    | cons y s => rw [grd_not (fit_tie_ne (h y s rfl))]; rfl
  | n + 2, i, t, h => by
    show grd 122 i (x :: x :: (List.replicate n x ++ t)) = i :: (strP (i + 2) n ++ grd 122 (i + (n + 2)) t)
    rw [grd_fit (fit_tie x), grd_stretch x n (i + 2) t h, show i + 2 + n = i + (n + 2) by omega]

/-- From one pair to the next. -/
theorem prL_jump {c : Nat} {L : List Ent} : ∀ (n : Nat) (l : List Int) (a i : Nat) (is : List Nat), l.length ≤ n → grd c a (l.map (kkey L)) = i :: is →
    ∃ pre x y t, l = pre ++ x :: y :: t ∧ i = a + pre.length ∧ is = grd c (i + 2) (t.map (kkey L)) ∧
      prL c L l = ((prL c (addL L (pairEnt L x y)) t).1, pre ++ addI L (pairEnt L x y) :: (prL c (addL L (pairEnt L x y)) t).2) := by
  intro n
  induction n with
  | zero =>
    intro l a i is hn h
    have : l = [] := List.eq_nil_of_length_eq_zero (by omega)
    subst this
    rw [List.map_nil, grd_nil] at h; cases h
  | succ n ih =>
    intro l a i is hn h
    match l, hn, h with
    | [], hn, h => rw [List.map_nil, grd_nil] at h; cases h
    | [x], hn, h => rw [List.map_cons, List.map_nil, grd_one] at h; cases h
    | x :: y :: t, hn, h =>
      simp only [List.map_cons] at h
      cases hf : fitB c (kkey L x) (kkey L y) with
      | true =>
        rw [grd_fit hf, List.cons.injEq] at h
        obtain ⟨rfl, rfl⟩ := h
        refine ⟨[], x, y, t, rfl, rfl, rfl, ?_⟩
        rw [prL, if_pos hf]; rfl
      | false =>
        rw [grd_not hf] at h
        obtain ⟨pre, x', y', t', h1, h2, h3, h4⟩ := ih (y :: t) (a + 1) i is (by simp at hn ⊢; omega) h
        refine ⟨x :: pre, x', y', t', by rw [h1]; rfl, by simp only [List.length_cons]; omega, h3, ?_⟩
        rw [prL, if_neg (by rw [hf]; decide), h4]; rfl

theorem prL_end {c : Nat} {L : List Ent} : ∀ (n : Nat) (l : List Int) (a : Nat), l.length ≤ n → grd c a (l.map (kkey L)) = [] → prL c L l = (L, l) := by
  intro n
  induction n with
  | zero =>
    intro l a hn h
    have : l = [] := List.eq_nil_of_length_eq_zero (by omega)
    subst this
    rw [prL]
  | succ n ih =>
    intro l a hn h
    match l, hn, h with
    | [], hn, h => rw [prL]
    | [x], hn, h => rw [prL]
    | x :: y :: t, hn, h =>
      simp only [List.map_cons] at h
      cases hf : fitB c (kkey L x) (kkey L y) with
      | true => rw [grd_fit hf] at h; cases h
      | false =>
        rw [grd_not hf] at h
        rw [prL, if_neg (by rw [hf]; decide), ih (y :: t) (a + 1) (by simp at hn ⊢; omega) h]

end Go.Proofs.YtodmpcnpedpheaaGreatDoor

/- Readers of texts (plain): what is left to read, and that opening a symbol leaves it as it is. -/
set_option linter.unusedSimpArgs false
set_option linter.unusedVariables false
namespace Go.Proofs.YtodmpcnpedpheaaGreatDoor
open Go.RowKit

/-- The letters of an ID as a reader meets them. -/
def txB (L : List Ent) (back : Bool) (id : Int) : List Int := if back then (txt L id).reverse else txt L id

/-- What is left to read: the last group is the next. -/
def restG (L : List Ent) (back : Bool) (td : List (Int × Int)) : List Int := (td.reverse.map fun p => reps (txB L back p.1) p.2.toNat).flatten

/-- A group of a signature symbol. -/
structure GOk (L : List Ent) (p : Int × Int) : Prop where
  kn : isKnown L p.1
  ne : p.1 ≠ 0
  lv : 0 ≤ klev L p.1
  tm : 1 ≤ p.2

/-- What a symbol refers to, the next one last. -/
def opnG (L : List Ent) (back : Bool) (id : Int) : List (Int × Int) :=
  if (entAt L id).rule.kind = 3 then [((entAt L id).rule.left, (entAt L id).rule.times)]
  else if (entAt L id).rule.kind = 2 then (if back then [((entAt L id).rule.left, 1), ((entAt L id).rule.right, 1)] else [((entAt L id).rule.right, 1), ((entAt L id).rule.left, 1)])
  else []

theorem restG_push (L : List Ent) (back : Bool) (td : List (Int × Int)) (p : Int × Int) : restG L back (td ++ [p]) = reps (txB L back p.1) p.2.toNat ++ restG L back td := by
  unfold restG; rw [List.reverse_append]; rfl

theorem restG_nil (L : List Ent) (back : Bool) : restG L back [] = [] := rfl

theorem reps_zero (t : List Int) : reps t 0 = [] := rfl
theorem reps_one (t : List Int) : reps t 1 = t := by rw [reps_succ, reps_zero, List.append_nil]
theorem reps_add (t : List Int) : ∀ a b : Nat, reps t (a + b) = reps t a ++ reps t b
  | 0, b => by rw [Nat.zero_add, reps_zero]; rfl
  | a + 1, b => by rw [show a + 1 + b = (a + b) + 1 by omega, reps_succ, reps_add t a b, reps_succ, List.append_assoc]
theorem reps_reverse (t : List Int) : ∀ k : Nat, (reps t k).reverse = reps t.reverse k
  | 0 => rfl
  | k + 1 => by rw [show k + 1 = k + 1 from rfl, reps_add t k 1, reps_one, List.reverse_append, reps_reverse t k, reps_succ]

/-- The children of a signature symbol. -/
theorem kids_ok {L : List Ent} {back : Bool} (hS : SOk L) (hD : DOk L) {id : Int} (hk : isKnown L id) (h0 : id ≠ 0) (hl : 0 ≤ klev L id) : ∀ p ∈ opnG L back id, GOk L p ∧ p.1 < id := by
  have h1 := hk.1
  have h2 := hk.2
  intro p hp
  unfold opnG at hp
  rcases hD.at id hk h0 with ⟨g1, _⟩ | ⟨g1, g2, _⟩ | ⟨g1, g2, g3⟩
  · rw [if_neg (by rw [g1]; decide), if_neg (by rw [g1]; decide)] at hp; simp at hp
  · have e := (kl_pair hD hk h0 g1).2
    have hc : (entAt L id).rule.left ≠ (entAt L id).rule.right ∧ 0 ≤ klev L (entAt L id).rule.left ∧ 0 ≤ klev L (entAt L id).rule.right := by
      by_cases c : (entAt L id).rule.left ≠ (entAt L id).rule.right ∧ 0 ≤ klev L (entAt L id).rule.left ∧ 0 ≤ klev L (entAt L id).rule.right
      · exact c
      · rw [if_neg c] at e; omega
    rw [if_neg (by rw [g1]; decide), if_pos g1] at hp
    have hh : p = ((entAt L id).rule.left, 1) ∨ p = ((entAt L id).rule.right, 1) := by
      cases back <;> simp at hp <;> rcases hp with h | h <;> simp [h]
    rcases hh with rfl | rfl
    · exact ⟨⟨⟨by show (0 : Int) ≤ (entAt L id).rule.left; omega, by show (entAt L id).rule.left ≤ _; omega⟩, by show (entAt L id).rule.left ≠ 0; omega, hc.2.1, by show (1 : Int) ≤ 1; omega⟩, g2.2.1⟩
    · exact ⟨⟨⟨by show (0 : Int) ≤ (entAt L id).rule.right; omega, by show (entAt L id).rule.right ≤ _; omega⟩, by show (entAt L id).rule.right ≠ 0; omega, hc.2.2, by show (1 : Int) ≤ 1; omega⟩, g2.2.2.2⟩
  · have e := (kl_power hD hk h0 g1).2
    have hc : 0 ≤ klev L (entAt L id).rule.left := by
      by_cases c : 0 ≤ klev L (entAt L id).rule.left ∧ klev L (entAt L id).rule.left % 2 = 0
      · exact c.1
      · rw [if_neg c] at e; omega
    rw [if_pos g1] at hp
    simp only [List.mem_cons, List.not_mem_nil, or_false] at hp
    subst hp
    have ht : 1 ≤ (entAt L id).rule.times := by
      have hw := ((hS.at id hk).2.2.2 h0).1
      rcases Int.lt_or_le 0 (entAt L id).rule.times with c | c
      · exact c
      · exfalso
        have hx := txt_len hD hS _ id (Nat.le_refl _) hk
        rw [txt_pow hD hk h0 g1, show (entAt L id).rule.times.toNat = 0 by omega, reps_zero] at hx
        simp at hx
        omega
    exact ⟨⟨⟨by show (0 : Int) ≤ (entAt L id).rule.left; omega, by show (entAt L id).rule.left ≤ _; omega⟩, by show (entAt L id).rule.left ≠ 0; omega, hc, ht⟩, g2.2⟩

/-- Opening a symbol leaves what is left. -/
theorem restG_open {L : List Ent} (hD : DOk L) {back : Bool} {id : Int} (hk : isKnown L id) (h0 : id ≠ 0) (h1 : (entAt L id).rule.kind ≠ 1) (td : List (Int × Int)) :
    restG L back (td ++ opnG L back id) = txB L back id ++ restG L back td := by
  unfold opnG
  rcases hD.at id hk h0 with ⟨g1, _⟩ | ⟨g1, g2, _⟩ | ⟨g1, g2, g3⟩
  · exact absurd g1 h1
  · rw [if_neg (by rw [g1]; decide), if_pos g1]
    cases back with
    | true =>
      rw [if_pos rfl, show td ++ [((entAt L id).rule.left, (1 : Int)), ((entAt L id).rule.right, 1)] = (td ++ [((entAt L id).rule.left, (1 : Int))]) ++ [((entAt L id).rule.right, 1)] by simp, restG_push, restG_push]
      show reps _ 1 ++ (reps _ 1 ++ _) = _
      rw [reps_one, reps_one]
      unfold txB
      rw [if_pos rfl, if_pos rfl, if_pos rfl, txt_pair hD hk h0 g1, List.reverse_append, List.append_assoc]
    | false =>
      rw [if_neg (by decide), show td ++ [((entAt L id).rule.right, (1 : Int)), ((entAt L id).rule.left, 1)] = (td ++ [((entAt L id).rule.right, (1 : Int))]) ++ [((entAt L id).rule.left, 1)] by simp, restG_push, restG_push]
      show reps _ 1 ++ (reps _ 1 ++ _) = _
      rw [reps_one, reps_one]
      unfold txB
      rw [if_neg (by decide), if_neg (by decide), if_neg (by decide), txt_pair hD hk h0 g1, List.append_assoc]
  · rw [if_pos g1, restG_push]
    dsimp only
    congr 1
    unfold txB
    cases back with
    | true => rw [if_pos rfl, if_pos rfl, txt_pow hD hk h0 g1, reps_reverse]
    | false => rw [if_neg (by decide), if_neg (by decide), txt_pow hD hk h0 g1]

/-- Copies of the next group taken away. -/
def drpG (td : List (Int × Int)) (x k : Int) : List (Int × Int) := if k = 0 then td else td ++ [(x, k)]

theorem restG_drop (L : List Ent) (back : Bool) (td : List (Int × Int)) (x k j : Int) (hj : 0 ≤ j) (hk : j ≤ k) :
    restG L back (td ++ [(x, k)]) = reps (txB L back x) j.toNat ++ restG L back (drpG td x (k - j)) := by
  rw [restG_push]
  unfold drpG
  dsimp only
  rw [show k.toNat = j.toNat + (k - j).toNat by omega, reps_add, List.append_assoc]
  congr 1
  split
  · rename_i h
    rw [h]; rfl
  · rw [restG_push]

theorem txB_len (L : List Ent) (back : Bool) (id : Int) : (txB L back id).length = (txt L id).length := by
  unfold txB; split <;> simp

/-- How much can still be opened. -/
def potG (L : List Ent) : List (Int × Int) → Nat
  | [] => 0
  | p :: r => p.2.toNat * ((txt L p.1).length - 1) + potG L r

theorem potG_append (L : List Ent) : ∀ a b : List (Int × Int), potG L (a ++ b) = potG L a + potG L b
  | [], b => by simp [potG]
  | p :: r, b => by
    show _ + potG L (r ++ b) = _ + potG L r + potG L b
    rw [potG_append L r b]; omega

theorem txt_pos {L : List Ent} (hS : SOk L) (hD : DOk L) {id : Int} (hk : isKnown L id) (h0 : id ≠ 0) : 1 ≤ (txt L id).length := by
  have h := txt_len hD hS _ id (Nat.le_refl _) hk
  have := ((hS.at id hk).2.2.2 h0).1
  omega

/-- Opening brings the end nearer (times: a power has two copies or more). -/
theorem potG_open {L : List Ent} (hS : SOk L) (hD : DOk L) {back : Bool} {id : Int} (hk : isKnown L id) (h0 : id ≠ 0) (h1 : (entAt L id).rule.kind ≠ 1) (ht : (entAt L id).rule.kind = 3 → 2 ≤ (entAt L id).rule.times) :
    potG L (opnG L back id) + 1 ≤ (txt L id).length - 1 := by
  unfold opnG
  rcases hD.at id hk h0 with ⟨g1, _⟩ | ⟨g1, g2, _⟩ | ⟨g1, g2, g3⟩
  · exact absurd g1 h1
  · have hl := txt_pair hD hk h0 g1
    have p1 := txt_pos hS hD (id := (entAt L id).rule.left) ⟨by omega, by have := hk.2; omega⟩ (by omega)
    have p2 := txt_pos hS hD (id := (entAt L id).rule.right) ⟨by omega, by have := hk.2; omega⟩ (by omega)
    have hl' := congrArg List.length hl
    rw [List.length_append] at hl'
    rw [if_neg (by rw [g1]; decide), if_pos g1]
    cases back with
    | true =>
      rw [if_pos rfl]
      simp only [potG, show ((1 : Int)).toNat = 1 by decide, Nat.one_mul]
      omega
    | false =>
      rw [if_neg (by decide)]
      simp only [potG, show ((1 : Int)).toNat = 1 by decide, Nat.one_mul]
      omega
  · have hl := txt_pow hD hk h0 g1
    have p1 := txt_pos hS hD (id := (entAt L id).rule.left) ⟨by omega, by have := hk.2; omega⟩ (by omega)
    have hl' := congrArg List.length hl
    rw [reps_len] at hl'
    have h2 := ht g1
    rw [if_pos g1]
    simp only [potG, Nat.add_zero]
    obtain ⟨m, hm⟩ : ∃ m, (entAt L id).rule.times.toNat = m + 2 := ⟨(entAt L id).rule.times.toNat - 2, by omega⟩
    rw [hm] at hl' ⊢
    obtain ⟨q, hq⟩ : ∃ q, (txt L (entAt L id).rule.left).length = q + 1 := ⟨(txt L (entAt L id).rule.left).length - 1, by omega⟩
    rw [hq] at hl' ⊢
    rw [hl', show q + 1 - 1 = q by omega, Nat.mul_add, Nat.mul_one]
    generalize (m + 2) * q = z
    omega

theorem restG_append (L : List Ent) (back : Bool) (a b : List (Int × Int)) : restG L back (a ++ b) = restG L back b ++ restG L back a := by
  unfold restG; rw [List.reverse_append, List.map_append, List.flatten_append]

theorem potG_le (L : List Ent) (back : Bool) : ∀ td : List (Int × Int), potG L td ≤ (restG L back td).length
  | [] => Nat.le_refl _
  | p :: r => by
    have ih := potG_le L back r
    have e : restG L back (p :: r) = restG L back r ++ restG L back [p] := restG_append L back [p] r
    have e2 : restG L back [p] = reps (txB L back p.1) p.2.toNat := by
      show reps (txB L back p.1) p.2.toNat ++ [] = _
      rw [List.append_nil]
    rw [e, e2, List.length_append, reps_len, txB_len]
    have h : p.2.toNat * ((txt L p.1).length - 1) ≤ p.2.toNat * (txt L p.1).length := Nat.mul_le_mul_left _ (Nat.sub_le _ _)
    show p.2.toNat * ((txt L p.1).length - 1) + potG L r ≤ _
    omega

/-- The end of many copies. -/
theorem drop_reps (t : List Int) {m q n' : Nat} (h : q + 1 ≤ m) (h1 : n' ≤ t.length) : (reps t m).drop (m * t.length - (q * t.length + n')) = t.drop (t.length - n') ++ reps t q := by
  obtain ⟨j, rfl⟩ : ∃ j, m = j + (q + 1) := ⟨m - (q + 1), by omega⟩
  rw [reps_add, reps_succ]
  have e : (j + (q + 1)) * t.length - (q * t.length + n') = (reps t j).length + (t.length - n') := by
    rw [reps_len, Nat.add_mul, Nat.add_mul, Nat.one_mul]
    omega
  rw [e, List.drop_append, List.drop_eq_nil_of_le (by omega), List.nil_append, Nat.add_sub_cancel_left, List.drop_append_of_le_length (by omega)]

/-- The last n letters of a symbol's text, and what lies behind. -/
def tailG (L : List Ent) (back : Bool) (id : Int) (n : Nat) : List Int := (txB L back id).drop ((txB L back id).length - n)

theorem tailG_all (L : List Ent) (back : Bool) (id : Int) : tailG L back id (txt L id).length = txB L back id := by
  unfold tailG; rw [txB_len, Nat.sub_self, List.drop_zero]

theorem tailG_pow {L : List Ent} (hD : DOk L) (back : Bool) {id : Int} (hk : isKnown L id) (h0 : id ≠ 0) (h3 : (entAt L id).rule.kind = 3) {q n' : Nat} (hn' : n' ≤ (txt L (entAt L id).rule.left).length) (hq : q + 1 ≤ (entAt L id).rule.times.toNat) :
    tailG L back id (q * (txt L (entAt L id).rule.left).length + n') = tailG L back (entAt L id).rule.left n' ++ reps (txB L back (entAt L id).rule.left) q := by
  have e : txB L back id = reps (txB L back (entAt L id).rule.left) (entAt L id).rule.times.toNat := by
    unfold txB
    cases back with
    | true => rw [if_pos rfl, if_pos rfl, txt_pow hD hk h0 h3, reps_reverse]
    | false => rw [if_neg (by decide), if_neg (by decide), txt_pow hD hk h0 h3]
  unfold tailG
  rw [e, reps_len, ← txB_len L back (entAt L id).rule.left]
  exact drop_reps _ hq (by rw [txB_len]; exact hn')

theorem txB_pair {L : List Ent} (hD : DOk L) (back : Bool) {id : Int} (hk : isKnown L id) (h0 : id ≠ 0) (h2 : (entAt L id).rule.kind = 2) :
    txB L back id = txB L back (if back then (entAt L id).rule.right else (entAt L id).rule.left) ++ txB L back (if back then (entAt L id).rule.left else (entAt L id).rule.right) := by
  unfold txB
  cases back with
  | true => rw [if_pos rfl, if_pos rfl, if_pos rfl, if_pos rfl, if_pos rfl, txt_pair hD hk h0 h2, List.reverse_append]
  | false => rw [if_neg (by decide), if_neg (by decide), if_neg (by decide), if_neg (by decide), if_neg (by decide), txt_pair hD hk h0 h2]

theorem tailG_far {L : List Ent} (hD : DOk L) (back : Bool) {id : Int} (hk : isKnown L id) (h0 : id ≠ 0) (h2 : (entAt L id).rule.kind = 2) {n : Nat} (hn : n ≤ (txt L (if back then (entAt L id).rule.left else (entAt L id).rule.right)).length) :
    tailG L back id n = tailG L back (if back then (entAt L id).rule.left else (entAt L id).rule.right) n := by
  unfold tailG
  rw [txB_pair hD back hk h0 h2, List.length_append]
  rw [← txB_len L back] at hn
  rw [show (txB L back (if back then (entAt L id).rule.right else (entAt L id).rule.left)).length + (txB L back (if back then (entAt L id).rule.left else (entAt L id).rule.right)).length - n = (txB L back (if back then (entAt L id).rule.right else (entAt L id).rule.left)).length + ((txB L back (if back then (entAt L id).rule.left else (entAt L id).rule.right)).length - n) by omega, List.drop_append, List.drop_eq_nil_of_le (by omega), List.nil_append, Nat.add_sub_cancel_left]

theorem tailG_near {L : List Ent} (hD : DOk L) (back : Bool) {id : Int} (hk : isKnown L id) (h0 : id ≠ 0) (h2 : (entAt L id).rule.kind = 2) {n : Nat}
    (hn : n ≤ (txt L (if back then (entAt L id).rule.right else (entAt L id).rule.left)).length) :
    tailG L back id (n + (txt L (if back then (entAt L id).rule.left else (entAt L id).rule.right)).length) = tailG L back (if back then (entAt L id).rule.right else (entAt L id).rule.left) n ++ txB L back (if back then (entAt L id).rule.left else (entAt L id).rule.right) := by
  unfold tailG
  rw [txB_pair hD back hk h0 h2, List.length_append]
  rw [← txB_len L back] at hn ⊢
  rw [show (txB L back (if back then (entAt L id).rule.right else (entAt L id).rule.left)).length + (txB L back (if back then (entAt L id).rule.left else (entAt L id).rule.right)).length - (n + (txB L back (if back then (entAt L id).rule.left else (entAt L id).rule.right)).length) = (txB L back (if back then (entAt L id).rule.right else (entAt L id).rule.left)).length - n by omega, List.drop_append_of_le_length (by omega)]

/-- The common prefix behind equal letters. -/
theorem cpl_append (u : List Int) : ∀ a b : List Int, cpl (u ++ a) (u ++ b) = u.length + cpl a b := by
  induction u with
  | nil => intro a b; simp
  | cons x u ih =>
    intro a b
    show (if x = x then cpl (u ++ a) (u ++ b) + 1 else 0) = _
    rw [if_pos rfl, ih, List.length_cons]; omega

theorem cpl_ne {x y : Int} (h : x ≠ y) (a b : List Int) : cpl (x :: a) (y :: b) = 0 := by
  show (if x = y then cpl a b + 1 else 0) = 0
  rw [if_neg h]

end Go.Proofs.YtodmpcnpedpheaaGreatDoor

/- Readers (plain): what newReader leaves, and what each step of common does. -/
set_option linter.unusedSimpArgs false
set_option linter.unusedVariables false
namespace Go.Proofs.YtodmpcnpedpheaaGreatDoor
open Go.RowKit

def GAll (L : List Ent) (td : List (Int × Int)) : Prop := ∀ p ∈ td, GOk L p

theorem GAll.nil (L : List Ent) : GAll L [] := fun p hp => by simp at hp
theorem GAll.app {L : List Ent} {a b : List (Int × Int)} (ha : GAll L a) (hb : GAll L b) : GAll L (a ++ b) := fun p hp => by
  rcases List.mem_append.1 hp with h | h
  · exact ha p h
  · exact hb p h
theorem GAll.left {L : List Ent} {a b : List (Int × Int)} (h : GAll L (a ++ b)) : GAll L a := fun p hp => h p (List.mem_append_left _ hp)
theorem GAll.right {L : List Ent} {a b : List (Int × Int)} (h : GAll L (a ++ b)) : GAll L b := fun p hp => h p (List.mem_append_right _ hp)
theorem GAll.one {L : List Ent} {p : Int × Int} (h : GOk L p) : GAll L [p] := fun q hq => by
  rw [List.mem_singleton] at hq; rw [hq]; exact h
theorem GAll.last {L : List Ent} {a : List (Int × Int)} {p : Int × Int} (h : GAll L (a ++ [p])) : GOk L p := h p (List.mem_append_right _ (List.mem_singleton.2 rfl))
theorem GOk.times {L : List Ent} {x k k' : Int} (h : GOk L (x, k)) (hk : 1 ≤ k') : GOk L (x, k') := ⟨h.kn, h.ne, h.lv, hk⟩
theorem GAll.drp {L : List Ent} {td : List (Int × Int)} {x k k' : Int} (h : GAll L (td ++ [(x, k)])) (hk : 0 ≤ k') : GAll L (drpG td x k') := by
  unfold drpG
  split
  · exact h.left
  · exact h.left.app (GAll.one (h.last.times (by omega)))

theorem GAll.len {L : List Ent} (hS : SOk L) (hD : DOk L) (back : Bool) : ∀ {td : List (Int × Int)}, GAll L td → td.length ≤ (restG L back td).length
  | [], _ => Nat.zero_le _
  | p :: r, h => by
    have ih := GAll.len hS hD back (td := r) (fun q hq => h q (List.mem_cons_of_mem _ hq))
    have hp := h p List.mem_cons_self
    have e : restG L back (p :: r) = restG L back r ++ restG L back [p] := restG_append L back [p] r
    have e2 : restG L back [p] = reps (txB L back p.1) p.2.toNat := by
      show reps (txB L back p.1) p.2.toNat ++ [] = _
      rw [List.append_nil]
    have hl := txt_pos hS hD hp.kn hp.ne
    have ht := hp.tm
    rw [e, e2, List.length_append, reps_len, txB_len, List.length_cons]
    have h1 : 1 * 1 ≤ p.2.toNat * (txt L p.1).length := Nat.mul_le_mul (by omega) hl
    omega

/-- Copies of the last group: all of them, and what they say of the rest. -/
theorem rest_last {L : List Ent} (hS : SOk L) (hD : DOk L) (back : Bool) {td : List (Int × Int)} {x k : Int} (h : GAll L (td ++ [(x, k)])) : (restG L back (td ++ [(x, k)])).length = k.toNat * (txt L x).length + (restG L back td).length ∧ 1 ≤ (txt L x).length ∧ k ≤ (restG L back (td ++ [(x, k)])).length := by
  have hl := txt_pos hS hD h.last.kn h.last.ne
  have ht := h.last.tm
  have e : (restG L back (td ++ [(x, k)])).length = k.toNat * (txt L x).length + (restG L back td).length := by
    rw [restG_push, List.length_append, reps_len, txB_len]
  have h1 : k.toNat * 1 ≤ k.toNat * (txt L x).length := Nat.mul_le_mul_left _ hl
  dsimp only at ht
  exact ⟨e, hl, by omega⟩

theorem klev_pos {L : List Ent} (hD : DOk L) {id : Int} (hk : isKnown L id) (h0 : id ≠ 0) (hl : 0 ≤ klev L id) (h : (entAt L id).rule.kind ≠ 1) : 1 ≤ klev L id := by
  have h1 := hk.1
  rcases hD.at id hk h0 with ⟨g1, _⟩ | ⟨g1, g2, _⟩ | ⟨g1, g2, _⟩
  · exact absurd g1 h
  · have e := (kl_pair hD hk h0 g1).2
    rw [e] at hl ⊢
    by_cases c : (entAt L id).rule.left ≠ (entAt L id).rule.right ∧ 0 ≤ klev L (entAt L id).rule.left ∧ 0 ≤ klev L (entAt L id).rule.right
    · rw [if_pos c]
      have k1 := kkey_rng hD (id := (entAt L id).rule.left) ⟨by omega, by have := hk.2; omega⟩ (by omega)
      have k2 := kkey_rng hD (id := (entAt L id).rule.right) ⟨by omega, by have := hk.2; omega⟩ (by omega)
      have := (aftI_spec (low := max (klev L (entAt L id).rule.left) (klev L (entAt L id).rule.right)) (by omega) k1.1 k1.2 k2.1 k2.2).1
      omega
    · rw [if_neg c] at hl; omega
  · have e := (kl_power hD hk h0 g1).2
    rw [e] at hl ⊢
    by_cases c : 0 ≤ klev L (entAt L id).rule.left ∧ klev L (entAt L id).rule.left % 2 = 0
    · rw [if_pos c]; omega
    · rw [if_neg c] at hl; omega

theorem klev_kind {L : List Ent} (hD : DOk L) {id : Int} (hk : isKnown L id) (h0 : id ≠ 0) (hl : 1 ≤ klev L id) : (entAt L id).rule.kind ≠ 1 := fun h => by
  have h1 := hk.1
  have := (kl_letter (L := L) (id := id) (by omega) h).2
  omega

/-- Different letters. -/
theorem cpl_letters {L : List Ent} (hD : DOk L) (hU : Uq L) (back : Bool) {tx ty : List (Int × Int)} {a b k m : Int} (ha : GOk L (a, k)) (hb : GOk L (b, m)) (hne : a ≠ b) (h1 : klev L a = 0) (h2 : klev L b = 0) :
    cpl (restG L back (tx ++ [(a, k)])) (restG L back (ty ++ [(b, m)])) = 0 := by
  have k1 : (entAt L a).rule.kind = 1 := by
    by_cases c : (entAt L a).rule.kind = 1
    · exact c
    · have := klev_pos hD ha.kn ha.ne (by show 0 ≤ klev L a; omega) c; dsimp only at this; omega
  have k2 : (entAt L b).rule.kind = 1 := by
    by_cases c : (entAt L b).rule.kind = 1
    · exact c
    · have := klev_pos hD hb.kn hb.ne (by show 0 ≤ klev L b; omega) c; dsimp only at this; omega
  have hl : (entAt L a).rule.letter ≠ (entAt L b).rule.letter := by
    intro e
    apply hne
    refine hU.one a b ha.kn hb.kn ha.ne hb.ne ?_
    have e1 : entAt L a = letterEnt (entAt L a).rule.letter := by
      rcases hD.at a ha.kn ha.ne with ⟨_, g⟩ | ⟨g, _⟩ | ⟨g, _⟩
      · exact g
      · omega
      · omega
    have e2 : entAt L b = letterEnt (entAt L b).rule.letter := by
      rcases hD.at b hb.kn hb.ne with ⟨_, g⟩ | ⟨g, _⟩ | ⟨g, _⟩
      · exact g
      · omega
      · omega
    rw [e1, e2, e]
  have one : ∀ (x : Int) (t : List Int), txt L x = [t.headD 0] → txB L back x = [t.headD 0] := by
    intro x t h; unfold txB; rw [h]; cases back <;> rfl
  have t1 : txB L back a = [(entAt L a).rule.letter] := one a [_] (txt_letter ha.kn ha.ne k1)
  have t2 : txB L back b = [(entAt L b).rule.letter] := one b [_] (txt_letter hb.kn hb.ne k2)
  obtain ⟨k', hk'⟩ : ∃ j, k.toNat = j + 1 := ⟨k.toNat - 1, by have := ha.tm; dsimp only at this; omega⟩
  obtain ⟨m', hm'⟩ : ∃ j, m.toNat = j + 1 := ⟨m.toNat - 1, by have := hb.tm; dsimp only at this; omega⟩
  rw [restG_push, restG_push]
  dsimp only
  rw [hk', hm', reps_succ, reps_succ, t1, t2]
  exact cpl_ne hl _ _

/-- What common keeps. -/
structure CmI (L : List Ent) (back : Bool) (C : Nat) (tx ty : List (Int × Int)) (sum : Nat) : Prop where
  gx : GAll L tx
  gy : GAll L ty
  sum : sum + cpl (restG L back tx) (restG L back ty) = C

def mesG (L : List Ent) (back : Bool) (tx ty : List (Int × Int)) : Nat := potG L tx + potG L ty + (restG L back tx).length

theorem potG_drp (L : List Ent) (td : List (Int × Int)) (x k j : Int) (hj : 0 ≤ j) (hk : j ≤ k) : potG L (drpG td x (k - j)) + j.toNat * ((txt L x).length - 1) = potG L (td ++ [(x, k)]) := by
  have e : ∀ m : Int, potG L (td ++ [(x, m)]) = potG L td + m.toNat * ((txt L x).length - 1) := fun m => by rw [potG_append]; rfl
  have e2 : potG L (drpG td x (k - j)) = potG L td + (k - j).toNat * ((txt L x).length - 1) := by
    unfold drpG
    split
    · rename_i h; rw [h]; simp
    · exact e _
  rw [e2, e, Nat.add_assoc, ← Nat.add_mul]
  congr 2
  omega

theorem CmI.same {L : List Ent} {back : Bool} {C : Nat} {tx ty : List (Int × Int)} {a k m t : Int} {sum : Nat} (hS : SOk L) (hD : DOk L) (h : CmI L back C (tx ++ [(a, k)]) (ty ++ [(a, m)]) sum) (ht1 : 1 ≤ t) (hk : t ≤ k) (hm : t ≤ m) :
    CmI L back C (drpG tx a (k - t)) (drpG ty a (m - t)) (sum + t.toNat * (txt L a).length) ∧ mesG L back (drpG tx a (k - t)) (drpG ty a (m - t)) < mesG L back (tx ++ [(a, k)]) (ty ++ [(a, m)]) := by
  have hs := h.sum
  have hl := txt_pos hS hD h.gx.last.kn h.gx.last.ne
  rw [restG_drop L back tx a k t (by omega) hk, restG_drop L back ty a m t (by omega) hm, cpl_append, reps_len, txB_len] at hs
  refine ⟨⟨h.gx.drp (by omega), h.gy.drp (by omega), by omega⟩, ?_⟩
  have p1 := potG_drp L tx a k t (by omega) hk
  have p2 := potG_drp L ty a m t (by omega) hm
  have e := congrArg List.length (restG_drop L back tx a k t (by omega) hk)
  rw [List.length_append, reps_len, txB_len] at e
  have h1 : 1 * 1 ≤ t.toNat * (txt L a).length := Nat.mul_le_mul (by omega) hl
  unfold mesG
  rw [e]
  omega

theorem open_ok {L : List Ent} {back : Bool} (hS : SOk L) (hD : DOk L) (hU : Uq L) {td : List (Int × Int)} {a k : Int} (h : GAll L (td ++ [(a, k)])) (h1 : (entAt L a).rule.kind ≠ 1) :
    GAll L (drpG td a (k - 1) ++ opnG L back a) ∧ restG L back (drpG td a (k - 1) ++ opnG L back a) = restG L back (td ++ [(a, k)]) ∧ potG L (drpG td a (k - 1) ++ opnG L back a) < potG L (td ++ [(a, k)]) := by
  have hg := h.last
  have ht := hg.tm
  dsimp only at ht
  refine ⟨(h.drp (by omega)).app (fun p hp => (kids_ok hS hD hg.kn hg.ne hg.lv p hp).1), ?_, ?_⟩
  · rw [restG_open hD hg.kn hg.ne h1, restG_drop L back td a k 1 (by omega) ht]
    rw [show ((1 : Int)).toNat = 1 by decide, reps_one]
  · have p1 := potG_drp L td a k 1 (by omega) ht
    have p2 := potG_open (back := back) hS hD hg.kn hg.ne h1 (fun h3 => hU.pow a hg.kn hg.ne h3)
    rw [potG_append]
    rw [show ((1 : Int)).toNat = 1 by decide, Nat.one_mul] at p1
    dsimp only at p2
    omega

theorem CmI.openX {L : List Ent} {back : Bool} {C : Nat} {tx ty : List (Int × Int)} {a k : Int} {sum : Nat} (hS : SOk L) (hD : DOk L) (hU : Uq L) (h : CmI L back C (tx ++ [(a, k)]) ty sum) (h1 : (entAt L a).rule.kind ≠ 1) :
    CmI L back C (drpG tx a (k - 1) ++ opnG L back a) ty sum ∧ mesG L back (drpG tx a (k - 1) ++ opnG L back a) ty < mesG L back (tx ++ [(a, k)]) ty := by
  obtain ⟨g1, g2, g3⟩ := open_ok (back := back) hS hD hU h.gx h1
  exact ⟨⟨g1, h.gy, by rw [g2]; exact h.sum⟩, by unfold mesG; rw [g2]; omega⟩

theorem CmI.openY {L : List Ent} {back : Bool} {C : Nat} {tx ty : List (Int × Int)} {a k : Int} {sum : Nat} (hS : SOk L) (hD : DOk L) (hU : Uq L) (h : CmI L back C tx (ty ++ [(a, k)]) sum) (h1 : (entAt L a).rule.kind ≠ 1) :
    CmI L back C tx (drpG ty a (k - 1) ++ opnG L back a) sum ∧ mesG L back tx (drpG ty a (k - 1) ++ opnG L back a) < mesG L back tx (ty ++ [(a, k)]) := by
  obtain ⟨g1, g2, g3⟩ := open_ok (back := back) hS hD hU h.gy h1
  exact ⟨⟨h.gx, g1, by rw [g2]; exact h.sum⟩, by unfold mesG; omega⟩

theorem CmI.end_ {L : List Ent} {back : Bool} {C : Nat} {tx ty : List (Int × Int)} {sum : Nat} (h : CmI L back C tx ty sum) (he : tx = [] ∨ ty = []) : sum = C := by
  have hs := h.sum
  have : cpl (restG L back tx) (restG L back ty) = 0 := by
    have hl := cpl_le (restG L back tx) (restG L back ty)
    rcases he with e | e
    · rw [e, restG_nil] at hl ⊢; have := hl.1; simp at this; exact this
    · rw [e, restG_nil] at hl ⊢; have := hl.2; simp at this; exact this
  omega

/-- What newReader keeps. -/
structure NrI (L : List Ent) (back : Bool) (R : List Int) (id : Int) (n : Nat) (td : List (Int × Int)) (q : Int) : Prop where
  g : GAll L (td ++ [(id, q + 1)])
  q0 : 0 ≤ q
  n1 : 1 ≤ n
  n2 : n ≤ (txt L id).length
  rest : tailG L back id n ++ (reps (txB L back id) q.toNat ++ restG L back td) = R

theorem restG_drp (L : List Ent) (back : Bool) (td : List (Int × Int)) (x k : Int) : restG L back (drpG td x k) = reps (txB L back x) k.toNat ++ restG L back td := by
  unfold drpG
  split
  · rename_i h; rw [h]; rfl
  · rw [restG_push]

theorem NrI.start {L : List Ent} {back : Bool} {id : Int} {n : Nat} (hg : GOk L (id, 1)) (h1 : 1 ≤ n) (h2 : n ≤ (txt L id).length) : NrI L back (tailG L back id n) id n [] 0 :=
  ⟨by exact GAll.one hg, by omega, h1, h2, by rw [restG_nil]; simp [reps]⟩

theorem NrI.done {L : List Ent} {back : Bool} {R : List Int} {id : Int} {n : Nat} {td : List (Int × Int)} {q : Int} (h : NrI L back R id n td q) (hn : (txt L id).length ≤ n) : restG L back (td ++ [(id, q + 1)]) = R := by
  have hr := h.rest
  have h2 := h.n2
  have hq := h.q0
  rw [show n = (txt L id).length by omega, tailG_all] at hr
  rw [restG_push]
  dsimp only
  rw [show (q + 1).toNat = q.toNat + 1 by omega, reps_succ, List.append_assoc]
  exact hr

theorem NrI.pow {L : List Ent} {back : Bool} {R : List Int} {id : Int} {n : Nat} {td : List (Int × Int)} {q : Int} (hS : SOk L) (hD : DOk L) (h : NrI L back R id n td q) (h3 : (entAt L id).rule.kind = 3) (q' n' once : Nat) (ho : once = (txt L (entAt L id).rule.left).length) (hq' : q' = (n - 1) / once) (hn' : n' = (n - 1) % once + 1) :
    NrI L back R (entAt L id).rule.left n' (drpG td id q) q' ∧ (q' : Int) + 1 ≤ (entAt L id).rule.times ∧ (entAt L id).rule.left < id ∧ 1 ≤ once := by
  have hg := h.g.last
  have h1 := h.n1
  have h2 := h.n2
  have hk := (kids_ok (back := back) hS hD hg.kn hg.ne hg.lv ((entAt L id).rule.left, (entAt L id).rule.times) (by unfold opnG; rw [if_pos h3]; exact List.mem_singleton.2 rfl))
  have hp := txt_pos hS hD hk.1.kn hk.1.ne
  dsimp only at hp
  have hl : (txt L id).length = (entAt L id).rule.times.toNat * once := by
    have := congrArg List.length (txt_pow hD hg.kn hg.ne h3)
    rw [reps_len] at this
    rw [ho]; exact this
  have ht := hk.1.tm
  dsimp only at ht
  have hm := Nat.div_add_mod (n - 1) once
  have hlt := Nat.mod_lt (n - 1) (show 0 < once by omega)
  have hql : q' + 1 ≤ (entAt L id).rule.times.toNat := by
    rw [hq']
    refine Nat.lt_of_mul_lt_mul_right (a := once) ?_
    rw [Nat.mul_comm]
    omega
  have hn : n = q' * once + n' := by
    rw [hq', hn', Nat.mul_comm]; omega
  refine ⟨⟨(h.g.drp (k' := q) h.q0).app (GAll.one ⟨hk.1.kn, hk.1.ne, hk.1.lv, by show 1 ≤ (q' : Int) + 1; omega⟩), by omega, by omega, by omega, ?_⟩, by omega, hk.2, by omega⟩
  have hr := h.rest
  have hle : n' ≤ (txt L (entAt L id).rule.left).length := by omega
  rw [hn, ho, tailG_pow (n' := n') (q := q') hD back hg.kn hg.ne h3 hle hql] at hr
  rw [restG_drp, Int.toNat_natCast, ← hr, List.append_assoc]

theorem NrI.far {L : List Ent} {back : Bool} {R : List Int} {id : Int} {n : Nat} {td : List (Int × Int)} {q : Int} (hS : SOk L) (hD : DOk L) (h : NrI L back R id n td q) (h2 : (entAt L id).rule.kind = 2) {far : Int} (hf : far = (if back then (entAt L id).rule.left else (entAt L id).rule.right)) (hn : n ≤ (txt L far).length) :
    NrI L back R far n (drpG td id q) 0 ∧ far < id := by
  have hg := h.g.last
  have hk := (kids_ok (back := back) hS hD hg.kn hg.ne hg.lv (far, 1) (by unfold opnG; rw [if_neg (by rw [h2]; decide), if_pos h2, hf]; cases back <;> simp))
  refine ⟨⟨(h.g.drp (k' := q) h.q0).app (GAll.one hk.1), by omega, h.n1, hn, ?_⟩, hk.2⟩
  have hr := h.rest
  rw [tailG_far hD back hg.kn hg.ne h2 (by rw [← hf]; exact hn), ← hf] at hr
  rw [restG_drp, ← hr]
  rfl

theorem NrI.near {L : List Ent} {back : Bool} {R : List Int} {id : Int} {n : Nat} {td : List (Int × Int)} {q : Int} (hS : SOk L) (hD : DOk L) (h : NrI L back R id n td q) (h2 : (entAt L id).rule.kind = 2) {far near : Int} (hf : far = (if back then (entAt L id).rule.left else (entAt L id).rule.right)) (hf2 : near = (if back then (entAt L id).rule.right else (entAt L id).rule.left)) (hn : (txt L far).length < n) :
    NrI L back R near (n - (txt L far).length) (drpG td id q ++ [(far, 1)]) 0 ∧ near < id := by
  have hg := h.g.last
  have hk := (kids_ok (back := back) hS hD hg.kn hg.ne hg.lv (far, 1) (by unfold opnG; rw [if_neg (by rw [h2]; decide), if_pos h2, hf]; cases back <;> simp))
  have hk2 := (kids_ok (back := back) hS hD hg.kn hg.ne hg.lv (near, 1) (by unfold opnG; rw [if_neg (by rw [h2]; decide), if_pos h2, hf2]; cases back <;> simp))
  have hl : (txt L id).length = (txt L near).length + (txt L far).length := by
    have := congrArg List.length (txB_pair hD back hg.kn hg.ne h2)
    rw [List.length_append, txB_len, txB_len, txB_len, ← hf, ← hf2] at this
    exact this
  have hn2 := h.n2
  have hle : n - (txt L far).length ≤ (txt L near).length := by omega
  refine ⟨⟨((h.g.drp (k' := q) h.q0).app (GAll.one hk.1)).app (GAll.one hk2.1), by omega, by omega, hle, ?_⟩, hk2.2⟩
  have hr := h.rest
  have hx := tailG_near hD back hg.kn hg.ne h2 (n := n - (txt L far).length) (by rw [← hf2]; exact hle)
  rw [← hf, ← hf2, show n - (txt L far).length + (txt L far).length = n by omega] at hx
  rw [hx, List.append_assoc] at hr
  rw [restG_push, restG_drp, ← hr]
  dsimp only
  rw [show ((1 : Int)).toNat = 1 by decide, reps_one]
  rfl

theorem tailG_len (L : List Ent) (back : Bool) (id : Int) {n : Nat} (h : n ≤ (txt L id).length) : (tailG L back id n).length = n := by
  unfold tailG; rw [List.length_drop, txB_len]; omega

theorem NrI.bnd {L : List Ent} {back : Bool} {R : List Int} {id : Int} {n : Nat} {td : List (Int × Int)} {q : Int} (hS : SOk L) (hD : DOk L) (h : NrI L back R id n td q) : td.length ≤ R.length ∧ q ≤ R.length := by
  have e := congrArg List.length h.rest
  rw [List.length_append, List.length_append, tailG_len _ _ _ h.n2, reps_len, txB_len] at e
  have h1 := GAll.len hS hD back h.g.left
  have hl := txt_pos hS hD h.g.last.kn h.g.last.ne
  have h2 : q.toNat * 1 ≤ q.toNat * (txt L id).length := Nat.mul_le_mul_left _ hl
  have h3 := h.q0
  omega

theorem NrI.opn2 {L : List Ent} {back : Bool} {id : Int} (h2 : (entAt L id).rule.kind = 2) {far near : Int} (hf : far = (if back then (entAt L id).rule.left else (entAt L id).rule.right)) (hf2 : near = (if back then (entAt L id).rule.right else (entAt L id).rule.left)) : opnG L back id = [(far, 1), (near, 1)] := by
  unfold opnG; rw [if_neg (by rw [h2]; decide), if_pos h2, hf, hf2]; cases back <;> rfl

theorem NrI.opn3 {L : List Ent} {back : Bool} {id : Int} (h3 : (entAt L id).rule.kind = 3) : opnG L back id = [((entAt L id).rule.left, (entAt L id).rule.times)] := by
  unfold opnG; rw [if_pos h3]

end Go.Proofs.YtodmpcnpedpheaaGreatDoor

/- Ranges of texts (plain): how a range of a pair or of a power divides. -/
set_option linter.unusedSimpArgs false
set_option linter.unusedVariables false
namespace Go.Proofs.YtodmpcnpedpheaaGreatDoor
open Go.RowKit

/-- The letters of a range. -/
def rngT (t : List Int) (f n : Nat) : List Int := (t.drop f).take n

theorem rngT_len {t : List Int} {f n : Nat} (h : f + n ≤ t.length) : (rngT t f n).length = n := by
  unfold rngT; rw [List.length_take, List.length_drop]; omega
theorem rngT_zero (t : List Int) (f : Nat) : rngT t f 0 = [] := by unfold rngT; rw [List.take_zero]
theorem rngT_all (t : List Int) : rngT t 0 t.length = t := by unfold rngT; simp

theorem rngT_append (s t : List Int) {f n g : Nat} (hg : g = min (s.length - f) n) (hf : f + n ≤ s.length + t.length) : rngT (s ++ t) f n = rngT s (min f s.length) g ++ rngT t (f - s.length) (n - g) := by
  unfold rngT
  rw [List.drop_append, List.take_append, List.length_drop]
  by_cases h : f ≤ s.length
  · rw [Nat.min_eq_left h]
    congr 1
    · by_cases h2 : n ≤ s.length - f
      · rw [hg, Nat.min_eq_right h2]
      · rw [List.take_of_length_le (by rw [List.length_drop]; omega), List.take_of_length_le (by rw [List.length_drop]; omega)]
    · congr 1
      omega
  · rw [Nat.min_eq_right (by omega), List.drop_of_length_le (by omega : s.length ≤ f), List.drop_length]
    simp only [List.take_nil, List.nil_append]
    congr 1
    omega

theorem take_reps (t : List Int) (h : 1 ≤ t.length) : ∀ (j n : Nat), n ≤ j * t.length → (reps t j).take n = reps t (n / t.length) ++ t.take (n % t.length)
  | 0, n => by
    intro hn
    have : n = 0 := by omega
    subst this
    simp [reps]
  | j + 1, n => by
    intro hn
    rw [reps_succ, List.take_append]
    by_cases hlt : n < t.length
    · rw [Nat.div_eq_of_lt hlt, Nat.mod_eq_of_lt hlt, show n - t.length = 0 by omega, List.take_zero, List.append_nil, reps_zero, List.nil_append]
    · have hle : t.length ≤ n := by omega
      rw [Nat.add_mul, Nat.one_mul] at hn
      rw [List.take_of_length_le hle, take_reps t h j (n - t.length) (by omega)]
      rw [Nat.div_eq_sub_div (by omega) hle, Nat.mod_eq_sub_mod hle, reps_succ, List.append_assoc]

theorem drop_reps2 (t : List Int) (h : 1 ≤ t.length) : ∀ (m f : Nat), f < m * t.length → (reps t m).drop f = t.drop (f % t.length) ++ reps t (m - f / t.length - 1)
  | 0, f => by intro hf; omega
  | m + 1, f => by
    intro hf
    rw [Nat.add_mul, Nat.one_mul] at hf
    rw [reps_succ, List.drop_append]
    by_cases hlt : f < t.length
    · rw [Nat.div_eq_of_lt hlt, Nat.mod_eq_of_lt hlt, show f - t.length = 0 by omega, List.drop_zero, show m + 1 - 0 - 1 = m by omega]
    · have hle : t.length ≤ f := by omega
      have hd : f / t.length = (f - t.length) / t.length + 1 := Nat.div_eq_sub_div (by omega) hle
      rw [List.drop_of_length_le hle, List.nil_append, drop_reps2 t h m (f - t.length) (by omega), Nat.mod_eq_sub_mod hle, hd]
      congr 2
      omega

/-- A range of a power within one copy. -/
theorem rngT_reps1 (t : List Int) (h : 1 ≤ t.length) {m f n : Nat} (h1 : 1 ≤ n) (hf : f + n ≤ m * t.length) (hn : f % t.length + n ≤ t.length) : rngT (reps t m) f n = rngT t (f % t.length) n := by
  unfold rngT
  rw [drop_reps2 t h m f (by omega), List.take_append_of_le_length (by rw [List.length_drop]; omega)]

theorem div_lt_m {m k f n : Nat} (h : 1 ≤ k) (h1 : 1 ≤ n) (hf : f + n ≤ m * k) : f / k < m := by
  rw [Nat.div_lt_iff_lt_mul (by omega)]; omega

/-- A range of a power over its copies: the end of one, whole ones, the beginning of one. -/
theorem rngT_reps3 (t : List Int) (h : 1 ≤ t.length) {m f n hd : Nat} (h1 : 1 ≤ n) (hf : f + n ≤ m * t.length) (hn : t.length < f % t.length + n) (hhd : hd = (t.length - f % t.length) % t.length) :
    rngT (reps t m) f n = rngT t (f % t.length) hd ++ (reps t ((n - hd) / t.length) ++ rngT t 0 ((n - hd) % t.length)) ∧ hd ≤ n ∧ f % t.length + hd ≤ t.length := by
  have hml := Nat.mod_lt f (show 0 < t.length by omega)
  have hdm := Nat.div_add_mod f t.length
  have hq := div_lt_m h h1 hf
  have hrest : ∀ j, m - f / t.length - 1 = j → m * t.length = f / t.length * t.length + t.length + j * t.length := fun j hj => by
    obtain rfl : m = f / t.length + 1 + j := by omega
    rw [Nat.add_mul, Nat.add_mul, Nat.one_mul]
  have hj := hrest _ rfl
  have e0 : f / t.length * t.length = t.length * (f / t.length) := Nat.mul_comm _ _
  have ed : rngT (reps t m) f n = (t.drop (f % t.length) ++ reps t (m - f / t.length - 1)).take n := by
    unfold rngT
    rw [drop_reps2 t h m f (by omega)]
  by_cases hz : f % t.length = 0
  · have hd0 : hd = 0 := by rw [hhd, hz, Nat.sub_zero, Nat.mod_self]
    refine ⟨?_, by omega, by omega⟩
    rw [ed, hz, List.drop_zero, ← reps_succ, take_reps t h _ n (by rw [Nat.add_mul, Nat.one_mul]; omega), hd0, rngT_zero, List.nil_append, Nat.sub_zero]
    unfold rngT
    rw [List.drop_zero]
  · have hdd : hd = t.length - f % t.length := by rw [hhd]; exact Nat.mod_eq_of_lt (by omega)
    refine ⟨?_, by omega, by omega⟩
    rw [ed, List.take_append, List.take_of_length_le (by rw [List.length_drop]; omega), List.length_drop, ← hdd, take_reps t h _ (n - hd) (by omega)]
    congr 1
    unfold rngT
    rw [hdd, List.take_of_length_le (by rw [List.length_drop]; omega)]

/-- A range of a text that is still to be read. -/
structure Sp where
  id : Int
  from_ : Nat
  n : Nat
  times : Nat

def spT (L : List Ent) (s : Sp) : List Int := reps (rngT (txt L s.id) s.from_ s.n) s.times
structure SpOk (L : List Ent) (s : Sp) : Prop where
  kn : isKnown L s.id
  fit : s.from_ + s.n ≤ (txt L s.id).length
  one : s.times = 1 ∨ (s.from_ = 0 ∧ s.n = (txt L s.id).length)

/-- What is left to read: the last range is the next. -/
def restS (L : List Ent) (ss : List Sp) : List Int := (ss.reverse.map (spT L)).flatten
theorem restS_nil (L : List Ent) : restS L [] = [] := rfl
theorem restS_push (L : List Ent) (ss : List Sp) (s : Sp) : restS L (ss ++ [s]) = spT L s ++ restS L ss := by
  unfold restS; rw [List.reverse_append]; rfl
def mesS (ss : List Sp) : Nat := (ss.map fun s => if s.times = 0 then 1 else 1 + 4 * s.n * s.id.toNat).sum
theorem mesS_push (ss : List Sp) (s : Sp) : mesS (ss ++ [s]) = mesS ss + (if s.times = 0 then 1 else 1 + 4 * s.n * s.id.toNat) := by
  unfold mesS; rw [List.map_append, List.sum_append]; simp


def SAll (L : List Ent) (ss : List Sp) : Prop := ∀ s ∈ ss, SpOk L s

theorem SAll.last {L : List Ent} {ss : List Sp} {s : Sp} (h : SAll L (ss ++ [s])) : SpOk L s := h s (by simp)
theorem SAll.init {L : List Ent} {ss : List Sp} {s : Sp} (h : SAll L (ss ++ [s])) : SAll L ss := fun x hx => h x (by simp [hx])
theorem SAll.push {L : List Ent} {ss : List Sp} {s : Sp} (h : SAll L ss) (hs : SpOk L s) : SAll L (ss ++ [s]) := fun x hx => by
  rcases List.mem_append.1 hx with h1 | h1
  · exact h x h1
  · rw [List.mem_singleton.1 h1]; exact hs

/-- Nothing to read. -/
theorem spT_none {L : List Ent} {s : Sp} (h : s.n = 0 ∨ s.times = 0) : spT L s = [] := by
  unfold spT
  rcases h with h | h
  · rw [h, rngT_zero]
    induction s.times with
    | zero => rfl
    | succ k ih => rw [reps_succ, ih]; rfl
  · rw [h]; rfl

/-- The whole text. -/
theorem spT_all {L : List Ent} {s : Sp} (h : SpOk L s) (hn : s.n = (txt L s.id).length) : spT L s = reps (txt L s.id) s.times := by
  have h1 := h.fit
  unfold spT
  rw [hn, show s.from_ = 0 by omega, rngT_all]

theorem SpOk.times {L : List Ent} {s : Sp} (h : SpOk L s) (hn : s.n ≠ (txt L s.id).length) : s.times = 1 := by
  rcases h.one with e | e
  · exact e
  · exact absurd e.2 hn

/-- The parts of a range of a pair. -/
theorem pair_parts {L : List Ent} (hS : SOk L) (hD : DOk L) {ss : List Sp} {s : Sp} (h : SAll L (ss ++ [s])) (hn : s.n ≠ (txt L s.id).length) (h1 : s.n ≠ 0) (h2 : (entAt L s.id).rule.kind = 2) (g : Nat) (hg : g = min ((txt L (entAt L s.id).rule.left).length - s.from_) s.n) :
    SAll L (ss ++ [⟨(entAt L s.id).rule.right, s.from_ - (txt L (entAt L s.id).rule.left).length, s.n - g, 1⟩, ⟨(entAt L s.id).rule.left, min s.from_ (txt L (entAt L s.id).rule.left).length, g, 1⟩]) ∧
    restS L (ss ++ [⟨(entAt L s.id).rule.right, s.from_ - (txt L (entAt L s.id).rule.left).length, s.n - g, 1⟩, ⟨(entAt L s.id).rule.left, min s.from_ (txt L (entAt L s.id).rule.left).length, g, 1⟩]) = restS L (ss ++ [s]) ∧
    mesS (ss ++ [⟨(entAt L s.id).rule.right, s.from_ - (txt L (entAt L s.id).rule.left).length, s.n - g, 1⟩, ⟨(entAt L s.id).rule.left, min s.from_ (txt L (entAt L s.id).rule.left).length, g, 1⟩]) < mesS (ss ++ [s]) := by
  have hs := h.last
  have hk := hs.kn
  have ht := hs.times hn
  have hf := hs.fit
  have h0 : s.id ≠ 0 := fun e => by rw [e, txt_zero] at hf; simp at hf; omega
  obtain ⟨k1, k2⟩ : (1 ≤ (entAt L s.id).rule.left ∧ (entAt L s.id).rule.left < s.id) ∧ (1 ≤ (entAt L s.id).rule.right ∧ (entAt L s.id).rule.right < s.id) := by
    rcases hD.at s.id hk h0 with ⟨e, _⟩ | ⟨_, e, _⟩ | ⟨e, _⟩
    · omega
    · exact ⟨⟨e.1, e.2.1⟩, e.2.2⟩
    · omega
  have hl := txt_pair hD hk h0 h2
  have hll := congrArg List.length hl
  rw [List.length_append] at hll
  have hkn := hk.2
  have e : ∀ (x y : Sp), ss ++ [x, y] = (ss ++ [x]) ++ [y] := fun x y => by simp
  rw [e]
  refine ⟨(h.init.push ⟨⟨by show (0 : Int) ≤ (entAt L s.id).rule.right; omega, by show (entAt L s.id).rule.right ≤ _; omega⟩, ?_, .inl rfl⟩).push ⟨⟨by show (0 : Int) ≤ (entAt L s.id).rule.left; omega, by show (entAt L s.id).rule.left ≤ _; omega⟩, ?_, .inl rfl⟩, ?_, ?_⟩
  · show s.from_ - _ + (s.n - g) ≤ (txt L (entAt L s.id).rule.right).length
    omega
  · show min s.from_ _ + g ≤ (txt L (entAt L s.id).rule.left).length
    omega
  · rw [restS_push, restS_push, restS_push, ← List.append_assoc]
    congr 1
    show reps _ 1 ++ reps _ 1 = reps _ _
    rw [ht, reps_one, reps_one, reps_one]
    show rngT _ _ _ ++ rngT _ _ _ = rngT _ _ _
    rw [hl, rngT_append _ _ hg (by omega)]
  · rw [mesS_push, mesS_push, mesS_push, ht]
    show mesS ss + (1 + 4 * (s.n - g) * (entAt L s.id).rule.right.toNat) + (1 + 4 * g * (entAt L s.id).rule.left.toNat) < mesS ss + (1 + 4 * s.n * s.id.toNat)
    have m1 : 4 * (s.n - g) * (entAt L s.id).rule.right.toNat ≤ 4 * (s.n - g) * (s.id.toNat - 1) := Nat.mul_le_mul_left _ (by omega)
    have m2 : 4 * g * (entAt L s.id).rule.left.toNat ≤ 4 * g * (s.id.toNat - 1) := Nat.mul_le_mul_left _ (by omega)
    have m3 : 4 * (s.n - g) * (s.id.toNat - 1) + 4 * g * (s.id.toNat - 1) = 4 * s.n * (s.id.toNat - 1) := by
      rw [← Nat.add_mul]; congr 1; omega
    have m4 : 4 * s.n * s.id.toNat = 4 * s.n * (s.id.toNat - 1) + 4 * s.n := by
      obtain ⟨q, hq⟩ : ∃ q, s.id.toNat = q + 1 := ⟨s.id.toNat - 1, by omega⟩
      rw [hq, Nat.mul_succ, Nat.add_sub_cancel]
    omega

/-- The parts of a range of a power, within one copy. -/
theorem pow_part1 {L : List Ent} (hS : SOk L) (hD : DOk L) {ss : List Sp} {s : Sp} (h : SAll L (ss ++ [s])) (hn : s.n ≠ (txt L s.id).length) (h1 : s.n ≠ 0) (h3 : (entAt L s.id).rule.kind = 3) (hfit : s.from_ % (txt L (entAt L s.id).rule.left).length + s.n ≤ (txt L (entAt L s.id).rule.left).length) :
    SAll L (ss ++ [⟨(entAt L s.id).rule.left, s.from_ % (txt L (entAt L s.id).rule.left).length, s.n, 1⟩]) ∧
    restS L (ss ++ [⟨(entAt L s.id).rule.left, s.from_ % (txt L (entAt L s.id).rule.left).length, s.n, 1⟩]) = restS L (ss ++ [s]) ∧
    mesS (ss ++ [⟨(entAt L s.id).rule.left, s.from_ % (txt L (entAt L s.id).rule.left).length, s.n, 1⟩]) < mesS (ss ++ [s]) := by
  have hs := h.last
  have hk := hs.kn
  have ht := hs.times hn
  have hf := hs.fit
  have h0 : s.id ≠ 0 := fun e => by rw [e, txt_zero] at hf; simp at hf; omega
  have k1 : 1 ≤ (entAt L s.id).rule.left ∧ (entAt L s.id).rule.left < s.id := by
    rcases hD.at s.id hk h0 with ⟨e, _⟩ | ⟨e, _⟩ | ⟨_, e, _⟩
    · omega
    · omega
    · exact e
  have hl := txt_pow hD hk h0 h3
  have hll := congrArg List.length hl
  rw [reps_len] at hll
  have hkn := hk.2
  have hkl : isKnown L (entAt L s.id).rule.left := ⟨by omega, by omega⟩
  have hp := txt_pos hS hD hkl (by omega)
  refine ⟨h.init.push ⟨hkl, hfit, .inl rfl⟩, ?_, ?_⟩
  · rw [restS_push, restS_push]
    congr 1
    show reps _ 1 = reps _ _
    rw [ht, reps_one, reps_one]
    show rngT _ _ _ = rngT _ _ _
    rw [hl, rngT_reps1 _ hp (by omega) (by omega) hfit]
  · rw [mesS_push, mesS_push, ht]
    show mesS ss + (1 + 4 * s.n * (entAt L s.id).rule.left.toNat) < mesS ss + (1 + 4 * s.n * s.id.toNat)
    have : 4 * s.n * (entAt L s.id).rule.left.toNat < 4 * s.n * s.id.toNat := Nat.mul_lt_mul_of_pos_left (by omega) (by omega)
    omega

/-- The parts of a range of a power, over its copies. -/
theorem pow_part3 {L : List Ent} (hS : SOk L) (hD : DOk L) {ss : List Sp} {s : Sp} (h : SAll L (ss ++ [s])) (hn : s.n ≠ (txt L s.id).length) (h1 : s.n ≠ 0) (h3 : (entAt L s.id).rule.kind = 3) (k f hd : Nat) (ek : k = (txt L (entAt L s.id).rule.left).length) (ef : f = s.from_ % k) (hfit : k < f + s.n) (ehd : hd = (k - f) % k) :
    SAll L (ss ++ [⟨(entAt L s.id).rule.left, 0, (s.n - hd) % k, 1⟩, ⟨(entAt L s.id).rule.left, 0, k, (s.n - hd) / k⟩, ⟨(entAt L s.id).rule.left, f, hd, 1⟩]) ∧
    restS L (ss ++ [⟨(entAt L s.id).rule.left, 0, (s.n - hd) % k, 1⟩, ⟨(entAt L s.id).rule.left, 0, k, (s.n - hd) / k⟩, ⟨(entAt L s.id).rule.left, f, hd, 1⟩]) = restS L (ss ++ [s]) ∧
    mesS (ss ++ [⟨(entAt L s.id).rule.left, 0, (s.n - hd) % k, 1⟩, ⟨(entAt L s.id).rule.left, 0, k, (s.n - hd) / k⟩, ⟨(entAt L s.id).rule.left, f, hd, 1⟩]) < mesS (ss ++ [s]) ∧ hd ≤ s.n ∧ 1 ≤ k := by
  have hs := h.last
  have hk := hs.kn
  have ht := hs.times hn
  have hf := hs.fit
  have h0 : s.id ≠ 0 := fun e => by rw [e, txt_zero] at hf; simp at hf; omega
  have k1 : 1 ≤ (entAt L s.id).rule.left ∧ (entAt L s.id).rule.left < s.id := by
    rcases hD.at s.id hk h0 with ⟨e, _⟩ | ⟨e, _⟩ | ⟨_, e, _⟩
    · omega
    · omega
    · exact e
  have hl := txt_pow hD hk h0 h3
  have hll := congrArg List.length hl
  rw [reps_len] at hll
  have hkn := hk.2
  have hkl : isKnown L (entAt L s.id).rule.left := ⟨by omega, by omega⟩
  have hp := txt_pos hS hD hkl (by omega)
  have ek2 := ek
  subst ek
  subst ef
  obtain ⟨e1, e2, e3⟩ := rngT_reps3 _ hp (by omega) (by omega) hfit ehd (m := (entAt L s.id).rule.times.toNat)
  have hm := Nat.mod_lt (s.n - hd) (show 0 < (txt L (entAt L s.id).rule.left).length by omega)
  have hdm := Nat.div_add_mod (s.n - hd) (txt L (entAt L s.id).rule.left).length
  have e : ∀ (x y z : Sp), ss ++ [x, y, z] = ((ss ++ [x]) ++ [y]) ++ [z] := fun x y z => by simp
  rw [e]
  refine ⟨((h.init.push ⟨hkl, by show 0 + (s.n - hd) % (txt L (entAt L s.id).rule.left).length ≤ (txt L (entAt L s.id).rule.left).length; omega, .inl rfl⟩).push ⟨hkl, by show 0 + (txt L (entAt L s.id).rule.left).length ≤ (txt L (entAt L s.id).rule.left).length; omega, .inr ⟨rfl, rfl⟩⟩).push ⟨hkl, e3, .inl rfl⟩, ?_, ?_, e2, hp⟩
  · rw [restS_push, restS_push, restS_push, restS_push, ← List.append_assoc, ← List.append_assoc]
    congr 1
    show (reps _ 1 ++ reps (rngT _ 0 _) _) ++ reps _ 1 = reps _ _
    rw [ht, reps_one, reps_one, reps_one]
    show (rngT _ _ _ ++ reps (rngT _ 0 _) _) ++ rngT _ 0 _ = rngT _ _ _
    rw [hl, e1, rngT_all, List.append_assoc]
  · rw [mesS_push, mesS_push, mesS_push, mesS_push, ht]
    show mesS ss + (1 + 4 * ((s.n - hd) % _) * (entAt L s.id).rule.left.toNat) + (if (s.n - hd) / _ = 0 then 1 else 1 + 4 * (txt L (entAt L s.id).rule.left).length * (entAt L s.id).rule.left.toNat) + (1 + 4 * hd * (entAt L s.id).rule.left.toNat) < mesS ss + (1 + 4 * s.n * s.id.toNat)
    generalize (txt L (entAt L s.id).rule.left).length = K at *
    have m0 : 4 * s.n * s.id.toNat = 4 * s.n * (s.id.toNat - 1) + 4 * s.n := by
      obtain ⟨q, hq⟩ : ∃ q, s.id.toNat = q + 1 := ⟨s.id.toNat - 1, by omega⟩
      rw [hq, Nat.mul_succ, Nat.add_sub_cancel]
    have mm : ∀ x : Nat, 4 * x * (entAt L s.id).rule.left.toNat ≤ 4 * x * (s.id.toNat - 1) := fun x => Nat.mul_le_mul_left _ (by omega)
    have c1 := mm ((s.n - hd) % K)
    have c2 := mm K
    have c3 := mm hd
    generalize s.id.toNat - 1 = q at *
    have hsum : ∀ t : Nat, (s.n - hd) % K + t + hd ≤ s.n → 4 * ((s.n - hd) % K) * q + 4 * t * q + 4 * hd * q ≤ 4 * s.n * q := fun t htt => by
      rw [← Nat.add_mul, ← Nat.add_mul]
      exact Nat.mul_le_mul_right _ (by omega)
    by_cases hz : (s.n - hd) / K = 0
    · rw [if_pos hz]
      have hle := Nat.mod_le (s.n - hd) K
      have := hsum 0 (by omega)
      omega
    · rw [if_neg hz]
      have h4 : K * 1 ≤ K * ((s.n - hd) / K) := Nat.mul_le_mul_left _ (Nat.pos_of_ne_zero hz)
      have := hsum K (by omega)
      omega

end Go.Proofs.YtodmpcnpedpheaaGreatDoor

/- The bits in which two keys differ, as the program reckons them (plain). -/
set_option linter.unusedSimpArgs false
set_option linter.unusedVariables false
namespace Go.Proofs.YtodmpcnpedpheaaGreatDoor
open Go.RowKit

/-- The bits that differ, from a bit on. -/
def difB (x y k : Nat) : Nat := ((x ^^^ y) &&& 2305843009213693951) / 2 ^ k * 2 ^ k
/-- The same without one bit. -/
def difC (x y k : Nat) : Nat := difB x y k &&& (18446744073709551615 - 2 ^ k)

theorem testBit_61 (b : Nat) : (2305843009213693951 : Nat).testBit b = decide (b < 61) := by
  rw [show (2305843009213693951 : Nat) = 2 ^ 61 - 1 by decide, Nat.testBit_two_pow_sub_one]

theorem difB_bit (x y k b : Nat) : (difB x y k).testBit b = (decide (k ≤ b) && ((x.testBit b != y.testBit b) && decide (b < 61))) := by
  unfold difB
  rw [Nat.mul_comm, Nat.testBit_two_pow_mul, Nat.testBit_div_two_pow, Nat.testBit_and, Nat.testBit_xor, testBit_61]
  by_cases h : k ≤ b
  · rw [show b - k + k = b by omega]
  · simp [h]

theorem difB_lt (x y k : Nat) : difB x y k < 2305843009213693952 := by
  unfold difB
  have h1 : (x ^^^ y) &&& 2305843009213693951 < 2 ^ 61 := Nat.and_lt_two_pow _ (by decide)
  have h2 := Nat.div_mul_le_self ((x ^^^ y) &&& 2305843009213693951) (2 ^ k)
  have e : (2 : Nat) ^ 61 = 2305843009213693952 := by decide
  omega

theorem notBit_bit {k b : Nat} (hk : k < 61) (hb : b < 64) : (18446744073709551615 - 2 ^ k).testBit b = decide (b ≠ k) := by
  have h := Nat.testBit_two_pow_sub_succ (x := 2 ^ k) (n := 64) (Nat.pow_lt_pow_right (by decide) (by omega)) b
  rw [show (2 : Nat) ^ 64 - (2 ^ k + 1) = 18446744073709551615 - 2 ^ k by
    have : (2 : Nat) ^ 64 = 18446744073709551616 := by decide
    omega] at h
  rw [h, Nat.testBit_two_pow]
  by_cases c : k = b
  · subst c; simp
  · have c' : b ≠ k := fun e => c e.symm
    simp [c, c', hb]

theorem difC_bit {x y k b : Nat} (hk : k < 61) : (difC x y k).testBit b = (decide (k ≤ b) && ((x.testBit b != y.testBit b) && decide (b < 61)) && decide (b ≠ k)) := by
  unfold difC
  rw [Nat.testBit_and, difB_bit]
  by_cases hb : b < 61
  · rw [notBit_bit hk (by omega)]
  · simp [hb]

theorem difC_lt (x y k : Nat) : difC x y k < 2305843009213693952 := by
  unfold difC
  have h1 : difB x y k &&& (18446744073709551615 - 2 ^ k) ≤ difB x y k := Nat.and_le_left
  have := difB_lt x y k
  omega

/-- The number as an answer. -/
def fitI (c : Nat) (x y : Int) : Int := match fitN x y (123 - c) c with | some n => n | none => -1

theorem fitI_same {c : Nat} (hc : c ≤ 122) (x : Int) (hx : 0 ≤ x) : fitI c x x = 122 := by
  unfold fitI
  rw [fitN_is (n := 122) _ _ hc (by omega) (fit_tie x) (fun k k1 k2 => ?_)]
  · rfl
  · unfold fitB
    rw [if_neg (by omega)]
    cases h : x.toNat.testBit (k / 2) <;> rcases Nat.mod_two_eq_zero_or_one k with e | e <;> rw [e] <;> rfl

theorem fitI_tie {x y : Int} (h : x ≠ y) : fitI 122 x y = -1 := by
  unfold fitI
  rw [fitN_no _ _ (fun k k1 k2 => ?_)]
  rw [show k = 122 by omega]
  exact fit_tie_ne h

/-- Which bits the program looks at. -/
def difD (c x y : Nat) : Nat := if c % 2 = 1 ∧ x.testBit (c / 2) = false then difC x y (c / 2) else difB x y (c / 2)

theorem difD_bit {c x y : Nat} (hc : c < 122) (b : Nat) : (difD c x y).testBit b = (((x.testBit b != y.testBit b) && decide (c / 2 ≤ b) && !(c % 2 == 1 && !x.testBit (c / 2) && b == c / 2)) && decide (b < 61)) := by
  unfold difD
  by_cases h : c % 2 = 1 ∧ x.testBit (c / 2) = false
  · rw [if_pos h, difC_bit (by omega), h.1, h.2]
    by_cases e : b = c / 2
    · rw [e]; simp
    · have e' : (b == c / 2) = false := beq_eq_false_iff_ne.2 e
      rw [e']
      cases x.testBit b <;> cases y.testBit b <;> by_cases h1 : c / 2 ≤ b <;> by_cases h2 : b < 61 <;> simp [h1, h2, e]
  · rw [if_neg h, difB_bit]
    have : (c % 2 == 1 && !x.testBit (c / 2) && b == c / 2) = false := by
      cases hx : x.testBit (c / 2) with
      | true => simp
      | false =>
        have : c % 2 ≠ 1 := fun e => h ⟨e, hx⟩
        simp [this]
    rw [this]
    cases x.testBit b <;> cases y.testBit b <;> by_cases h1 : c / 2 ≤ b <;> by_cases h2 : b < 61 <;> simp [h1, h2]

theorem difD_lt (c x y : Nat) : difD c x y < 2305843009213693952 := by
  unfold difD
  split
  · exact difC_lt _ _ _
  · exact difB_lt _ _ _

theorem two_if (k : Nat) (b : Bool) : (((2 * k + if b then 1 else 0 : Nat)) : Int) = 2 * (k : Int) + (if b then 1 else 0) := by
  cases b
  · simp
  · simp

theorem fitI_bits {c x y : Nat} (hx : x < 2305843009213693951) (hy : y < 2305843009213693951) (hne : x ≠ y) (hc : c < 122) :
    (difD c x y = 0 → fitI c (x : Int) y = -1) ∧ (difD c x y ≠ 0 → Lib.ctz 64 (difD c x y) < 61 ∧ fitI c (x : Int) y = 2 * (Lib.ctz 64 (difD c x y) : Int) + (if x.testBit (Lib.ctz 64 (difD c x y)) then 1 else 0)) := by
  have h64 : (2 : Nat) ^ 64 = 18446744073709551616 := by decide
  have hlt := difD_lt c x y
  have h := fit_bits (D := difD c x y) hx hy hne hc (by omega) (fun b hb => by rw [difD_bit hc, decide_eq_true (show b < 61 from hb), Bool.and_true]) (fun b hb => by rw [difD_bit hc, decide_eq_false (show ¬ b < 61 by omega), Bool.and_false])
  constructor
  · intro h0
    unfold fitI
    rw [h.1 h0]
  · intro h0
    obtain ⟨h1, h2⟩ := h.2 h0
    refine ⟨h1, ?_⟩
    unfold fitI
    rw [h2]
    exact two_if _ _

/-- After, by the answers. -/
theorem aftI_fit (low x y : Int) : aftI low x y = if 0 ≤ fitI ((low / 2).toNat % 123) x y then 2 * (low / 2 + 1 + fitI ((low / 2).toNat % 123) x y - ((low / 2).toNat % 123 : Nat)) else if 0 ≤ fitI 0 x y then 2 * (low / 2 + 1 + fitI 0 x y - ((low / 2).toNat % 123 : Nat) + 123) else 0 := by
  unfold aftI fitI
  cases h1 : fitN x y (123 - (low / 2).toNat % 123) ((low / 2).toNat % 123) with
  | some n => dsimp only; rw [if_pos (by omega)]
  | none =>
    dsimp only
    rw [if_neg (by omega)]
    cases h2 : fitN x y 123 0 with
    | some n => dsimp only; rw [if_pos (by omega)]
    | none => dsimp only; rw [if_neg (by omega)]

end Go.Proofs.YtodmpcnpedpheaaGreatDoor

/- Levels are small; filling the table of keys (plain). -/
set_option linter.unusedSimpArgs false
set_option linter.unusedVariables false
namespace Go.Proofs.YtodmpcnpedpheaaGreatDoor
open Go.RowKit

theorem klev_rng {L : List Ent} (hD : DOk L) : ∀ (n : Nat) (id : Int), id.toNat ≤ n → isKnown L id → id ≠ 0 → -1 ≤ klev L id ∧ klev L id ≤ 493 * id := by
  intro n
  induction n with
  | zero => intro id h hk h0; have := hk.1; omega
  | succ n ih =>
    intro id h hk h0
    have h1 := hk.1
    have h2 := hk.2
    rcases hD.at id hk h0 with ⟨g1, _⟩ | ⟨g1, g2, _⟩ | ⟨g1, g2, _⟩
    · rw [(kl_letter (by omega) g1).2]; omega
    · have ka : isKnown L (entAt L id).rule.left := ⟨by omega, by omega⟩
      have kb : isKnown L (entAt L id).rule.right := ⟨by omega, by omega⟩
      have i1 := ih _ (by omega) ka (by omega)
      have i2 := ih _ (by omega) kb (by omega)
      have r1 := kkey_rng hD ka (by omega)
      have r2 := kkey_rng hD kb (by omega)
      rw [(kl_pair hD hk h0 g1).2]
      split
      · rename_i c
        have := aftI_spec (low := max (klev L (entAt L id).rule.left) (klev L (entAt L id).rule.right)) (by omega) r1.1 r1.2 r2.1 r2.2
        omega
      · omega
    · have ka : isKnown L (entAt L id).rule.left := ⟨by omega, by omega⟩
      have i1 := ih _ (by omega) ka (by omega)
      rw [(kl_power hD hk h0 g1).2]
      split <;> omega

/-- The row of a rule. -/
def krow (L : List Ent) (id : Int) : KRow := ⟨kkey L id, klev L id, true⟩

/-- How many rows are not filled. -/
def unk : List KRow → Nat
  | [] => 0
  | r :: T => (if r.kn then 0 else 1) + unk T

theorem unk_set : ∀ (T : List KRow) (i : Nat) (h : i < T.length) (r : KRow), T[i].kn = false → r.kn = true → unk (T.set i r) + 1 = unk T
  | [], i, h, _, _, _ => by simp at h
  | a :: T, 0, h, r, h1, h2 => by
    have h1' : a.kn = false := h1
    simp only [List.set_cons_zero, unk, h1', h2]
    simp
    omega
  | a :: T, i + 1, h, r, h1, h2 => by
    have := unk_set T i (by simpa using h) r (by simpa using h1) h2
    simp only [List.set_cons_succ, unk]
    omega

def blankR : KRow := ⟨0, 0, false⟩

theorem TabOk.grow {L : List Ent} {T : List KRow} (h : TabOk L T) (k : Nat) : TabOk L (T ++ List.replicate k blankR) := by
  intro i hi
  by_cases c : i < T.length
  · rw [List.getElem_append_left c]; exact h i c
  · rw [List.getElem_append_right (by omega), List.getElem_replicate]
    exact ⟨fun e => (by cases e), fun _ => rfl⟩

theorem TabOk.put {L : List Ent} {T : List KRow} (h : TabOk L T) {x : Int} (hk : isKnown L x) (h0 : x ≠ 0) : TabOk L (T.set x.toNat (krow L x)) := by
  intro i hi
  have h1 := hk.1
  have h2 := hk.2
  rw [List.length_set] at hi
  by_cases c : x.toNat = i
  · subst c
    rw [List.getElem_set_self]
    refine ⟨fun _ => ⟨by omega, by omega, ?_⟩, fun e => (by cases e)⟩
    rw [show ((x.toNat : Nat) : Int) = x by omega]
    exact ⟨rfl, rfl⟩
  · rw [List.getElem_set_ne c]
    exact h i hi

/-- The row of a known rule, where it is filled. -/
theorem TabOk.at {L : List Ent} {T : List KRow} (h : TabOk L T) {i : Nat} (hi : i < T.length) (hk : T[i].kn = true) : T[i] = krow L i := by
  obtain ⟨_, _, h3, h4⟩ := (h i hi).1 hk
  cases hr : T[i] with
  | mk a b c =>
    rw [hr] at h3 h4 hk
    simp only at h3 h4 hk
    unfold krow
    rw [h3, h4, hk]

/-- The stack: from the first, which was asked for, each is a child of the one before; none is filled. -/
structure Stk (T : List KRow) (id : Int) (td : List Int) : Prop where
  rng : ∀ x ∈ td, 1 ≤ x ∧ x ≤ id
  un : ∀ x ∈ td, ∀ h : x.toNat < T.length, T[x.toNat].kn = false
  dec : td.Pairwise (fun a b => b < a)

theorem Stk.nil (T : List KRow) (id : Int) : Stk T id [] := ⟨fun _ h => by simp at h, fun _ h => by simp at h, List.Pairwise.nil⟩
theorem Stk.one {T : List KRow} {id : Int} (h : 1 ≤ id) (hu : ∀ h : id.toNat < T.length, T[id.toNat].kn = false) : Stk T id [id] :=
  ⟨fun x hx => by simp at hx; omega, fun x hx => by simp at hx; subst hx; exact hu, by simp⟩
theorem Stk.push {T : List KRow} {id x y : Int} {td : List Int} (h : Stk T id (td ++ [x])) (hy : 1 ≤ y) (hyx : y < x) (hu : ∀ h : y.toNat < T.length, T[y.toNat].kn = false) : Stk T id (td ++ [x] ++ [y]) := by
  refine ⟨fun z hz => ?_, fun z hz => ?_, ?_⟩
  · rcases List.mem_append.1 hz with hz | hz
    · exact h.rng z hz
    · simp at hz; subst hz
      have := h.rng x (by simp)
      omega
  · rcases List.mem_append.1 hz with hz | hz
    · exact h.un z hz
    · simp at hz; subst hz; exact hu
  · rw [List.pairwise_append]
    refine ⟨h.dec, by simp, fun a ha b hb => ?_⟩
    simp at hb; subst hb
    rcases List.mem_append.1 ha with ha | ha
    · have := (List.pairwise_append.1 h.dec).2.2 a ha x (by simp)
      omega
    · simp at ha; subst ha; exact hyx
theorem Stk.pop {T : List KRow} {id x : Int} {td : List Int} {r : KRow} (h : Stk T id (td ++ [x])) : Stk (T.set x.toNat r) id td := by
  refine ⟨fun z hz => h.rng z (by simp [hz]), fun z hz hl => ?_, (List.pairwise_append.1 h.dec).1⟩
  have hx := h.rng x (by simp)
  have hz1 := h.rng z (by simp [hz])
  have := (List.pairwise_append.1 h.dec).2.2 z hz x (by simp)
  rw [List.length_set] at hl
  rw [List.getElem_set_ne (by omega)]
  exact h.un z (by simp [hz]) hl

end Go.Proofs.YtodmpcnpedpheaaGreatDoor

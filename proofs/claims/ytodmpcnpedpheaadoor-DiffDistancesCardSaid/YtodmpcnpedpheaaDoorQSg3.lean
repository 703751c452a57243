/- The least number that two keys fit, by their bits (plain); the pairs of a level, by their indices. -/
import Derived.Test.YtodmpcnpedpheaaDoorQBof0
import Derived.Lib.TrailingZeros
import Derived.Test.YtodmpcnpedpheaaDoorQBase
set_option linter.unusedSimpArgs false
set_option linter.unusedVariables false
namespace Go.Proofs.YtodmpcnpedpheaaDoor
open Go.RowKit

theorem ctz_bits {D : Nat} (h0 : D ≠ 0) (hD : D < 2 ^ 64) : D.testBit (Lib.ctz 64 D) = true ∧ ∀ b, b < Lib.ctz 64 D → D.testBit b = false := by
  obtain ⟨m, h1, h2⟩ := Lib.ctzFrom_spec 64 D (by omega) hD
  have e : Lib.ctz 64 D = Lib.ctzFrom 64 D := by unfold Lib.ctz; rw [if_neg h0]
  rw [e]
  generalize Lib.ctzFrom 64 D = k at *
  subst h1
  refine ⟨?_, fun b hb => ?_⟩
  · rw [Nat.testBit_two_pow_mul]
    simp
  · rw [Nat.testBit_two_pow_mul]
    simp [Nat.not_le.2 hb]

theorem fitB_odd {x y : Nat} {b : Nat} (hb : b < 61) (h1 : x.testBit b = true) (h2 : y.testBit b = false) : fitB (2 * b + 1) x y = true := by
  unfold fitB
  rw [if_neg (by omega), show (2 * b + 1) / 2 = b by omega, show (2 * b + 1) % 2 = 1 by omega, Int.toNat_natCast, Int.toNat_natCast, h1, h2]
  rfl

theorem fitB_even {x y : Nat} {b : Nat} (hb : b < 61) (h1 : x.testBit b = false) (h2 : y.testBit b = true) : fitB (2 * b) x y = true := by
  unfold fitB
  rw [if_neg (by omega), show (2 * b) / 2 = b by omega, show (2 * b) % 2 = 0 by omega, Int.toNat_natCast, Int.toNat_natCast, h1, h2]
  rfl

theorem fitB_parts {x y : Nat} {c : Nat} (h : fitB c x y = true) (hc : c ≠ 122) : x.testBit (c / 2) = (c % 2 == 1) ∧ y.testBit (c / 2) = (c % 2 == 0) := by
  unfold fitB at h
  rw [if_neg hc, Bool.and_eq_true, beq_iff_eq, beq_iff_eq, Int.toNat_natCast, Int.toNat_natCast] at h
  exact h

theorem fitN_is {x y : Int} {n : Nat} : ∀ (f c : Nat), c ≤ n → n < c + f → fitB n x y = true → (∀ k, c ≤ k → k < n → fitB k x y = false) → fitN x y f c = some n
  | 0, c => by intro h1 h2; omega
  | f + 1, c => by
    intro h1 h2 h3 h4
    unfold fitN
    by_cases e : c = n
    · rw [e, h3, if_pos rfl]
    · rw [h4 c (Nat.le_refl _) (by omega), if_neg (by decide)]
      exact fitN_is f (c + 1) (by omega) (by omega) h3 (fun k k1 k2 => h4 k (by omega) k2)

theorem fitN_no {x y : Int} : ∀ (f c : Nat), (∀ k, c ≤ k → k < c + f → fitB k x y = false) → fitN x y f c = none
  | 0, c => by intro h; rfl
  | f + 1, c => by
    intro h
    unfold fitN
    rw [h c (Nat.le_refl _) (by omega), if_neg (by decide)]
    exact fitN_no f (c + 1) (fun k k1 k2 => h k (by omega) (by omega))

/-- By the bits in which two keys differ. -/
theorem fit_bits {x y c D : Nat} (hx : x < 2305843009213693951) (hy : y < 2305843009213693951) (hne : x ≠ y) (hc : c < 122) (hD64 : D < 2 ^ 64)
    (hD : ∀ b, b < 61 → D.testBit b = ((x.testBit b != y.testBit b) && decide (c / 2 ≤ b) && !(c % 2 == 1 && !x.testBit (c / 2) && b == c / 2))) (hD61 : ∀ b, 61 ≤ b → D.testBit b = false) :
    (D = 0 → fitN (x : Int) y (123 - c) c = none) ∧ (D ≠ 0 → Lib.ctz 64 D < 61 ∧ fitN (x : Int) y (123 - c) c = some (2 * Lib.ctz 64 D + if x.testBit (Lib.ctz 64 D) then 1 else 0)) := by
  have h122 : fitB 122 (x : Int) y = false := by
    unfold fitB
    rw [if_pos rfl, beq_eq_false_iff_ne]
    omega
  -- what fits, differs
  have key : ∀ k, c ≤ k → k < 122 → fitB k (x : Int) y = true → D.testBit (k / 2) = true := by
    intro k k1 k2 hk
    obtain ⟨p1, p2⟩ := fitB_parts hk (by omega)
    rw [hD _ (by omega), p1, p2]
    have hd : decide (c / 2 ≤ k / 2) = true := decide_eq_true (by omega)
    rw [hd]
    have hx1 : ((k % 2 == 1) != (k % 2 == 0)) = true := by
      rcases Nat.mod_two_eq_zero_or_one k with e | e <;> rw [e] <;> rfl
    rw [hx1]
    cases hb : (c % 2 == 1 && !x.testBit (c / 2) && k / 2 == c / 2) with
    | false => rfl
    | true =>
      exfalso
      rw [Bool.and_eq_true, Bool.and_eq_true, beq_iff_eq, beq_iff_eq, Bool.not_eq_true'] at hb
      obtain ⟨⟨b1, b2⟩, b3⟩ := hb
      rw [← b3, p1, beq_eq_false_iff_ne] at b2
      omega
  constructor
  · intro h0
    refine fitN_no _ _ (fun k k1 k2 => ?_)
    by_cases e : k = 122
    · rw [e]; exact h122
    · cases hf : fitB k (x : Int) y with
      | false => rfl
      | true =>
        have := key k k1 (by omega) hf
        rw [h0, Nat.zero_testBit] at this
        cases this
  · intro h0
    obtain ⟨t1, t2⟩ := ctz_bits h0 hD64
    generalize Lib.ctz 64 D = b at *
    have hb : b < 61 := by
      rcases Nat.lt_or_ge b 61 with g | g
      · exact g
      · rw [hD61 b g] at t1; cases t1
    refine ⟨hb, ?_⟩
    rw [hD b hb, Bool.and_eq_true, Bool.and_eq_true, decide_eq_true_eq, Bool.not_eq_true'] at t1
    obtain ⟨⟨d1, d2⟩, d3⟩ := t1
    -- nothing smaller fits
    have low : ∀ k, c ≤ k → k < 2 * b → fitB k (x : Int) y = false := by
      intro k k1 k2
      cases hf : fitB k (x : Int) y with
      | false => rfl
      | true =>
        have := key k k1 (by omega) hf
        rw [t2 (k / 2) (by omega)] at this
        cases this
    cases hxb : x.testBit b with
    | true =>
      have hyb : y.testBit b = false := by rw [hxb] at d1; cases h : y.testBit b with | true => rw [h] at d1; cases d1 | false => rfl
      rw [if_pos rfl]
      refine fitN_is _ _ (by omega) (by omega) (fitB_odd hb hxb hyb) (fun k k1 k2 => ?_)
      by_cases e : k = 2 * b
      · cases hf : fitB k (x : Int) y with
        | false => rfl
        | true =>
          obtain ⟨p1, p2⟩ := fitB_parts hf (by omega)
          rw [e, show 2 * b / 2 = b by omega, show 2 * b % 2 = 0 by omega, hxb] at p1
          cases p1
      · exact low k k1 (by omega)
    | false =>
      have hyb : y.testBit b = true := by rw [hxb] at d1; cases h : y.testBit b with | false => rw [h] at d1; cases d1 | true => rfl
      rw [if_neg (by decide)]
      have hcb : c ≤ 2 * b := by
        rcases Nat.lt_or_ge (2 * b) c with g | g
        · exfalso
          have e1 : b = c / 2 := by omega
          have e2 : c % 2 = 1 := by omega
          rw [e2, ← e1, hxb] at d3
          simp at d3
        · exact g
      exact fitN_is _ _ (by omega) (by omega) (fitB_even hb hxb hyb) (fun k k1 k2 => low k k1 (by omega))

/-- Where the pairs begin, from the left. -/
def grd (c : Nat) : Nat → List Int → List Nat
  | i, x :: y :: t => if fitB c x y = true then i :: grd c (i + 2) t else grd c (i + 1) (y :: t)
  | _, [_] => []
  | _, [] => []
termination_by _ l => l.length

end Go.Proofs.YtodmpcnpedpheaaDoor

/- Levels by indices (plain): how the loops over the pairs and the stretches make a level. -/
set_option linter.unusedSimpArgs false
set_option linter.unusedVariables false
namespace Go.Proofs.YtodmpcnpedpheaaDoor
open Go.RowKit

theorem grd_fit {c i : Nat} {x y : Int} {t : List Int} (h : fitB c x y = true) : grd c i (x :: y :: t) = i :: grd c (i + 2) t := by rw [grd, if_pos h]
theorem grd_not {c i : Nat} {x y : Int} {t : List Int} (h : fitB c x y = false) : grd c i (x :: y :: t) = grd c (i + 1) (y :: t) := by rw [grd, if_neg (by rw [h]; decide)]
theorem grd_one (c i : Nat) (x : Int) : grd c i [x] = [] := by rw [grd]
theorem grd_nil (c i : Nat) : grd c i [] = [] := by rw [grd]

/-- No two neighbours of a level that is no tie level share a key. -/
theorem fit_next {c : Nat} (hc : c ≠ 122) {x y z : Int} (h : fitB c x y = true) : fitB c y z = false := by
  unfold fitB at h ⊢
  rw [if_neg hc] at h ⊢
  rw [Bool.and_eq_true, beq_iff_eq, beq_iff_eq] at h
  rw [h.2]
  rcases Nat.mod_two_eq_zero_or_one c with e | e <;> rw [e] <;> rfl

theorem grd_step {c : Nat} (hc : c ≠ 122) (i : Nat) (x y : Int) (t : List Int) : grd c i (x :: y :: t) = (if fitB c x y = true then [i] else []) ++ grd c (i + 1) (y :: t) := by
  cases h : fitB c x y with
  | true =>
    rw [grd_fit h, if_pos rfl]
    cases t with
    | nil => rw [grd_one, grd_nil]; rfl
    | cons z t => rw [grd_not (fit_next hc h)]; rfl
  | false => rw [grd_not h, if_neg (by decide)]; rfl

/-- The pairs of a stretch of n equal keys. -/
def strP : Nat → Nat → List Nat
  | i, n + 2 => i :: strP (i + 2) n
  | _, 1 => []
  | _, 0 => []

theorem fit_tie (x : Int) : fitB 122 x x = true := by unfold fitB; rw [if_pos rfl]; simp
theorem fit_tie_ne {x y : Int} (h : x ≠ y) : fitB 122 x y = false := by unfold fitB; rw [if_pos rfl]; simpa using h

theorem grd_stretch (x : Int) : ∀ (n i : Nat) (t : List Int), (∀ y s, t = y :: s → x ≠ y) → grd 122 i (List.replicate n x ++ t) = strP i n ++ grd 122 (i + n) t
  | 0, i, t, _ => rfl
  | 1, i, t, h => by
    show grd 122 i (x :: t) = [] ++ grd 122 (i + 1) t
    cases t with
    | nil => rw [grd_one, grd_nil]; rfl
    | cons y s => rw [grd_not (fit_tie_ne (h y s rfl))]; rfl
  | n + 2, i, t, h => by
    show grd 122 i (x :: x :: (List.replicate n x ++ t)) = i :: (strP (i + 2) n ++ grd 122 (i + (n + 2)) t)
    rw [grd_fit (fit_tie x), grd_stretch x n (i + 2) t h, show i + 2 + n = i + (n + 2) by omega]

/-- From one pair to the next. -/
theorem prL_jump {c : Nat} {L : List Ent} : ∀ (n : Nat) (l : List Int) (a i : Nat) (is : List Nat), l.length ≤ n → grd c a (l.map (kkey L)) = i :: is →
    ∃ pre x y t, l = pre ++ x :: y :: t ∧ i = a + pre.length ∧ is = grd c (i + 2) (t.map (kkey L)) ∧
      prL c L l = ((prL c (addL L (pairEnt L x y)) t).1, pre ++ addI L (pairEnt L x y) :: (prL c (addL L (pairEnt L x y)) t).2) := by
  intro n
  induction n with
  | zero =>
    intro l a i is hn h
    have : l = [] := List.eq_nil_of_length_eq_zero (by omega)
    subst this
    rw [List.map_nil, grd_nil] at h; cases h
  | succ n ih =>
    intro l a i is hn h
    match l, hn, h with
    | [], hn, h => rw [List.map_nil, grd_nil] at h; cases h
    | [x], hn, h => rw [List.map_cons, List.map_nil, grd_one] at h; cases h
    | x :: y :: t, hn, h =>
      simp only [List.map_cons] at h
      cases hf : fitB c (kkey L x) (kkey L y) with
      | true =>
        rw [grd_fit hf, List.cons.injEq] at h
        obtain ⟨rfl, rfl⟩ := h
        refine ⟨[], x, y, t, rfl, rfl, rfl, ?_⟩
        rw [prL, if_pos hf]; rfl
      | false =>
        rw [grd_not hf] at h
        obtain ⟨pre, x', y', t', h1, h2, h3, h4⟩ := ih (y :: t) (a + 1) i is (by simp at hn ⊢; omega) h
        refine ⟨x :: pre, x', y', t', by rw [h1]; rfl, by simp only [List.length_cons]; omega, h3, ?_⟩
        rw [prL, if_neg (by rw [hf]; decide), h4]; rfl

theorem prL_end {c : Nat} {L : List Ent} : ∀ (n : Nat) (l : List Int) (a : Nat), l.length ≤ n → grd c a (l.map (kkey L)) = [] → prL c L l = (L, l) := by
  intro n
  induction n with
  | zero =>
    intro l a hn h
    have : l = [] := List.eq_nil_of_length_eq_zero (by omega)
    subst this
    rw [prL]
  | succ n ih =>
    intro l a hn h
    match l, hn, h with
    | [], hn, h => rw [prL]
    | [x], hn, h => rw [prL]
    | x :: y :: t, hn, h =>
      simp only [List.map_cons] at h
      cases hf : fitB c (kkey L x) (kkey L y) with
      | true => rw [grd_fit hf] at h; cases h
      | false =>
        rw [grd_not hf] at h
        rw [prL, if_neg (by rw [hf]; decide), ih (y :: t) (a + 1) (by simp at hn ⊢; omega) h]

/-- Indices of a level: in order, two apart, within the list. -/
theorem grd_in {c : Nat} : ∀ (n : Nat) (l : List Int) (a : Nat), l.length ≤ n → ∀ i ∈ grd c a l, a ≤ i ∧ i + 1 < a + l.length := by
  intro n
  induction n with
  | zero =>
    intro l a hn i hi
    have : l = [] := List.eq_nil_of_length_eq_zero (by omega)
    subst this
    rw [grd_nil] at hi; simp at hi
  | succ n ih =>
    intro l a hn i hi
    match l, hn, hi with
    | [], hn, hi => rw [grd_nil] at hi; simp at hi
    | [x], hn, hi => rw [grd_one] at hi; simp at hi
    | x :: y :: t, hn, hi =>
      cases hf : fitB c x y with
      | true =>
        rw [grd_fit hf] at hi
        simp only [List.length_cons] at hn ⊢
        rcases List.mem_cons.1 hi with e | hi
        · omega
        · have := ih t (a + 2) (by omega) i hi
          omega
      | false =>
        rw [grd_not hf] at hi
        have := ih (y :: t) (a + 1) (by simp only [List.length_cons] at hn ⊢; omega) i hi
        simp only [List.length_cons] at this ⊢
        omega

end Go.Proofs.YtodmpcnpedpheaaDoor

/- The distance of two texts (plain): deleted and inserted letters; neighbours differ by one, parity, symmetry, no detour is shorter. -/
namespace Go.Proofs.YtodmpcnpedpheaaDoor

/-- The distance of two texts: the least number of deleted and inserted letters. -/
def ed : List Int → List Int → Nat
  | [], b => b.length
  | x :: a, [] => (x :: a).length
  | x :: a, y :: b => if x = y then ed a b else 1 + min (ed a (y :: b)) (ed (x :: a) b)
termination_by a b => a.length + b.length

theorem ed_nl (b : List Int) : ed [] b = b.length := by unfold ed; rfl
theorem ed_nr (a : List Int) : ed a [] = a.length := by cases a <;> (unfold ed; rfl)
theorem ed_eq {x y : Int} (a b : List Int) (h : x = y) : ed (x :: a) (y :: b) = ed a b := by
  rw [ed, if_pos h]
theorem ed_ne {x y : Int} (a b : List Int) (h : x ≠ y) : ed (x :: a) (y :: b) = 1 + min (ed a (y :: b)) (ed (x :: a) b) := by
  rw [ed, if_neg h]

/-- One letter more or less changes the distance by at most one. -/
theorem ed_near : ∀ (N : Nat) (a b : List Int), a.length + b.length ≤ N → ∀ x : Int,
    ed (x :: a) b ≤ 1 + ed a b ∧ ed a (x :: b) ≤ 1 + ed a b ∧ ed a b ≤ 1 + ed (x :: a) b ∧ ed a b ≤ 1 + ed a (x :: b) := by
  intro N
  induction N with
  | zero =>
    intro a b h x
    have ha : a = [] := List.eq_nil_of_length_eq_zero (by omega)
    have hb : b = [] := List.eq_nil_of_length_eq_zero (by omega)
    subst ha hb
    simp [ed_nl, ed_nr]
  | succ N ih =>
    intro a b h x
    refine ⟨?_, ?_, ?_, ?_⟩
    · cases b with
      | nil => simp only [ed_nr, List.length_cons]; omega
      | cons y b' =>
        simp only [List.length_cons] at h
        by_cases c : x = y
        · rw [ed_eq _ _ c]
          exact (ih a b' (by omega) y).2.2.2
        · rw [ed_ne _ _ c]; omega
    · cases a with
      | nil => simp only [ed_nl, List.length_cons]; omega
      | cons z a' =>
        simp only [List.length_cons] at h
        by_cases c : z = x
        · rw [ed_eq _ _ c]
          exact (ih a' b (by omega) z).2.2.1
        · rw [ed_ne _ _ c]; omega
    · cases b with
      | nil => simp only [ed_nr, List.length_cons]; omega
      | cons y b' =>
        simp only [List.length_cons] at h
        by_cases c : x = y
        · rw [ed_eq _ _ c]
          exact (ih a b' (by omega) y).2.1
        · rw [ed_ne _ _ c]
          have h1 := (ih a b' (by omega) y).2.1
          have h2 := (ih a b' (by omega) x).2.2.1
          omega
    · cases a with
      | nil => simp only [ed_nl, List.length_cons]; omega
      | cons z a' =>
        simp only [List.length_cons] at h
        by_cases c : z = x
        · rw [ed_eq _ _ c]
          exact (ih a' b (by omega) z).1
        · rw [ed_ne _ _ c]
          have h1 := (ih a' b (by omega) z).1
          have h2 := (ih a' b (by omega) x).2.2.2
          omega

theorem ed_consL (a b : List Int) (x : Int) : ed (x :: a) b ≤ 1 + ed a b := (ed_near _ a b (Nat.le_refl _) x).1
theorem ed_consR (a b : List Int) (x : Int) : ed a (x :: b) ≤ 1 + ed a b := (ed_near _ a b (Nat.le_refl _) x).2.1
theorem ed_dropL (a b : List Int) (x : Int) : ed a b ≤ 1 + ed (x :: a) b := (ed_near _ a b (Nat.le_refl _) x).2.2.1
theorem ed_dropR (a b : List Int) (x : Int) : ed a b ≤ 1 + ed a (x :: b) := (ed_near _ a b (Nat.le_refl _) x).2.2.2

/-- Along a diagonal the distance never grows toward the end. -/
theorem ed_diag (a b : List Int) (x y : Int) : ed a b ≤ ed (x :: a) (y :: b) := by
  by_cases c : x = y
  · rw [ed_eq _ _ c]; exact Nat.le_refl _
  · rw [ed_ne _ _ c]
    have h1 := ed_dropR a b y
    have h2 := ed_dropL a b x
    omega

/-- A lemma's frame: an induction over the lengths of two texts. -/
theorem two_ind {P : List Int → List Int → Prop} (h1 : ∀ b, P [] b) (h2 : ∀ x a, P (x :: a) [])
    (h3 : ∀ x a y b, P a b → P a (y :: b) → P (x :: a) b → P (x :: a) (y :: b)) : ∀ a b, P a b := by
  have key : ∀ (N : Nat) (a b : List Int), a.length + b.length ≤ N → P a b := by
    intro N
    induction N with
    | zero =>
      intro a b h
      have ha : a = [] := List.eq_nil_of_length_eq_zero (by omega)
      subst ha
      exact h1 b
    | succ N ih =>
      intro a b h
      cases a with
      | nil => exact h1 b
      | cons x a =>
        cases b with
        | nil => exact h2 x a
        | cons y b =>
          simp only [List.length_cons] at h
          exact h3 x a y b (ih _ _ (by omega)) (ih _ _ (by simp only [List.length_cons]; omega)) (ih _ _ (by simp only [List.length_cons]; omega))
  exact fun a b => key _ a b (Nat.le_refl _)

theorem ed_symm : ∀ a b, ed a b = ed b a := by
  refine two_ind ?_ ?_ ?_
  · intro b; rw [ed_nl, ed_nr]
  · intro x a; rw [ed_nl, ed_nr]
  · intro x a y b p q r
    by_cases c : x = y
    · rw [ed_eq _ _ c, ed_eq _ _ c.symm, p]
    · rw [ed_ne _ _ c, ed_ne _ _ (fun e => c e.symm), q, r, Nat.min_comm]

theorem ed_par : ∀ a b, ed a b % 2 = (a.length + b.length) % 2 := by
  refine two_ind ?_ ?_ ?_
  · intro b; rw [ed_nl]; simp
  · intro x a; rw [ed_nr]; simp
  · intro x a y b p q r
    simp only [List.length_cons] at *
    by_cases c : x = y
    · rw [ed_eq _ _ c]; omega
    · rw [ed_ne _ _ c]
      rcases Nat.le_total (ed a (y :: b)) (ed (x :: a) b) with g | g
      · rw [Nat.min_eq_left g]; omega
      · rw [Nat.min_eq_right g]; omega

theorem ed_gap : ∀ a b, a.length ≤ b.length + ed a b ∧ b.length ≤ a.length + ed a b ∧ ed a b ≤ a.length + b.length := by
  refine two_ind ?_ ?_ ?_
  · intro b; rw [ed_nl]; simp
  · intro x a; rw [ed_nr]; simp
  · intro x a y b p q r
    simp only [List.length_cons] at *
    by_cases c : x = y
    · rw [ed_eq _ _ c]; omega
    · rw [ed_ne _ _ c]; omega

theorem ed_self : ∀ a, ed a a = 0
  | [] => by rw [ed_nl]; rfl
  | x :: a => by rw [ed_eq _ _ rfl, ed_self a]

theorem ed_zero : ∀ a b, ed a b = 0 → a = b := by
  refine two_ind ?_ ?_ ?_
  · intro b h; rw [ed_nl] at h; exact (List.eq_nil_of_length_eq_zero h).symm
  · intro x a h; rw [ed_nr] at h; simp at h
  · intro x a y b p q r h
    by_cases c : x = y
    · rw [ed_eq _ _ c] at h; rw [c, p h]
    · rw [ed_ne _ _ c] at h; omega

/-- No detour is shorter. -/
theorem ed_tri : ∀ (N : Nat) (a b c : List Int), a.length + b.length + c.length ≤ N → ed a b ≤ ed a c + ed c b := by
  intro N
  induction N with
  | zero =>
    intro a b c h
    have ha : a = [] := List.eq_nil_of_length_eq_zero (by omega)
    have hb : b = [] := List.eq_nil_of_length_eq_zero (by omega)
    subst ha hb
    rw [ed_nl]; simp
  | succ N ih =>
    intro a b c h
    cases a with
    | nil =>
      have g := (ed_gap c b).2.1
      rw [ed_nl, ed_nl]; exact g
    | cons x a =>
      cases b with
      | nil =>
        have g := (ed_gap (x :: a) c).1
        rw [ed_nr, ed_nr]; omega
      | cons y b =>
        cases c with
        | nil =>
          have g := (ed_gap (x :: a) (y :: b)).2.2
          rw [ed_nr, ed_nl]; exact g
        | cons z c =>
          simp only [List.length_cons] at h
          have l1 := ed_consL a (y :: b) x
          have l2 := ed_consR (x :: a) b y
          have i1 := ih a (y :: b) (z :: c) (by simp only [List.length_cons]; omega)
          have i2 := ih (x :: a) b (z :: c) (by simp only [List.length_cons]; omega)
          have i3 := ih (x :: a) (y :: b) c (by simp only [List.length_cons]; omega)
          have i4 := ih (x :: a) b c (by simp only [List.length_cons]; omega)
          have i5 := ih a b c (by omega)
          have i6 := ih a (y :: b) c (by simp only [List.length_cons]; omega)
          by_cases c1 : x = z
          · rw [ed_eq a c c1]
            by_cases c2 : z = y
            · rw [ed_eq c b c2, ed_eq a b (c1.trans c2)]; exact i5
            · rw [ed_ne c b c2]
              rw [ed_eq a c c1] at i2
              rcases Nat.le_total (ed c (y :: b)) (ed (z :: c) b) with g | g
              · rw [Nat.min_eq_left g]; omega
              · rw [Nat.min_eq_right g]; omega
          · rw [ed_ne a c c1]
            rw [ed_ne a c c1] at i2
            rcases Nat.le_total (ed a (z :: c)) (ed (x :: a) c) with g | g
            · rw [Nat.min_eq_left g]; omega
            · rw [Nat.min_eq_right g] at i2 ⊢
              by_cases c2 : z = y
              · rw [ed_eq c b c2]; omega
              · rw [ed_ne c b c2]
                rcases Nat.le_total (ed c (y :: b)) (ed (z :: c) b) with g2 | g2
                · rw [Nat.min_eq_left g2]; omega
                · rw [Nat.min_eq_right g2]; omega

end Go.Proofs.YtodmpcnpedpheaaDoor

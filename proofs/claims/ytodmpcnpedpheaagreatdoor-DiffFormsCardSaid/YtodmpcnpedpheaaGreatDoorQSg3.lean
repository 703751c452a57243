/- The least number that two keys fit, by their bits (plain); the pairs of a level, by their indices. -/
import Derived.Test.YtodmpcnpedpheaaGreatDoorQSt9
import Derived.Lib.TrailingZeros
import Derived.Laws.BitsAllLaws
import Derived.Laws.Bits64
import Derived.Test.YtodmpcnpedpheaaGreatDoorQSpl1
import Derived.Laws.AppendOwn
import Derived.Laws.CopyRow
import Derived.Test.YtodmpcnpedpheaaGreatDoorQSt5
import Derived.Deep.QuietTactic
import Derived.BigQuiet
import Derived.Test.YtodmpcnpedpheaaGreatDoorQBase
set_option linter.unusedSimpArgs false
set_option linter.unusedVariables false
namespace Go.Proofs.YtodmpcnpedpheaaGreatDoor
open Go.RowKit

theorem ctz_bits {D : Nat} (h0 : D ≠ 0) (hD : D < 2 ^ 64) : D.testBit (Lib.ctz 64 D) = true ∧ ∀ b, b < Lib.ctz 64 D → D.testBit b = false := by
  obtain ⟨m, h1, h2⟩ := Lib.ctzFrom_spec 64 D (by omega) hD
  have e : Lib.ctz 64 D = Lib.ctzFrom 64 D := by unfold Lib.ctz; rw [if_neg h0]
  rw [e]
  generalize Lib.ctzFrom 64 D = k at *
  subst h1
  refine ⟨?_, fun b hb => ?_⟩
  · rw [Nat.testBit_two_pow_mul]
    simp
  · rw [Nat.testBit_two_pow_mul]
    simp [Nat.not_le.2 hb]

theorem fitB_odd {x y : Nat} {b : Nat} (hb : b < 61) (h1 : x.testBit b = true) (h2 : y.testBit b = false) : fitB (2 * b + 1) x y = true := by
  unfold fitB
  rw [if_neg (by omega), show (2 * b + 1) / 2 = b by omega, show (2 * b + 1) % 2 = 1 by omega, Int.toNat_natCast, Int.toNat_natCast, h1, h2]
  rfl

theorem fitB_even {x y : Nat} {b : Nat} (hb : b < 61) (h1 : x.testBit b = false) (h2 : y.testBit b = true) : fitB (2 * b) x y = true := by
  unfold fitB
  rw [if_neg (by omega), show (2 * b) / 2 = b by omega, show (2 * b) % 2 = 0 by omega, Int.toNat_natCast, Int.toNat_natCast, h1, h2]
  rfl

theorem fitB_parts {x y : Nat} {c : Nat} (h : fitB c x y = true) (hc : c ≠ 122) : x.testBit (c / 2) = (c % 2 == 1) ∧ y.testBit (c / 2) = (c % 2 == 0) := by
  unfold fitB at h
  rw [if_neg hc, Bool.and_eq_true, beq_iff_eq, beq_iff_eq, Int.toNat_natCast, Int.toNat_natCast] at h
  exact h

theorem fitN_is {x y : Int} {n : Nat} : ∀ (f c : Nat), c ≤ n → n < c + f → fitB n x y = true → (∀ k, c ≤ k → k < n → fitB k x y = false) → fitN x y f c = some n
  | 0, c => by intro h1 h2; omega
  | f + 1, c => by
    intro h1 h2 h3 h4
    unfold fitN
    by_cases e : c = n
    · rw [e, h3, if_pos rfl]
    · rw [h4 c (Nat.le_refl _) (by omega), if_neg (by decide)]
      exact fitN_is f (c + 1) (by omega) (by omega) h3 (fun k k1 k2 => h4 k (by omega) k2)

theorem fitN_no {x y : Int} : ∀ (f c : Nat), (∀ k, c ≤ k → k < c + f → fitB k x y = false) → fitN x y f c = none
  | 0, c => by intro h; rfl
  | f + 1, c => by
    intro h
    unfold fitN
    rw [h c (Nat.le_refl _) (by omega), if_neg (by decide)]
    exact fitN_no f (c + 1) (fun k k1 k2 => h k (by omega) (by omega))

/-- By the bits in which two keys differ. -/
theorem fit_bits {x y c D : Nat} (hx : x < 2305843009213693951) (hy : y < 2305843009213693951) (hne : x ≠ y) (hc : c < 122) (hD64 : D < 2 ^ 64)
    (hD : ∀ b, b < 61 → D.testBit b = ((x.testBit b != y.testBit b) && decide (c / 2 ≤ b) && !(c % 2 == 1 && !x.testBit (c / 2) && b == c / 2))) (hD61 : ∀ b, 61 ≤ b → D.testBit b = false) :
    (D = 0 → fitN (x : Int) y (123 - c) c = none) ∧ (D ≠ 0 → Lib.ctz 64 D < 61 ∧ fitN (x : Int) y (123 - c) c = some (2 * Lib.ctz 64 D + if x.testBit (Lib.ctz 64 D) then 1 else 0)) := by
  have h122 : fitB 122 (x : Int) y = false := by
    unfold fitB
    rw [if_pos rfl, beq_eq_false_iff_ne]
    omega
  -- what fits, differs
  have key : ∀ k, c ≤ k → k < 122 → fitB k (x : Int) y = true → D.testBit (k / 2) = true := by
    intro k k1 k2 hk
    obtain ⟨p1, p2⟩ := fitB_parts hk (by omega)
    rw [hD _ (by omega), p1, p2]
    have hd : decide (c / 2 ≤ k / 2) = true := decide_eq_true (by omega)
    rw [hd]
    have hx1 : ((k % 2 == 1) != (k % 2 == 0)) = true := by
      rcases Nat.mod_two_eq_zero_or_one k with e | e <;> rw [e] <;> rfl
    rw [hx1]
    cases hb : (c % 2 == 1 && !x.testBit (c / 2) && k / 2 == c / 2) with
    | false => rfl
    | true =>
      exfalso
      rw [Bool.and_eq_true, Bool.and_eq_true, beq_iff_eq, beq_iff_eq, Bool.not_eq_true'] at hb
      obtain ⟨⟨b1, b2⟩, b3⟩ := hb
      rw [← b3, p1, beq_eq_false_iff_ne] at b2
      omega
  constructor
  · intro h0
    refine fitN_no _ _ (fun k k1 k2 => ?_)
    by_cases e : k = 122
    · rw [e]; exact h122
    · cases hf : fitB k (x : Int) y with
      | false => rfl
      | true =>
        have := key k k1 (by omega) hf
        rw [h0, Nat.zero_testBit] at this
        cases this
  · intro h0
    obtain ⟨t1, t2⟩ := ctz_bits h0 hD64
    generalize Lib.ctz 64 D = b at *
    have hb : b < 61 := by
      rcases Nat.lt_or_ge b 61 with g | g
      · exact g
      · rw [hD61 b g] at t1; cases t1
    refine ⟨hb, ?_⟩
    rw [hD b hb, Bool.and_eq_true, Bool.and_eq_true, decide_eq_true_eq, Bool.not_eq_true'] at t1
    obtain ⟨⟨d1, d2⟩, d3⟩ := t1
    -- nothing smaller fits
    have low : ∀ k, c ≤ k → k < 2 * b → fitB k (x : Int) y = false := by
      intro k k1 k2
      cases hf : fitB k (x : Int) y with
      | false => rfl
      | true =>
        have := key k k1 (by omega) hf
        rw [t2 (k / 2) (by omega)] at this
        cases this
    cases hxb : x.testBit b with
    | true =>
      have hyb : y.testBit b = false := by rw [hxb] at d1; cases h : y.testBit b with | true => rw [h] at d1; cases d1 | false => rfl
      rw [if_pos rfl]
      refine fitN_is _ _ (by omega) (by omega) (fitB_odd hb hxb hyb) (fun k k1 k2 => ?_)
      by_cases e : k = 2 * b
      · cases hf : fitB k (x : Int) y with
        | false => rfl
        | true =>
          obtain ⟨p1, p2⟩ := fitB_parts hf (by omega)
          rw [e, show 2 * b / 2 = b by omega, show 2 * b % 2 = 0 by omega, hxb] at p1
          cases p1
      · exact low k k1 (by omega)
    | false =>
      have hyb : y.testBit b = true := by rw [hxb] at d1; cases h : y.testBit b with | false => rw [h] at d1; cases d1 | true => rfl
      rw [if_neg (by decide)]
      have hcb : c ≤ 2 * b := by
        rcases Nat.lt_or_ge (2 * b) c with g | g
        · exfalso
          have e1 : b = c / 2 := by omega
          have e2 : c % 2 = 1 := by omega
          rw [e2, ← e1, hxb] at d3
          simp at d3
        · exact g
      exact fitN_is _ _ (by omega) (by omega) (fitB_even hb hxb hyb) (fun k k1 k2 => low k k1 (by omega))

/-- Where the pairs begin, from the left. -/
def grd (c : Nat) : Nat → List Int → List Nat
  | i, x :: y :: t => if fitB c x y = true then i :: grd c (i + 2) t else grd c (i + 1) (y :: t)
  | _, [_] => []
  | _, [] => []
termination_by _ l => l.length

end Go.Proofs.YtodmpcnpedpheaaGreatDoor

/- Levels by indices (plain): how the loops over the pairs and the stretches make a level. -/
set_option linter.unusedSimpArgs false
set_option linter.unusedVariables false
namespace Go.Proofs.YtodmpcnpedpheaaGreatDoor
open Go.RowKit

theorem grd_fit {c i : Nat} {x y : Int} {t : List Int} (h : fitB c x y = true) : grd c i (x :: y :: t) = i :: grd c (i + 2) t := by rw [grd, if_pos h]
theorem grd_not {c i : Nat} {x y : Int} {t : List Int} (h : fitB c x y = false) : grd c i (x :: y :: t) = grd c (i + 1) (y :: t) := by rw [grd, if_neg (by rw [h]; decide)]
theorem grd_one (c i : Nat) (x : Int) : grd c i [x] = [] := by rw [grd]
theorem grd_nil (c i : Nat) : grd c i [] = [] := by rw [grd]

/-- No two neighbours of a level that is no tie level share a key. -/
theorem fit_next {c : Nat} (hc : c ≠ 122) {x y z : Int} (h : fitB c x y = true) : fitB c y z = false := by
  unfold fitB at h ⊢
  rw [if_neg hc] at h ⊢
  rw [Bool.and_eq_true, beq_iff_eq, beq_iff_eq] at h
  rw [h.2]
  rcases Nat.mod_two_eq_zero_or_one c with e | e <;> rw [e] <;> rfl

theorem grd_step {c : Nat} (hc : c ≠ 122) (i : Nat) (x y : Int) (t : List Int) : grd c i (x :: y :: t) = (if fitB c x y = true then [i] else []) ++ grd c (i + 1) (y :: t) := by
  cases h : fitB c x y with
  | true =>
    rw [grd_fit h, if_pos rfl]
    cases t with
    | nil => rw [grd_one, grd_nil]; rfl
    | cons z t => rw [grd_not (fit_next hc h)]; rfl
  | false => rw [grd_not h, if_neg (by decide)]; rfl

/-- The pairs of a stretch of n equal keys. -/
def strP : Nat → Nat → List Nat
  | i, n + 2 => i :: strP (i + 2) n
  | _, 1 => []
  | _, 0 => []

theorem fit_tie (x : Int) : fitB 122 x x = true := by unfold fitB; rw [if_pos rfl]; simp
theorem fit_tie_ne {x y : Int} (h : x ≠ y) : fitB 122 x y = false := by unfold fitB; rw [if_pos rfl]; simpa using h

theorem grd_stretch (x : Int) : ∀ (n i : Nat) (t : List Int), (∀ y s, t = y :: s → x ≠ y) → grd 122 i (List.replicate n x ++ t) = strP i n ++ grd 122 (i + n) t
  | 0, i, t, _ => rfl
  | 1, i, t, h => by
    show grd 122 i (x :: t) = [] ++ grd 122 (i + 1) t
    cases t with
    | nil => rw [grd_one, grd_nil]; rfl
    | cons y s => rw [grd_not (fit_tie_ne (h y s rfl))]; rfl
  | n + 2, i, t, h => by
    show grd 122 i (x :: x :: (List.replicate n x ++ t)) = i :: (strP (i + 2) n ++ grd 122 (i + (n + 2)) t)
    rw [grd_fit (fit_tie x), grd_stretch x n (i + 2) t h, show i + 2 + n = i + (n + 2) by omega]

/-- From one pair to the next. -/
theorem prL_jump {c : Nat} {L : List Ent} : ∀ (n : Nat) (l : List Int) (a i : Nat) (is : List Nat), l.length ≤ n → grd c a (l.map (kkey L)) = i :: is →
    ∃ pre x y t, l = pre ++ x :: y :: t ∧ i = a + pre.length ∧ is = grd c (i + 2) (t.map (kkey L)) ∧
      prL c L l = ((prL c (addL L (pairEnt L x y)) t).1, pre ++ addI L (pairEnt L x y) :: (prL c (addL L (pairEnt L x y)) t).2) := by
  intro n
  induction n with
  | zero =>
    intro l a i is hn h
    have : l = [] := List.eq_nil_of_length_eq_zero (by omega)
    subst this
    rw [List.map_nil, grd_nil] at h; cases h
  | succ n ih =>
    intro l a i is hn h
    match l, hn, h with
    | [], hn, h => rw [List.map_nil, grd_nil] at h; cases h
    | [x], hn, h => rw [List.map_cons, List.map_nil, grd_one] at h; cases h
    | x :: y :: t, hn, h =>
      simp only [List.map_cons] at h
      cases hf : fitB c (kkey L x) (kkey L y) with
      | true =>
        rw [grd_fit hf, List.cons.injEq] at h
        obtain ⟨rfl, rfl⟩ := h
        refine ⟨[], x, y, t, rfl, rfl, rfl, ?_⟩
        rw [prL, if_pos hf]; rfl
      | false =>
        rw [grd_not hf] at h
        obtain ⟨pre, x', y', t', h1, h2, h3, h4⟩ := ih (y :: t) (a + 1) i is (by simp at hn ⊢; omega) h
        refine ⟨x :: pre, x', y', t', by rw [h1]; rfl, by simp only [List.length_cons]; omega, h3, ?_⟩
        rw [prL, if_neg (by rw [hf]; decide), h4]; rfl

theorem prL_end {c : Nat} {L : List Ent} : ∀ (n : Nat) (l : List Int) (a : Nat), l.length ≤ n → grd c a (l.map (kkey L)) = [] → prL c L l = (L, l) := by
  intro n
  induction n with
  | zero =>
    intro l a hn h
    have : l = [] := List.eq_nil_of_length_eq_zero (by omega)
    subst this
    rw [prL]
  | succ n ih =>
    intro l a hn h
    match l, hn, h with
    | [], hn, h => rw [prL]
    | [x], hn, h => rw [prL]
    | x :: y :: t, hn, h =>
      simp only [List.map_cons] at h
      cases hf : fitB c (kkey L x) (kkey L y) with
      | true => rw [grd_fit hf] at h; cases h
      | false =>
        rw [grd_not hf] at h
        rw [prL, if_neg (by rw [hf]; decide), ih (y :: t) (a + 1) (by simp at hn ⊢; omega) h]

end Go.Proofs.YtodmpcnpedpheaaGreatDoor

/- The bits in which two keys differ, as the program reckons them (plain). -/
set_option linter.unusedSimpArgs false
set_option linter.unusedVariables false
namespace Go.Proofs.YtodmpcnpedpheaaGreatDoor
open Go.RowKit

/-- The bits that differ, from a bit on. -/
def difB (x y k : Nat) : Nat := ((x ^^^ y) &&& 2305843009213693951) / 2 ^ k * 2 ^ k
/-- The same without one bit. -/
def difC (x y k : Nat) : Nat := difB x y k &&& (18446744073709551615 - 2 ^ k)

theorem testBit_61 (b : Nat) : (2305843009213693951 : Nat).testBit b = decide (b < 61) := by
  rw [show (2305843009213693951 : Nat) = 2 ^ 61 - 1 by decide, Nat.testBit_two_pow_sub_one]

theorem difB_bit (x y k b : Nat) : (difB x y k).testBit b = (decide (k ≤ b) && ((x.testBit b != y.testBit b) && decide (b < 61))) := by
  unfold difB
  rw [Nat.mul_comm, Nat.testBit_two_pow_mul, Nat.testBit_div_two_pow, Nat.testBit_and, Nat.testBit_xor, testBit_61]
  by_cases h : k ≤ b
  · rw [show b - k + k = b by omega]
  · simp [h]

theorem difB_lt (x y k : Nat) : difB x y k < 2305843009213693952 := by
  unfold difB
  have h1 : (x ^^^ y) &&& 2305843009213693951 < 2 ^ 61 := Nat.and_lt_two_pow _ (by decide)
  have h2 := Nat.div_mul_le_self ((x ^^^ y) &&& 2305843009213693951) (2 ^ k)
  have e : (2 : Nat) ^ 61 = 2305843009213693952 := by decide
  omega

theorem notBit_bit {k b : Nat} (hk : k < 61) (hb : b < 64) : (18446744073709551615 - 2 ^ k).testBit b = decide (b ≠ k) := by
  have h := Nat.testBit_two_pow_sub_succ (x := 2 ^ k) (n := 64) (Nat.pow_lt_pow_right (by decide) (by omega)) b
  rw [show (2 : Nat) ^ 64 - (2 ^ k + 1) = 18446744073709551615 - 2 ^ k by
    have : (2 : Nat) ^ 64 = 18446744073709551616 := by decide
    omega] at h
  rw [h, Nat.testBit_two_pow]
  by_cases c : k = b
  · subst c; simp
  · have c' : b ≠ k := fun e => c e.symm
    simp [c, c', hb]

theorem difC_bit {x y k b : Nat} (hk : k < 61) : (difC x y k).testBit b = (decide (k ≤ b) && ((x.testBit b != y.testBit b) && decide (b < 61)) && decide (b ≠ k)) := by
  unfold difC
  rw [Nat.testBit_and, difB_bit]
  by_cases hb : b < 61
  · rw [notBit_bit hk (by omega)]
  · simp [hb]

theorem difC_lt (x y k : Nat) : difC x y k < 2305843009213693952 := by
  unfold difC
  have h1 : difB x y k &&& (18446744073709551615 - 2 ^ k) ≤ difB x y k := Nat.and_le_left
  have := difB_lt x y k
  omega

/-- The number as an answer. -/
def fitI (c : Nat) (x y : Int) : Int := match fitN x y (123 - c) c with | some n => n | none => -1

theorem fitI_same {c : Nat} (hc : c ≤ 122) (x : Int) (hx : 0 ≤ x) : fitI c x x = 122 := by
  unfold fitI
  rw [fitN_is (n := 122) _ _ hc (by omega) (fit_tie x) (fun k k1 k2 => ?_)]
  · rfl
  · unfold fitB
    rw [if_neg (by omega)]
    cases h : x.toNat.testBit (k / 2) <;> rcases Nat.mod_two_eq_zero_or_one k with e | e <;> rw [e] <;> rfl

theorem fitI_tie {x y : Int} (h : x ≠ y) : fitI 122 x y = -1 := by
  unfold fitI
  rw [fitN_no _ _ (fun k k1 k2 => ?_)]
  rw [show k = 122 by omega]
  exact fit_tie_ne h

/-- Which bits the program looks at. -/
def difD (c x y : Nat) : Nat := if c % 2 = 1 ∧ x.testBit (c / 2) = false then difC x y (c / 2) else difB x y (c / 2)

theorem difD_bit {c x y : Nat} (hc : c < 122) (b : Nat) : (difD c x y).testBit b = (((x.testBit b != y.testBit b) && decide (c / 2 ≤ b) && !(c % 2 == 1 && !x.testBit (c / 2) && b == c / 2)) && decide (b < 61)) := by
  unfold difD
  by_cases h : c % 2 = 1 ∧ x.testBit (c / 2) = false
  · rw [if_pos h, difC_bit (by omega), h.1, h.2]
    by_cases e : b = c / 2
    · rw [e]; simp
    · have e' : (b == c / 2) = false := beq_eq_false_iff_ne.2 e
      rw [e']
      cases x.testBit b <;> cases y.testBit b <;> by_cases h1 : c / 2 ≤ b <;> by_cases h2 : b < 61 <;> simp [h1, h2, e]
  · rw [if_neg h, difB_bit]
    have : (c % 2 == 1 && !x.testBit (c / 2) && b == c / 2) = false := by
      cases hx : x.testBit (c / 2) with
      | true => simp
      | false =>
        have : c % 2 ≠ 1 := fun e => h ⟨e, hx⟩
        simp [this]
    rw [this]
    cases x.testBit b <;> cases y.testBit b <;> by_cases h1 : c / 2 ≤ b <;> by_cases h2 : b < 61 <;> simp [h1, h2]

theorem difD_lt (c x y : Nat) : difD c x y < 2305843009213693952 := by
  unfold difD
  split
  · exact difC_lt _ _ _
  · exact difB_lt _ _ _

theorem two_if (k : Nat) (b : Bool) : (((2 * k + if b then 1 else 0 : Nat)) : Int) = 2 * (k : Int) + (if b then 1 else 0) := by
  cases b
  · simp
  · simp

theorem fitI_bits {c x y : Nat} (hx : x < 2305843009213693951) (hy : y < 2305843009213693951) (hne : x ≠ y) (hc : c < 122) :
    (difD c x y = 0 → fitI c (x : Int) y = -1) ∧ (difD c x y ≠ 0 → Lib.ctz 64 (difD c x y) < 61 ∧ fitI c (x : Int) y = 2 * (Lib.ctz 64 (difD c x y) : Int) + (if x.testBit (Lib.ctz 64 (difD c x y)) then 1 else 0)) := by
  have h64 : (2 : Nat) ^ 64 = 18446744073709551616 := by decide
  have hlt := difD_lt c x y
  have h := fit_bits (D := difD c x y) hx hy hne hc (by omega) (fun b hb => by rw [difD_bit hc, decide_eq_true (show b < 61 from hb), Bool.and_true]) (fun b hb => by rw [difD_bit hc, decide_eq_false (show ¬ b < 61 by omega), Bool.and_false])
  constructor
  · intro h0
    unfold fitI
    rw [h.1 h0]
  · intro h0
    obtain ⟨h1, h2⟩ := h.2 h0
    refine ⟨h1, ?_⟩
    unfold fitI
    rw [h2]
    exact two_if _ _

/-- After, by the answers. -/
theorem aftI_fit (low x y : Int) : aftI low x y = if 0 ≤ fitI ((low / 2).toNat % 123) x y then 2 * (low / 2 + 1 + fitI ((low / 2).toNat % 123) x y - ((low / 2).toNat % 123 : Nat)) else if 0 ≤ fitI 0 x y then 2 * (low / 2 + 1 + fitI 0 x y - ((low / 2).toNat % 123 : Nat) + 123) else 0 := by
  unfold aftI fitI
  cases h1 : fitN x y (123 - (low / 2).toNat % 123) ((low / 2).toNat % 123) with
  | some n => dsimp only; rw [if_pos (by omega)]
  | none =>
    dsimp only
    rw [if_neg (by omega)]
    cases h2 : fitN x y 123 0 with
    | some n => dsimp only; rw [if_pos (by omega)]
    | none => dsimp only; rw [if_neg (by omega)]

end Go.Proofs.YtodmpcnpedpheaaGreatDoor

/- Levels are small; filling the table of keys (plain). -/
set_option linter.unusedSimpArgs false
set_option linter.unusedVariables false
namespace Go.Proofs.YtodmpcnpedpheaaGreatDoor
open Go.RowKit

theorem klev_rng {L : List Ent} (hD : DOk L) : ∀ (n : Nat) (id : Int), id.toNat ≤ n → isKnown L id → id ≠ 0 → -1 ≤ klev L id ∧ klev L id ≤ 493 * id := by
  intro n
  induction n with
  | zero => intro id h hk h0; have := hk.1; omega
  | succ n ih =>
    intro id h hk h0
    have h1 := hk.1
    have h2 := hk.2
    rcases hD.at id hk h0 with ⟨g1, _⟩ | ⟨g1, g2, _⟩ | ⟨g1, g2, _⟩
    · rw [(kl_letter (by omega) g1).2]; omega
    · have ka : isKnown L (entAt L id).rule.left := ⟨by omega, by omega⟩
      have kb : isKnown L (entAt L id).rule.right := ⟨by omega, by omega⟩
      have i1 := ih _ (by omega) ka (by omega)
      have i2 := ih _ (by omega) kb (by omega)
      have r1 := kkey_rng hD ka (by omega)
      have r2 := kkey_rng hD kb (by omega)
      rw [(kl_pair hD hk h0 g1).2]
      split
      · rename_i c
        have := aftI_spec (low := max (klev L (entAt L id).rule.left) (klev L (entAt L id).rule.right)) (by omega) r1.1 r1.2 r2.1 r2.2
        omega
      · omega
    · have ka : isKnown L (entAt L id).rule.left := ⟨by omega, by omega⟩
      have i1 := ih _ (by omega) ka (by omega)
      rw [(kl_power hD hk h0 g1).2]
      split <;> omega

/-- The row of a rule. -/
def krow (L : List Ent) (id : Int) : KRow := ⟨kkey L id, klev L id, true⟩

/-- How many rows are not filled. -/
def unk : List KRow → Nat
  | [] => 0
  | r :: T => (if r.kn then 0 else 1) + unk T

theorem unk_set : ∀ (T : List KRow) (i : Nat) (h : i < T.length) (r : KRow), T[i].kn = false → r.kn = true → unk (T.set i r) + 1 = unk T
  | [], i, h, _, _, _ => by simp at h
  | a :: T, 0, h, r, h1, h2 => by
    have h1' : a.kn = false := h1
    simp only [List.set_cons_zero, unk, h1', h2]
    simp
    omega
  | a :: T, i + 1, h, r, h1, h2 => by
    have := unk_set T i (by simpa using h) r (by simpa using h1) h2
    simp only [List.set_cons_succ, unk]
    omega

def blankR : KRow := ⟨0, 0, false⟩

theorem TabOk.grow {L : List Ent} {T : List KRow} (h : TabOk L T) (k : Nat) : TabOk L (T ++ List.replicate k blankR) := by
  intro i hi
  by_cases c : i < T.length
  · rw [List.getElem_append_left c]; exact h i c
  · rw [List.getElem_append_right (by omega), List.getElem_replicate]
    exact ⟨fun e => (by cases e), fun _ => rfl⟩

theorem TabOk.put {L : List Ent} {T : List KRow} (h : TabOk L T) {x : Int} (hk : isKnown L x) (h0 : x ≠ 0) : TabOk L (T.set x.toNat (krow L x)) := by
  intro i hi
  have h1 := hk.1
  have h2 := hk.2
  rw [List.length_set] at hi
  by_cases c : x.toNat = i
  · subst c
    rw [List.getElem_set_self]
    refine ⟨fun _ => ⟨by omega, by omega, ?_⟩, fun e => (by cases e)⟩
    rw [show ((x.toNat : Nat) : Int) = x by omega]
    exact ⟨rfl, rfl⟩
  · rw [List.getElem_set_ne c]
    exact h i hi

/-- The row of a known rule, where it is filled. -/
theorem TabOk.at {L : List Ent} {T : List KRow} (h : TabOk L T) {i : Nat} (hi : i < T.length) (hk : T[i].kn = true) : T[i] = krow L i := by
  obtain ⟨_, _, h3, h4⟩ := (h i hi).1 hk
  cases hr : T[i] with
  | mk a b c =>
    rw [hr] at h3 h4 hk
    simp only at h3 h4 hk
    unfold krow
    rw [h3, h4, hk]

/-- The stack: from the first, which was asked for, each is a child of the one before; none is filled. -/
structure Stk (T : List KRow) (id : Int) (td : List Int) : Prop where
  rng : ∀ x ∈ td, 1 ≤ x ∧ x ≤ id
  un : ∀ x ∈ td, ∀ h : x.toNat < T.length, T[x.toNat].kn = false
  dec : td.Pairwise (fun a b => b < a)

theorem Stk.nil (T : List KRow) (id : Int) : Stk T id [] := ⟨fun _ h => by simp at h, fun _ h => by simp at h, List.Pairwise.nil⟩
theorem Stk.one {T : List KRow} {id : Int} (h : 1 ≤ id) (hu : ∀ h : id.toNat < T.length, T[id.toNat].kn = false) : Stk T id [id] :=
  ⟨fun x hx => by simp at hx; omega, fun x hx => by simp at hx; subst hx; exact hu, by simp⟩
theorem Stk.push {T : List KRow} {id x y : Int} {td : List Int} (h : Stk T id (td ++ [x])) (hy : 1 ≤ y) (hyx : y < x) (hu : ∀ h : y.toNat < T.length, T[y.toNat].kn = false) : Stk T id (td ++ [x] ++ [y]) := by
  refine ⟨fun z hz => ?_, fun z hz => ?_, ?_⟩
  · rcases List.mem_append.1 hz with hz | hz
    · exact h.rng z hz
    · simp at hz; subst hz
      have := h.rng x (by simp)
      omega
  · rcases List.mem_append.1 hz with hz | hz
    · exact h.un z hz
    · simp at hz; subst hz; exact hu
  · rw [List.pairwise_append]
    refine ⟨h.dec, by simp, fun a ha b hb => ?_⟩
    simp at hb; subst hb
    rcases List.mem_append.1 ha with ha | ha
    · have := (List.pairwise_append.1 h.dec).2.2 a ha x (by simp)
      omega
    · simp at ha; subst ha; exact hyx
theorem Stk.pop {T : List KRow} {id x : Int} {td : List Int} {r : KRow} (h : Stk T id (td ++ [x])) : Stk (T.set x.toNat r) id td := by
  refine ⟨fun z hz => h.rng z (by simp [hz]), fun z hz hl => ?_, (List.pairwise_append.1 h.dec).1⟩
  have hx := h.rng x (by simp)
  have hz1 := h.rng z (by simp [hz])
  have := (List.pairwise_append.1 h.dec).2.2 z hz x (by simp)
  rw [List.length_set] at hl
  rw [List.getElem_set_ne (by omega)]
  exact h.un z (by simp [hz]) hl

end Go.Proofs.YtodmpcnpedpheaaGreatDoor

/- append(s, make([]T, m)...): zeros behind a slice that the call owns. -/
set_option linter.unusedSimpArgs false
set_option linter.unusedVariables false
namespace Go.Proofs.YtodmpcnpedpheaaGreatDoor
open Go.RowKit

theorem wrap_nat63 {m : Nat} (h : m ≤ maxLen) : IntKind.i64.wrap (m : Int) = m := by
  simp only [maxLen] at h
  simp [IntKind.wrap, IntKind.bits, IntKind.signed]
  omega

set_option maxHeartbeats 1000000 in
theorem run_zeros {P : Program} (w : World) (base : Nat) (t tn ty e : TypeId) (i : TypeInfo) (z : Value) (size bytes : Nat) (ht : P.underlying t = some (.slice e)) (htn : P.underlying tn = some (.int .i64)) (hi : P.info? e = some i) (hz : i.zero = some z)
    (hsize : i.size = size) (hby : i.bytes = bytes) (hzs : z.cells.size = size) (hsz : 0 < size)
    (v : Value) (n : Nat) (xs : List Value) (hown : w.ownsRow base e size v n xs) (m : Nat) (hm : 0 < m)
    (h1 : ∀ u ∈ (Builtin.zeroCells z.cells m).toList, u.oneCell' = true) (h63 : n + m ≤ maxLen) (hbytes : (n + m) * bytes ≤ 140737488355328) (hbase : base ≤ w.heap.size) :
    ∃ v' w', (Builtin.append_ #[t, tn] ty #[v, .int .i64 m]).run P w = .ok v' w' ∧ w'.ownsRow base e size v' (n + m) (xs ++ (Builtin.zeroCells z.cells m).toList) ∧ w.grownBy w' v.ownBlock ∧ (v'.ownBlock = v.ownBlock ∨ v'.ownBlock = some w.heap.size) := by
  subst hsize
  subst hby
  have hsmall : n + m ≤ 9223372036854775807 := by simp only [maxLen] at h63; omega
  have hwr : IntKind.i64.wrap (m : Int) = m := wrap_nat63 (by omega)
  have hl : (Builtin.zeroCells z.cells m).toList.length = m * i.size := by rw [Array.length_toList, size_zeroCells, hzs]
  have hnz : m * i.size ≠ 0 := by
    have := Nat.mul_pos hm hsz
    omega
  have hlen : (xs ++ (Builtin.zeroCells z.cells m).toList).length = (n + m) * i.size := by rw [List.length_append, hown.1, hl, Nat.add_mul]
  have hmb : m * i.bytes ≤ 140737488355328 := Nat.le_trans (Nat.mul_le_mul_right _ (by omega)) hbytes
  have hb48 : ¬ (281474976710656 < (m : Int) * (i.bytes : Int)) := by
    rw [← Int.natCast_mul]; omega
  have hneg : ¬ ((m : Int) < 0) := by omega
  have h63' : ¬ (9223372036854775807 < ((n : Int) + (m : Int))) := by omega
  rcases hown.2 with ⟨rfl, rfl⟩ | ⟨g, cap, cur, rfl, hbg, hg, hnc, hcm, hcs, htake⟩
  · have hx : xs = [] := List.eq_nil_of_length_eq_zero (by simpa using hown.1)
    subst hx
    have h48' : ¬ (281474976710656 < Builtin.nextslicecap m 0 * i.bytes) := by
      have := growslice_fits (need := m) (old := 0) (by omega) hmb
      omega
    have hm0 : ¬ m = 0 := by omega
    have hge := grownCap_ge w m 0 e
    have hcm : grownCap w m 0 e ≤ maxLen := grownCap_le_maxLen w m 0 e (by omega)
    refine ⟨.slice (some ⟨w.heap.size, 0, none⟩) m (grownCap w m 0 e), w.drew.alloc (.cells (Builtin.zeroCells z.cells m ++ Builtin.zeroCells z.cells (grownCap w m 0 e - m)) e), ?_, ?_, ?_, .inr rfl⟩
    · simp [Builtin.append_, run_underlying ht, run_underlying htn, sizeOf, typeInfo, zeroValue, hi, hz, asInt, asIntOf, hwr, hneg, hb48, hm0, hnz, h63', h48', Builtin.firstCells, Question.forced, newRow, grownCap]
      intro h; omega
    · rw [Nat.zero_add, List.nil_append]
      rw [Nat.zero_add, List.nil_append] at hlen
      refine ⟨hlen, .inr ⟨w.heap.size, _, _, rfl, hbase, heap_alloc_new w.drew _, by omega, hcm, ?_, ?_⟩⟩
      · rw [Array.size_append, size_zeroCells, size_zeroCells, hzs, ← Nat.add_mul]
        congr 1
        omega
      · rw [Array.toList_append, ← hl]
        exact List.take_left
    · exact ⟨rfl, rfl, rfl, by simp, fun k hk _ => Go.heap_alloc_old w.drew _ (by simpa using hk)⟩
  · by_cases hroom : n + m ≤ cap
    · have hfit : n * i.size + (Builtin.zeroCells z.cells m).toList.length ≤ cur.size := by rw [hl, hcs, ← Nat.add_mul]; exact Nat.mul_le_mul_right _ hroom
      have hst := run_storeCells_at P g (n * i.size) e (Builtin.zeroCells z.cells m).toList 0 cur w hg (by simpa using hfit) h1
      simp only [Nat.add_zero] at hst
      refine ⟨.slice (some ⟨g, 0, none⟩) (n + m) cap, w.setRow g (cur.toList.take (n * i.size) ++ (Builtin.zeroCells z.cells m).toList ++ cur.toList.drop (n * i.size + (Builtin.zeroCells z.cells m).toList.length)).toArray, ?_, ?_, ?_, .inl rfl⟩
      · simp [Builtin.append_, run_underlying ht, run_underlying htn, sizeOf, typeInfo, zeroValue, hi, hz, asInt, asIntOf, hwr, hneg, hb48, hnz, hroom, Addr.add_lit, hst]
      · refine ⟨hlen, .inr ⟨g, cap, _, rfl, hbg, setRow_heap w g cur _ e _ hg, hroom, hcm, ?_, ?_⟩⟩
        · simp only [List.size_toArray, List.length_append, List.length_take, List.length_drop, Array.length_toList] at hfit ⊢
          omega
        · rw [htake, ← hlen]
          exact List.take_left
      · exact ⟨rfl, rfl, rfl, by simp, fun k _ hk => setRow_other w g k _ (fun e => hk (by simp [Value.ownBlock, e]))⟩
    · have holds : ∀ j u, xs[j]? = some u → w.cell? ((⟨g, 0, none⟩ : Addr).add j) = some u := hown.cells (g := g) rfl
      have h48' : ¬ (281474976710656 < Builtin.nextslicecap (n + m) cap * i.bytes) := by
        have := growslice_fits (need := n + m) (old := cap) (by omega) hbytes
        omega
      have hfo := run_firstCells_some (P := P) w.drew i.size n ⟨g, 0, none⟩ n cap xs hown.1 (by simpa using holds)
      have hge := grownCap_ge w (n + m) cap e
      have hcm2 : grownCap w (n + m) cap e ≤ maxLen := grownCap_le_maxLen w (n + m) cap e h63
      refine ⟨.slice (some ⟨w.heap.size, 0, none⟩) (n + m) (grownCap w (n + m) cap e), w.drew.alloc (.cells (xs.toArray ++ Builtin.zeroCells z.cells m ++ Builtin.zeroCells z.cells (grownCap w (n + m) cap e - (n + m))) e), ?_, ?_, ?_, .inr rfl⟩
      · simp [Builtin.append_, run_underlying ht, run_underlying htn, sizeOf, typeInfo, zeroValue, hi, hz, asInt, asIntOf, hwr, hneg, hb48, hnz, hroom, h63', h48', hfo, Question.forced, newRow, grownCap]
      · refine ⟨hlen, .inr ⟨w.heap.size, _, _, rfl, hbase, heap_alloc_new w.drew _, by omega, hcm2, ?_, ?_⟩⟩
        · simp only [Array.size_append, List.size_toArray, size_zeroCells, hzs, hown.1, ← Nat.add_mul]
          congr 1
          omega
        · simp only [Array.toList_append]
          rw [← hlen]
          exact List.take_left
      · exact ⟨rfl, rfl, rfl, by simp, fun k hk _ => Go.heap_alloc_old w.drew _ (by simpa using hk)⟩

/-- The same, as one step of a region that draws. -/
theorem step_zeros {P : Program} {w : World} {ops : Array Oper} {o : Oper} {a : Act} {K : Act → World → Prop} {Q : Exit → Act → World → Prop} {E : Prop} (hgd : o.guard = none) (s x : Operand) (t tn : TypeId)
    (ho : o.op = .call { callee := .builtin .append, args := #[s, x], argTypes := #[t, tn] })
    (base : Nat) (e : TypeId) (i : TypeInfo) (z : Value) (size bytes : Nat) (ht : P.underlying t = some (.slice e)) (htn : P.underlying tn = some (.int .i64)) (hi : P.info? e = some i) (hz : i.zero = some z)
    (hsize : i.size = size) (hby : i.bytes = bytes) (hzs : z.cells.size = size) (hsz : 0 < size)
    (v : Value) (n : Nat) (xs : List Value) (hs : a.eval s = v) (hown : w.ownsRow base e size v n xs) (m : Nat) (hx : a.eval x = .int .i64 m) (hm : 0 < m)
    (h1 : ∀ u ∈ (Builtin.zeroCells z.cells m).toList, u.oneCell' = true) (h63 : n + m ≤ maxLen) (hbytes : (n + m) * bytes ≤ 140737488355328) (hbase : base ≤ w.heap.size)
    (hK : ∀ v' w', w'.ownsRow base e size v' (n + m) (xs ++ (Builtin.zeroCells z.cells m).toList) → w.grownBy w' v.ownBlock → (v'.ownBlock = v.ownBlock ∨ v'.ownBlock = some w.heap.size) → K (a.put o.dst v') w') :
    if Region.wanted o (yielded ops a.tmps) = true then Oper.wp P o a w K Q else E := by
  have hw : Region.wanted o (yielded ops a.tmps) = true := by simp [Region.wanted, hgd]
  rw [if_pos hw]
  obtain ⟨v', w', hr, h2, h3, h4⟩ := run_zeros (P := P) w base t tn o.type e i z size bytes ht htn hi hz hsize hby hzs hsz v n xs hown m hm h1 h63 hbytes hbase
  unfold Oper.wp execOp
  simp only [ho, resolve, invoke, builtin, Sem.run_bind, Sem.run_pure, Result.andThen_ok, List.map_toArray, List.map_cons, List.map_nil, hs, hx, hr]
  exact hK _ _ h2 h3 h4

theorem zeroRows : ∀ m : Nat, (Builtin.zeroCells #[.int .u64 0, .int .i64 0, .bool false] m).toList = (List.replicate m blankR).flatMap KRow.vals
  | 0 => by simp [Builtin.zeroCells]
  | m + 1 => by
    rw [List.replicate_succ', List.flatMap_append, ← zeroRows m]
    simp [Builtin.zeroCells, List.range_succ, show (m + 1) * 3 = m * 3 + 1 + 1 + 1 by omega, KRow.vals, blankR, Nat.add_mod, Nat.mul_mod_left]

theorem zeroRows_one (m : Nat) : ∀ u ∈ (Builtin.zeroCells (Value.agg #[.int .u64 0, .int .i64 0, .bool false]).cells m).toList, u.oneCell' = true := by
  intro u hu
  have e : (Builtin.zeroCells (Value.agg #[.int .u64 0, .int .i64 0, .bool false]).cells m).toList = _ := zeroRows m
  rw [e] at hu
  rw [List.mem_flatMap] at hu
  obtain ⟨r, hr, hu⟩ := hu
  obtain ⟨_, rfl⟩ := List.mem_replicate.1 hr
  simp [KRow.vals, blankR] at hu
  rcases hu with rfl | rfl | rfl <;> rfl

end Go.Proofs.YtodmpcnpedpheaaGreatDoor

/- Rows of a blame, and the walk of builder.add. -/
set_option linter.unusedSimpArgs false
set_option linter.unusedVariables false
namespace Go.Proofs.YtodmpcnpedpheaaGreatDoor
open Go.RowKit

structure Rw where
  fr : Int
  n : Int
  ver : Int
  org : Int
deriving DecidableEq, Inhabited

def Rw.vals (r : Rw) : List Value := [.int .i64 r.fr, .int .i64 r.n, .int .i64 r.ver, .int .i64 r.org]

end Go.Proofs.YtodmpcnpedpheaaGreatDoor

/- The walk of builder.add where the last row goes on. -/
set_option linter.unusedSimpArgs false
set_option linter.unusedVariables false
namespace Go.Proofs.YtodmpcnpedpheaaGreatDoor
open Go.RowKit

theorem owns_set_own {w : World} {base : Nat} {e : TypeId} {size n cap g : Nat} {xs : List Value} (h : w.ownsRow base e size (.slice (some ⟨g, 0, none⟩) n cap) n xs) (j : Nat) (u : Value) (hj : j < xs.length) : (w.setCell ⟨g, j, none⟩ u).ownsRow base e size (.slice (some ⟨g, 0, none⟩) n cap) n (xs.set j u) := by
  refine ⟨by rw [List.length_set]; exact h.1, .inr ?_⟩
  rcases h.2 with ⟨h1, _⟩ | ⟨g', cap', cur, h1, hb, hg, h2, h3, h4, h5⟩
  · cases h1
  · simp only [Value.slice.injEq, Option.some.injEq, Addr.mk.injEq] at h1
    obtain ⟨⟨rfl, _, _⟩, _, rfl⟩ := h1
    refine ⟨g, cap, _, rfl, hb, setCell_block hg j u, h2, h3, by simpa using h4, ?_⟩
    rw [← h5, Array.toList_setIfInBounds, List.take_set]

end Go.Proofs.YtodmpcnpedpheaaGreatDoor

/- Readers of texts (plain): what is left to read, and that opening a symbol leaves it as it is. -/
set_option linter.unusedSimpArgs false
set_option linter.unusedVariables false
namespace Go.Proofs.YtodmpcnpedpheaaGreatDoor
open Go.RowKit

/-- The letters of an ID as a reader meets them. -/
def txB (L : List Ent) (back : Bool) (id : Int) : List Int := if back then (txt L id).reverse else txt L id

/-- What is left to read: the last group is the next. -/
def restG (L : List Ent) (back : Bool) (td : List (Int × Int)) : List Int := (td.reverse.map fun p => reps (txB L back p.1) p.2.toNat).flatten

/-- A group of a signature symbol. -/
structure GOk (L : List Ent) (p : Int × Int) : Prop where
  kn : isKnown L p.1
  ne : p.1 ≠ 0
  lv : 0 ≤ klev L p.1
  tm : 1 ≤ p.2

/-- What a symbol refers to, the next one last. -/
def opnG (L : List Ent) (back : Bool) (id : Int) : List (Int × Int) :=
  if (entAt L id).rule.kind = 3 then [((entAt L id).rule.left, (entAt L id).rule.times)]
  else if (entAt L id).rule.kind = 2 then (if back then [((entAt L id).rule.left, 1), ((entAt L id).rule.right, 1)] else [((entAt L id).rule.right, 1), ((entAt L id).rule.left, 1)])
  else []

theorem restG_push (L : List Ent) (back : Bool) (td : List (Int × Int)) (p : Int × Int) : restG L back (td ++ [p]) = reps (txB L back p.1) p.2.toNat ++ restG L back td := by
  unfold restG; rw [List.reverse_append]; rfl

theorem restG_nil (L : List Ent) (back : Bool) : restG L back [] = [] := rfl

theorem reps_zero (t : List Int) : reps t 0 = [] := rfl
theorem reps_one (t : List Int) : reps t 1 = t := by rw [reps_succ, reps_zero, List.append_nil]
theorem reps_add (t : List Int) : ∀ a b : Nat, reps t (a + b) = reps t a ++ reps t b
  | 0, b => by rw [Nat.zero_add, reps_zero]; rfl
  | a + 1, b => by rw [show a + 1 + b = (a + b) + 1 by omega, reps_succ, reps_add t a b, reps_succ, List.append_assoc]
theorem reps_reverse (t : List Int) : ∀ k : Nat, (reps t k).reverse = reps t.reverse k
  | 0 => rfl
  | k + 1 => by rw [show k + 1 = k + 1 from rfl, reps_add t k 1, reps_one, List.reverse_append, reps_reverse t k, reps_succ]

/-- The children of a signature symbol. -/
theorem kids_ok {L : List Ent} {back : Bool} (hS : SOk L) (hD : DOk L) {id : Int} (hk : isKnown L id) (h0 : id ≠ 0) (hl : 0 ≤ klev L id) : ∀ p ∈ opnG L back id, GOk L p ∧ p.1 < id := by
  have h1 := hk.1
  have h2 := hk.2
  intro p hp
  unfold opnG at hp
  rcases hD.at id hk h0 with ⟨g1, _⟩ | ⟨g1, g2, _⟩ | ⟨g1, g2, g3⟩
  · rw [if_neg (by rw [g1]; decide), if_neg (by rw [g1]; decide)] at hp; simp at hp
  · have e := (kl_pair hD hk h0 g1).2
    have hc : (entAt L id).rule.left ≠ (entAt L id).rule.right ∧ 0 ≤ klev L (entAt L id).rule.left ∧ 0 ≤ klev L (entAt L id).rule.right := by
      by_cases c : (entAt L id).rule.left ≠ (entAt L id).rule.right ∧ 0 ≤ klev L (entAt L id).rule.left ∧ 0 ≤ klev L (entAt L id).rule.right
      · exact c
      · rw [if_neg c] at e; omega
    rw [if_neg (by rw [g1]; decide), if_pos g1] at hp
    have hh : p = ((entAt L id).rule.left, 1) ∨ p = ((entAt L id).rule.right, 1) := by
      cases back <;> simp at hp <;> rcases hp with h | h <;> simp [h]
    rcases hh with rfl | rfl
    · exact ⟨⟨⟨by show (0 : Int) ≤ (entAt L id).rule.left; omega, by show (entAt L id).rule.left ≤ _; omega⟩, by show (entAt L id).rule.left ≠ 0; omega, hc.2.1, by show (1 : Int) ≤ 1; omega⟩, g2.2.1⟩
    · exact ⟨⟨⟨by show (0 : Int) ≤ (entAt L id).rule.right; omega, by show (entAt L id).rule.right ≤ _; omega⟩, by show (entAt L id).rule.right ≠ 0; omega, hc.2.2, by show (1 : Int) ≤ 1; omega⟩, g2.2.2.2⟩
  · have e := (kl_power hD hk h0 g1).2
    have hc : 0 ≤ klev L (entAt L id).rule.left := by
      by_cases c : 0 ≤ klev L (entAt L id).rule.left ∧ klev L (entAt L id).rule.left % 2 = 0
      · exact c.1
      · rw [if_neg c] at e; omega
    rw [if_pos g1] at hp
    simp only [List.mem_cons, List.not_mem_nil, or_false] at hp
    subst hp
    have ht : 1 ≤ (entAt L id).rule.times := by
      have hw := ((hS.at id hk).2.2.2 h0).1
      rcases Int.lt_or_le 0 (entAt L id).rule.times with c | c
      · exact c
      · exfalso
        have hx := txt_len hD hS _ id (Nat.le_refl _) hk
        rw [txt_pow hD hk h0 g1, show (entAt L id).rule.times.toNat = 0 by omega, reps_zero] at hx
        simp at hx
        omega
    exact ⟨⟨⟨by show (0 : Int) ≤ (entAt L id).rule.left; omega, by show (entAt L id).rule.left ≤ _; omega⟩, by show (entAt L id).rule.left ≠ 0; omega, hc, ht⟩, g2.2⟩

/-- Opening a symbol leaves what is left. -/
theorem restG_open {L : List Ent} (hD : DOk L) {back : Bool} {id : Int} (hk : isKnown L id) (h0 : id ≠ 0) (h1 : (entAt L id).rule.kind ≠ 1) (td : List (Int × Int)) :
    restG L back (td ++ opnG L back id) = txB L back id ++ restG L back td := by
  unfold opnG
  rcases hD.at id hk h0 with ⟨g1, _⟩ | ⟨g1, g2, _⟩ | ⟨g1, g2, g3⟩
  · exact absurd g1 h1
  · rw [if_neg (by rw [g1]; decide), if_pos g1]
    cases back with
    | true =>
      rw [if_pos rfl, show td ++ [((entAt L id).rule.left, (1 : Int)), ((entAt L id).rule.right, 1)] = (td ++ [((entAt L id).rule.left, (1 : Int))]) ++ [((entAt L id).rule.right, 1)] by simp, restG_push, restG_push]
      show reps _ 1 ++ (reps _ 1 ++ _) = _
      rw [reps_one, reps_one]
      unfold txB
      rw [if_pos rfl, if_pos rfl, if_pos rfl, txt_pair hD hk h0 g1, List.reverse_append, List.append_assoc]
    | false =>
      rw [if_neg (by decide), show td ++ [((entAt L id).rule.right, (1 : Int)), ((entAt L id).rule.left, 1)] = (td ++ [((entAt L id).rule.right, (1 : Int))]) ++ [((entAt L id).rule.left, 1)] by simp, restG_push, restG_push]
      show reps _ 1 ++ (reps _ 1 ++ _) = _
      rw [reps_one, reps_one]
      unfold txB
      rw [if_neg (by decide), if_neg (by decide), if_neg (by decide), txt_pair hD hk h0 g1, List.append_assoc]
  · rw [if_pos g1, restG_push]
    dsimp only
    congr 1
    unfold txB
    cases back with
    | true => rw [if_pos rfl, if_pos rfl, txt_pow hD hk h0 g1, reps_reverse]
    | false => rw [if_neg (by decide), if_neg (by decide), txt_pow hD hk h0 g1]

/-- Copies of the next group taken away. -/
def drpG (td : List (Int × Int)) (x k : Int) : List (Int × Int) := if k = 0 then td else td ++ [(x, k)]

theorem restG_drop (L : List Ent) (back : Bool) (td : List (Int × Int)) (x k j : Int) (hj : 0 ≤ j) (hk : j ≤ k) :
    restG L back (td ++ [(x, k)]) = reps (txB L back x) j.toNat ++ restG L back (drpG td x (k - j)) := by
  rw [restG_push]
  unfold drpG
  dsimp only
  rw [show k.toNat = j.toNat + (k - j).toNat by omega, reps_add, List.append_assoc]
  congr 1
  split
  · rename_i h
    rw [h]; rfl
  · rw [restG_push]

theorem txB_len (L : List Ent) (back : Bool) (id : Int) : (txB L back id).length = (txt L id).length := by
  unfold txB; split <;> simp

/-- How much can still be opened. -/
def potG (L : List Ent) : List (Int × Int) → Nat
  | [] => 0
  | p :: r => p.2.toNat * ((txt L p.1).length - 1) + potG L r

theorem potG_append (L : List Ent) : ∀ a b : List (Int × Int), potG L (a ++ b) = potG L a + potG L b
  | [], b => by simp [potG]
  | p :: r, b => by
    show _ + potG L (r ++ b) = _ + potG L r + potG L b
    rw [potG_append L r b]; omega

theorem txt_pos {L : List Ent} (hS : SOk L) (hD : DOk L) {id : Int} (hk : isKnown L id) (h0 : id ≠ 0) : 1 ≤ (txt L id).length := by
  have h := txt_len hD hS _ id (Nat.le_refl _) hk
  have := ((hS.at id hk).2.2.2 h0).1
  omega

/-- Opening brings the end nearer (times: a power has two copies or more). -/
theorem potG_open {L : List Ent} (hS : SOk L) (hD : DOk L) {back : Bool} {id : Int} (hk : isKnown L id) (h0 : id ≠ 0) (h1 : (entAt L id).rule.kind ≠ 1) (ht : (entAt L id).rule.kind = 3 → 2 ≤ (entAt L id).rule.times) :
    potG L (opnG L back id) + 1 ≤ (txt L id).length - 1 := by
  unfold opnG
  rcases hD.at id hk h0 with ⟨g1, _⟩ | ⟨g1, g2, _⟩ | ⟨g1, g2, g3⟩
  · exact absurd g1 h1
  · have hl := txt_pair hD hk h0 g1
    have p1 := txt_pos hS hD (id := (entAt L id).rule.left) ⟨by omega, by have := hk.2; omega⟩ (by omega)
    have p2 := txt_pos hS hD (id := (entAt L id).rule.right) ⟨by omega, by have := hk.2; omega⟩ (by omega)
    have hl' := congrArg List.length hl
    rw [List.length_append] at hl'
    rw [if_neg (by rw [g1]; decide), if_pos g1]
    cases back with
    | true =>
      rw [if_pos rfl]
      simp only [potG, show ((1 : Int)).toNat = 1 by decide, Nat.one_mul]
      omega
    | false =>
      rw [if_neg (by decide)]
      simp only [potG, show ((1 : Int)).toNat = 1 by decide, Nat.one_mul]
      omega
  · have hl := txt_pow hD hk h0 g1
    have p1 := txt_pos hS hD (id := (entAt L id).rule.left) ⟨by omega, by have := hk.2; omega⟩ (by omega)
    have hl' := congrArg List.length hl
    rw [reps_len] at hl'
    have h2 := ht g1
    rw [if_pos g1]
    simp only [potG, Nat.add_zero]
    obtain ⟨m, hm⟩ : ∃ m, (entAt L id).rule.times.toNat = m + 2 := ⟨(entAt L id).rule.times.toNat - 2, by omega⟩
    rw [hm] at hl' ⊢
    obtain ⟨q, hq⟩ : ∃ q, (txt L (entAt L id).rule.left).length = q + 1 := ⟨(txt L (entAt L id).rule.left).length - 1, by omega⟩
    rw [hq] at hl' ⊢
    rw [hl', show q + 1 - 1 = q by omega, Nat.mul_add, Nat.mul_one]
    generalize (m + 2) * q = z
    omega

theorem restG_append (L : List Ent) (back : Bool) (a b : List (Int × Int)) : restG L back (a ++ b) = restG L back b ++ restG L back a := by
  unfold restG; rw [List.reverse_append, List.map_append, List.flatten_append]

theorem potG_le (L : List Ent) (back : Bool) : ∀ td : List (Int × Int), potG L td ≤ (restG L back td).length
  | [] => Nat.le_refl _
  | p :: r => by
    have ih := potG_le L back r
    have e : restG L back (p :: r) = restG L back r ++ restG L back [p] := restG_append L back [p] r
    have e2 : restG L back [p] = reps (txB L back p.1) p.2.toNat := by
      show reps (txB L back p.1) p.2.toNat ++ [] = _
      rw [List.append_nil]
    rw [e, e2, List.length_append, reps_len, txB_len]
    have h : p.2.toNat * ((txt L p.1).length - 1) ≤ p.2.toNat * (txt L p.1).length := Nat.mul_le_mul_left _ (Nat.sub_le _ _)
    show p.2.toNat * ((txt L p.1).length - 1) + potG L r ≤ _
    omega

/-- The end of many copies. -/
theorem drop_reps (t : List Int) {m q n' : Nat} (h : q + 1 ≤ m) (h1 : n' ≤ t.length) : (reps t m).drop (m * t.length - (q * t.length + n')) = t.drop (t.length - n') ++ reps t q := by
  obtain ⟨j, rfl⟩ : ∃ j, m = j + (q + 1) := ⟨m - (q + 1), by omega⟩
  rw [reps_add, reps_succ]
  have e : (j + (q + 1)) * t.length - (q * t.length + n') = (reps t j).length + (t.length - n') := by
    rw [reps_len, Nat.add_mul, Nat.add_mul, Nat.one_mul]
    omega
  rw [e, List.drop_append, List.drop_eq_nil_of_le (by omega), List.nil_append, Nat.add_sub_cancel_left, List.drop_append_of_le_length (by omega)]

/-- The last n letters of a symbol's text, and what lies behind. -/
def tailG (L : List Ent) (back : Bool) (id : Int) (n : Nat) : List Int := (txB L back id).drop ((txB L back id).length - n)

theorem tailG_all (L : List Ent) (back : Bool) (id : Int) : tailG L back id (txt L id).length = txB L back id := by
  unfold tailG; rw [txB_len, Nat.sub_self, List.drop_zero]

theorem tailG_pow {L : List Ent} (hD : DOk L) (back : Bool) {id : Int} (hk : isKnown L id) (h0 : id ≠ 0) (h3 : (entAt L id).rule.kind = 3) {q n' : Nat} (hn' : n' ≤ (txt L (entAt L id).rule.left).length) (hq : q + 1 ≤ (entAt L id).rule.times.toNat) :
    tailG L back id (q * (txt L (entAt L id).rule.left).length + n') = tailG L back (entAt L id).rule.left n' ++ reps (txB L back (entAt L id).rule.left) q := by
  have e : txB L back id = reps (txB L back (entAt L id).rule.left) (entAt L id).rule.times.toNat := by
    unfold txB
    cases back with
    | true => rw [if_pos rfl, if_pos rfl, txt_pow hD hk h0 h3, reps_reverse]
    | false => rw [if_neg (by decide), if_neg (by decide), txt_pow hD hk h0 h3]
  unfold tailG
  rw [e, reps_len, ← txB_len L back (entAt L id).rule.left]
  exact drop_reps _ hq (by rw [txB_len]; exact hn')

theorem txB_pair {L : List Ent} (hD : DOk L) (back : Bool) {id : Int} (hk : isKnown L id) (h0 : id ≠ 0) (h2 : (entAt L id).rule.kind = 2) :
    txB L back id = txB L back (if back then (entAt L id).rule.right else (entAt L id).rule.left) ++ txB L back (if back then (entAt L id).rule.left else (entAt L id).rule.right) := by
  unfold txB
  cases back with
  | true => rw [if_pos rfl, if_pos rfl, if_pos rfl, if_pos rfl, if_pos rfl, txt_pair hD hk h0 h2, List.reverse_append]
  | false => rw [if_neg (by decide), if_neg (by decide), if_neg (by decide), if_neg (by decide), if_neg (by decide), txt_pair hD hk h0 h2]

theorem tailG_far {L : List Ent} (hD : DOk L) (back : Bool) {id : Int} (hk : isKnown L id) (h0 : id ≠ 0) (h2 : (entAt L id).rule.kind = 2) {n : Nat} (hn : n ≤ (txt L (if back then (entAt L id).rule.left else (entAt L id).rule.right)).length) :
    tailG L back id n = tailG L back (if back then (entAt L id).rule.left else (entAt L id).rule.right) n := by
  unfold tailG
  rw [txB_pair hD back hk h0 h2, List.length_append]
  rw [← txB_len L back] at hn
  rw [show (txB L back (if back then (entAt L id).rule.right else (entAt L id).rule.left)).length + (txB L back (if back then (entAt L id).rule.left else (entAt L id).rule.right)).length - n = (txB L back (if back then (entAt L id).rule.right else (entAt L id).rule.left)).length + ((txB L back (if back then (entAt L id).rule.left else (entAt L id).rule.right)).length - n) by omega, List.drop_append, List.drop_eq_nil_of_le (by omega), List.nil_append, Nat.add_sub_cancel_left]

theorem tailG_near {L : List Ent} (hD : DOk L) (back : Bool) {id : Int} (hk : isKnown L id) (h0 : id ≠ 0) (h2 : (entAt L id).rule.kind = 2) {n : Nat}
    (hn : n ≤ (txt L (if back then (entAt L id).rule.right else (entAt L id).rule.left)).length) :
    tailG L back id (n + (txt L (if back then (entAt L id).rule.left else (entAt L id).rule.right)).length) = tailG L back (if back then (entAt L id).rule.right else (entAt L id).rule.left) n ++ txB L back (if back then (entAt L id).rule.left else (entAt L id).rule.right) := by
  unfold tailG
  rw [txB_pair hD back hk h0 h2, List.length_append]
  rw [← txB_len L back] at hn ⊢
  rw [show (txB L back (if back then (entAt L id).rule.right else (entAt L id).rule.left)).length + (txB L back (if back then (entAt L id).rule.left else (entAt L id).rule.right)).length - (n + (txB L back (if back then (entAt L id).rule.left else (entAt L id).rule.right)).length) = (txB L back (if back then (entAt L id).rule.right else (entAt L id).rule.left)).length - n by omega, List.drop_append_of_le_length (by omega)]

/-- The common prefix behind equal letters. -/
theorem cpl_append (u : List Int) : ∀ a b : List Int, cpl (u ++ a) (u ++ b) = u.length + cpl a b := by
  induction u with
  | nil => intro a b; simp
  | cons x u ih =>
    intro a b
    show (if x = x then cpl (u ++ a) (u ++ b) + 1 else 0) = _
    rw [if_pos rfl, ih, List.length_cons]; omega

theorem cpl_ne {x y : Int} (h : x ≠ y) (a b : List Int) : cpl (x :: a) (y :: b) = 0 := by
  show (if x = y then cpl a b + 1 else 0) = 0
  rw [if_neg h]

end Go.Proofs.YtodmpcnpedpheaaGreatDoor

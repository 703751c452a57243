/- Levels (plain): the least pair level above a level that two keys fit; what a pair level and a run level leave. -/
import Derived.Test.YtodmpcnpedpheaaDoorQAvl0
set_option linter.unusedSimpArgs false
set_option linter.unusedVariables false
namespace Go.Proofs.YtodmpcnpedpheaaDoor
open Go.RowKit

theorem fitN_some {x y : Int} : ∀ (f c n : Nat), fitN x y f c = some n → c ≤ n ∧ n < c + f ∧ fitB n x y = true ∧ ∀ k, c ≤ k → k < n → fitB k x y = false
  | 0, c, n => by intro h; simp [fitN] at h
  | f + 1, c, n => by
    intro h
    unfold fitN at h
    cases hc : fitB c x y with
    | true =>
      rw [hc, if_pos rfl] at h
      simp only [Option.some.injEq] at h
      subst h
      exact ⟨Nat.le_refl _, by omega, hc, fun k h1 h2 => by omega⟩
    | false =>
      rw [hc, if_neg (by decide)] at h
      obtain ⟨h1, h2, h3, h4⟩ := fitN_some f (c + 1) n h
      refine ⟨by omega, by omega, h3, fun k k1 k2 => ?_⟩
      by_cases e : k = c
      · rw [e]; exact hc
      · exact h4 k (by omega) k2

theorem fitN_none {x y : Int} : ∀ (f c : Nat), fitN x y f c = none → ∀ k, c ≤ k → k < c + f → fitB k x y = false
  | 0, c => by intro _ k h1 h2; omega
  | f + 1, c => by
    intro h k k1 k2
    unfold fitN at h
    cases hc : fitB c x y with
    | true => rw [hc, if_pos rfl] at h; cases h
    | false =>
      rw [hc, if_neg (by decide)] at h
      by_cases e : k = c
      · rw [e]; exact hc
      · exact fitN_none f (c + 1) h k (by omega) (by omega)

/-- Two numbers below 2^61 that differ, differ in one of 61 bits. -/
theorem bit_differs {x y : Nat} (hx : x < 2305843009213693952) (hy : y < 2305843009213693952) (h : x ≠ y) : ∃ b, b < 61 ∧ x.testBit b ≠ y.testBit b := by
  have : ¬ ∀ b, b < 61 → x.testBit b = y.testBit b := by
    intro hall
    apply h
    apply Nat.eq_of_testBit_eq
    intro i
    by_cases hi : i < 61
    · exact hall i hi
    · have e : (2305843009213693952 : Nat) = 2 ^ 61 := by decide
      have hp : 2 ^ 61 ≤ 2 ^ i := Nat.pow_le_pow_right (by decide) (by omega)
      rw [Nat.testBit_lt_two_pow (by omega : x < 2 ^ i), Nat.testBit_lt_two_pow (by omega : y < 2 ^ i)]
  rw [Classical.not_forall] at this
  obtain ⟨b, hb⟩ := this
  rw [Classical.not_imp] at hb
  exact ⟨b, hb.1, hb.2⟩

/-- Some number fits. -/
theorem fit_ex {x y : Int} (hx : 0 ≤ x) (hx1 : x < 2305843009213693951) (hy : 0 ≤ y) (hy1 : y < 2305843009213693951) : ∃ c, c < 123 ∧ fitB c x y = true := by
  by_cases h : x = y
  · exact ⟨122, by omega, by unfold fitB; rw [if_pos rfl, h]; simp⟩
  · obtain ⟨b, hb, hd⟩ := bit_differs (x := x.toNat) (y := y.toNat) (by omega) (by omega) (by omega)
    cases h1 : x.toNat.testBit b with
    | true =>
      have h2 : y.toNat.testBit b = false := by rw [h1] at hd; cases h3 : y.toNat.testBit b with | true => rw [h3] at hd; exact absurd rfl hd | false => rfl
      refine ⟨2 * b + 1, by omega, ?_⟩
      unfold fitB
      rw [if_neg (by omega), show (2 * b + 1) / 2 = b by omega, show (2 * b + 1) % 2 = 1 by omega, h1, h2]
      rfl
    | false =>
      have h2 : y.toNat.testBit b = true := by rw [h1] at hd; cases h3 : y.toNat.testBit b with | true => rfl | false => rw [h3] at hd; exact absurd rfl hd
      refine ⟨2 * b, by omega, ?_⟩
      unfold fitB
      rw [if_neg (by omega), show (2 * b) / 2 = b by omega, show (2 * b) % 2 = 0 by omega, h1, h2]
      rfl

/-- Do two keys fit a pair level? -/
def fitL (l x y : Int) : Prop := 2 ≤ l ∧ l % 2 = 0 ∧ fitB ((l / 2 - 1).toNat % 123) x y = true

theorem aftI_spec {low x y : Int} (hl : 0 ≤ low) (hx : 0 ≤ x) (hx1 : x < 2305843009213693951) (hy : 0 ≤ y) (hy1 : y < 2305843009213693951) :
    low < aftI low x y ∧ aftI low x y ≤ low + 492 ∧ fitL (aftI low x y) x y ∧ ∀ l, low < l → l < aftI low x y → ¬ fitL l x y := by
  obtain ⟨c0, hc0, hf0⟩ := fit_ex hx hx1 hy hy1
  have hq : ((low / 2).toNat : Int) = low / 2 := by omega
  generalize hqq : (low / 2).toNat = q at *
  have hlq : low / 2 = (q : Int) := hq.symm
  unfold aftI
  rw [hqq, hlq]
  cases h1 : fitN x y (123 - q % 123) (q % 123) with
  | some n =>
    obtain ⟨g1, g2, g3, g4⟩ := fitN_some _ _ _ h1
    dsimp only
    refine ⟨by omega, by omega, ⟨by omega, by omega, ?_⟩, ?_⟩
    · rw [show ((2 * ((q : Int) + 1 + n - (q % 123 : Nat))) / 2 - 1).toNat % 123 = n by omega]
      exact g3
    · rintro l k1 k2 ⟨k3, k4, k5⟩
      have := g4 ((l / 2 - 1).toNat % 123) (by omega) (by omega)
      rw [this] at k5; cases k5
  | none =>
    have g := fitN_none _ _ h1
    dsimp only
    cases h2 : fitN x y 123 0 with
    | none =>
      have := fitN_none _ _ h2 c0 (by omega) (by omega)
      rw [this] at hf0; cases hf0
    | some n =>
      obtain ⟨g1, g2, g3, g4⟩ := fitN_some _ _ _ h2
      have hn : n < q % 123 := by
        rcases Nat.lt_or_ge n (q % 123) with k | k
        · exact k
        · have := g n k (by omega)
          rw [this] at g3; cases g3
      dsimp only
      refine ⟨by omega, by omega, ⟨by omega, by omega, ?_⟩, ?_⟩
      · rw [show ((2 * ((q : Int) + 1 + n - (q % 123 : Nat) + 123)) / 2 - 1).toNat % 123 = n by omega]
        exact g3
      · rintro l k1 k2 ⟨k3, k4, k5⟩
        by_cases k : (l / 2 - 1).toNat - q < 123 - q % 123
        · have := g ((l / 2 - 1).toNat % 123) (by omega) (by omega)
          rw [this] at k5; cases k5
        · have := g4 ((l / 2 - 1).toNat % 123) (by omega) (by omega)
          rw [this] at k5; cases k5

/-- The least: nothing else is it. -/
theorem aftI_eq {low x y l : Int} (hl : 0 ≤ low) (hx : 0 ≤ x) (hx1 : x < 2305843009213693951) (hy : 0 ≤ y) (hy1 : y < 2305843009213693951)
    (h1 : low < l) (h2 : fitL l x y) (h3 : ∀ k, low < k → k < l → ¬ fitL k x y) : aftI low x y = l := by
  obtain ⟨a1, _, a2, a3⟩ := aftI_spec hl hx hx1 hy hy1
  by_cases c : aftI low x y < l
  · exact absurd a2 (h3 _ a1 c)
  · by_cases d : l < aftI low x y
    · exact absurd h2 (a3 _ h1 d)
    · omega

end Go.Proofs.YtodmpcnpedpheaaDoor

/- The walks of avl.level, avl.join and avl.Join. -/
set_option linter.unusedSimpArgs false
set_option linter.unusedVariables false
namespace Go.Proofs.YtodmpcnpedpheaaDoor
open Go.RowKit

/-- The depth of what level returns. -/
def levD (da db d : Int) : Prop := max da db ≤ d ∧ d ≤ max da db + 1 ∧ (-1 ≤ da - db → da - db ≤ 1 → d = 1 + max da db)

theorem Room.depth {B : Nat} {w : World} {p mb : Nat} {most : Int} {L : List Ent} {n : Nat} (h : Room B w p mb most L n) {a : Int} {s : List Int} {d : Int} (ha : Bal L a s d) : 0 ≤ d ∧ d ≤ 1048576 := by
  have := h.sok.at a ha.known
  rw [ha.depth] at this
  have := h.big
  omega

end Go.Proofs.YtodmpcnpedpheaaDoor

/- The walks of avl.join and avl.Join. -/
set_option linter.unusedSimpArgs false
set_option linter.unusedVariables false
namespace Go.Proofs.YtodmpcnpedpheaaDoor
open Go.RowKit

/-- How many rules join makes at most. -/
def joinN (da db : Int) : Nat := 3 * (max (da - db) (db - da) - 1).toNat + 1
/-- The depth of what join returns. -/
def joinD (da db d : Int) : Prop := max da db ≤ d ∧ d ≤ max da db + 1

/-- A balanced ID of a text, or 0 for the empty text. -/
structure BalZ (L : List Ent) (id : Int) (t : List Int) (d : Int) : Prop where
  known : isKnown L id
  text : txt L id = t
  even : (entAt L id).even = true
  depth : (entAt L id).depth = d

theorem BalZ.bal {L : List Ent} {id : Int} {t : List Int} {d : Int} (h : BalZ L id t d) (h0 : id ≠ 0) : Bal L id t d := ⟨h.known, h0, h.text, h.even, h.depth⟩
theorem Bal.z {L : List Ent} {id : Int} {t : List Int} {d : Int} (h : Bal L id t d) : BalZ L id t d := ⟨h.known, h.text, h.even, h.depth⟩
theorem BalZ.zero (L : List Ent) : BalZ L 0 [] 0 := ⟨⟨by omega, by omega⟩, rfl, rfl, rfl⟩
theorem BalZ.of0 {L : List Ent} {id : Int} {t : List Int} {d : Int} (h : BalZ L id t d) (h0 : id = 0) : t = [] ∧ d = 0 := by
  subst h0
  exact ⟨h.text.symm, h.depth.symm⟩
theorem BalZ.more {L : List Ent} (h : DOk L) {id : Int} {t : List Int} {d : Int} (hb : BalZ L id t d) (M : List Ent) : BalZ (L ++ M) id t d :=
  ⟨isKnown_append M hb.known, by rw [txt_append h M hb.known]; exact hb.text, by rw [entAt_append L M id hb.known]; exact hb.even, by rw [entAt_append L M id hb.known]; exact hb.depth⟩
theorem Grows.balz {L L' : List Ent} {n : Nat} (h : Grows L L' n) (hd : DOk L) {id : Int} {t : List Int} {d : Int} (hb : BalZ L id t d) : BalZ L' id t d := by
  obtain ⟨M, e⟩ := h.ext
  rw [e]; exact hb.more hd M
theorem BalZ.len {L : List Ent} {id : Int} {t : List Int} {d : Int} (h : BalZ L id t d) (hd : DOk L) (hs : SOk L) : (t.length : Int) = (entAt L id).wt.len := by
  have := bal_len hd hs id.toNat id (Nat.le_refl _) h.known h.even
  rw [h.text] at this; exact this
theorem BalZ.ne {L : List Ent} {id : Int} {t : List Int} {d : Int} (h : BalZ L id t d) (ht : t ≠ []) : id ≠ 0 := fun e => ht (h.of0 e).1
theorem Bal.pos {L : List Ent} {id : Int} {t : List Int} {d : Int} (h : Bal L id t d) (hd : DOk L) (hs : SOk L) : 1 ≤ t.length := by
  have := h.z.len hd hs
  have := (hs.at id h.known).2.2.2 h.ne
  omega

/-- A call that makes a balanced text or 0. -/
def ZPost (B : Nat) (w : World) (p mb : Nat) (most : Int) (L : List Ent) (t : List Int) (D : Int → Nat → Prop) (e : Ending) (w' : World) : Prop :=
  ∃ L' id d k, e = .returned (.tuple #[.int .i64 id, .nilIface]) ∧ Sto B w' p mb most L' ∧ Kp B mb w w' ∧ Grows L L' k ∧ BalZ L' id t d ∧ D d k

theorem APost.z {B : Nat} {w : World} {p mb : Nat} {most : Int} {L : List Ent} {t : List Int} {D : Int → Nat → Prop} {e : Ending} {w' : World} (h : APost B w p mb most L t D e w') : ZPost B w p mb most L t D e w' := by
  obtain ⟨L', id, d, k, h1, h2, h3, h4, h5, h6⟩ := h
  exact ⟨L', id, d, k, h1, h2, h3, h4, h5.z, h6⟩
theorem ZPost.ret {B : Nat} {w : World} {p mb : Nat} {most : Int} {L : List Ent} {t : List Int} {D : Int → Nat → Prop} {e : Ending} {w' : World} (h : ZPost B w p mb most L t D e w') : ∃ id, e = .returned (.tuple #[.int .i64 id, .nilIface]) := by
  obtain ⟨L', id, d, k, h1, _⟩ := h
  exact ⟨id, h1⟩
theorem ZPost.mono {B : Nat} {w : World} {p mb : Nat} {most : Int} {L : List Ent} {t u : List Int} {D E : Int → Nat → Prop} {e : Ending} {w' : World} (h : ZPost B w p mb most L t D e w') (ht : t = u) (hD : ∀ d k, D d k → E d k) : ZPost B w p mb most L u E e w' := by
  obtain ⟨L', id, d, k, h1, h2, h3, h4, h5, h6⟩ := h
  subst ht
  exact ⟨L', id, d, k, h1, h2, h3, h4, h5, hD d k h6⟩
theorem ZPost.before {B : Nat} {w w1 : World} {p mb : Nat} {most : Int} {L : List Ent} {t : List Int} {D : Int → Nat → Prop} {e : Ending} {w' : World} (h0 : Fr0 w w1) (h : ZPost B w1 p mb most L t D e w') : ZPost B w p mb most L t D e w' := by
  obtain ⟨L', id, d, k, h1, h2, h3, h4, h5, h6⟩ := h
  exact ⟨L', id, d, k, h1, h2, (Kp.of0 h0).trans h3, h4, h5, h6⟩
theorem ZPost.next {B : Nat} {w w1 : World} {p mb : Nat} {most : Int} {L L1 : List Ent} {k1 : Nat} {t : List Int} {D E : Int → Nat → Prop} {e : Ending} {w' : World} (hK : Kp B mb w w1) (hg : Grows L L1 k1) (h : ZPost B w1 p mb most L1 t D e w') (hD : ∀ d k, D d k → E d (k1 + k)) : ZPost B w p mb most L t E e w' := by
  obtain ⟨L', id, d, k, h1, h2, h3, h4, h5, h6⟩ := h
  exact ⟨L', id, d, k1 + k, h1, h2, hK.trans h3, hg.trans h4 (Nat.le_refl _), h5, hD d k h6⟩
/-- Nothing was made: an ID of the store. -/
theorem ZPost.same {B : Nat} {w w' : World} {p mb : Nat} {most : Int} {L : List Ent} {n : Nat} (hR : Room B w p mb most L n) (hf : Fr0 w w') {id : Int} {t : List Int} {d : Int} (hb : BalZ L id t d) {D : Int → Nat → Prop} (hD : D d 0) : ZPost B w p mb most L t D (.returned (.tuple #[.int .i64 id, .nilIface])) w' :=
  ⟨L, id, d, 0, rfl, hR.st.kept0 hf, Kp.of0 hf, Grows.refl hR.sok hR.dok, hb, hD⟩

end Go.Proofs.YtodmpcnpedpheaaDoor

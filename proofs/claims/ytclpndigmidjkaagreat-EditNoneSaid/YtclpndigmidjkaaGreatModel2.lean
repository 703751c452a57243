/- Plain words: the entries that a store adds, and what holds of all entries. No program. -/
import Derived.Test.YtclpndigmidjkaaGreatMap
set_option linter.unusedSimpArgs false
set_option linter.unusedVariables false
namespace Go.Proofs.YtclpndigmidjkaaGreat
open Go.RowKit

/-- What is known of an ID. -/
def entAt (L : List Ent) (id : Int) : Ent := if id = 0 then ⟨⟨0, 0, 0, 0, 0⟩, Wt.unit, 0, true⟩ else L.getD (id - 1).toNat ⟨⟨0, 0, 0, 0, 0⟩, Wt.unit, 0, true⟩
def isKnown (L : List Ent) (id : Int) : Prop := 0 ≤ id ∧ id ≤ L.length

theorem entAt_zero (L : List Ent) : entAt L 0 = ⟨⟨0, 0, 0, 0, 0⟩, Wt.unit, 0, true⟩ := rfl
theorem entAt_succ (L : List Ent) (k : Nat) (h : k < L.length) : entAt L ((k : Int) + 1) = L[k] := by
  unfold entAt
  rw [if_neg (by omega), show ((k : Int) + 1 - 1).toNat = k by omega, List.getD_eq_getElem?_getD, List.getElem?_eq_getElem h]
  rfl

theorem entAt_append (L M : List Ent) (id : Int) (h : isKnown L id) : entAt (L ++ M) id = entAt L id := by
  unfold entAt
  by_cases h0 : id = 0
  · simp [h0]
  · rw [if_neg h0, if_neg h0]
    obtain ⟨h1, h2⟩ := h
    rw [List.getD_eq_getElem?_getD, List.getD_eq_getElem?_getD, List.getElem?_append_left (by omega)]

theorem isKnown_append {L : List Ent} {id : Int} (M : List Ent) (h : isKnown L id) : isKnown (L ++ M) id := ⟨h.1, by have := h.2; simp; omega⟩

/-- The list and the ID after an entry has been asked for. -/
def addL (L : List Ent) (e : Ent) : List Ent := match ruleIdx e.rule L with | some _ => L | none => L ++ [e]
def addI (L : List Ent) (e : Ent) : Int := match ruleIdx e.rule L with | some j => (j : Int) + 1 | none => (L.length : Int) + 1

theorem addL_some {L : List Ent} {e : Ent} {j : Nat} (h : ruleIdx e.rule L = some j) : addL L e = L := by simp [addL, h]
theorem addL_none {L : List Ent} {e : Ent} (h : ruleIdx e.rule L = none) : addL L e = L ++ [e] := by simp [addL, h]
theorem addI_some {L : List Ent} {e : Ent} {j : Nat} (h : ruleIdx e.rule L = some j) : addI L e = (j : Int) + 1 := by simp [addI, h]
theorem addI_none {L : List Ent} {e : Ent} (h : ruleIdx e.rule L = none) : addI L e = (L.length : Int) + 1 := by simp [addI, h]

theorem ruleIdx_lt {r : Rl} {L : List Ent} {j : Nat} (h : ruleIdx r L = some j) : ∃ hj : j < L.length, L[j].rule = r := by
  unfold ruleIdx at h
  obtain ⟨hj, h1, _⟩ := List.findIdx?_eq_some_iff_getElem.1 h
  exact ⟨hj, (by simpa using h1 : r = L[j].rule).symm⟩

def letterEnt (b : Int) : Ent := ⟨⟨1, b, 0, 0, 0⟩, Wt.letter b, 0, true⟩
def pairEnt (L : List Ent) (l r : Int) : Ent :=
  ⟨⟨2, 0, l, r, 0⟩, (entAt L l).wt.join (entAt L r).wt, 1 + max (entAt L l).depth (entAt L r).depth,
    (entAt L l).even && (entAt L r).even && decide (-1 ≤ (entAt L l).depth - (entAt L r).depth) && decide ((entAt L l).depth - (entAt L r).depth ≤ 1)⟩
def powEnt (L : List Ent) (x k : Int) : Ent := ⟨⟨3, 0, x, 0, k⟩, (entAt L x).wt.rep k, 1 + (entAt L x).depth, false⟩

/-- What holds of every entry of a store. -/
def SOk (L : List Ent) : Prop := ∀ (i : Nat) (h : i < L.length), WOk L[i].wt ∧ 1 ≤ L[i].wt.len ∧ 0 ≤ L[i].depth ∧ L[i].depth ≤ i

theorem SOk.nil : SOk [] := fun i h => by simp at h

theorem SOk.at {L : List Ent} (h : SOk L) (id : Int) (hk : isKnown L id) : WOk (entAt L id).wt ∧ 0 ≤ (entAt L id).depth ∧ (entAt L id).depth ≤ L.length ∧ (id ≠ 0 → 1 ≤ (entAt L id).wt.len ∧ (entAt L id).depth + 1 ≤ L.length) := by
  by_cases h0 : id = 0
  · subst h0
    exact ⟨WOk.unit, Int.le_refl _, by show (0 : Int) ≤ _; omega, fun h => absurd rfl h⟩
  · obtain ⟨k, rfl⟩ : ∃ k : Nat, id = (k : Int) + 1 := ⟨(id - 1).toNat, by have := hk.1; omega⟩
    have hlt : k < L.length := by have := hk.2; omega
    rw [entAt_succ L k hlt]
    obtain ⟨h1, h2, h3, h4⟩ := h k hlt
    exact ⟨h1, h3, by omega, fun _ => ⟨h2, by omega⟩⟩

theorem SOk.push {L : List Ent} (h : SOk L) (e : Ent) (h1 : WOk e.wt) (h2 : 1 ≤ e.wt.len) (h3 : 0 ≤ e.depth) (h4 : e.depth ≤ L.length) : SOk (L ++ [e]) := by
  intro i hi
  rcases Nat.lt_or_ge i L.length with hlt | hge
  · rw [List.getElem_append_left hlt]; exact h i hlt
  · have : i = L.length := by simp at hi; omega
    subst this
    rw [List.getElem_append_right (Nat.le_refl _)]
    simp
    exact ⟨h1, h2, h3, h4⟩

theorem SOk.add {L : List Ent} (h : SOk L) (e : Ent) (h1 : WOk e.wt) (h2 : 1 ≤ e.wt.len) (h3 : 0 ≤ e.depth) (h4 : e.depth ≤ L.length) : SOk (addL L e) := by
  cases hj : ruleIdx e.rule L with
  | some j => rw [addL_some hj]; exact h
  | none => rw [addL_none hj]; exact h.push e h1 h2 h3 h4

theorem SOk.letter {L : List Ent} (h : SOk L) (b : Int) (h0 : 0 ≤ b) (h1 : b < 256) : SOk (addL L (letterEnt b)) :=
  h.add _ (WOk.letter b h0 h1) (by show 1 ≤ (Wt.letter b).len; unfold Wt.letter; split <;> simp) (Int.le_refl _) (by show (0 : Int) ≤ _; omega)

theorem SOk.pair {L : List Ent} (h : SOk L) (l r : Int) (hl : isKnown L l) (hr : isKnown L r) (l0 : l ≠ 0) (r0 : r ≠ 0) (hm : (entAt L l).wt.len + (entAt L r).wt.len ≤ 1152921504606846976) : SOk (addL L (pairEnt L l r)) := by
  obtain ⟨a1, a2, a3, a4⟩ := h.at l hl
  obtain ⟨b1, b2, b3, b4⟩ := h.at r hr
  have := a4 l0
  have := b4 r0
  refine h.add _ (WOk.join a1 b1 hm) ?_ ?_ ?_
  · show 1 ≤ (entAt L l).wt.len + (entAt L r).wt.len; omega
  · show 0 ≤ 1 + max (entAt L l).depth (entAt L r).depth; omega
  · show 1 + max (entAt L l).depth (entAt L r).depth ≤ _; omega

theorem SOk.pow {L : List Ent} (h : SOk L) (x k : Int) (hx : isKnown L x) (x0 : x ≠ 0) (hk : 2 ≤ k) (hm : (entAt L x).wt.len * k ≤ 1152921504606846976) : SOk (addL L (powEnt L x k)) := by
  obtain ⟨a1, a2, a3, a4⟩ := h.at x hx
  have := a4 x0
  refine h.add _ (WOk.rep a1 k (by omega) hm this.1) ?_ ?_ ?_
  · show 1 ≤ (entAt L x).wt.len * k
    have := Int.mul_le_mul_of_nonneg_left (show (1 : Int) ≤ k by omega) (show 0 ≤ (entAt L x).wt.len by omega)
    omega
  · show 0 ≤ 1 + (entAt L x).depth; omega
  · show 1 + (entAt L x).depth ≤ _; omega

theorem addL_len (L : List Ent) (e : Ent) : L.length ≤ (addL L e).length ∧ (addL L e).length ≤ L.length + 1 := by
  cases hj : ruleIdx e.rule L with
  | some j => rw [addL_some hj]; omega
  | none => rw [addL_none hj]; simp

theorem addL_ext (L : List Ent) (e : Ent) : ∃ M, addL L e = L ++ M := by
  cases hj : ruleIdx e.rule L with
  | some j => exact ⟨[], by rw [addL_some hj]; simp⟩
  | none => exact ⟨[e], addL_none hj⟩

theorem addI_known (L : List Ent) (e : Ent) : isKnown (addL L e) (addI L e) ∧ addI L e ≠ 0 := by
  cases hj : ruleIdx e.rule L with
  | some j =>
    obtain ⟨h1, _⟩ := ruleIdx_lt hj
    rw [addL_some hj, addI_some hj]
    exact ⟨⟨by omega, by omega⟩, by omega⟩
  | none =>
    rw [addL_none hj, addI_none hj]
    exact ⟨⟨by omega, by simp⟩, by omega⟩

end Go.Proofs.YtclpndigmidjkaaGreat

/- Levels are small; filling the table of keys (plain). -/
import Derived.Test.YtodmpcnpedpheaaDoorQAc0
set_option linter.unusedSimpArgs false
set_option linter.unusedVariables false
namespace Go.Proofs.YtodmpcnpedpheaaDoor
open Go.RowKit

theorem klev_rng {L : List Ent} (hD : DOk L) : ∀ (n : Nat) (id : Int), id.toNat ≤ n → isKnown L id → id ≠ 0 → -1 ≤ klev L id ∧ klev L id ≤ 493 * id := by
  intro n
  induction n with
  | zero => intro id h hk h0; have := hk.1; omega
  | succ n ih =>
    intro id h hk h0
    have h1 := hk.1
    have h2 := hk.2
    rcases hD.at id hk h0 with ⟨g1, _⟩ | ⟨g1, g2, _⟩ | ⟨g1, g2, _⟩
    · rw [(kl_letter (by omega) g1).2]; omega
    · have ka : isKnown L (entAt L id).rule.left := ⟨by omega, by omega⟩
      have kb : isKnown L (entAt L id).rule.right := ⟨by omega, by omega⟩
      have i1 := ih _ (by omega) ka (by omega)
      have i2 := ih _ (by omega) kb (by omega)
      have r1 := kkey_rng hD ka (by omega)
      have r2 := kkey_rng hD kb (by omega)
      rw [(kl_pair hD hk h0 g1).2]
      split
      · rename_i c
        have := aftI_spec (low := max (klev L (entAt L id).rule.left) (klev L (entAt L id).rule.right)) (by omega) r1.1 r1.2 r2.1 r2.2
        omega
      · omega
    · have ka : isKnown L (entAt L id).rule.left := ⟨by omega, by omega⟩
      have i1 := ih _ (by omega) ka (by omega)
      rw [(kl_power hD hk h0 g1).2]
      split <;> omega

/-- The row of a rule. -/
def krow (L : List Ent) (id : Int) : KRow := ⟨kkey L id, klev L id, true⟩

/-- How many rows are not filled. -/
def unk : List KRow → Nat
  | [] => 0
  | r :: T => (if r.kn then 0 else 1) + unk T

theorem unk_le : ∀ T : List KRow, unk T ≤ T.length
  | [] => Nat.le_refl _
  | r :: T => by have := unk_le T; simp only [unk, List.length_cons]; split <;> omega

theorem unk_set : ∀ (T : List KRow) (i : Nat) (h : i < T.length) (r : KRow), T[i].kn = false → r.kn = true → unk (T.set i r) + 1 = unk T
  | [], i, h, _, _, _ => by simp at h
  | a :: T, 0, h, r, h1, h2 => by
    have h1' : a.kn = false := h1
    simp only [List.set_cons_zero, unk, h1', h2]
    simp
    omega
  | a :: T, i + 1, h, r, h1, h2 => by
    have := unk_set T i (by simpa using h) r (by simpa using h1) h2
    simp only [List.set_cons_succ, unk]
    omega

def blankR : KRow := ⟨0, 0, false⟩

theorem TabOk.grow {L : List Ent} {T : List KRow} (h : TabOk L T) (k : Nat) : TabOk L (T ++ List.replicate k blankR) := by
  intro i hi
  by_cases c : i < T.length
  · rw [List.getElem_append_left c]; exact h i c
  · rw [List.getElem_append_right (by omega), List.getElem_replicate]
    exact ⟨fun e => (by cases e), fun _ => rfl⟩

theorem TabOk.put {L : List Ent} {T : List KRow} (h : TabOk L T) {x : Int} (hk : isKnown L x) (h0 : x ≠ 0) : TabOk L (T.set x.toNat (krow L x)) := by
  intro i hi
  have h1 := hk.1
  have h2 := hk.2
  rw [List.length_set] at hi
  by_cases c : x.toNat = i
  · subst c
    rw [List.getElem_set_self]
    refine ⟨fun _ => ⟨by omega, by omega, ?_⟩, fun e => (by cases e)⟩
    rw [show ((x.toNat : Nat) : Int) = x by omega]
    exact ⟨rfl, rfl⟩
  · rw [List.getElem_set_ne c]
    exact h i hi

/-- The row of a known rule, where it is filled. -/
theorem TabOk.at {L : List Ent} {T : List KRow} (h : TabOk L T) {i : Nat} (hi : i < T.length) (hk : T[i].kn = true) : T[i] = krow L i := by
  obtain ⟨_, _, h3, h4⟩ := (h i hi).1 hk
  cases hr : T[i] with
  | mk a b c =>
    rw [hr] at h3 h4 hk
    simp only at h3 h4 hk
    unfold krow
    rw [h3, h4, hk]

/-- The stack: from the first, which was asked for, each is a child of the one before; none is filled. -/
structure Stk (T : List KRow) (id : Int) (td : List Int) : Prop where
  rng : ∀ x ∈ td, 1 ≤ x ∧ x ≤ id
  un : ∀ x ∈ td, ∀ h : x.toNat < T.length, T[x.toNat].kn = false
  dec : td.Pairwise (fun a b => b < a)

theorem Stk.nil (T : List KRow) (id : Int) : Stk T id [] := ⟨fun _ h => by simp at h, fun _ h => by simp at h, List.Pairwise.nil⟩
theorem Stk.one {T : List KRow} {id : Int} (h : 1 ≤ id) (hu : ∀ h : id.toNat < T.length, T[id.toNat].kn = false) : Stk T id [id] :=
  ⟨fun x hx => by simp at hx; omega, fun x hx => by simp at hx; subst hx; exact hu, by simp⟩
theorem Stk.push {T : List KRow} {id x y : Int} {td : List Int} (h : Stk T id (td ++ [x])) (hy : 1 ≤ y) (hyx : y < x) (hu : ∀ h : y.toNat < T.length, T[y.toNat].kn = false) : Stk T id (td ++ [x] ++ [y]) := by
  refine ⟨fun z hz => ?_, fun z hz => ?_, ?_⟩
  · rcases List.mem_append.1 hz with hz | hz
    · exact h.rng z hz
    · simp at hz; subst hz
      have := h.rng x (by simp)
      omega
  · rcases List.mem_append.1 hz with hz | hz
    · exact h.un z hz
    · simp at hz; subst hz; exact hu
  · rw [List.pairwise_append]
    refine ⟨h.dec, by simp, fun a ha b hb => ?_⟩
    simp at hb; subst hb
    rcases List.mem_append.1 ha with ha | ha
    · have := (List.pairwise_append.1 h.dec).2.2 a ha x (by simp)
      omega
    · simp at ha; subst ha; exact hyx
theorem Stk.pop {T : List KRow} {id x : Int} {td : List Int} {r : KRow} (h : Stk T id (td ++ [x])) : Stk (T.set x.toNat r) id td := by
  refine ⟨fun z hz => h.rng z (by simp [hz]), fun z hz hl => ?_, (List.pairwise_append.1 h.dec).1⟩
  have hx := h.rng x (by simp)
  have hz1 := h.rng z (by simp [hz])
  have := (List.pairwise_append.1 h.dec).2.2 z hz x (by simp)
  rw [List.length_set] at hl
  rw [List.getElem_set_ne (by omega)]
  exact h.un z (by simp [hz]) hl

end Go.Proofs.YtodmpcnpedpheaaDoor

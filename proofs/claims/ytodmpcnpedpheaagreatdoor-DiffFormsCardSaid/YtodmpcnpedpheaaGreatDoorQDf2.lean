/- The rows as lists, and the table of all distances (plain). -/
import Derived.Test.YtodmpcnpedpheaaGreatDoorQBase
set_option linter.unusedSimpArgs false
set_option linter.unusedVariables false
namespace Go.Proofs.YtodmpcnpedpheaaGreatDoor

/-- A row: the least diagonal, and the offsets. -/
structure RowD where
  low : Int
  frm : List Int

def RowD.at (r : RowD) (d : Int) : Int := if 0 ≤ d - r.low ∧ d - r.low < r.frm.length then r.frm.getD (d - r.low).toNat 0 else NONE

/-- The row of a number of edits. -/
def rowF (A B : List Int) (e : Nat) : RowD := ⟨dlow A B e, (List.range (dhigh A B e - dlow A B e + 1).toNat).map fun (i : Nat) => atF A B e (dlow A B e + (i : Int))⟩

theorem atF_out {A B : List Int} (e : Nat) (d : Int) (h : ¬ (dlow A B e ≤ d ∧ d ≤ dhigh A B e)) : atF A B e d = NONE := by
  cases e with
  | zero => rw [atF.eq_1, if_neg h]
  | succ e =>
    cases e with
    | zero => rw [atF.eq_2, if_neg h]
    | succ e => rw [atF.eq_3, if_neg h]

theorem rowF_at (A B : List Int) (e : Nat) (d : Int) : (rowF A B e).at d = atF A B e d := by
  unfold RowD.at rowF
  dsimp only
  rw [List.length_map, List.length_range]
  by_cases h : dlow A B e ≤ d ∧ d ≤ dhigh A B e
  · rw [if_pos (by omega), List.getD_eq_getElem?_getD, List.getElem?_map, List.getElem?_range (by omega)]
    show atF A B e (dlow A B e + ((d - dlow A B e).toNat : Int)) = _
    rw [show dlow A B e + ((d - dlow A B e).toNat : Int) = d by omega]
  · rw [if_neg (by omega), atF_out e d h]

/-- A cell before equal letters are skipped. -/
def preF (A B : List Int) : Nat → Int → Int
  | 0, d => if d = (A.length : Int) - B.length then A.length else NONE
  | 1, d => stpF (atF A B 0 (d + 1)) (atF A B 0 (d - 1)) NONE d
  | e + 2, d => stpF (atF A B (e + 1) (d + 1)) (atF A B (e + 1) (d - 1)) (atF A B e d) d

theorem atF_pre {A B : List Int} (e : Nat) (d : Int) (h : dlow A B e ≤ d ∧ d ≤ dhigh A B e) : atF A B e d = sldF A B d (preF A B e d) := by
  cases e with
  | zero => rw [atF.eq_1, if_pos h]; rfl
  | succ e =>
    cases e with
    | zero => rw [atF.eq_2, if_pos h]; rfl
    | succ e => rw [atF.eq_3, if_pos h]; rfl

theorem preF_cell {A B : List Int} (hn : A.length ≤ 1152921504606846976) (e : Nat) (d : Int) : Cell A B e d (preF A B e d) := by
  cases e with
  | zero =>
    show Cell A B 0 d (if d = (A.length : Int) - B.length then (A.length : Int) else NONE)
    by_cases h : d = (A.length : Int) - B.length
    · rw [if_pos h]
      exact .inr ⟨A.length, B.length, rfl, h.symm, Nat.le_refl _, Nat.le_refl _, by rw [edp_endA A B (Nat.le_refl _)]; omega⟩
    · rw [if_neg h]
      exact .inl rfl
  | succ e =>
    cases e with
    | zero => exact stpF_cell hn (atF_cell hn 0 _) (atF_cell hn 0 _) (.inl rfl)
    | succ e => exact stpF_cell hn (atF_cell hn (e + 1) _) (atF_cell hn (e + 1) _) ((atF_cell hn e d).up (by omega))

theorem edp_all (A B : List Int) : edp A B 0 0 = ed A B := rfl

end Go.Proofs.YtodmpcnpedpheaaGreatDoor

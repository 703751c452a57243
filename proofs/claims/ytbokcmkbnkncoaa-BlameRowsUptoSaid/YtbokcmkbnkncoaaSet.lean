/- A map from IDs to true, held exactly. -/
import Derived.Test.YtbokcmkbnkncoaaBeg
set_option linter.unusedSimpArgs false
set_option linter.unusedVariables false
namespace Go.Proofs.Ytbokcmkbnkncoaa
open Go.RowKit

def idEntries : Nat → List Int → List MapEntry
  | _, [] => []
  | i, x :: r => { key := .int .i64 x, val := .bool true, born := i } :: idEntries (i + 1) r

theorem idEntries_push (x : Int) : ∀ (xs : List Int) (i : Nat), idEntries i (xs ++ [x]) = idEntries i xs ++ [{ key := .int .i64 x, val := .bool true, born := i + xs.length }] := by
  intro xs
  induction xs with
  | nil => intro i; simp [idEntries]
  | cons y r ih =>
    intro i
    simp only [List.cons_append, idEntries, ih (i + 1), List.length_cons]
    rw [show i + 1 + r.length = i + (r.length + 1) by omega]

theorem findNow_ids (x : Int) : ∀ (xs : List Int) (i j : Nat), Instr.findNow (.int .i64) (.int .i64 x) (idEntries i xs) j = some (if x ∈ xs then some (j + xs.findIdx (· == x), .bool true) else none) := by
  intro xs
  induction xs with
  | nil => intro i j; simp [idEntries, Instr.findNow]
  | cons y r ih =>
    intro i j
    simp only [idEntries, Instr.findNow, Instr.sameNow, if_true]
    by_cases h : x = y
    · subst h; simp [List.findIdx_cons]
    · have h1 : (x == y) = false := by simpa using h
      have h2 : (y == x) = false := by simpa using Ne.symm h
      simp only [h1, ih (i + 1) (j + 1), List.mem_cons, h, false_or, List.findIdx_cons, h2, cond_false]
      split
      · rw [show j + 1 + r.findIdx (· == x) = j + (r.findIdx (· == x) + 1) by omega]
      · rfl

theorem run_findIds (x : Int) (xs : List Int) (w : World) : (Instr.findKey 44 (.int .i64 x) (idEntries 0 xs)).run Try.prog w = .ok (if x ∈ xs then some (xs.findIdx (· == x), .bool true) else none) w := by
  have h := findNow_ids x xs 0 0
  rw [Nat.zero_add] at h
  simp [Instr.findKey, go_sem, h]

theorem id_check (em : Bool) (x : Int) (w : World) : (Instr.checkKey em 10000 44 (.int .i64 x)).run Try.prog w = .ok () w := by
  have h : ∀ d, (Instr.checkKey em (d + 1) 44 (.int .i64 x)).run Try.prog w = .ok () w := fun d => by simp [Instr.checkKey, go_sem]
  exact h 9999

theorem run_lookup_id {mb : Nat} {xs : List Int} {c : Nat} (x : Int) (w : World) (hm : w.heap[mb]? = some (.map (idEntries 0 xs).toArray c)) :
    (Instr.lookup 136 (.map (some mb)) (.int .i64 x) false).run Try.prog w = .ok (.bool (decide (x ∈ xs))) w := by
  have h1 := run_findIds x xs w
  by_cases hx : x ∈ xs
  · rw [if_pos hx] at h1
    simp [Instr.lookup, go_sem, getObj, Sem.run, hm, id_check, h1, hx]
  · rw [if_neg hx] at h1
    simp [Instr.lookup, go_sem, getObj, Sem.run, hm, id_check, h1, hx]

theorem run_update_id {mb : Nat} {xs : List Int} (x : Int) (w : World) (hm : w.heap[mb]? = some (.map (idEntries 0 xs).toArray xs.length)) (hx : x ∉ xs) :
    (Instr.mapUpdate 136 (.map (some mb)) (.int .i64 x) (.bool true)).run Try.prog w = .ok () (setB w mb (.map (idEntries 0 (xs ++ [x])).toArray (xs ++ [x]).length)) := by
  have h1 := run_findIds x xs w
  rw [if_neg hx] at h1
  rw [idEntries_push]
  simp [Instr.mapUpdate, go_sem, getObj, setObj, Sem.run, hm, id_check, h1, setB]

end Go.Proofs.Ytbokcmkbnkncoaa

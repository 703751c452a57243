/- The walk of Pair. -/
import Derived.Test.YtclpndigmidjkaaGreatSt5
set_option linter.unusedSimpArgs false
set_option linter.unusedVariables false
namespace Go.Proofs.YtclpndigmidjkaaGreat
open Go.RowKit

theorem st_Letter {w : World} {p mb : Nat} {most : Int} {sv : Value} {L : List Ent} (hS : St w p mb most sv L) (b : Int) (h0 : 0 ≤ b) (h1 : b < 256) (hm : (L.length : Int) < most) (hL : L.length < 1048576) :
    Calls Tryz.prog 55 #[.pointer (some ⟨p, 0, none⟩), .int .u8 b] w fun e w' => e = .returned (.tuple #[.int .i64 (addI L (letterEnt b)), .nilIface]) ∧ Stepped w w' p mb most sv (addL L (letterEnt b)) := by
  cases hj : ruleIdx (letterEnt b).rule L with
  | some j =>
    rw [addI_some hj, addL_some hj]
    exact (st_Letter_some hS b h0 h1 j hj).mono fun e w' ⟨h1, h2⟩ => ⟨h1, Stepped.same hS h2⟩
  | none =>
    rw [addI_none hj, addL_none hj]
    exact st_Letter_none hS b h0 h1 hj hm hL

/-- The cells of an entry's variable. -/
theorem cells13 {w : World} {b : Nat} {x0 x1 x2 x3 x4 x5 x6 x7 x8 x9 x10 x11 x12 : Value} {t : TypeId} (h : w.heap[b]? = some (.cells #[x0, x1, x2, x3, x4, x5, x6, x7, x8, x9, x10, x11, x12] t (0, 0))) :
    w.cell? ⟨b, 5, none⟩ = some x5 ∧ w.cell? ⟨b, 6, none⟩ = some x6 ∧ w.cell? ⟨b, 7, none⟩ = some x7 ∧ w.cell? ⟨b, 8, none⟩ = some x8 ∧ w.cell? ⟨b, 9, none⟩ = some x9 ∧ w.cell? ⟨b, 10, none⟩ = some x10 ∧ w.cell? ⟨b, 11, none⟩ = some x11 ∧ w.cell? ⟨b, 12, none⟩ = some x12 ∧ b < w.heap.size :=
  ⟨by rw [cell_of_block h]; rfl, by rw [cell_of_block h]; rfl, by rw [cell_of_block h]; rfl, by rw [cell_of_block h]; rfl, by rw [cell_of_block h]; rfl, by rw [cell_of_block h]; rfl, by rw [cell_of_block h]; rfl, by rw [cell_of_block h]; rfl, lt_of_block h⟩

theorem cells5 {w : World} {b : Nat} {x0 x1 x2 x3 x4 : Value} {t : TypeId} (h : w.heap[b]? = some (.cells #[x0, x1, x2, x3, x4] t (0, 0))) :
    w.cell? ⟨b, 0, none⟩ = some x0 ∧ w.cell? ⟨b, 1, none⟩ = some x1 ∧ w.cell? ⟨b, 2, none⟩ = some x2 ∧ w.cell? ⟨b, 3, none⟩ = some x3 ∧ w.cell? ⟨b, 4, none⟩ = some x4 ∧ b < w.heap.size :=
  ⟨by rw [cell_of_block h]; rfl, by rw [cell_of_block h]; rfl, by rw [cell_of_block h]; rfl, by rw [cell_of_block h]; rfl, by rw [cell_of_block h]; rfl, lt_of_block h⟩

set_option maxRecDepth 100000 in
set_option maxHeartbeats 1000000 in
theorem st_Pair_some {w : World} {p mb : Nat} {most : Int} {sv : Value} {L : List Ent} (hS : St w p mb most sv L) (hO : SOk L) (l r : Int) (hl : isKnown L l) (hr : isKnown L r) (l0 : l ≠ 0) (r0 : r ≠ 0)
    (hlen : (entAt L l).wt.len + (entAt L r).wt.len ≤ 1152921504606846976) (j : Nat) (hj : ruleIdx ⟨2, 0, l, r, 0⟩ L = some j) :
    Calls Tryz.prog 57 #[.pointer (some ⟨p, 0, none⟩), .int .i64 l, .int .i64 r] w fun e w' => e = .returned (.tuple #[.int .i64 ((j : Int) + 1), .nilIface]) ∧ Fr0 w w' := by
  have CF := Lib.hid (fun w' (hf : Fr0 w w') => st_find_some (hS.kept0 hf) ⟨2, 0, l, r, 0⟩ j hj)
  have K1 := Lib.hid (fun w' (hf : Fr0 w w') => st_known_yes (hS.kept0 hf) l hl)
  have K2 := Lib.hid (fun w' (hf : Fr0 w w') => st_known_yes (hS.kept0 hf) r hr)
  have a1 := fun w' (hf : Fr0 w w') => st_at (hS.kept0 hf) l hl
  have a2 := fun w' (hf : Fr0 w w') => st_at (hS.kept0 hf) r hr
  have q1 := (hO.at l hl).1.len0
  have q2 := (hO.at r hr).1.len0
  generalize entAt L l = x at *
  generalize entAt L r = y at *
  have A1 := Lib.hid a1
  have A2 := Lib.hid a2
  have hl0 : (l == 0) = false := by simpa using l0
  have hr0 : (r == 0) = false := by simpa using r0
  clear hS hj a1 a2 hO l0 r0 hl hr
  go_enter Tryz.func57, Tryz.ntmps57
  go_wp2_with fail
  refine (K1.out _ (Fr0.refl w)).mono ?_
  rintro e w' ⟨rfl, rfl⟩
  go_wp2_with fail
  refine (K2.out _ (Fr0.refl w)).mono ?_
  rintro e w' ⟨rfl, rfl⟩
  go_wp2_with fail
  refine (A1.out _ (Fr0.refl w)).mono ?_
  rintro e w1 ⟨rfl, hf1⟩
  go_wp2_with fail
  refine (A2.out _ hf1).mono ?_
  rintro e w2 ⟨rfl, hf2⟩
  have hW2 := hf1.trans hf2
  clear hf1 hf2
  go_wp2_with fail
  refine (len_Add_ok _ _ _ q1 q2 hlen).mono ?_
  rintro e w' ⟨rfl, rfl⟩
  go_wp2_with fail
  refine (CF.out _ (((hW2.alloc _).alloc _).alloc _)).mono ?_
  rintro e w4 ⟨rfl, hf4⟩
  have hj1 : ((j : Int) + 1 != 0) = true := by simp; omega
  go_wp2_with fail
  go_ret2
  exact ⟨rfl, (((hW2.alloc _).alloc _).alloc _).trans hf4⟩

end Go.Proofs.YtclpndigmidjkaaGreat

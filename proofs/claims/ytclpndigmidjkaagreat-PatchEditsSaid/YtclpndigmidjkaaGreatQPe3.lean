/- The walk of evergreenlaw37.step. -/
import Derived.Test.YtclpndigmidjkaaGreatQPe0
import Derived.Test.YtclpndigmidjkaaGreatQR37b
import Derived.Test.YtclpndigmidjkaaGreatQFrm
set_option linter.unusedSimpArgs false
set_option linter.unusedVariables false
namespace Go.Proofs.YtclpndigmidjkaaGreat
open Go.RowKit

theorem rg_one_ps (w : World) (a n : Int) (s : ByteArray) (H : Nat) (hH : w.heap.size = H) : RG PS.vals 3 0 (w.alloc (.cells #[.int .i64 a, .int .i64 n, .string s] 113 (0, 0))) (some ⟨H, 0, none⟩) [⟨a, n, s⟩] := by
  subst hH
  intro i hi
  have hb := alloc_at w (.cells #[.int .i64 a, .int .i64 n, .string s] 113 (0, 0)) _ rfl
  match i, hi with
  | 0, _ =>
    refine ⟨_, 0, rfl, lt_of_block hb, .inr ⟨_, _, _, hb, by decide, by decide⟩, fun j u hj => ?_⟩
    rw [cell_of_block hb]
    match j, hj with
    | 0, hj => exact hj
    | 1, hj => exact hj
    | 2, hj => exact hj
    | j + 3, hj => simp [PS.vals] at hj

theorem tl_none {s : ByteArray} (h : s.toList = []) : s.toList.isEmpty = true := by rw [h]; rfl

set_option maxRecDepth 100000 in
set_option maxHeartbeats 2000000 in
theorem step_form (w : World) (len k a n t : Int) (s : ByteArray) (hl0 : 0 ≤ len) (hl1 : len ≤ 1152921504606846976) (hf : ¬ (t = 0 ∧ ((k = 1 ∧ n = 0) ∨ (k = 2 ∧ s.toList = []) ∨ k = 3))) :
    Calls Tryz.prog 32 #[.int .i64 len, .agg #[.int .i64 k, .int .i64 a, .int .i64 n, .int .i64 t, .string s]] w fun e w' => e = .returned (.tuple #[.slice none 0 0, .int .i64 4]) ∧ Fr0 w w' := by
  by_cases ht : t = 0
  · by_cases k1 : k = 1
    · have hn : n ≠ 0 := fun h => hf ⟨ht, .inl ⟨k1, h⟩⟩
      have q0 : (t == 0) = true := beq_iff_eq.2 (by omega)
      have q0' : (t != 0) = false := by rw [bne, q0]; rfl
      have q1 : (k == 1) = true := beq_iff_eq.2 (by omega)
      have q1' : (k != 1) = false := by rw [bne, q1]; rfl
      have q2 : (n == 0) = false := beq_eq_false_iff_ne.2 (by omega)
      have q2' : (n != 0) = true := by rw [bne, q2]; rfl
      clear hf ht k1 hn
      go_enter Tryz.func32, Tryz.ntmps32
      go_wp2_with fail
      go_ret2
      exact ⟨rfl, by repeat (first | exact Fr0.refl _ | refine Fr0.alloc ?_ _ | refine Fr0.drew ?_)⟩
    · by_cases k2 : k = 2
      · have q3 := tl_some (fun h => hf ⟨ht, .inr (.inl ⟨k2, h⟩)⟩)
        have q0 : (t == 0) = true := beq_iff_eq.2 (by omega)
        have q0' : (t != 0) = false := by rw [bne, q0]; rfl
        have q1 : (k == 1) = false := beq_eq_false_iff_ne.2 (by omega)
        have q1' : (k != 1) = true := by rw [bne, q1]; rfl
        have q2 : (k == 2) = true := beq_iff_eq.2 (by omega)
        have q2' : (k != 2) = false := by rw [bne, q2]; rfl
        clear hf ht k1 k2
        go_enter Tryz.func32, Tryz.ntmps32
        go_wp2_with fail
        go_ret2
        exact ⟨rfl, by repeat (first | exact Fr0.refl _ | refine Fr0.alloc ?_ _ | refine Fr0.drew ?_)⟩
      · have k3 : k ≠ 3 := fun h => hf ⟨ht, .inr (.inr h)⟩
        have q0 : (t == 0) = true := beq_iff_eq.2 (by omega)
        have q0' : (t != 0) = false := by rw [bne, q0]; rfl
        have q1 : (k == 1) = false := beq_eq_false_iff_ne.2 (by omega)
        have q1' : (k != 1) = true := by rw [bne, q1]; rfl
        have q2 : (k == 2) = false := beq_eq_false_iff_ne.2 (by omega)
        have q2' : (k != 2) = true := by rw [bne, q2]; rfl
        have q3 : (k == 3) = false := beq_eq_false_iff_ne.2 (by omega)
        have q3' : (k != 3) = true := by rw [bne, q3]; rfl
        clear hf ht k1 k2 k3
        go_enter Tryz.func32, Tryz.ntmps32
        go_wp2_with fail
        go_ret2
        exact ⟨rfl, by repeat (first | exact Fr0.refl _ | refine Fr0.alloc ?_ _ | refine Fr0.drew ?_)⟩
  · clear hf
    by_cases k1 : k = 1
    · have q0 : (t == 0) = false := beq_eq_false_iff_ne.2 (by omega)
      have q0' : (t != 0) = true := by rw [bne, q0]; rfl
      have q1 : (k == 1) = true := beq_iff_eq.2 (by omega)
      have q1' : (k != 1) = false := by rw [bne, q1]; rfl
      clear ht k1
      go_enter Tryz.func32, Tryz.ntmps32
      go_wp2_with fail
      go_ret2
      exact ⟨rfl, by repeat (first | exact Fr0.refl _ | refine Fr0.alloc ?_ _ | refine Fr0.drew ?_)⟩
    · by_cases k2 : k = 2
      · have q0 : (t == 0) = false := beq_eq_false_iff_ne.2 (by omega)
        have q0' : (t != 0) = true := by rw [bne, q0]; rfl
        have q1 : (k == 1) = false := beq_eq_false_iff_ne.2 (by omega)
        have q1' : (k != 1) = true := by rw [bne, q1]; rfl
        have q2 : (k == 2) = true := beq_iff_eq.2 (by omega)
        have q2' : (k != 2) = false := by rw [bne, q2]; rfl
        clear ht k1 k2
        go_enter Tryz.func32, Tryz.ntmps32
        go_wp2_with fail
        go_ret2
        exact ⟨rfl, by repeat (first | exact Fr0.refl _ | refine Fr0.alloc ?_ _ | refine Fr0.drew ?_)⟩
      · by_cases k3 : k = 3
        · have q0 : (t == 0) = false := beq_eq_false_iff_ne.2 (by omega)
          have q0' : (t != 0) = true := by rw [bne, q0]; rfl
          have q1 : (k == 1) = false := beq_eq_false_iff_ne.2 (by omega)
          have q1' : (k != 1) = true := by rw [bne, q1]; rfl
          have q2 : (k == 2) = false := beq_eq_false_iff_ne.2 (by omega)
          have q2' : (k != 2) = true := by rw [bne, q2]; rfl
          have q3 : (k == 3) = true := beq_iff_eq.2 (by omega)
          have q3' : (k != 3) = false := by rw [bne, q3]; rfl
          clear ht k1 k2 k3
          go_enter Tryz.func32, Tryz.ntmps32
          go_wp2_with fail
          go_ret2
          exact ⟨rfl, by repeat (first | exact Fr0.refl _ | refine Fr0.alloc ?_ _ | refine Fr0.drew ?_)⟩
        · have q0 : (t == 0) = false := beq_eq_false_iff_ne.2 (by omega)
          have q0' : (t != 0) = true := by rw [bne, q0]; rfl
          have q1 : (k == 1) = false := beq_eq_false_iff_ne.2 (by omega)
          have q1' : (k != 1) = true := by rw [bne, q1]; rfl
          have q2 : (k == 2) = false := beq_eq_false_iff_ne.2 (by omega)
          have q2' : (k != 2) = true := by rw [bne, q2]; rfl
          have q3 : (k == 3) = false := beq_eq_false_iff_ne.2 (by omega)
          have q3' : (k != 3) = true := by rw [bne, q3]; rfl
          clear ht k1 k2 k3
          go_enter Tryz.func32, Tryz.ntmps32
          go_wp2_with fail
          go_ret2
          exact ⟨rfl, by repeat (first | exact Fr0.refl _ | refine Fr0.alloc ?_ _ | refine Fr0.drew ?_)⟩

set_option maxRecDepth 100000 in
set_option maxHeartbeats 2000000 in
theorem step_range (w : World) (len k a n t : Int) (s : ByteArray) (hl0 : 0 ≤ len) (hl1 : len ≤ 1152921504606846976) (ht : t = 0) (hf : (k = 1 ∧ n = 0) ∨ (k = 2 ∧ s.toList = []) ∨ k = 3) (hr : ¬ (0 ≤ a ∧ 0 ≤ n ∧ a + n ≤ len)) :
    Calls Tryz.prog 32 #[.int .i64 len, .agg #[.int .i64 k, .int .i64 a, .int .i64 n, .int .i64 t, .string s]] w fun e w' => e = .returned (.tuple #[.slice none 0 0, .int .i64 1]) ∧ Fr0 w w' := by
  rcases hf with ⟨k1, hn0⟩ | ⟨k2, hse⟩ | k3
  · have q0 : (t == 0) = true := beq_iff_eq.2 (by omega)
    have q0' : (t != 0) = false := by rw [bne, q0]; rfl
    have q1 : (k == 1) = true := beq_iff_eq.2 (by omega)
    have q1' : (k != 1) = false := by rw [bne, q1]; rfl
    have q2 : (n == 0) = true := beq_iff_eq.2 (by omega)
    have q2' : (n != 0) = false := by rw [bne, q2]; rfl
    by_cases r1 : a < 0
    · clear ht k1 hn0 hr
      go_enter Tryz.func32, Tryz.ntmps32
      go_wp2_with fail
      go_ret2
      exact ⟨rfl, by repeat (first | exact Fr0.refl _ | refine Fr0.alloc ?_ _ | refine Fr0.drew ?_)⟩
    · by_cases r2 : n < 0
      · clear ht k1 hn0 hr
        go_enter Tryz.func32, Tryz.ntmps32
        go_wp2_with fail
        go_ret2
        exact ⟨rfl, by repeat (first | exact Fr0.refl _ | refine Fr0.alloc ?_ _ | refine Fr0.drew ?_)⟩
      · by_cases r3 : len < a
        · clear ht k1 hn0 hr
          go_enter Tryz.func32, Tryz.ntmps32
          go_wp2_with fail
          go_ret2
          exact ⟨rfl, by repeat (first | exact Fr0.refl _ | refine Fr0.alloc ?_ _ | refine Fr0.drew ?_)⟩
        · have r4 : len - a < n := by omega
          clear ht k1 hn0 hr
          go_enter Tryz.func32, Tryz.ntmps32
          go_wp2_with fail
          go_ret2
          exact ⟨rfl, by repeat (first | exact Fr0.refl _ | refine Fr0.alloc ?_ _ | refine Fr0.drew ?_)⟩
  · have q3 := tl_none hse
    have q0 : (t == 0) = true := beq_iff_eq.2 (by omega)
    have q0' : (t != 0) = false := by rw [bne, q0]; rfl
    have q1 : (k == 1) = false := beq_eq_false_iff_ne.2 (by omega)
    have q1' : (k != 1) = true := by rw [bne, q1]; rfl
    have q2 : (k == 2) = true := beq_iff_eq.2 (by omega)
    have q2' : (k != 2) = false := by rw [bne, q2]; rfl
    by_cases r1 : a < 0
    · clear ht k2 hse hr
      go_enter Tryz.func32, Tryz.ntmps32
      go_wp2_with fail
      go_ret2
      exact ⟨rfl, by repeat (first | exact Fr0.refl _ | refine Fr0.alloc ?_ _ | refine Fr0.drew ?_)⟩
    · by_cases r2 : n < 0
      · clear ht k2 hse hr
        go_enter Tryz.func32, Tryz.ntmps32
        go_wp2_with fail
        go_ret2
        exact ⟨rfl, by repeat (first | exact Fr0.refl _ | refine Fr0.alloc ?_ _ | refine Fr0.drew ?_)⟩
      · by_cases r3 : len < a
        · clear ht k2 hse hr
          go_enter Tryz.func32, Tryz.ntmps32
          go_wp2_with fail
          go_ret2
          exact ⟨rfl, by repeat (first | exact Fr0.refl _ | refine Fr0.alloc ?_ _ | refine Fr0.drew ?_)⟩
        · have r4 : len - a < n := by omega
          clear ht k2 hse hr
          go_enter Tryz.func32, Tryz.ntmps32
          go_wp2_with fail
          go_ret2
          exact ⟨rfl, by repeat (first | exact Fr0.refl _ | refine Fr0.alloc ?_ _ | refine Fr0.drew ?_)⟩
  · have q0 : (t == 0) = true := beq_iff_eq.2 (by omega)
    have q0' : (t != 0) = false := by rw [bne, q0]; rfl
    have q1 : (k == 1) = false := beq_eq_false_iff_ne.2 (by omega)
    have q1' : (k != 1) = true := by rw [bne, q1]; rfl
    have q2 : (k == 2) = false := beq_eq_false_iff_ne.2 (by omega)
    have q2' : (k != 2) = true := by rw [bne, q2]; rfl
    have q3 : (k == 3) = true := beq_iff_eq.2 (by omega)
    have q3' : (k != 3) = false := by rw [bne, q3]; rfl
    by_cases r1 : a < 0
    · clear ht k3 hr
      go_enter Tryz.func32, Tryz.ntmps32
      go_wp2_with fail
      go_ret2
      exact ⟨rfl, by repeat (first | exact Fr0.refl _ | refine Fr0.alloc ?_ _ | refine Fr0.drew ?_)⟩
    · by_cases r2 : n < 0
      · clear ht k3 hr
        go_enter Tryz.func32, Tryz.ntmps32
        go_wp2_with fail
        go_ret2
        exact ⟨rfl, by repeat (first | exact Fr0.refl _ | refine Fr0.alloc ?_ _ | refine Fr0.drew ?_)⟩
      · by_cases r3 : len < a
        · clear ht k3 hr
          go_enter Tryz.func32, Tryz.ntmps32
          go_wp2_with fail
          go_ret2
          exact ⟨rfl, by repeat (first | exact Fr0.refl _ | refine Fr0.alloc ?_ _ | refine Fr0.drew ?_)⟩
        · have r4 : len - a < n := by omega
          clear ht k3 hr
          go_enter Tryz.func32, Tryz.ntmps32
          go_wp2_with fail
          go_ret2
          exact ⟨rfl, by repeat (first | exact Fr0.refl _ | refine Fr0.alloc ?_ _ | refine Fr0.drew ?_)⟩

set_option maxRecDepth 100000 in
set_option maxHeartbeats 2000000 in
theorem step_zero (w : World) (len k a n t : Int) (s : ByteArray) (hl0 : 0 ≤ len) (hl1 : len ≤ 1152921504606846976) (ht : t = 0) (hf : (k = 1 ∧ n = 0) ∨ (k = 2 ∧ s.toList = []) ∨ k = 3) (r1 : 0 ≤ a) (r2 : 0 ≤ n) (r3 : a + n ≤ len) (hz : n = 0) (hs : s.toList = []) :
    Calls Tryz.prog 32 #[.int .i64 len, .agg #[.int .i64 k, .int .i64 a, .int .i64 n, .int .i64 t, .string s]] w fun e w' => e = .returned (.tuple #[.slice none 0 0, .int .i64 0]) ∧ Fr0 w w' := by
  rcases hf with ⟨k1, hn0⟩ | ⟨k2, hse⟩ | k3
  · have q0 : (t == 0) = true := beq_iff_eq.2 (by omega)
    have q0' : (t != 0) = false := by rw [bne, q0]; rfl
    have q1 : (k == 1) = true := beq_iff_eq.2 (by omega)
    have q1' : (k != 1) = false := by rw [bne, q1]; rfl
    have q2 : (n == 0) = true := beq_iff_eq.2 (by omega)
    have q2' : (n != 0) = false := by rw [bne, q2]; rfl
    have q5 := tl_none hs
    have q6 : (n == 0) = true := beq_iff_eq.2 (by omega)
    have q6' : (n != 0) = false := by rw [bne, q6]; rfl
    clear ht k1 hn0 hz hs
    go_enter Tryz.func32, Tryz.ntmps32
    go_wp2_with fail
    go_ret2
    exact ⟨rfl, by repeat (first | exact Fr0.refl _ | refine Fr0.alloc ?_ _ | refine Fr0.drew ?_)⟩
  · have q3 := tl_none hse
    have q0 : (t == 0) = true := beq_iff_eq.2 (by omega)
    have q0' : (t != 0) = false := by rw [bne, q0]; rfl
    have q1 : (k == 1) = false := beq_eq_false_iff_ne.2 (by omega)
    have q1' : (k != 1) = true := by rw [bne, q1]; rfl
    have q2 : (k == 2) = true := beq_iff_eq.2 (by omega)
    have q2' : (k != 2) = false := by rw [bne, q2]; rfl
    have q5 := tl_none hs
    have q6 : (n == 0) = true := beq_iff_eq.2 (by omega)
    have q6' : (n != 0) = false := by rw [bne, q6]; rfl
    clear ht k2 hse hz hs
    go_enter Tryz.func32, Tryz.ntmps32
    go_wp2_with fail
    go_ret2
    exact ⟨rfl, by repeat (first | exact Fr0.refl _ | refine Fr0.alloc ?_ _ | refine Fr0.drew ?_)⟩
  · have q0 : (t == 0) = true := beq_iff_eq.2 (by omega)
    have q0' : (t != 0) = false := by rw [bne, q0]; rfl
    have q1 : (k == 1) = false := beq_eq_false_iff_ne.2 (by omega)
    have q1' : (k != 1) = true := by rw [bne, q1]; rfl
    have q2 : (k == 2) = false := beq_eq_false_iff_ne.2 (by omega)
    have q2' : (k != 2) = true := by rw [bne, q2]; rfl
    have q3 : (k == 3) = true := beq_iff_eq.2 (by omega)
    have q3' : (k != 3) = false := by rw [bne, q3]; rfl
    have q5 := tl_none hs
    have q6 : (n == 0) = true := beq_iff_eq.2 (by omega)
    have q6' : (n != 0) = false := by rw [bne, q6]; rfl
    clear ht k3 hz hs
    go_enter Tryz.func32, Tryz.ntmps32
    go_wp2_with fail
    go_ret2
    exact ⟨rfl, by repeat (first | exact Fr0.refl _ | refine Fr0.alloc ?_ _ | refine Fr0.drew ?_)⟩

set_option maxRecDepth 100000 in
set_option maxHeartbeats 2000000 in
theorem step_one (w : World) (len k a n t : Int) (s : ByteArray) (hl0 : 0 ≤ len) (hl1 : len ≤ 1152921504606846976) (ht : t = 0) (hf : (k = 1 ∧ n = 0) ∨ (k = 2 ∧ s.toList = []) ∨ k = 3) (r1 : 0 ≤ a) (r2 : 0 ≤ n) (r3 : a + n ≤ len) (hz : ¬ (n = 0 ∧ s.toList = [])) :
    Calls Tryz.prog 32 #[.int .i64 len, .agg #[.int .i64 k, .int .i64 a, .int .i64 n, .int .i64 t, .string s]] w fun e w' => e = .returned (.tuple #[.slice (some ⟨w.heap.size + 1, 0, none⟩) 1 1, .int .i64 0]) ∧ Fr0 w w' ∧ RG PS.vals 3 0 w' (some ⟨w.heap.size + 1, 0, none⟩) [⟨a, n, s⟩] := by
  rcases hf with ⟨k1, hn0⟩ | ⟨k2, hse⟩ | k3
  · have q0 : (t == 0) = true := beq_iff_eq.2 (by omega)
    have q0' : (t != 0) = false := by rw [bne, q0]; rfl
    have q1 : (k == 1) = true := beq_iff_eq.2 (by omega)
    have q1' : (k != 1) = false := by rw [bne, q1]; rfl
    have q2 : (n == 0) = true := beq_iff_eq.2 (by omega)
    have q2' : (n != 0) = false := by rw [bne, q2]; rfl
    have q5 := tl_some (fun h => hz ⟨hn0, h⟩)
    clear ht k1 hn0 hz
    go_enter Tryz.func32, Tryz.ntmps32
    go_wp2_with fail
    go_ret2
    exact ⟨rfl, ((Fr0.refl w).alloc _).alloc _, rg_one_ps _ a n s _ (by simp)⟩
  · have q3 := tl_none hse
    have q0 : (t == 0) = true := beq_iff_eq.2 (by omega)
    have q0' : (t != 0) = false := by rw [bne, q0]; rfl
    have q1 : (k == 1) = false := beq_eq_false_iff_ne.2 (by omega)
    have q1' : (k != 1) = true := by rw [bne, q1]; rfl
    have q2 : (k == 2) = true := beq_iff_eq.2 (by omega)
    have q2' : (k != 2) = false := by rw [bne, q2]; rfl
    have hn : n ≠ 0 := fun h => hz ⟨h, hse⟩
    have q6 : (n == 0) = false := beq_eq_false_iff_ne.2 (by omega)
    have q6' : (n != 0) = true := by rw [bne, q6]; rfl
    clear ht k2 hse hz hn
    go_enter Tryz.func32, Tryz.ntmps32
    go_wp2_with fail
    go_ret2
    exact ⟨rfl, ((Fr0.refl w).alloc _).alloc _, rg_one_ps _ a n s _ (by simp)⟩
  · have q0 : (t == 0) = true := beq_iff_eq.2 (by omega)
    have q0' : (t != 0) = false := by rw [bne, q0]; rfl
    have q1 : (k == 1) = false := beq_eq_false_iff_ne.2 (by omega)
    have q1' : (k != 1) = true := by rw [bne, q1]; rfl
    have q2 : (k == 2) = false := beq_eq_false_iff_ne.2 (by omega)
    have q2' : (k != 2) = true := by rw [bne, q2]; rfl
    have q3 : (k == 3) = true := beq_iff_eq.2 (by omega)
    have q3' : (k != 3) = false := by rw [bne, q3]; rfl
    by_cases hn : n = 0
    · have q5 := tl_some (fun h => hz ⟨hn, h⟩)
      have q6 : (n == 0) = true := beq_iff_eq.2 (by omega)
      have q6' : (n != 0) = false := by rw [bne, q6]; rfl
      clear ht k3 hz hn
      go_enter Tryz.func32, Tryz.ntmps32
      go_wp2_with fail
      go_ret2
      exact ⟨rfl, ((Fr0.refl w).alloc _).alloc _, rg_one_ps _ a n s _ (by simp)⟩
    · have q6 : (n == 0) = false := beq_eq_false_iff_ne.2 (by omega)
      have q6' : (n != 0) = true := by rw [bne, q6]; rfl
      clear ht k3 hz hn
      go_enter Tryz.func32, Tryz.ntmps32
      go_wp2_with fail
      go_ret2
      exact ⟨rfl, ((Fr0.refl w).alloc _).alloc _, rg_one_ps _ a n s _ (by simp)⟩

def StepPost (w : World) (p : EP) (len : Int) (e : Ending) (w' : World) : Prop :=
  ∃ a cap qs, e = .returned (.tuple #[.slice a qs.length cap, .int .i64 (p.code len)]) ∧ Fr0 w w' ∧ RG PS.vals 3 0 w' a qs ∧ qs.map PS.pc = (if p.code len = 0 then p.chg else []) ∧ qs.length ≤ 1

theorem law37_step (w : World) (len k a n t : Int) (s : ByteArray) (hl0 : 0 ≤ len) (hl1 : len ≤ 1152921504606846976) :
    Calls Tryz.prog 32 #[.int .i64 len, .agg #[.int .i64 k, .int .i64 a, .int .i64 n, .int .i64 t, .string s]] w (StepPost w ⟨k, a, n, t, sbs s⟩ len) := by
  have hss := sbs_nil s
  have hcode : (⟨k, a, n, t, sbs s⟩ : EP).code len = if t = 0 ∧ ((k = 1 ∧ n = 0) ∨ (k = 2 ∧ sbs s = []) ∨ k = 3) then (if 0 ≤ a ∧ 0 ≤ n ∧ a + n ≤ len then 0 else 1) else 4 := by
    unfold EP.code EP.formed EP.fits
    simp only [decide_eq_true_eq]
  by_cases hf : t = 0 ∧ ((k = 1 ∧ n = 0) ∨ (k = 2 ∧ s.toList = []) ∨ k = 3)
  · have hf' : t = 0 ∧ ((k = 1 ∧ n = 0) ∨ (k = 2 ∧ sbs s = []) ∨ k = 3) := by rw [hss]; exact hf
    rw [if_pos hf'] at hcode
    by_cases hr : 0 ≤ a ∧ 0 ≤ n ∧ a + n ≤ len
    · rw [if_pos hr] at hcode
      by_cases hz : n = 0 ∧ s.toList = []
      · refine (step_zero w len k a n t s hl0 hl1 hf.1 hf.2 hr.1 hr.2.1 hr.2.2 hz.1 hz.2).mono ?_
        rintro e w' ⟨rfl, hw⟩
        refine ⟨none, 0, [], by rw [hcode]; rfl, hw, RG.nil _ _ _ _ _, ?_, by simp⟩
        rw [if_pos hcode]
        unfold EP.chg
        rw [if_pos ⟨hz.1, hss.2 hz.2⟩]; rfl
      · refine (step_one w len k a n t s hl0 hl1 hf.1 hf.2 hr.1 hr.2.1 hr.2.2 hz).mono ?_
        rintro e w' ⟨rfl, hw, hrg⟩
        refine ⟨_, 1, [⟨a, n, s⟩], by rw [hcode]; rfl, hw, hrg, ?_, by simp⟩
        rw [if_pos hcode]
        unfold EP.chg
        rw [if_neg (fun h => hz ⟨h.1, hss.1 h.2⟩)]; rfl
    · rw [if_neg hr] at hcode
      refine (step_range w len k a n t s hl0 hl1 hf.1 hf.2 hr).mono ?_
      rintro e w' ⟨rfl, hw⟩
      exact ⟨none, 0, [], by rw [hcode]; rfl, hw, RG.nil _ _ _ _ _, by rw [hcode]; rfl, by simp⟩
  · have hf' : ¬ (t = 0 ∧ ((k = 1 ∧ n = 0) ∨ (k = 2 ∧ sbs s = []) ∨ k = 3)) := by rw [hss]; exact hf
    rw [if_neg hf'] at hcode
    refine (step_form w len k a n t s hl0 hl1 hf).mono ?_
    rintro e w' ⟨rfl, hw⟩
    exact ⟨none, 0, [], by rw [hcode]; rfl, hw, RG.nil _ _ _ _ _, by rw [hcode]; rfl, by simp⟩

end Go.Proofs.YtclpndigmidjkaaGreat

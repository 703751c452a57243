/- The walks of package length: each function returns what its plain function gives, the world unchanged. -/
import Derived.Test.YtbokcmkbnkncoaaChecked
import Derived.Test.YtbokcmkbnkncoaaBase
set_option linter.unusedSimpArgs false
set_option linter.unusedVariables false
namespace Go.Proofs.Ytbokcmkbnkncoaa
open Go.RowKit

def validB (n : Int) : Bool := decide (0 ≤ n) && decide (n ≤ 1152921504606846976)

/-- The value of an error: nil for 0. -/
def errV (n : Int) : Value := if n = 0 then .nilIface else .iface 66 (.int .i64 n)

set_option maxHeartbeats 400000 in
theorem len_Valid (n : Int) (w : World) :
    Calls Try.prog 28 #[.int .i64 n] w fun e w' => e = .returned (.bool (validB n)) ∧ w = w' := by
  by_cases h0 : 0 ≤ n
  all_goals
    go_enter Try.func28, Try.ntmps28
    go_wp2
    go_ret
    exact ⟨by simp [validB]; try omega, rfl⟩

theorem len_Valid_yes (n : Int) (w : World) (h : 0 ≤ n) (h2 : n ≤ 1152921504606846976) :
    Calls Try.prog 28 #[.int .i64 n] w fun e w' => e = .returned (.bool true) ∧ w = w' := by
  refine (len_Valid n w).mono ?_
  rintro e w' ⟨rfl, rfl⟩
  exact ⟨by simp [validB, h, h2], rfl⟩

theorem len_Valid_no (n : Int) (w : World) (h : n < 0 ∨ 1152921504606846976 < n) :
    Calls Try.prog 28 #[.int .i64 n] w fun e w' => e = .returned (.bool false) ∧ w = w' := by
  refine (len_Valid n w).mono ?_
  rintro e w' ⟨rfl, rfl⟩
  refine ⟨?_, rfl⟩
  congr 2
  simp only [validB, Bool.and_eq_false_iff, decide_eq_false_iff_not]
  omega

set_option maxHeartbeats 400000 in
theorem len_Clip (n lo hi : Int) (w : World) :
    Calls Try.prog 34 #[.int .i64 n, .int .i64 lo, .int .i64 hi] w fun e w' => e = .returned (.int .i64 (if n < lo then lo else if hi < n then hi else n)) ∧ w = w' := by
  go_enter Try.func34, Try.ntmps34
  go_wp2
  all_goals (go_ret; exact ⟨by simp [*], rfl⟩)

set_option maxHeartbeats 400000 in
theorem len_Add_ok (a b : Int) (w : World) (ha : 0 ≤ a) (hb : 0 ≤ b) (h : a + b ≤ 1152921504606846976) :
    Calls Try.prog 42 #[.int .i64 a, .int .i64 b] w fun e w' => e = .returned (.tuple #[.int .i64 (a + b), .nilIface]) ∧ w = w' := by
  go_enter Try.func42, Try.ntmps42
  go_wp2_with (go_at_call 28; refine (len_Valid_yes _ _ (by omega) (by omega)).mono ?_; rintro e w' ⟨rfl, rfl⟩)
  go_ret2
  exact ⟨rfl, rfl⟩

set_option maxHeartbeats 400000 in
theorem len_Add_long (a b : Int) (w : World) (ha : 0 ≤ a) (ha2 : a ≤ 1152921504606846976) (hb : 0 ≤ b) (hb2 : b ≤ 1152921504606846976) (h : 1152921504606846976 < a + b) :
    Calls Try.prog 42 #[.int .i64 a, .int .i64 b] w fun e w' => e = .returned (.tuple #[.int .i64 0, .iface 66 (.int .i64 2)]) ∧ w = w' := by
  go_enter Try.func42, Try.ntmps42
  go_wp2_with (go_at_call 28; refine (len_Valid_yes _ _ (by omega) (by omega)).mono ?_; rintro e w' ⟨rfl, rfl⟩)
  go_ret2
  exact ⟨rfl, rfl⟩

set_option maxHeartbeats 400000 in
theorem len_Mul_zero (k : Int) (w : World) (hk : 0 ≤ k) :
    Calls Try.prog 36 #[.int .i64 0, .int .i64 k] w fun e w' => e = .returned (.tuple #[.int .i64 0, .nilIface]) ∧ w = w' := by
  go_enter Try.func36, Try.ntmps36
  go_wp2_with (go_at_call 28; refine (len_Valid_yes _ _ (by omega) (by omega)).mono ?_; rintro e w' ⟨rfl, rfl⟩)
  go_ret2
  exact ⟨rfl, rfl⟩

theorem div_bound {a k : Int} (ha : 1 ≤ a) (hk : 0 ≤ k) (h : a * k ≤ 1152921504606846976) : k ≤ 1152921504606846976 / a := (Int.le_ediv_iff_mul_le (by omega)).2 (by rw [Int.mul_comm]; exact h)

set_option maxHeartbeats 400000 in
theorem len_Mul_ok (a k : Int) (w : World) (ha : 1 ≤ a) (hk : 0 ≤ k) (h : a * k ≤ 1152921504606846976) (ha2 : a ≤ 1152921504606846976) :
    Calls Try.prog 36 #[.int .i64 a, .int .i64 k] w fun e w' => e = .returned (.tuple #[.int .i64 (a * k), .nilIface]) ∧ w = w' := by
  have h1 := div_bound ha hk h
  have h2 : 0 ≤ a * k := Int.mul_nonneg (by omega) hk
  have h3 : decide (1152921504606846976 / a < k) = false := by simpa using h1
  have h4 : (a == 0) = false := by simp; omega
  go_enter Try.func36, Try.ntmps36
  go_wp2_with (go_at_call 28; refine (len_Valid_yes _ _ (by omega) (by omega)).mono ?_; rintro e w' ⟨rfl, rfl⟩)
  go_ret2
  exact ⟨rfl, rfl⟩

set_option maxHeartbeats 400000 in
theorem len_Mul_long (a k : Int) (w : World) (ha : 1 ≤ a) (hk : 0 ≤ k) (h : 1152921504606846976 < a * k) (ha2 : a ≤ 1152921504606846976) :
    Calls Try.prog 36 #[.int .i64 a, .int .i64 k] w fun e w' => e = .returned (.tuple #[.int .i64 0, .iface 66 (.int .i64 2)]) ∧ w = w' := by
  have h1 : 1152921504606846976 / a < k := by
    rcases Int.lt_or_le (1152921504606846976 / a) k with h' | h'
    · exact h'
    · have := (Int.le_ediv_iff_mul_le (by omega)).1 h'
      rw [Int.mul_comm] at this
      omega
  have h4 : (a == 0) = false := by simp; omega
  clear h
  go_enter Try.func36, Try.ntmps36
  go_wp2_with (go_at_call 28; refine (len_Valid_yes _ _ (by omega) (by omega)).mono ?_; rintro e w' ⟨rfl, rfl⟩)
  go_ret2
  exact ⟨rfl, rfl⟩

set_option maxHeartbeats 400000 in
theorem len_Range_ok (f n l : Int) (w : World) (h0 : 0 ≤ f) (h1 : 0 ≤ n) (h2 : f + n ≤ l) (h3 : l ≤ 1152921504606846976) :
    Calls Try.prog 50 #[.int .i64 f, .int .i64 n, .int .i64 l] w fun e w' => e = .returned .nilIface ∧ w = w' := by
  go_enter Try.func50, Try.ntmps50
  go_wp2_with (go_at_call 28; refine (len_Valid_yes _ _ (by omega) (by omega)).mono ?_; rintro e w' ⟨rfl, rfl⟩)
  go_ret
  exact ⟨rfl, rfl⟩

set_option maxHeartbeats 800000 in
theorem len_Range_no (f n l : Int) (w : World) (h2 : f < 0 ∨ n < 0 ∨ l < f ∨ l - f < n) (h3 : 0 ≤ l) (h4 : l ≤ 1152921504606846976) :
    Calls Try.prog 50 #[.int .i64 f, .int .i64 n, .int .i64 l] w fun e w' => e = .returned (.iface 66 (.int .i64 1)) ∧ w = w' := by
  by_cases a1 : f < 0
  · go_enter Try.func50, Try.ntmps50
    go_wp2_with (go_at_call 28; refine (len_Valid_yes _ _ (by omega) (by omega)).mono ?_; rintro e w' ⟨rfl, rfl⟩)
    go_ret
    exact ⟨rfl, rfl⟩
  by_cases a2 : n < 0
  · go_enter Try.func50, Try.ntmps50
    go_wp2_with (go_at_call 28; refine (len_Valid_yes _ _ (by omega) (by omega)).mono ?_; rintro e w' ⟨rfl, rfl⟩)
    go_ret
    exact ⟨rfl, rfl⟩
  by_cases a3 : l < f
  · go_enter Try.func50, Try.ntmps50
    go_wp2_with (go_at_call 28; refine (len_Valid_yes _ _ (by omega) (by omega)).mono ?_; rintro e w' ⟨rfl, rfl⟩)
    go_ret
    exact ⟨rfl, rfl⟩
  have a4 : l - f < n := by omega
  clear h2
  go_enter Try.func50, Try.ntmps50
  go_wp2_with (go_at_call 28; refine (len_Valid_yes _ _ (by omega) (by omega)).mono ?_; rintro e w' ⟨rfl, rfl⟩)
  go_ret
  exact ⟨rfl, rfl⟩

end Go.Proofs.Ytbokcmkbnkncoaa

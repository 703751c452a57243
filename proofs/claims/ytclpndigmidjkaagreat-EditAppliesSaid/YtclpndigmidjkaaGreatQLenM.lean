/- The walks of length.Mul. -/
import Derived.Test.YtclpndigmidjkaaGreatQb
set_option linter.unusedSimpArgs false
set_option linter.unusedVariables false
namespace Go.Proofs.YtclpndigmidjkaaGreat
open Go.RowKit

set_option maxHeartbeats 400000 in
theorem len_Mul_zero (k : Int) (w : World) (hk : 0 ≤ k) :
    Calls Tryz.prog 96 #[.int .i64 0, .int .i64 k] w fun e w' => e = .returned (.tuple #[.int .i64 0, .nilIface]) ∧ w = w' := by
  go_enter Tryz.func96, Tryz.ntmps96
  go_wp2_with (go_at_call 60; refine (len_Valid_yes _ _ (by omega) (by omega)).mono ?_; rintro e w' ⟨rfl, rfl⟩)
  go_ret2
  exact ⟨rfl, rfl⟩

theorem div_bound {a k : Int} (ha : 1 ≤ a) (hk : 0 ≤ k) (h : a * k ≤ 1152921504606846976) : k ≤ 1152921504606846976 / a := (Int.le_ediv_iff_mul_le (by omega)).2 (by rw [Int.mul_comm]; exact h)

set_option maxHeartbeats 400000 in
theorem len_Mul_ok (a k : Int) (w : World) (ha : 1 ≤ a) (hk : 0 ≤ k) (h : a * k ≤ 1152921504606846976) (ha2 : a ≤ 1152921504606846976) :
    Calls Tryz.prog 96 #[.int .i64 a, .int .i64 k] w fun e w' => e = .returned (.tuple #[.int .i64 (a * k), .nilIface]) ∧ w = w' := by
  have h1 := div_bound ha hk h
  have h2 : 0 ≤ a * k := Int.mul_nonneg (by omega) hk
  have h3 : decide (1152921504606846976 / a < k) = false := by simpa using h1
  have h4 : (a == 0) = false := by simp; omega
  go_enter Tryz.func96, Tryz.ntmps96
  go_wp2_with (go_at_call 60; refine (len_Valid_yes _ _ (by omega) (by omega)).mono ?_; rintro e w' ⟨rfl, rfl⟩)
  go_ret2
  exact ⟨rfl, rfl⟩

set_option maxHeartbeats 400000 in
theorem len_Mul_long (a k : Int) (w : World) (ha : 1 ≤ a) (hk : 0 ≤ k) (h : 1152921504606846976 < a * k) (ha2 : a ≤ 1152921504606846976) :
    Calls Tryz.prog 96 #[.int .i64 a, .int .i64 k] w fun e w' => e = .returned (.tuple #[.int .i64 0, .iface 52 (.int .i64 2)]) ∧ w = w' := by
  have h1 : 1152921504606846976 / a < k := by
    rcases Int.lt_or_le (1152921504606846976 / a) k with h' | h'
    · exact h'
    · have := (Int.le_ediv_iff_mul_le (by omega)).1 h'
      rw [Int.mul_comm] at this
      omega
  have h4 : (a == 0) = false := by simp; omega
  clear h
  go_enter Tryz.func96, Tryz.ntmps96
  go_wp2_with (go_at_call 60; refine (len_Valid_yes _ _ (by omega) (by omega)).mono ?_; rintro e w' ⟨rfl, rfl⟩)
  go_ret2
  exact ⟨rfl, rfl⟩

end Go.Proofs.YtclpndigmidjkaaGreat

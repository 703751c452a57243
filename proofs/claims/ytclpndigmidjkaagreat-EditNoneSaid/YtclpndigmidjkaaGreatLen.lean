/- The walks of package length: each function returns what its plain function gives, the world unchanged. -/
import Derived.Test.YtclpndigmidjkaaGreatChecked
import Derived.Test.YtclpndigmidjkaaGreatBase
set_option linter.unusedSimpArgs false
set_option linter.unusedVariables false
namespace Go.Proofs.YtclpndigmidjkaaGreat
open Go.RowKit

def validB (n : Int) : Bool := decide (0 ≤ n) && decide (n ≤ 1152921504606846976)

/-- The value of an error: nil for 0. -/
def errV (n : Int) : Value := if n = 0 then .nilIface else .iface 52 (.int .i64 n)

set_option maxHeartbeats 400000 in
theorem len_Valid (n : Int) (w : World) :
    Calls Tryz.prog 60 #[.int .i64 n] w fun e w' => e = .returned (.bool (validB n)) ∧ w = w' := by
  by_cases h0 : 0 ≤ n
  all_goals
    go_enter Tryz.func60, Tryz.ntmps60
    go_wp2
    go_ret
    exact ⟨by simp [validB]; try omega, rfl⟩

theorem len_Valid_yes (n : Int) (w : World) (h : 0 ≤ n) (h2 : n ≤ 1152921504606846976) :
    Calls Tryz.prog 60 #[.int .i64 n] w fun e w' => e = .returned (.bool true) ∧ w = w' := by
  refine (len_Valid n w).mono ?_
  rintro e w' ⟨rfl, rfl⟩
  exact ⟨by simp [validB, h, h2], rfl⟩

theorem len_Valid_no (n : Int) (w : World) (h : n < 0 ∨ 1152921504606846976 < n) :
    Calls Tryz.prog 60 #[.int .i64 n] w fun e w' => e = .returned (.bool false) ∧ w = w' := by
  refine (len_Valid n w).mono ?_
  rintro e w' ⟨rfl, rfl⟩
  refine ⟨?_, rfl⟩
  congr 2
  simp only [validB, Bool.and_eq_false_iff, decide_eq_false_iff_not]
  omega

set_option maxHeartbeats 400000 in
theorem len_Clip (n lo hi : Int) (w : World) :
    Calls Tryz.prog 53 #[.int .i64 n, .int .i64 lo, .int .i64 hi] w fun e w' => e = .returned (.int .i64 (if n < lo then lo else if hi < n then hi else n)) ∧ w = w' := by
  go_enter Tryz.func53, Tryz.ntmps53
  go_wp2
  all_goals (go_ret; exact ⟨by simp [*], rfl⟩)

set_option maxHeartbeats 400000 in
theorem len_Add_ok (a b : Int) (w : World) (ha : 0 ≤ a) (hb : 0 ≤ b) (h : a + b ≤ 1152921504606846976) :
    Calls Tryz.prog 65 #[.int .i64 a, .int .i64 b] w fun e w' => e = .returned (.tuple #[.int .i64 (a + b), .nilIface]) ∧ w = w' := by
  go_enter Tryz.func65, Tryz.ntmps65
  go_wp2_with (go_at_call 60; refine (len_Valid_yes _ _ (by omega) (by omega)).mono ?_; rintro e w' ⟨rfl, rfl⟩)
  go_ret2
  exact ⟨rfl, rfl⟩

set_option maxHeartbeats 400000 in
theorem len_Add_long (a b : Int) (w : World) (ha : 0 ≤ a) (ha2 : a ≤ 1152921504606846976) (hb : 0 ≤ b) (hb2 : b ≤ 1152921504606846976) (h : 1152921504606846976 < a + b) :
    Calls Tryz.prog 65 #[.int .i64 a, .int .i64 b] w fun e w' => e = .returned (.tuple #[.int .i64 0, .iface 52 (.int .i64 2)]) ∧ w = w' := by
  go_enter Tryz.func65, Tryz.ntmps65
  go_wp2_with (go_at_call 60; refine (len_Valid_yes _ _ (by omega) (by omega)).mono ?_; rintro e w' ⟨rfl, rfl⟩)
  go_ret2
  exact ⟨rfl, rfl⟩

set_option maxHeartbeats 400000 in
theorem len_Range_ok (f n l : Int) (w : World) (h0 : 0 ≤ f) (h1 : 0 ≤ n) (h2 : f + n ≤ l) (h3 : l ≤ 1152921504606846976) :
    Calls Tryz.prog 62 #[.int .i64 f, .int .i64 n, .int .i64 l] w fun e w' => e = .returned .nilIface ∧ w = w' := by
  go_enter Tryz.func62, Tryz.ntmps62
  go_wp2_with (go_at_call 60; refine (len_Valid_yes _ _ (by omega) (by omega)).mono ?_; rintro e w' ⟨rfl, rfl⟩)
  go_ret
  exact ⟨rfl, rfl⟩

set_option maxHeartbeats 800000 in
theorem len_Range_no (f n l : Int) (w : World) (h2 : f < 0 ∨ n < 0 ∨ l < f ∨ l - f < n) (h3 : 0 ≤ l) (h4 : l ≤ 1152921504606846976) :
    Calls Tryz.prog 62 #[.int .i64 f, .int .i64 n, .int .i64 l] w fun e w' => e = .returned (.iface 52 (.int .i64 1)) ∧ w = w' := by
  by_cases a1 : f < 0
  · go_enter Tryz.func62, Tryz.ntmps62
    go_wp2_with (go_at_call 60; refine (len_Valid_yes _ _ (by omega) (by omega)).mono ?_; rintro e w' ⟨rfl, rfl⟩)
    go_ret
    exact ⟨rfl, rfl⟩
  by_cases a2 : n < 0
  · go_enter Tryz.func62, Tryz.ntmps62
    go_wp2_with (go_at_call 60; refine (len_Valid_yes _ _ (by omega) (by omega)).mono ?_; rintro e w' ⟨rfl, rfl⟩)
    go_ret
    exact ⟨rfl, rfl⟩
  by_cases a3 : l < f
  · go_enter Tryz.func62, Tryz.ntmps62
    go_wp2_with (go_at_call 60; refine (len_Valid_yes _ _ (by omega) (by omega)).mono ?_; rintro e w' ⟨rfl, rfl⟩)
    go_ret
    exact ⟨rfl, rfl⟩
  have a4 : l - f < n := by omega
  clear h2
  go_enter Tryz.func62, Tryz.ntmps62
  go_wp2_with (go_at_call 60; refine (len_Valid_yes _ _ (by omega) (by omega)).mono ?_; rintro e w' ⟨rfl, rfl⟩)
  go_ret
  exact ⟨rfl, rfl⟩

end Go.Proofs.YtclpndigmidjkaaGreat

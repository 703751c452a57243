/- The walks of evergreenbase.Num and Is. -/
import Derived.Test.YtclpndigmidjkaaGreatQd
set_option linter.unusedSimpArgs false
set_option linter.unusedVariables false
namespace Go.Proofs.YtclpndigmidjkaaGreat
open Go.RowKit

@[go_sem] theorem assert_errno (n : Int) (w : World) : (Instr.typeAssert (.iface 52 (.int .i64 n)) 46 52 true).run Tryz.prog w = .ok (.tuple #[.int .i64 n, .bool true]) w := by kernel_rfl

set_option maxRecDepth 100000 in
set_option maxHeartbeats 400000 in
theorem base_Num (n : Int) (w : World) :
    Calls Tryz.prog 19 #[.iface 52 (.int .i64 n)] w fun e w' => e = .returned (.int .i64 n) ∧ w = w' := by
  go_enter Tryz.func19, Tryz.ntmps19
  go_wp2_with fail
  go_ret
  exact ⟨rfl, rfl⟩

set_option maxRecDepth 100000 in
set_option maxHeartbeats 400000 in
theorem base_Num_nil (w : World) :
    Calls Tryz.prog 19 #[.nilIface] w fun e w' => e = .returned (.int .i64 0) ∧ w = w' := by
  go_enter Tryz.func19, Tryz.ntmps19
  go_wp2_with fail
  go_ret
  exact ⟨rfl, rfl⟩

set_option maxRecDepth 100000 in
set_option maxHeartbeats 400000 in
theorem base_Is (n : Int) (w : World) (hn : n ≠ 0) :
    Calls Tryz.prog 20 #[.iface 52 (.int .i64 n), .int .i64 n] w fun e w' => e = .returned (.bool true) ∧ w = w' := by
  have h1 : (n == n) = true := by simp
  have h2 : (n != 0) = true := by simpa using hn
  go_enter Tryz.func20, Tryz.ntmps20
  go_wp2_with fail
  refine (base_Num _ _).mono ?_
  rintro e w' ⟨rfl, rfl⟩
  go_wp2_with fail
  go_ret
  exact ⟨by simp, rfl⟩

end Go.Proofs.YtclpndigmidjkaaGreat

/- The walk of PatchChecks, in all cases. -/
import Derived.Test.YtclpndigmidjkaaGreatQChk1
import Derived.Test.YtclpndigmidjkaaGreatQChk2
import Derived.Test.YtclpndigmidjkaaGreatQChk3
set_option linter.unusedSimpArgs false
set_option linter.unusedVariables false
namespace Go.Proofs.YtclpndigmidjkaaGreat
open Go.RowKit

set_option maxRecDepth 100000 in
set_option maxHeartbeats 2000000 in
theorem checks_many {w : World} {a ca : Option Addr} {cap ccap : Nat} {n m : Nat} (length : Int) (h : 30 < n) :
    Calls Tryz.prog 3 #[.slice a n cap, .int .i64 length, .slice ca m ccap] w fun e w' => e = .returned (.bool true) ∧ Fr0 w w' := by
  have CS := Lib.hid (law37_Store w)
  have q1 : decide ((30 : Int) < (n : Int)) = true := decide_eq_true (by omega)
  clear h
  go_enter Tryz.func3, Tryz.ntmps3
  go_wp2_with fail
  refine CS.out.mono ?_
  rintro e w1 ⟨p0, mb0, L0, rfl, _, _, hf1⟩
  have F1 := Lib.hid hf1
  clear CS hf1
  go_wp2_with fail
  go_ret
  exact ⟨rfl, F1.out⟩

set_option maxRecDepth 100000 in
set_option maxHeartbeats 2000000 in
theorem checks_wide {w : World} {a ca : Option Addr} {cap ccap : Nat} {n m : Nat} (length : Int) (h : ¬ 30 < n) (h2 : 20 < m) :
    Calls Tryz.prog 3 #[.slice a n cap, .int .i64 length, .slice ca m ccap] w fun e w' => e = .returned (.bool true) ∧ Fr0 w w' := by
  have CS := Lib.hid (law37_Store w)
  have q1 : decide ((30 : Int) < (n : Int)) = false := decide_eq_false (by omega)
  have q2 : decide ((20 : Int) < (m : Int)) = true := decide_eq_true (by omega)
  clear h h2
  go_enter Tryz.func3, Tryz.ntmps3
  go_wp2_with fail
  refine CS.out.mono ?_
  rintro e w1 ⟨p0, mb0, L0, rfl, _, _, hf1⟩
  have F1 := Lib.hid hf1
  clear CS hf1
  go_wp2_with fail
  go_ret
  exact ⟨rfl, F1.out⟩

theorem checks_walk {w : World} {a ca : Option Addr} {cap ccap : Nat} {ms : List Mk} {cs : List Chg} (length : Int) (hA : RG Mk.vals 5 w.heap.size w a ms) (hm : ∀ m ∈ ms, m.Ok) (hC : ChgsAt w ca cs) (hlen : i64P length) :
    Calls Tryz.prog 3 #[.slice a ms.length cap, .int .i64 length, .slice ca cs.length ccap] w fun e w' => e = .returned (.bool true) ∧ Fr0 w w' := by
  by_cases h1 : 30 < ms.length
  · exact checks_many length h1
  · by_cases h2 : 20 < cs.length
    · exact checks_wide length h1 h2
    · by_cases h3 : length < 0
      · exact checks_low length hA hm hC (by omega) (by omega) hlen h3
      · by_cases h4 : 1152921504606846976 < length
        · exact checks_high length hA hm hC (by omega) (by omega) hlen h4
        · exact checks_ok length hA hm hC (by omega) (by omega) hlen (by omega)

end Go.Proofs.YtclpndigmidjkaaGreat

/- The walk of evergreenref37.Apply. -/
import Derived.Test.YtodmpcnpedpheaaGreatDoorRPat1
import Derived.Deep.LoopGhost
import Derived.Deep.DeepCutAuto
import Derived.Test.YtodmpcnpedpheaaGreatDoorRAvl2
set_option linter.unusedSimpArgs false
set_option linter.unusedVariables false
namespace Go.Proofs.YtodmpcnpedpheaaGreatDoor
open Go.RowKit

def embC (x : Int) : Int × Int := (x, -1)

end Go.Proofs.YtodmpcnpedpheaaGreatDoor

/- The walk of evergreenlaw37.small. -/
set_option linter.unusedSimpArgs false
set_option linter.unusedVariables false
namespace Go.Proofs.YtodmpcnpedpheaaGreatDoor
open Go.RowKit

/-- Lists of changes at an address. -/
def PssAt (B : Nat) (w : World) (a : Option Addr) (pss : List (List PS)) : Prop :=
  ∀ i (h : i < pss.length), ∃ b off ia ic, a = some ⟨b, off, none⟩ ∧ b < w.heap.size ∧ w.cell? ⟨b, off + i, none⟩ = some (.slice ia pss[i].length ic) ∧ RG PS.vals 3 B w ia pss[i]

theorem PssAt.kept0 {B : Nat} {w w' : World} {a : Option Addr} {pss : List (List PS)} (h : PssAt B w a pss) (hf : Fr0 w w') : PssAt B w' a pss := by
  intro i hi
  obtain ⟨b, off, ia, ic, h1, h2, h3, h4⟩ := h i hi
  exact ⟨b, off, ia, ic, h1, by have := Fr.size hf; omega, (hf.cell b _ h2).trans h3, h4.kept0 hf⟩

end Go.Proofs.YtodmpcnpedpheaaGreatDoor

/- The walks of evergreenbase.Num and Is. -/
set_option linter.unusedSimpArgs false
set_option linter.unusedVariables false
namespace Go.Proofs.YtodmpcnpedpheaaGreatDoor
open Go.RowKit

@[go_sem] theorem assert_errno (n : Int) (w : World) : (Instr.typeAssert (.iface 43 (.int .i64 n)) 49 43 true).run Tryz.prog w = .ok (.tuple #[.int .i64 n, .bool true]) w := by kernel_rfl

set_option maxRecDepth 100000 in
set_option maxHeartbeats 400000 in
theorem base_Num (n : Int) (w : World) :
    Calls Tryz.prog 36 #[.iface 43 (.int .i64 n)] w fun e w' => e = .returned (.int .i64 n) ∧ w = w' := by
  go_enter Tryz.func36, Tryz.ntmps36
  go_wp2_with fail
  go_ret
  exact ⟨rfl, rfl⟩

set_option maxRecDepth 100000 in
set_option maxHeartbeats 400000 in
theorem base_Is (n : Int) (w : World) (hn : n ≠ 0) :
    Calls Tryz.prog 15 #[.iface 43 (.int .i64 n), .int .i64 n] w fun e w' => e = .returned (.bool true) ∧ w = w' := by
  have h1 : (n == n) = true := by simp
  have h2 : (n != 0) = true := by simpa using hn
  go_enter Tryz.func15, Tryz.ntmps15
  go_wp2_with fail
  refine (base_Num _ _).mono ?_
  rintro e w' ⟨rfl, rfl⟩
  go_wp2_with fail
  go_ret
  exact ⟨by simp, rfl⟩

end Go.Proofs.YtodmpcnpedpheaaGreatDoor

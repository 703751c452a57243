/- The walk of newReader. -/
import Derived.Test.YtgldjpldldknoaaGreatDoorRPx1
set_option linter.unusedSimpArgs false
set_option linter.unusedVariables false
namespace Go.Proofs.YtgldjpldldknoaaGreatDoor
open Go.RowKit
theorem txt_big {L : List Ent} (hS : SOk L) (hD : DOk L) {id : Int} (hk : isKnown L id) : (txt L id).length ≤ 1152921504606846976 := by
 have h1 := txt_len hD hS _ id (Nat.le_refl _) hk
 have h2 := (hS.at id hk).1.len1
 omega
end Go.Proofs.YtgldjpldldknoaaGreatDoor

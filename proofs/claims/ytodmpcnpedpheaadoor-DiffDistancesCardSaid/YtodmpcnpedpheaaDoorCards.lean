/-
  DERIVED. GIVEN WITH THE SEED: THE CARDS: each row of YtodmpcnpedpheaaDoorRows.lean that lists a variable, with what it lists TIED to the program's text (the seventh form; the later family's looks); each row that meets fmt, with fmt's text TOLD by the authors' own Lean function (tested against real Go, not proved from fmt's source: count such statements apart). THE CARD IS WHAT COUNTS. Prove the row's statement (the work); the ties are given (YtodmpcnpedpheaaDoorTie.lean); close each card by the builder's one call (the guide's Derived/Test/ToyasCard.lean, 'card_holds'). Laid BY PROGRAM, IN A SANDBOX (cutbox-door.mjs). By AI agents, Wed Nov 11 2026. No macro, syntax, notation, axiom, sorry.
-/
import Derived.Test.YtodmpcnpedpheaaDoorRows
import GoSem.ClaimSeven
namespace Go.Proofs.YtodmpcnpedpheaaDoor
namespace Rows

/-- THE TIED CARD OF 'evergreenlaw40.DiffDistances'. -/
def diffDistancesCard : Claim7 := { stood := { row := diffDistancesRow, standIns := [], harness := (true, "8c6e553a1ff8f6c2b6c3059395bdd4d4ae9a38839c5ed52244d8941663400946"), looks := true }, kinds := [], alts := [], laidByText := true, laidKinds := [.data], laidTests := true, laidLooks := .later }
def DiffDistancesCardSaid : Prop := Claim7.holds Tryd.pinned (.plain (OpenSpec.ofChange diffDistancesSpec)) diffDistancesCard

/-- THE TIED CARD OF 'evergreenlaw40.DiffMetric'. -/
def diffMetricCard : Claim7 := { stood := { row := diffMetricRow, standIns := [], harness := (true, "8c6e553a1ff8f6c2b6c3059395bdd4d4ae9a38839c5ed52244d8941663400946"), looks := true }, kinds := [], alts := [], laidByText := true, laidKinds := [.data], laidTests := true, laidLooks := .later }
def DiffMetricCardSaid : Prop := Claim7.holds Tryd.pinned (.plain (OpenSpec.ofChange diffMetricSpec)) diffMetricCard

/-- THE SECOND FORM's CARD OF 'evergreenlaw40.DiffDistances'. -/
def diffDistancesUptoCard : Claim7 := { stood := { row := diffDistancesUptoRow, standIns := [], harness := (true, "8c6e553a1ff8f6c2b6c3059395bdd4d4ae9a38839c5ed52244d8941663400946"), looks := true }, kinds := [], alts := [], laidByText := true, laidKinds := [.data], laidTests := true, laidLooks := .later }
def DiffDistancesUptoCardSaid : Prop := Claim7.holds Tryd.pinned (.plain (OpenSpec.upto diffDistancesSpec)) diffDistancesUptoCard

/-- THE SECOND FORM's CARD OF 'evergreenlaw40.DiffMetric'. -/
def diffMetricUptoCard : Claim7 := { stood := { row := diffMetricUptoRow, standIns := [], harness := (true, "8c6e553a1ff8f6c2b6c3059395bdd4d4ae9a38839c5ed52244d8941663400946"), looks := true }, kinds := [], alts := [], laidByText := true, laidKinds := [.data], laidTests := true, laidLooks := .later }
def DiffMetricUptoCardSaid : Prop := Claim7.holds Tryd.pinned (.plain (OpenSpec.upto diffMetricSpec)) diffMetricUptoCard
end Rows
end Go.Proofs.YtodmpcnpedpheaaDoor

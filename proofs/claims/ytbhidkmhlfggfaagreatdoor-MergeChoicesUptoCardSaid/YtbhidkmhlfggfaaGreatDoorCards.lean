/-
  DERIVED. GIVEN WITH THE SEED: THE CARDS: each row of YtbhidkmhlfggfaaGreatDoorRows.lean that lists a variable, with what it lists TIED to the program's text (the seventh form; the later family's looks); each row that meets fmt, with fmt's text TOLD by the authors' own Lean function (tested against real Go, not proved from fmt's source: count such statements apart). THE CARD IS WHAT COUNTS. Prove the row's statement (the work); the ties are given (YtbhidkmhlfggfaaGreatDoorTie.lean); close each card by the builder's one call (the guide's Derived/Test/ToyasCard.lean, 'card_holds'). Laid BY PROGRAM, IN A SANDBOX (cutbox-door.mjs). By AI agents, Wed Nov 11 2026. No macro, syntax, notation, axiom, sorry.
-/
import Derived.Test.YtbhidkmhlfggfaaGreatDoorRows
import GoSem.ClaimSeven
namespace Go.Proofs.YtbhidkmhlfggfaaGreatDoor
namespace Rows

/-- THE TIED CARD OF 'evergreenlaw43.MergeTexts'. -/
def mergeTextsCard : Claim7 := { stood := { row := mergeTextsRow, standIns := [], harness := (true, "21944a1c882b25c75023b5aef02fa47433f7d5a46602cbcee8645462a565c38a"), looks := true }, kinds := [], alts := [], laidByText := true, laidKinds := [.data], laidTests := true, laidLooks := .later }
def MergeTextsCardSaid : Prop := Claim7.holds Tryz.pinned (.plain (OpenSpec.ofChange mergeTextsSpec)) mergeTextsCard

/-- THE TIED CARD OF 'evergreenlaw43.MergeChoices'. -/
def mergeChoicesCard : Claim7 := { stood := { row := mergeChoicesRow, standIns := [], harness := (true, "21944a1c882b25c75023b5aef02fa47433f7d5a46602cbcee8645462a565c38a"), looks := true }, kinds := [], alts := [], laidByText := true, laidKinds := [.data], laidTests := true, laidLooks := .later }
def MergeChoicesCardSaid : Prop := Claim7.holds Tryz.pinned (.plain (OpenSpec.ofChange mergeChoicesSpec)) mergeChoicesCard

/-- THE SECOND FORM's CARD OF 'evergreenlaw43.MergeTexts'. -/
def mergeTextsUptoCard : Claim7 := { stood := { row := mergeTextsUptoRow, standIns := [], harness := (true, "21944a1c882b25c75023b5aef02fa47433f7d5a46602cbcee8645462a565c38a"), looks := true }, kinds := [], alts := [], laidByText := true, laidKinds := [.data], laidTests := true, laidLooks := .later }
def MergeTextsUptoCardSaid : Prop := Claim7.holds Tryz.pinned (.plain (OpenSpec.upto mergeTextsSpec)) mergeTextsUptoCard

/-- THE SECOND FORM's CARD OF 'evergreenlaw43.MergeChoices'. -/
def mergeChoicesUptoCard : Claim7 := { stood := { row := mergeChoicesUptoRow, standIns := [], harness := (true, "21944a1c882b25c75023b5aef02fa47433f7d5a46602cbcee8645462a565c38a"), looks := true }, kinds := [], alts := [], laidByText := true, laidKinds := [.data], laidTests := true, laidLooks := .later }
def MergeChoicesUptoCardSaid : Prop := Claim7.holds Tryz.pinned (.plain (OpenSpec.upto mergeChoicesSpec)) mergeChoicesUptoCard
end Rows
end Go.Proofs.YtbhidkmhlfggfaaGreatDoor

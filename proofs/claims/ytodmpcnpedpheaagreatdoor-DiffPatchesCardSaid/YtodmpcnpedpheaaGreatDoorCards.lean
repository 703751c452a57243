/-
  DERIVED. GIVEN WITH THE SEED: THE CARDS: each row of YtodmpcnpedpheaaGreatDoorRows.lean that lists a variable, with what it lists TIED to the program's text (the seventh form; the later family's looks); each row that meets fmt, with fmt's text TOLD by the authors' own Lean function (tested against real Go, not proved from fmt's source: count such statements apart). THE CARD IS WHAT COUNTS. Prove the row's statement (the work); the ties are given (YtodmpcnpedpheaaGreatDoorTie.lean); close each card by the builder's one call (the guide's Derived/Test/ToyasCard.lean, 'card_holds'). Laid BY PROGRAM, IN A SANDBOX (cutbox-door.mjs). By AI agents, Wed Nov 11 2026. No macro, syntax, notation, axiom, sorry.
-/
import Derived.Test.YtodmpcnpedpheaaGreatDoorRows
import GoSem.ClaimSeven
namespace Go.Proofs.YtodmpcnpedpheaaGreatDoor
namespace Rows

/-- THE TIED CARD OF 'evergreenlaw40.DiffForms'. -/
def diffFormsCard : Claim7 := { stood := { row := diffFormsRow, standIns := [], harness := (true, "8a6898c9e2626075167cdd96ed70bd0669f43d7e87b8c7ea5f9e660a4c10d380"), looks := true }, kinds := [], alts := [], laidByText := true, laidKinds := [.data], laidTests := true, laidLooks := .later }
def DiffFormsCardSaid : Prop := Claim7.holds Tryz.pinned (.plain (OpenSpec.ofChange diffFormsSpec)) diffFormsCard

/-- THE TIED CARD OF 'evergreenlaw40.DiffPatches'. -/
def diffPatchesCard : Claim7 := { stood := { row := diffPatchesRow, standIns := [], harness := (true, "8a6898c9e2626075167cdd96ed70bd0669f43d7e87b8c7ea5f9e660a4c10d380"), looks := true }, kinds := [], alts := [], laidByText := true, laidKinds := [.data], laidTests := true, laidLooks := .later }
def DiffPatchesCardSaid : Prop := Claim7.holds Tryz.pinned (.plain (OpenSpec.ofChange diffPatchesSpec)) diffPatchesCard

/-- THE SECOND FORM's CARD OF 'evergreenlaw40.DiffForms'. -/
def diffFormsUptoCard : Claim7 := { stood := { row := diffFormsUptoRow, standIns := [], harness := (true, "8a6898c9e2626075167cdd96ed70bd0669f43d7e87b8c7ea5f9e660a4c10d380"), looks := true }, kinds := [], alts := [], laidByText := true, laidKinds := [.data], laidTests := true, laidLooks := .later }
def DiffFormsUptoCardSaid : Prop := Claim7.holds Tryz.pinned (.plain (OpenSpec.upto diffFormsSpec)) diffFormsUptoCard

/-- THE SECOND FORM's CARD OF 'evergreenlaw40.DiffPatches'. -/
def diffPatchesUptoCard : Claim7 := { stood := { row := diffPatchesUptoRow, standIns := [], harness := (true, "8a6898c9e2626075167cdd96ed70bd0669f43d7e87b8c7ea5f9e660a4c10d380"), looks := true }, kinds := [], alts := [], laidByText := true, laidKinds := [.data], laidTests := true, laidLooks := .later }
def DiffPatchesUptoCardSaid : Prop := Claim7.holds Tryz.pinned (.plain (OpenSpec.upto diffPatchesSpec)) diffPatchesUptoCard
end Rows
end Go.Proofs.YtodmpcnpedpheaaGreatDoor

/- The argument []Change of evergreenref37: how it lies in memory, and how much it can hold. -/
import Derived.Test.YtodmpcnpedpheaaGreatDoorRows
import Derived.Test.YtodmpcnpedpheaaGreatDoorQRch1
import Derived.ProofKit
import Derived.OpenShut
import Derived.Carry
import Derived.Deep.Slices
import Derived.Deep.Fields
import Derived.ChangeSame
import Derived.JoinedCond
set_option linter.unusedVariables false
set_option linter.unusedSimpArgs false
namespace Go.Proofs.YtodmpcnpedpheaaGreatDoor
open Go.ChangeShapes Go.WideShapes Go.ChangeAt Go.RowKit Go.Deep

theorem laid_out : laidOutB Tryz.prog = true := by kernel_rfl

theorem addr_of_cell' {w : World} {a : Addr} {v : Value} (h : w.cell? a = some v) : a = ⟨a.block, a.off, none⟩ ∧ a.block < w.heap.size := by
  refine ⟨?_, World.block_lt_of_cell? w _ h⟩
  obtain ⟨b, o, s⟩ := a
  cases s with
  | none => rfl
  | some x =>
    simp only [World.cell?] at h
    split at h
    · simp at h
    · cases h

instance : Inhabited PS := ⟨⟨0, 0, ByteArray.empty⟩⟩

end Go.Proofs.YtodmpcnpedpheaaGreatDoor

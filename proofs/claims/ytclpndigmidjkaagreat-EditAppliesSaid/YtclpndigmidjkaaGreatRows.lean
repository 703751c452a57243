/-
  No cell of these rows narrows 'for every input' (looked for: loops, veiled, ifaces, maps, wideKeys, modest, calm, conditions, laid).
  DERIVED. THE GIVEN ROWS OF THIS SEAT. 6 by the template 'for every input the law returns true; each argument reads behind the call as it read before'; 0 by the template 'total and deterministic' (their statements: YtclpndigmidjkaaGreatTotals.lean).
  GIVEN WITH THE SEED: the statements are not yours to turn. If you find one false, say at which input.
  Laid BY PROGRAM, IN A SANDBOX (cutbox-rows.mjs): the forced cells as the released guide's own fill.sh prints them over the translation e2646260b4fc2111… (all of the seat's roots in one cut). By AI agents, Wed Nov 11 2026. No macro, syntax, notation, axiom, sorry.
-/
import Derived.Test.YtclpndigmidjkaaGreatChecked
import GoSem.Claim
import GoSem.ClaimJoined
import GoSem.ClaimMapViews
import Derived.JoinedTies
import Derived.KernelRfl
namespace Go.Proofs.YtclpndigmidjkaaGreat
/- THE CELL 'sum', in the pinned program and in every row, IS THE sha256 OF THE DUMP (.gsa) THAT YtclpndigmidjkaaGreatProg.lean LOADS. Nothing in Lean hashes anything: it is a label: what it is worth is what the hold of that sum in a sandbox is worth. -/
noncomputable def Tryz.pinned : Pinned := { name := "ytclpndigmidjkaagreat", sum := "e2646260b4fc2111261b92d6a06aed396146aa9c6a3d411d1bbe2fb22d5a748b", checked := Tryz.checked }
namespace Rows
def none {H : Type} : Left H := { results := [], args := [] }

/-- 'evergreenlaw37.PatchChecks': WHATEVER THE INPUT: true; the input reads as it did. -/
def patchChecksSpec : ChangeSpec := { name := "patchChecks", fn := fun _ => fun
  | [d1, d2, d3] => { results := [.lit (.bool true)], args := [d1, d2, d3] }
  | _ => none }
def patchChecksRow : OpenClaim := { program := "ytclpndigmidjkaagreat", sum := "e2646260b4fc2111261b92d6a06aed396146aa9c6a3d411d1bbe2fb22d5a748b", func := "evergreen/evergreenlaw37.PatchChecks", spec := "patchChecks", recurses := true, plainKeys := false, apart := false }
def PatchChecksSaid : Prop := patchChecksRow.holds Tryz.pinned (OpenSpec.ofChange patchChecksSpec)

/-- ITS FALSE NEIGHBOUR: 'it returns false'. Refute it at one input. -/
def patchChecksWrong : ChangeSpec := { name := "patchChecks", fn := fun _ => fun
  | [d1, d2, d3] => { results := [.lit (.bool false)], args := [d1, d2, d3] }
  | _ => none }
def PatchChecksWrongFalsely : Prop := patchChecksRow.holds Tryz.pinned (OpenSpec.ofChange patchChecksWrong)

/-- 'evergreenlaw37.PatchComposes': WHATEVER THE INPUT: true; the input reads as it did. -/
def patchComposesSpec : ChangeSpec := { name := "patchComposes", fn := fun _ => fun
  | [d1, d2, d3] => { results := [.lit (.bool true)], args := [d1, d2, d3] }
  | _ => none }
def patchComposesRow : OpenClaim := { program := "ytclpndigmidjkaagreat", sum := "e2646260b4fc2111261b92d6a06aed396146aa9c6a3d411d1bbe2fb22d5a748b", func := "evergreen/evergreenlaw37.PatchComposes", spec := "patchComposes", recurses := true, plainKeys := false, apart := false }
def PatchComposesSaid : Prop := patchComposesRow.holds Tryz.pinned (OpenSpec.ofChange patchComposesSpec)

/-- ITS FALSE NEIGHBOUR: 'it returns false'. Refute it at one input. -/
def patchComposesWrong : ChangeSpec := { name := "patchComposes", fn := fun _ => fun
  | [d1, d2, d3] => { results := [.lit (.bool false)], args := [d1, d2, d3] }
  | _ => none }
def PatchComposesWrongFalsely : Prop := patchComposesRow.holds Tryz.pinned (OpenSpec.ofChange patchComposesWrong)

/-- 'evergreenlaw37.PatchEdits': WHATEVER THE INPUT: true; the input reads as it did. -/
def patchEditsSpec : ChangeSpec := { name := "patchEdits", fn := fun _ => fun
  | [d1, d2] => { results := [.lit (.bool true)], args := [d1, d2] }
  | _ => none }
def patchEditsRow : OpenClaim := { program := "ytclpndigmidjkaagreat", sum := "e2646260b4fc2111261b92d6a06aed396146aa9c6a3d411d1bbe2fb22d5a748b", func := "evergreen/evergreenlaw37.PatchEdits", spec := "patchEdits", recurses := true, plainKeys := false, apart := false }
def PatchEditsSaid : Prop := patchEditsRow.holds Tryz.pinned (OpenSpec.ofChange patchEditsSpec)

/-- ITS FALSE NEIGHBOUR: 'it returns false'. Refute it at one input. -/
def patchEditsWrong : ChangeSpec := { name := "patchEdits", fn := fun _ => fun
  | [d1, d2] => { results := [.lit (.bool false)], args := [d1, d2] }
  | _ => none }
def PatchEditsWrongFalsely : Prop := patchEditsRow.holds Tryz.pinned (OpenSpec.ofChange patchEditsWrong)

/-- 'evergreenlaw36.EditLengths': WHATEVER THE INPUT: true; the input reads as it did. -/
def editLengthsSpec : ChangeSpec := { name := "editLengths", fn := fun _ => fun
  | [d1, d2, d3] => { results := [.lit (.bool true)], args := [d1, d2, d3] }
  | _ => none }
def editLengthsRow : OpenClaim := { program := "ytclpndigmidjkaagreat", sum := "e2646260b4fc2111261b92d6a06aed396146aa9c6a3d411d1bbe2fb22d5a748b", func := "evergreen/evergreenlaw36.EditLengths", spec := "editLengths", unfollowed := true, recurses := true, plainKeys := false, apart := false }
def EditLengthsSaid : Prop := editLengthsRow.holds Tryz.pinned (OpenSpec.ofChange editLengthsSpec)

/-- ITS FALSE NEIGHBOUR: 'it returns false'. Refute it at one input. -/
def editLengthsWrong : ChangeSpec := { name := "editLengths", fn := fun _ => fun
  | [d1, d2, d3] => { results := [.lit (.bool false)], args := [d1, d2, d3] }
  | _ => none }
def EditLengthsWrongFalsely : Prop := editLengthsRow.holds Tryz.pinned (OpenSpec.ofChange editLengthsWrong)

/-- 'evergreenlaw36.EditApplies': WHATEVER THE INPUT: true; the input reads as it did. -/
def editAppliesSpec : ChangeSpec := { name := "editApplies", fn := fun _ => fun
  | [d1, d2, d3] => { results := [.lit (.bool true)], args := [d1, d2, d3] }
  | _ => none }
def editAppliesRow : OpenClaim := { program := "ytclpndigmidjkaagreat", sum := "e2646260b4fc2111261b92d6a06aed396146aa9c6a3d411d1bbe2fb22d5a748b", func := "evergreen/evergreenlaw36.EditApplies", spec := "editApplies", unfollowed := true, recurses := true, plainKeys := false, apart := false }
def EditAppliesSaid : Prop := editAppliesRow.holds Tryz.pinned (OpenSpec.ofChange editAppliesSpec)

/-- ITS FALSE NEIGHBOUR: 'it returns false'. Refute it at one input. -/
def editAppliesWrong : ChangeSpec := { name := "editApplies", fn := fun _ => fun
  | [d1, d2, d3] => { results := [.lit (.bool false)], args := [d1, d2, d3] }
  | _ => none }
def EditAppliesWrongFalsely : Prop := editAppliesRow.holds Tryz.pinned (OpenSpec.ofChange editAppliesWrong)

/-- 'evergreenlaw36.EditNone': WHATEVER THE INPUT: true; the input reads as it did. -/
def editNoneSpec : ChangeSpec := { name := "editNone", fn := fun _ => fun
  | [d1, d2] => { results := [.lit (.bool true)], args := [d1, d2] }
  | _ => none }
def editNoneRow : OpenClaim := { program := "ytclpndigmidjkaagreat", sum := "e2646260b4fc2111261b92d6a06aed396146aa9c6a3d411d1bbe2fb22d5a748b", func := "evergreen/evergreenlaw36.EditNone", spec := "editNone", unfollowed := true, recurses := true, plainKeys := false, apart := false }
def EditNoneSaid : Prop := editNoneRow.holds Tryz.pinned (OpenSpec.ofChange editNoneSpec)

/-- ITS FALSE NEIGHBOUR: 'it returns false'. Refute it at one input. -/
def editNoneWrong : ChangeSpec := { name := "editNone", fn := fun _ => fun
  | [d1, d2] => { results := [.lit (.bool false)], args := [d1, d2] }
  | _ => none }
def EditNoneWrongFalsely : Prop := editNoneRow.holds Tryz.pinned (OpenSpec.ofChange editNoneWrong)

/- THE SECOND FORM. 'bulk': how many values and letters a reading holds, each counted each time it is reached (what is shared counts as often as it is met; a slice's spare places count too). A statement '..UptoSaid' is the law's where the arguments, and the package variables that the reading takes, are together of bulk at most 1048576: NARROWER than '..Said'. Prove '..Said' where nothing that the law and all that it calls make is longer than what came in: it says more and counts as full. Else prove '..UptoSaid'. A law counts once. -/
mutual
def uptoBulk {H : Type} : DataW H → Nat
  | .lit (.string bytes) => bytes.length + 1
  | .lit _ => 1
  | .nil => 1
  | .ptr d => uptoBulk d + 1
  | .slice elems spare => uptoBulkAll elems + uptoBulkAll spare + 1
  | .agg parts => uptoBulkAll parts + 1
  | .iface _ d => uptoBulk d + 1
  | .map entries => uptoBulkEntries entries + 1
  | .held _ => 1
def uptoBulkAll {H : Type} : List (DataW H) → Nat
  | [] => 0
  | d :: r => uptoBulk d + uptoBulkAll r
def uptoBulkEntries {H : Type} : List (Lit × DataW H) → Nat
  | [] => 0
  | x :: r => uptoBulkEntry x + uptoBulkEntries r
def uptoBulkEntry {H : Type} : Lit × DataW H → Nat
  | (.string bytes, d) => bytes.length + uptoBulk d + 1
  | (_, d) => uptoBulk d + 1
 end
def uptoSmall : (H : Type) → List (DataW H) → Bool := fun _ ds => decide (uptoBulkAll ds ≤ 1048576)
def OpenSpec.upto (s : _root_.Go.ChangeSpec) : _root_.Go.OpenSpec := { _root_.Go.OpenSpec.ofChange s with cond := some uptoSmall }

/-- 'evergreenlaw37.PatchChecks', WHERE WHAT IT READS IS OF BULK AT MOST 1048576: true; the input reads as it did. -/
def patchChecksUptoRow : OpenClaim := { program := "ytclpndigmidjkaagreat", sum := "e2646260b4fc2111261b92d6a06aed396146aa9c6a3d411d1bbe2fb22d5a748b", func := "evergreen/evergreenlaw37.PatchChecks", spec := "patchChecks", recurses := true, plainKeys := false, apart := false, narrowed := true }
def PatchChecksUptoSaid : Prop := patchChecksUptoRow.holds Tryz.pinned (OpenSpec.upto patchChecksSpec)

/-- 'evergreenlaw37.PatchComposes', WHERE WHAT IT READS IS OF BULK AT MOST 1048576: true; the input reads as it did. -/
def patchComposesUptoRow : OpenClaim := { program := "ytclpndigmidjkaagreat", sum := "e2646260b4fc2111261b92d6a06aed396146aa9c6a3d411d1bbe2fb22d5a748b", func := "evergreen/evergreenlaw37.PatchComposes", spec := "patchComposes", recurses := true, plainKeys := false, apart := false, narrowed := true }
def PatchComposesUptoSaid : Prop := patchComposesUptoRow.holds Tryz.pinned (OpenSpec.upto patchComposesSpec)

/-- 'evergreenlaw37.PatchEdits', WHERE WHAT IT READS IS OF BULK AT MOST 1048576: true; the input reads as it did. -/
def patchEditsUptoRow : OpenClaim := { program := "ytclpndigmidjkaagreat", sum := "e2646260b4fc2111261b92d6a06aed396146aa9c6a3d411d1bbe2fb22d5a748b", func := "evergreen/evergreenlaw37.PatchEdits", spec := "patchEdits", recurses := true, plainKeys := false, apart := false, narrowed := true }
def PatchEditsUptoSaid : Prop := patchEditsUptoRow.holds Tryz.pinned (OpenSpec.upto patchEditsSpec)

/-- 'evergreenlaw36.EditLengths', WHERE WHAT IT READS IS OF BULK AT MOST 1048576: true; the input reads as it did. -/
def editLengthsUptoRow : OpenClaim := { program := "ytclpndigmidjkaagreat", sum := "e2646260b4fc2111261b92d6a06aed396146aa9c6a3d411d1bbe2fb22d5a748b", func := "evergreen/evergreenlaw36.EditLengths", spec := "editLengths", unfollowed := true, recurses := true, plainKeys := false, apart := false, narrowed := true }
def EditLengthsUptoSaid : Prop := editLengthsUptoRow.holds Tryz.pinned (OpenSpec.upto editLengthsSpec)

/-- 'evergreenlaw36.EditApplies', WHERE WHAT IT READS IS OF BULK AT MOST 1048576: true; the input reads as it did. -/
def editAppliesUptoRow : OpenClaim := { program := "ytclpndigmidjkaagreat", sum := "e2646260b4fc2111261b92d6a06aed396146aa9c6a3d411d1bbe2fb22d5a748b", func := "evergreen/evergreenlaw36.EditApplies", spec := "editApplies", unfollowed := true, recurses := true, plainKeys := false, apart := false, narrowed := true }
def EditAppliesUptoSaid : Prop := editAppliesUptoRow.holds Tryz.pinned (OpenSpec.upto editAppliesSpec)

/-- 'evergreenlaw36.EditNone', WHERE WHAT IT READS IS OF BULK AT MOST 1048576: true; the input reads as it did. -/
def editNoneUptoRow : OpenClaim := { program := "ytclpndigmidjkaagreat", sum := "e2646260b4fc2111261b92d6a06aed396146aa9c6a3d411d1bbe2fb22d5a748b", func := "evergreen/evergreenlaw36.EditNone", spec := "editNone", unfollowed := true, recurses := true, plainKeys := false, apart := false, narrowed := true }
def EditNoneUptoSaid : Prop := editNoneUptoRow.holds Tryz.pinned (OpenSpec.upto editNoneSpec)

end Rows
end Go.Proofs.YtclpndigmidjkaaGreat

/-
  No cell of these rows narrows 'for every input' (looked for: loops, veiled, ifaces, maps, wideKeys, modest, calm, conditions, laid).
  DERIVED. THE GIVEN ROWS OF THIS SEAT. 6 by the template 'for every input the law returns true; each argument reads behind the call as it read before'; 0 by the template 'total and deterministic' (their statements: YtbokcmkbnkncoaaTotals.lean).
  GIVEN WITH THE SEED: the statements are not yours to turn. If you find one false, say at which input.
  Laid BY PROGRAM, IN A SANDBOX (cutbox-rows.mjs): the forced cells as the released guide's own fill.sh prints them over the translation 197e29d003d6820a… (all of the seat's roots in one cut). By AI agents, Wed Nov 11 2026. No macro, syntax, notation, axiom, sorry.
-/
import Derived.Test.YtbokcmkbnkncoaaChecked
import GoSem.Claim
import GoSem.ClaimJoined
import GoSem.ClaimMapViews
import Derived.JoinedTies
import Derived.KernelRfl
namespace Go.Proofs.Ytbokcmkbnkncoaa
/- THE CELL 'sum', in the pinned program and in every row, IS THE sha256 OF THE DUMP (.gsa) THAT YtbokcmkbnkncoaaProg.lean LOADS. Nothing in Lean hashes anything: it is a label: what it is worth is what the hold of that sum in a sandbox is worth. -/
noncomputable def Try.pinned : Pinned := { name := "ytbokcmkbnkncoaa", sum := "197e29d003d6820a6b24f28d5545c8b2bde80441f905c4b2ecb7d66e79917535", checked := Try.checked }
namespace Rows
def none {H : Type} : Left H := { results := [], args := [] }

/-- 'evergreenlaw44.BlameRows': WHATEVER THE INPUT: true; the input reads as it did. -/
def blameRowsSpec : ChangeSpec := { name := "blameRows", fn := fun _ => fun
  | [d1, d2] => { results := [.lit (.bool true)], args := [d1, d2] }
  | _ => none }
def blameRowsRow : OpenClaim := { program := "ytbokcmkbnkncoaa", sum := "197e29d003d6820a6b24f28d5545c8b2bde80441f905c4b2ecb7d66e79917535", func := "evergreen/evergreenlaw44.BlameRows", spec := "blameRows", recurses := true, plainKeys := false, apart := false }
def BlameRowsSaid : Prop := blameRowsRow.holds Try.pinned (OpenSpec.ofChange blameRowsSpec)

/-- ITS FALSE NEIGHBOUR: 'it returns false'. Refute it at one input. -/
def blameRowsWrong : ChangeSpec := { name := "blameRows", fn := fun _ => fun
  | [d1, d2] => { results := [.lit (.bool false)], args := [d1, d2] }
  | _ => none }
def BlameRowsWrongFalsely : Prop := blameRowsRow.holds Try.pinned (OpenSpec.ofChange blameRowsWrong)

/-- 'evergreenlaw44.BlameCovers': WHATEVER THE INPUT: true; the input reads as it did. -/
def blameCoversSpec : ChangeSpec := { name := "blameCovers", fn := fun _ => fun
  | [d1, d2] => { results := [.lit (.bool true)], args := [d1, d2] }
  | _ => none }
def blameCoversRow : OpenClaim := { program := "ytbokcmkbnkncoaa", sum := "197e29d003d6820a6b24f28d5545c8b2bde80441f905c4b2ecb7d66e79917535", func := "evergreen/evergreenlaw44.BlameCovers", spec := "blameCovers", recurses := true, plainKeys := false, apart := false }
def BlameCoversSaid : Prop := blameCoversRow.holds Try.pinned (OpenSpec.ofChange blameCoversSpec)

/-- ITS FALSE NEIGHBOUR: 'it returns false'. Refute it at one input. -/
def blameCoversWrong : ChangeSpec := { name := "blameCovers", fn := fun _ => fun
  | [d1, d2] => { results := [.lit (.bool false)], args := [d1, d2] }
  | _ => none }
def BlameCoversWrongFalsely : Prop := blameCoversRow.holds Try.pinned (OpenSpec.ofChange blameCoversWrong)

/-- 'evergreenlaw44.BlameFinds': WHATEVER THE INPUT: true; the input reads as it did. -/
def blameFindsSpec : ChangeSpec := { name := "blameFinds", fn := fun _ => fun
  | [d1, d2, d3] => { results := [.lit (.bool true)], args := [d1, d2, d3] }
  | _ => none }
def blameFindsRow : OpenClaim := { program := "ytbokcmkbnkncoaa", sum := "197e29d003d6820a6b24f28d5545c8b2bde80441f905c4b2ecb7d66e79917535", func := "evergreen/evergreenlaw44.BlameFinds", spec := "blameFinds", recurses := true, plainKeys := false, apart := false }
def BlameFindsSaid : Prop := blameFindsRow.holds Try.pinned (OpenSpec.ofChange blameFindsSpec)

/-- ITS FALSE NEIGHBOUR: 'it returns false'. Refute it at one input. -/
def blameFindsWrong : ChangeSpec := { name := "blameFinds", fn := fun _ => fun
  | [d1, d2, d3] => { results := [.lit (.bool false)], args := [d1, d2, d3] }
  | _ => none }
def BlameFindsWrongFalsely : Prop := blameFindsRow.holds Try.pinned (OpenSpec.ofChange blameFindsWrong)

/-- 'evergreenlaw44.BlameSince': WHATEVER THE INPUT: true; the input reads as it did. -/
def blameSinceSpec : ChangeSpec := { name := "blameSince", fn := fun _ => fun
  | [d1, d2, d3] => { results := [.lit (.bool true)], args := [d1, d2, d3] }
  | _ => none }
def blameSinceRow : OpenClaim := { program := "ytbokcmkbnkncoaa", sum := "197e29d003d6820a6b24f28d5545c8b2bde80441f905c4b2ecb7d66e79917535", func := "evergreen/evergreenlaw44.BlameSince", spec := "blameSince", recurses := true, plainKeys := false, apart := false }
def BlameSinceSaid : Prop := blameSinceRow.holds Try.pinned (OpenSpec.ofChange blameSinceSpec)

/-- ITS FALSE NEIGHBOUR: 'it returns false'. Refute it at one input. -/
def blameSinceWrong : ChangeSpec := { name := "blameSince", fn := fun _ => fun
  | [d1, d2, d3] => { results := [.lit (.bool false)], args := [d1, d2, d3] }
  | _ => none }
def BlameSinceWrongFalsely : Prop := blameSinceRow.holds Try.pinned (OpenSpec.ofChange blameSinceWrong)

/-- 'evergreenlaw44.BlameLetters': WHATEVER THE INPUT: true; the input reads as it did. -/
def blameLettersSpec : ChangeSpec := { name := "blameLetters", fn := fun _ => fun
  | [d1, d2, d3] => { results := [.lit (.bool true)], args := [d1, d2, d3] }
  | _ => none }
def blameLettersRow : OpenClaim := { program := "ytbokcmkbnkncoaa", sum := "197e29d003d6820a6b24f28d5545c8b2bde80441f905c4b2ecb7d66e79917535", func := "evergreen/evergreenlaw44.BlameLetters", spec := "blameLetters", recurses := true, plainKeys := false, apart := false }
def BlameLettersSaid : Prop := blameLettersRow.holds Try.pinned (OpenSpec.ofChange blameLettersSpec)

/-- ITS FALSE NEIGHBOUR: 'it returns false'. Refute it at one input. -/
def blameLettersWrong : ChangeSpec := { name := "blameLetters", fn := fun _ => fun
  | [d1, d2, d3] => { results := [.lit (.bool false)], args := [d1, d2, d3] }
  | _ => none }
def BlameLettersWrongFalsely : Prop := blameLettersRow.holds Try.pinned (OpenSpec.ofChange blameLettersWrong)

/-- 'evergreenlaw44.BlameNone': WHATEVER THE INPUT: true; the input reads as it did. -/
def blameNoneSpec : ChangeSpec := { name := "blameNone", fn := fun _ => fun
  | [d1, d2] => { results := [.lit (.bool true)], args := [d1, d2] }
  | _ => none }
def blameNoneRow : OpenClaim := { program := "ytbokcmkbnkncoaa", sum := "197e29d003d6820a6b24f28d5545c8b2bde80441f905c4b2ecb7d66e79917535", func := "evergreen/evergreenlaw44.BlameNone", spec := "blameNone", recurses := true, plainKeys := false, apart := false }
def BlameNoneSaid : Prop := blameNoneRow.holds Try.pinned (OpenSpec.ofChange blameNoneSpec)

/-- ITS FALSE NEIGHBOUR: 'it returns false'. Refute it at one input. -/
def blameNoneWrong : ChangeSpec := { name := "blameNone", fn := fun _ => fun
  | [d1, d2] => { results := [.lit (.bool false)], args := [d1, d2] }
  | _ => none }
def BlameNoneWrongFalsely : Prop := blameNoneRow.holds Try.pinned (OpenSpec.ofChange blameNoneWrong)

/- THE SECOND FORM. 'bulk': how many values and letters a reading holds, each counted each time it is reached (what is shared counts as often as it is met; a slice's spare places count too). A statement '..UptoSaid' is the law's where the arguments, and the package variables that the reading takes, are together of bulk at most 1048576: NARROWER than '..Said'. Prove '..Said' where nothing that the law and all that it calls make is longer than what came in: it says more and counts as full. Else prove '..UptoSaid'. A law counts once. -/
mutual
def uptoBulk {H : Type} : DataW H → Nat
  | .lit (.string bytes) => bytes.length + 1
  | .lit _ => 1
  | .nil => 1
  | .ptr d => uptoBulk d + 1
  | .slice elems spare => uptoBulkAll elems + uptoBulkAll spare + 1
  | .agg parts => uptoBulkAll parts + 1
  | .iface _ d => uptoBulk d + 1
  | .map entries => uptoBulkEntries entries + 1
  | .held _ => 1
def uptoBulkAll {H : Type} : List (DataW H) → Nat
  | [] => 0
  | d :: r => uptoBulk d + uptoBulkAll r
def uptoBulkEntries {H : Type} : List (Lit × DataW H) → Nat
  | [] => 0
  | x :: r => uptoBulkEntry x + uptoBulkEntries r
def uptoBulkEntry {H : Type} : Lit × DataW H → Nat
  | (.string bytes, d) => bytes.length + uptoBulk d + 1
  | (_, d) => uptoBulk d + 1
 end
def uptoSmall : (H : Type) → List (DataW H) → Bool := fun _ ds => decide (uptoBulkAll ds ≤ 1048576)
def OpenSpec.upto (s : _root_.Go.ChangeSpec) : _root_.Go.OpenSpec := { _root_.Go.OpenSpec.ofChange s with cond := some uptoSmall }

/-- 'evergreenlaw44.BlameRows', WHERE WHAT IT READS IS OF BULK AT MOST 1048576: true; the input reads as it did. -/
def blameRowsUptoRow : OpenClaim := { program := "ytbokcmkbnkncoaa", sum := "197e29d003d6820a6b24f28d5545c8b2bde80441f905c4b2ecb7d66e79917535", func := "evergreen/evergreenlaw44.BlameRows", spec := "blameRows", recurses := true, plainKeys := false, apart := false, narrowed := true }
def BlameRowsUptoSaid : Prop := blameRowsUptoRow.holds Try.pinned (OpenSpec.upto blameRowsSpec)

/-- 'evergreenlaw44.BlameCovers', WHERE WHAT IT READS IS OF BULK AT MOST 1048576: true; the input reads as it did. -/
def blameCoversUptoRow : OpenClaim := { program := "ytbokcmkbnkncoaa", sum := "197e29d003d6820a6b24f28d5545c8b2bde80441f905c4b2ecb7d66e79917535", func := "evergreen/evergreenlaw44.BlameCovers", spec := "blameCovers", recurses := true, plainKeys := false, apart := false, narrowed := true }
def BlameCoversUptoSaid : Prop := blameCoversUptoRow.holds Try.pinned (OpenSpec.upto blameCoversSpec)

/-- 'evergreenlaw44.BlameFinds', WHERE WHAT IT READS IS OF BULK AT MOST 1048576: true; the input reads as it did. -/
def blameFindsUptoRow : OpenClaim := { program := "ytbokcmkbnkncoaa", sum := "197e29d003d6820a6b24f28d5545c8b2bde80441f905c4b2ecb7d66e79917535", func := "evergreen/evergreenlaw44.BlameFinds", spec := "blameFinds", recurses := true, plainKeys := false, apart := false, narrowed := true }
def BlameFindsUptoSaid : Prop := blameFindsUptoRow.holds Try.pinned (OpenSpec.upto blameFindsSpec)

/-- 'evergreenlaw44.BlameSince', WHERE WHAT IT READS IS OF BULK AT MOST 1048576: true; the input reads as it did. -/
def blameSinceUptoRow : OpenClaim := { program := "ytbokcmkbnkncoaa", sum := "197e29d003d6820a6b24f28d5545c8b2bde80441f905c4b2ecb7d66e79917535", func := "evergreen/evergreenlaw44.BlameSince", spec := "blameSince", recurses := true, plainKeys := false, apart := false, narrowed := true }
def BlameSinceUptoSaid : Prop := blameSinceUptoRow.holds Try.pinned (OpenSpec.upto blameSinceSpec)

/-- 'evergreenlaw44.BlameLetters', WHERE WHAT IT READS IS OF BULK AT MOST 1048576: true; the input reads as it did. -/
def blameLettersUptoRow : OpenClaim := { program := "ytbokcmkbnkncoaa", sum := "197e29d003d6820a6b24f28d5545c8b2bde80441f905c4b2ecb7d66e79917535", func := "evergreen/evergreenlaw44.BlameLetters", spec := "blameLetters", recurses := true, plainKeys := false, apart := false, narrowed := true }
def BlameLettersUptoSaid : Prop := blameLettersUptoRow.holds Try.pinned (OpenSpec.upto blameLettersSpec)

/-- 'evergreenlaw44.BlameNone', WHERE WHAT IT READS IS OF BULK AT MOST 1048576: true; the input reads as it did. -/
def blameNoneUptoRow : OpenClaim := { program := "ytbokcmkbnkncoaa", sum := "197e29d003d6820a6b24f28d5545c8b2bde80441f905c4b2ecb7d66e79917535", func := "evergreen/evergreenlaw44.BlameNone", spec := "blameNone", recurses := true, plainKeys := false, apart := false, narrowed := true }
def BlameNoneUptoSaid : Prop := blameNoneUptoRow.holds Try.pinned (OpenSpec.upto blameNoneSpec)

end Rows
end Go.Proofs.Ytbokcmkbnkncoaa

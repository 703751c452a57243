/- Two readers in memory; the walk of common. -/
import Derived.Test.YtgldjpldldknoaaGreatDoorRPx3
import Derived.BigRegion
set_option linter.unusedSimpArgs false
set_option linter.unusedVariables false
namespace Go.Proofs.YtgldjpldldknoaaGreatDoor
open Go.RowKit
theorem list_end {α : Type} (l : List α) : l = [] ∨ ∃ l' x, l = l' ++ [x] := by
 rcases List.eq_nil_or_concat l with h | ⟨a, b, h⟩
 · exact .inl h
 · exact .inr ⟨a, b, by rw [h, List.concat_eq_append]⟩
theorem own_nil {base : Nat} {w : World} {T : TypeId} {v : Value} {sz : Nat} (h : w.ownsRow base T sz v 0 []) : ∃ a c, v = .slice a 0 c := owns_form h
end Go.Proofs.YtgldjpldldknoaaGreatDoor

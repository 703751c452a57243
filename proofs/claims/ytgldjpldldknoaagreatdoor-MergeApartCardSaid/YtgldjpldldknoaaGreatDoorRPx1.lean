/- The walks of package prefix: size, push, drop. -/
import Derived.Test.YtgldjpldldknoaaGreatDoorRSw8
import Derived.Test.YtgldjpldldknoaaGreatDoorRKy0
import Derived.WalkSmall
set_option linter.unusedSimpArgs false
set_option linter.unusedVariables false
namespace Go.Proofs.YtgldjpldldknoaaGreatDoor
open Go.RowKit
def gvZ (p : Int × Int) : List Value := [.int .i64 p.1, .int .i64 p.2]
theorem gvZ_len (g : List (Int × Int)) : (g.flatMap gvZ).length = g.length * 2 := flat_len gvZ 2 g (fun _ _ => rfl)
theorem gz_set (g : List (Int × Int)) (x k m : Int) : ((g ++ [(x, k)]).flatMap gvZ).set (g.length * 2 + 1) (.int .i64 m) = (g ++ [(x, m)]).flatMap gvZ := by
 have hl := gvZ_len g
 rw [List.flatMap_append, List.flatMap_append, List.set_append_right _ _ (by omega), hl]
 simp [gvZ]
def rdS (x : Nat) (v : Value) (k : Nat) : Prop := k = x ∨ v.ownBlock = some k
end Go.Proofs.YtgldjpldldknoaaGreatDoor
/- The walk of reader.open. -/
set_option linter.unusedSimpArgs false
set_option linter.unusedVariables false
namespace Go.Proofs.YtgldjpldldknoaaGreatDoor
open Go.RowKit
structure RdStep (w : World) (x : Nat) (v : Value) (w' : World) (v' : Value) : Prop where
 fr : Fr (rdS x v) w w'
 own : ∀ k, v'.ownBlock = some k → v.ownBlock = some k ∨ w.heap.size ≤ k
theorem RdStep.of0 {w w' : World} {x : Nat} {v : Value} (h : Fr0 w w') : RdStep w x v w' v := ⟨Fr0.fr h, fun k hk => .inl hk⟩
theorem RdStep.trans {w w1 w2 : World} {x : Nat} {v v1 v2 : Value} (h : RdStep w x v w1 v1) (g : RdStep w1 x v1 w2 v2) : RdStep w x v w2 v2 :=
 ⟨h.fr.trans g.fr (fun k hk hlt => by
  rcases hk with e | e
  · exact .inl e
  · rcases h.own k e with e2 | e2
    · exact .inr e2
    · omega), fun k hk => by
  have := h.fr.size
  rcases g.own k hk with e | e
  · exact h.own k e
  · exact .inr (by omega)⟩
end Go.Proofs.YtgldjpldldknoaaGreatDoor

/- The walk of Pair, both cases. -/
import Derived.Test.YtclpndigmidjkaaGreatSt7
set_option linter.unusedSimpArgs false
set_option linter.unusedVariables false
namespace Go.Proofs.YtclpndigmidjkaaGreat
open Go.RowKit

theorem st_Pair {w : World} {p mb : Nat} {most : Int} {sv : Value} {L : List Ent} (hS : St w p mb most sv L) (hO : SOk L) (l r : Int) (hl : isKnown L l) (hr : isKnown L r) (l0 : l ≠ 0) (r0 : r ≠ 0)
    (hlen : (entAt L l).wt.len + (entAt L r).wt.len ≤ 1152921504606846976) (hm : (L.length : Int) < most) (hL : L.length < 1048576) :
    Calls Tryz.prog 57 #[.pointer (some ⟨p, 0, none⟩), .int .i64 l, .int .i64 r] w fun e w' => e = .returned (.tuple #[.int .i64 (addI L (pairEnt L l r)), .nilIface]) ∧ Stepped w w' p mb most sv (addL L (pairEnt L l r)) := by
  cases hj : ruleIdx (pairEnt L l r).rule L with
  | some j =>
    rw [addI_some hj, addL_some hj]
    exact (st_Pair_some hS hO l r hl hr l0 r0 hlen j hj).mono fun e w' ⟨h1, h2⟩ => ⟨h1, Stepped.same hS h2⟩
  | none =>
    rw [addI_none hj, addL_none hj]
    exact st_Pair_none hS hO l r hl hr l0 r0 hlen hj hm hL

end Go.Proofs.YtclpndigmidjkaaGreat

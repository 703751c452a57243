/- The walks of prefix: check, within, CommonAt, CommonBefore (at known signatures). -/
import Derived.Test.YtgldjpldldknoaaGreatDoorRPx4
import Derived.Test.YtgldjpldldknoaaGreatDoorRBase
set_option linter.unusedSimpArgs false
set_option linter.unusedVariables false
namespace Go.Proofs.YtgldjpldldknoaaGreatDoor
open Go.RowKit
structure SigOk (L : List Ent) (id : Int) : Prop where
 kn : isKnown L id
 lv : id = 0 ∨ 0 ≤ klev L id
theorem SigOk.top {L : List Ent} {id : Int} (h : SigOk L id) : ∃ x : Int, topV L id = .tuple #[.int .i64 x, .nilIface] := by
 unfold topV
 split
 · exact ⟨0, rfl⟩
 · rename_i h0
   rcases h.lv with e | e
   · exact absurd e h0
   · rw [if_pos e]; exact ⟨_, rfl⟩
theorem KyPost.trans {B : Nat} {w w1 w2 : World} {pp tp p mb : Nat} {most : Int} {L : List Ent} {v : Value} {e : Ending} (hk : Kx B mb w w1) (h : KyPost B w1 pp tp p mb most L v e w2) : KyPost B w pp tp p mb most L v e w2 := by
 obtain ⟨T, h1, h2, h3⟩ := h
 exact ⟨T, h1, h2, Ks.trans hk h3⟩
theorem owns_dn {w : World} {b c : Nat} {e : TypeId} {size n : Nat} {v : Value} {xs : List Value} (h : w.ownsRow c e size v n xs) (hb : b ≤ c) : w.ownsRow b e size v n xs := by
 refine ⟨h.1, ?_⟩
 rcases h.2 with h5 | ⟨g, cap, cur, h5, hg, r⟩
 · exact .inl h5
 · exact .inr ⟨g, cap, cur, h5, Nat.le_trans hb hg, r⟩
end Go.Proofs.YtgldjpldldknoaaGreatDoor
/- The rows of a comparison in memory; row.at, table.distance. -/
set_option linter.unusedSimpArgs false
set_option linter.unusedVariables false
namespace Go.Proofs.YtgldjpldldknoaaGreatDoor
open Go.RowKit
theorem cells6t {w : World} {b : Nat} {x0 x1 x2 x3 x4 x5 : Value} {t : TypeId} (h : w.heap[b]? = some (.cells #[x0, x1, x2, x3, x4, x5] t (0, 0))) :
    w.cell? ⟨b, 0, none⟩ = some x0 ∧ w.cell? ⟨b, 1, none⟩ = some x1 ∧ w.cell? ⟨b, 2, none⟩ = some x2 ∧ w.cell? ⟨b, 3, none⟩ = some x3 ∧ w.cell? ⟨b, 4, none⟩ = some x4 ∧ w.cell? ⟨b, 5, none⟩ = some x5 ∧ b < w.heap.size ∧ ∀ o, w.frozen? ⟨b, o, none⟩ = false :=
 ⟨by rw [cell_of_block h]; rfl, by rw [cell_of_block h]; rfl, by rw [cell_of_block h]; rfl, by rw [cell_of_block h]; rfl, by rw [cell_of_block h]; rfl, by rw [cell_of_block h]; rfl, lt_of_block h, fun o => by simp [World.frozen?, h]⟩
end Go.Proofs.YtgldjpldldknoaaGreatDoor

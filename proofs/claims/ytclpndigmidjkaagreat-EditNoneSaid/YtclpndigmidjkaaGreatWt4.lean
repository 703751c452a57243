/- The walks of digest.Repeat and weight.Repeat. -/
import Derived.Test.YtclpndigmidjkaaGreatWt3
set_option linter.unusedSimpArgs false
set_option linter.unusedVariables false
namespace Go.Proofs.YtclpndigmidjkaaGreat
open Go.RowKit

theorem set2 {w : World} {b : Nat} {t : TypeId} {f : Nat × Nat} {a0 a1 v0 v1 : Value} (h : w.heap[b]? = some (.cells #[a0, a1] t f)) :
    ((w.setCell ⟨b, 0, none⟩ v0).setCell ⟨b, 1, none⟩ v1).heap[b]? = some (.cells #[v0, v1] t f) := setCell_block (setCell_block h 0 v0) 1 v1

theorem set2_other {w : World} {b c : Nat} {v0 v1 : Value} (h : c ≠ b) : ((w.setCell ⟨b, 0, none⟩ v0).setCell ⟨b, 1, none⟩ v1).heap[c]? = w.heap[c]? := by
  rw [setCell_other _ _ h, setCell_other _ _ h]

theorem cells2 {w : World} {b : Nat} {x y : Value} {t : TypeId} (h : w.heap[b]? = some (.cells #[x, y] t (0, 0))) :
    w.cell? ⟨b, 0, none⟩ = some x ∧ w.cell? ⟨b, 1, none⟩ = some y ∧ (∀ o, w.frozen? ⟨b, o, none⟩ = false) ∧ b < w.heap.size :=
  ⟨by rw [cell_of_block h]; rfl, by rw [cell_of_block h]; rfl, fun o => frozen_of_block h o, lt_of_block h⟩

theorem dig_JoinD (d e : Int × Int) (w : World) (hd : dred d) (he : dred e) :
    Calls Tryz.prog 123 #[.agg #[.int .u64 d.1, .int .u64 d.2], .agg #[.int .u64 e.1, .int .u64 e.2]] w fun x w' => x = .returned (.agg #[.int .u64 (djoin d e).1, .int .u64 (djoin d e).2]) ∧ Fr0 w w' := by
  obtain ⟨⟨a1, a2⟩, a3, a4⟩ := hd
  obtain ⟨⟨b1, b2⟩, b3, b4⟩ := he
  exact dig_Join d.1 d.2 e.1 e.2 w a1 (by omega) a3 (by omega) b1 (by omega) b3 (by omega)

theorem dstep_odd (e r : Int × Int) (he : dred e) (n : Nat) (h : n % 2 = 1) : djoin (djoin r e) (dpow (djoin e e) (n / 2)) = djoin r (dpow e n) := by
  rw [dpow_double e he, djoin_assoc]
  congr 1
  have h1 : dpow e 1 = e := djoin_unit_left he
  have h2 := dpow_add e he 1 (2 * (n / 2))
  rw [h1] at h2
  rw [← h2]
  congr 1
  omega

theorem dstep_even (e r : Int × Int) (he : dred e) (n : Nat) (h : n % 2 = 0) : djoin r (dpow (djoin e e) (n / 2)) = djoin r (dpow e n) := by
  rw [dpow_double e he]
  congr 2
  omega

end Go.Proofs.YtclpndigmidjkaaGreat

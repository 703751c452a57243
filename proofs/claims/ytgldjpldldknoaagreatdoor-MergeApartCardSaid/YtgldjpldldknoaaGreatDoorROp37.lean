/- The argument []Change of evergreenref37: how it lies in memory, and how much it can hold. -/
import Derived.Test.YtgldjpldldknoaaGreatDoorRows
import Derived.Test.YtgldjpldldknoaaGreatDoorRRch1
import Derived.ProofKit
import Derived.OpenShut
import Derived.Carry
import Derived.Deep.Slices
import Derived.Deep.Fields
import Derived.ChangeSame
import Derived.JoinedCond
set_option linter.unusedVariables false
set_option linter.unusedSimpArgs false
namespace Go.Proofs.YtgldjpldldknoaaGreatDoor
open Go.ChangeShapes Go.WideShapes Go.ChangeAt Go.RowKit Go.Deep
theorem laid_out : laidOutB Tryz.prog = true := by kernel_rfl
theorem addr_of_cell' {w : World} {a : Addr} {v : Value} (h : w.cell? a = some v) : a = ⟨a.block, a.off, none⟩ ∧ a.block < w.heap.size := by
 refine ⟨?_, World.block_lt_of_cell? w _ h⟩
 obtain ⟨b, o, s⟩ := a
 cases s with
 | none => rfl
 | some x =>
  simp only [World.cell?] at h
  split at h
  · simp at h
  · cases h
instance : Inhabited PS := ⟨⟨0, 0, ByteArray.empty⟩⟩
theorem len3 {α : Type} : ∀ (l : List α), l.length = 3 → ∃ a b c, l = [a, b, c]
 | [a, b, c], _ => ⟨a, b, c, rfl⟩
theorem cost_bulk {H : Type} (D : Nat → DataW H) (R : Nat → PS) : ∀ (l : List Nat), (∀ i ∈ l, (R i).s.size + 1 ≤ Rows.uptoBulk (D i)) → costL (l.map R) ≤ Rows.uptoBulkAll (l.map D)
 | [], h => by simp [costL]
 | i :: l, h => by
  have a := cost_bulk D R l (fun j hj => h j (by simp [hj]))
  have b := h i (by simp)
  simp only [List.map_cons, costL, Rows.uptoBulkAll]
  omega
set_option maxRecDepth 100000 in
theorem open_pcs {H : Type} {enc : TypeId × Value → H} {w : World} {base : Nat} {spare : Nat → Bool} {held : Bool} {fuel : Nat} {cs : List Value} {x : DataW H × List MemPlace}
    (h : DataW.trod enc Tryz.prog w base spare held fuel 23 cs = some x) :
    ∃ (a : Option Addr) (cap : Nat) (ps : List PS), cs = [.slice a ps.length cap] ∧ RG PS.vals 3 w.heap.size w a ps ∧ costL ps ≤ Rows.uptoBulk x.1 := by
 have hC : Tryz.prog.cellsOf 65 = 3 := by kernel_rfl
 rcases open_slice Tryz.underlying23 h with ⟨h0, h00⟩ | ⟨a, len, cap, m, n, D, Pl, hcs, hb, hl, hm, hmm, hx, hi⟩
 · exact ⟨none, 0, [], h0, RG.nil _ _ _ _ _, by simp [costL]⟩
 · have hlm : len ≤ m := by rw [hmm]; split <;> omega
   have hex : ∀ i, i < len → ∃ r : PS, w.cell? (a.add (i * 3)) = some (.int .i64 r.at_) ∧ w.cell? ((a.add (i * 3)).add 1) = some (.int .i64 r.n) ∧ w.cell? ((a.add (i * 3)).add 2) = some (.string r.s) ∧ r.s.size + 1 ≤ Rows.uptoBulk (D i) := by
    intro i hil
    obtain ⟨cs', hc, ht'⟩ := hi i (by omega)
    rw [hC] at hc
    obtain ⟨ys, n', hn', hy, hlen, hyl, hf⟩ := DataW.trod_struct Tryz.underlying65 ht'
    obtain ⟨_, hcl, hat⟩ := World.cells?_some hc
    have hys : ys.length = 3 := hyl
    have hci : Tryz.prog.cellsOf 3 = 1 := by kernel_rfl
    have hcs' : Tryz.prog.cellsOf 9 = 1 := by kernel_rfl
    obtain ⟨c0, c1, c2, rfl⟩ := len3 cs' hcl
    obtain ⟨y0, y1, y2, rfl⟩ := len3 ys hys
    have g0 : DataW.trod enc Tryz.prog w base spare held n' 3 [c0] = some y0 := by have := hf 0 _ rfl; simpa [hci] using this
    have g1 : DataW.trod enc Tryz.prog w base spare held n' 3 [c1] = some y1 := by have := hf 1 _ rfl; simpa [hci] using this
    have g2 : DataW.trod enc Tryz.prog w base spare held n' 9 [c2] = some y2 := by have := hf 2 _ rfl; simpa [hcs'] using this
    obtain ⟨q0, e0, _, w0⟩ := DataW.trod_int Tryz.underlying3 g0
    obtain ⟨q1, e1, _, w1⟩ := DataW.trod_int Tryz.underlying3 g1
    obtain ⟨q2, e2, ey2, w2⟩ := DataW.trod_string Tryz.underlying9 g2
    simp only [List.cons.injEq, and_true] at e0 e1 e2
    subst e0 e1 e2
    refine ⟨⟨q0, q1, q2⟩, hat 0 (by omega), hat 1 (by omega), hat 2 (by omega), ?_⟩
    have hD := congrArg Prod.fst hy
    dsimp only at hD
    rw [hD, ey2]
    simp only [List.map_cons, List.map_nil, Rows.uptoBulk, Rows.uptoBulkAll, Array.length_toList]
    show q2.data.size + 1 ≤ _
    omega
   obtain ⟨R, hR⟩ := choose_lt hex
   refine ⟨some a, cap, (List.range len).map R, by rw [hcs]; simp, ?_, ?_⟩
   · intro i hi'
     have hil : i < len := by simpa using hi'
     obtain ⟨k0, k1, k2, _⟩ := hR i hil
     obtain ⟨z0, _⟩ := hR 0 (by omega)
     have ha := addr_of_cell' z0
     simp only [Nat.zero_mul, Addr.add, if_true] at ha
     obtain ⟨ha1, ha2⟩ := ha
     obtain ⟨ab, ao, as'⟩ := a
     simp only [Addr.mk.injEq, true_and] at ha1
     subst ha1
     rw [add_offG] at k0 k1 k2
     rw [add_offG] at k1 k2
     refine ⟨ab, ao, rfl, ha2, .inl ha2, fun j u hj => ?_⟩
     rw [List.getElem_map, List.getElem_range] at hj
     match j, hj with
     | 0, hj => simp only [PS.vals, List.getElem?_cons_zero, Option.some.injEq] at hj; subst hj; exact k0
     | 1, hj => simp only [PS.vals, List.getElem?_cons_succ, List.getElem?_cons_zero, Option.some.injEq] at hj; subst hj; exact k1
     | 2, hj => simp only [PS.vals, List.getElem?_cons_succ, List.getElem?_cons_zero, Option.some.injEq] at hj; subst hj; exact k2
     | j + 3, hj => simp [PS.vals] at hj
   · rw [hx]
     have := cost_bulk D R (List.range len) (fun i hi' => (hR i (List.mem_range.1 hi')).2.2.2)
     simp only [Rows.uptoBulk] at *
     omega
end Go.Proofs.YtgldjpldldknoaaGreatDoor

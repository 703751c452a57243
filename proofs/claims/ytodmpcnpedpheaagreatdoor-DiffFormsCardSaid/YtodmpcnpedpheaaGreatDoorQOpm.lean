/- The arguments []Make and []Change in memory. -/
import Derived.Test.YtodmpcnpedpheaaGreatDoorQOp37
import Derived.Test.YtodmpcnpedpheaaGreatDoorQErr
import Derived.ChangeMaps5
set_option linter.unusedVariables false
set_option linter.unusedSimpArgs false
namespace Go.Proofs.YtodmpcnpedpheaaGreatDoor
open Go.ChangeShapes Go.WideShapes Go.ChangeAt Go.RowKit Go.Deep Go.ChangeMaps

def u8P (n : Int) : Prop := 0 ≤ n ∧ n ≤ 255
structure Mk.Rng (m : Mk) : Prop where
  kind : i64P m.kind
  letter : u8P m.letter
  left : i64P m.left
  right : i64P m.right
  times : i64P m.times
theorem Mk.Rng.ok {m : Mk} (h : m.Rng) : m.Ok := ⟨h.kind, h.left, h.right, h.times, h.letter.1, by have := h.letter.2; omega⟩
structure Chg.Rng (c : Chg) : Prop where
  at_ : i64P c.at_
  n : i64P c.n
  text : i64P c.text
instance : Inhabited Mk := ⟨⟨0, 0, 0, 0, 0⟩⟩
instance : Inhabited Chg := ⟨⟨0, 0, 0⟩⟩
theorem lenN5 {α : Type} : ∀ (l : List α), l.length = 5 → ∃ a b c d e, l = [a, b, c, d, e]
  | [a, b, c, d, e], _ => ⟨a, b, c, d, e, rfl⟩

set_option maxRecDepth 100000 in
theorem open_makes {H : Type} {enc : TypeId × Value → H} {w : World} {base : Nat} {spare : Nat → Bool} {held : Bool} {fuel : Nat} {cs : List Value} {x : DataW H × List MemPlace}
    (h : DataW.trod enc Tryz.prog w base spare held fuel 22 cs = some x) :
    ∃ (a : Option Addr) (cap : Nat) (ps : List Mk), cs = [.slice a ps.length cap] ∧ RG Mk.vals 5 w.heap.size w a ps ∧ ∀ p ∈ ps, Mk.Rng p := by
  have hC : Tryz.prog.cellsOf 83 = 5 := by kernel_rfl
  rcases open_slice Tryz.underlying22 h with ⟨h0, h00⟩ | ⟨a, len, cap, m, n, D, Pl, hcs, hb, hl, hm, hmm, hx, hi⟩
  · exact ⟨none, 0, [], h0, RG.nil _ _ _ _ _, fun p hp => by simp at hp⟩
  · have hlm : len ≤ m := by rw [hmm]; split <;> omega
    have hex : ∀ i, i < len → ∃ r : Mk, Mk.Rng r ∧ w.cell? (a.add (i * 5)) = some (.int .i64 r.kind) ∧ w.cell? ((a.add (i * 5)).add 1) = some (.int .u8 r.letter) ∧ w.cell? ((a.add (i * 5)).add 2) = some (.int .i64 r.left) ∧ w.cell? ((a.add (i * 5)).add 3) = some (.int .i64 r.right) ∧ w.cell? ((a.add (i * 5)).add 4) = some (.int .i64 r.times) := by
      intro i hil
      obtain ⟨cs', hc, ht'⟩ := hi i (by omega)
      rw [hC] at hc
      obtain ⟨ys, n', hn', hy, hlen, hyl, hf⟩ := DataW.trod_struct Tryz.underlying83 ht'
      obtain ⟨_, hcl, hat⟩ := World.cells?_some hc
      have hys : ys.length = 5 := hyl
      have hz0 : Tryz.prog.cellsOf 3 = 1 := by kernel_rfl
      have hz1 : Tryz.prog.cellsOf 5 = 1 := by kernel_rfl
      obtain ⟨c0, c1, c2, c3, c4, rfl⟩ := lenN5 cs' hcl
      obtain ⟨y0, y1, y2, y3, y4, rfl⟩ := lenN5 ys hys
      have g0 : DataW.trod enc Tryz.prog w base spare held n' 3 [c0] = some y0 := by have := hf 0 _ rfl; simpa [hz0, hz1] using this
      have g1 : DataW.trod enc Tryz.prog w base spare held n' 5 [c1] = some y1 := by have := hf 1 _ rfl; simpa [hz0, hz1] using this
      have g2 : DataW.trod enc Tryz.prog w base spare held n' 3 [c2] = some y2 := by have := hf 2 _ rfl; simpa [hz0, hz1] using this
      have g3 : DataW.trod enc Tryz.prog w base spare held n' 3 [c3] = some y3 := by have := hf 3 _ rfl; simpa [hz0, hz1] using this
      have g4 : DataW.trod enc Tryz.prog w base spare held n' 3 [c4] = some y4 := by have := hf 4 _ rfl; simpa [hz0, hz1] using this
      obtain ⟨q0, e0, _, w0⟩ := DataW.trod_int Tryz.underlying3 g0
      obtain ⟨q1, e1, _, w1⟩ := DataW.trod_int Tryz.underlying5 g1
      obtain ⟨q2, e2, _, w2⟩ := DataW.trod_int Tryz.underlying3 g2
      obtain ⟨q3, e3, _, w3⟩ := DataW.trod_int Tryz.underlying3 g3
      obtain ⟨q4, e4, _, w4⟩ := DataW.trod_int Tryz.underlying3 g4
      simp only [List.cons.injEq, and_true] at e0 e1 e2 e3 e4
      subst e0 e1 e2 e3 e4
      exact ⟨⟨q0, q1, q2, q3, q4⟩, ⟨by simpa [Lit.wf, IntKind.min, IntKind.max, IntKind.signed, IntKind.bits, i64P, u8P] using w0, by simpa [Lit.wf, IntKind.min, IntKind.max, IntKind.signed, IntKind.bits, i64P, u8P] using w1, by simpa [Lit.wf, IntKind.min, IntKind.max, IntKind.signed, IntKind.bits, i64P, u8P] using w2, by simpa [Lit.wf, IntKind.min, IntKind.max, IntKind.signed, IntKind.bits, i64P, u8P] using w3, by simpa [Lit.wf, IntKind.min, IntKind.max, IntKind.signed, IntKind.bits, i64P, u8P] using w4⟩, hat 0 (by omega), hat 1 (by omega), hat 2 (by omega), hat 3 (by omega), hat 4 (by omega)⟩
    obtain ⟨R, hR⟩ := choose_lt hex
    refine ⟨some a, cap, (List.range len).map R, by rw [hcs]; simp, ?_, ?_⟩
    · intro i hi'
      have hil : i < len := by simpa using hi'
      obtain ⟨_, k0, k1, k2, k3, k4⟩ := hR i hil
      obtain ⟨_, z0, _⟩ := hR 0 (by omega)
      have ha := addr_of_cell' z0
      simp only [Nat.zero_mul, Addr.add, if_true] at ha
      obtain ⟨ha1, ha2⟩ := ha
      obtain ⟨ab, ao, as'⟩ := a
      simp only [Addr.mk.injEq, true_and] at ha1
      subst ha1
      rw [add_offG] at k0 k1 k2 k3 k4
      rw [add_offG] at k1 k2 k3 k4
      refine ⟨ab, ao, rfl, ha2, .inl ha2, fun j u hj => ?_⟩
      rw [List.getElem_map, List.getElem_range] at hj
      match j, hj with
      | 0, hj => simp only [Mk.vals, List.getElem?_cons_zero, Option.some.injEq] at hj; subst hj; exact k0
      | 1, hj => simp only [Mk.vals, List.getElem?_cons_succ, List.getElem?_cons_zero, Option.some.injEq] at hj; subst hj; exact k1
      | 2, hj => simp only [Mk.vals, List.getElem?_cons_succ, List.getElem?_cons_zero, Option.some.injEq] at hj; subst hj; exact k2
      | 3, hj => simp only [Mk.vals, List.getElem?_cons_succ, List.getElem?_cons_zero, Option.some.injEq] at hj; subst hj; exact k3
      | 4, hj => simp only [Mk.vals, List.getElem?_cons_succ, List.getElem?_cons_zero, Option.some.injEq] at hj; subst hj; exact k4
      | j + 5, hj => simp [Mk.vals] at hj
    · intro p hp
      obtain ⟨i, hi', rfl⟩ := List.mem_map.1 hp
      exact (hR i (List.mem_range.1 hi')).1

end Go.Proofs.YtodmpcnpedpheaaGreatDoor

/- The argument [][]Change: how it lies in memory, and how many changes it can hold. -/
import Derived.Test.YtbokcmkbnkncoaaRows
import Derived.Test.YtbokcmkbnkncoaaVal
import Derived.ProofKit
import Derived.OpenShut
import Derived.Carry
import Derived.Deep.Slices
import Derived.Deep.Fields
import Derived.ChangeSame
import Derived.JoinedCond
set_option linter.unusedVariables false
set_option linter.unusedSimpArgs false
namespace Go.Proofs.Ytbokcmkbnkncoaa
open Go.ChangeShapes Go.WideShapes Go.ChangeAt Go.RowKit Go.Deep

theorem own_none : ownKnob Try.prog.godebug = none := by kernel_rfl
theorem laid_out : laidOutB Try.prog = true := by kernel_rfl

theorem addr_of_cell' {w : World} {a : Addr} {v : Value} (h : w.cell? a = some v) : a = ⟨a.block, a.off, none⟩ ∧ a.block < w.heap.size := by
  refine ⟨?_, World.block_lt_of_cell? w _ h⟩
  obtain ⟨b, o, s⟩ := a
  cases s with
  | none => rfl
  | some x =>
    simp only [World.cell?] at h
    split at h
    · simp at h
    · cases h

theorem add_at (b o j : Nat) : (⟨b, o, none⟩ : Addr).add j = ⟨b, o + j, none⟩ := by
  unfold Addr.add
  split
  · next e => rw [e, Nat.add_zero]
  · rfl

theorem len3 {α : Type} : ∀ (l : List α), l.length = 3 → ∃ a b c, l = [a, b, c]
  | [a, b, c], _ => ⟨a, b, c, rfl⟩

theorem bulk_one {H : Type} (d : DataW H) : 1 ≤ Rows.uptoBulk d := by
  cases d with
  | lit l => cases l <;> simp [Rows.uptoBulk]
  | nil => simp [Rows.uptoBulk]
  | ptr d => simp [Rows.uptoBulk]
  | slice elems spare => simp [Rows.uptoBulk]
  | agg parts => simp [Rows.uptoBulk]
  | iface t d => simp [Rows.uptoBulk]
  | map entries => simp [Rows.uptoBulk]
  | held h => simp [Rows.uptoBulk]

theorem bulk_len {H : Type} (l : List (DataW H)) : l.length ≤ Rows.uptoBulkAll l := by
  induction l with
  | nil => simp [Rows.uptoBulkAll]
  | cons x r ih => have := bulk_one x; simp only [Rows.uptoBulkAll, List.length_cons]; omega

set_option maxRecDepth 100000 in
theorem open_chgs {H : Type} {enc : TypeId × Value → H} {w : World} {base : Nat} {spare : Nat → Bool} {held : Bool} {fuel : Nat} {cs : List Value} {x : DataW H × List MemPlace}
    (h : DataW.trod enc Try.prog w base spare held fuel 30 cs = some x) :
    ∃ (a : Option Addr) (cap : Nat) (ps : List Chg), cs = [.slice a ps.length cap] ∧ ChgsAt w a ps ∧ ps.length + 1 ≤ Rows.uptoBulk x.1 := by
  have hC : Try.prog.cellsOf 92 = 3 := by kernel_rfl
  rcases open_slice Try.underlying30 h with ⟨h0, h00⟩ | ⟨a, len, cap, m, n, D, Pl, hcs, hb, hl, hm, hmm, hx, hi⟩
  · exact ⟨none, 0, [], h0, fun i hi => by simp at hi, by subst h00; simp [Rows.uptoBulk]⟩
  · have hlm : len ≤ m := by rw [hmm]; split <;> omega
    have hex : ∀ i, i < len → ∃ r : Int × Int × Int, w.cell? (a.add (i * 3)) = some (.int .i64 r.1) ∧ w.cell? ((a.add (i * 3)).add 1) = some (.int .i64 r.2.1) ∧ w.cell? ((a.add (i * 3)).add 2) = some (.int .i64 r.2.2) := by
      intro i hil
      obtain ⟨cs', hc, ht'⟩ := hi i (by omega)
      rw [hC] at hc
      obtain ⟨ys, n', hn', hy, hlen, hyl, hf⟩ := DataW.trod_struct Try.underlying92 ht'
      obtain ⟨_, hcl, hat⟩ := World.cells?_some hc
      have hys : ys.length = 3 := hyl
      have hci : Try.prog.cellsOf 3 = 1 := by kernel_rfl
      obtain ⟨c0, c1, c2, rfl⟩ := len3 cs' hcl
      obtain ⟨y0, y1, y2, rfl⟩ := len3 ys hys
      have g0 : DataW.trod enc Try.prog w base spare held n' 3 [c0] = some y0 := by have := hf 0 _ rfl; simpa [hci] using this
      have g1 : DataW.trod enc Try.prog w base spare held n' 3 [c1] = some y1 := by have := hf 1 _ rfl; simpa [hci] using this
      have g2 : DataW.trod enc Try.prog w base spare held n' 3 [c2] = some y2 := by have := hf 2 _ rfl; simpa [hci] using this
      obtain ⟨q0, e0, _, w0⟩ := DataW.trod_int Try.underlying3 g0
      obtain ⟨q1, e1, _, w1⟩ := DataW.trod_int Try.underlying3 g1
      obtain ⟨q2, e2, _, w2⟩ := DataW.trod_int Try.underlying3 g2
      simp only [List.cons.injEq, and_true] at e0 e1 e2
      subst e0 e1 e2
      exact ⟨(q0, q1, q2), hat 0 (by omega), hat 1 (by omega), hat 2 (by omega)⟩
    obtain ⟨R, hR⟩ := choose_lt hex
    refine ⟨some a, cap, (List.range len).map (fun i => (⟨(R i).1, (R i).2.1, (R i).2.2⟩ : Chg)), by rw [hcs]; simp, ?_, ?_⟩
    · intro i hi'
      have hil : i < len := by simpa using hi'
      obtain ⟨k0, k1, k2⟩ := hR i hil
      obtain ⟨z0, _⟩ := hR 0 (by omega)
      have ha := addr_of_cell' z0
      simp only [Nat.zero_mul, Addr.add, if_true] at ha
      obtain ⟨ha1, ha2⟩ := ha
      obtain ⟨ab, ao, as'⟩ := a
      simp only [Addr.mk.injEq, true_and] at ha1
      subst ha1
      rw [add_at] at k0 k1 k2
      rw [add_at] at k1 k2
      refine ⟨ab, ao, rfl, ha2, ?_, ?_, ?_⟩ <;> simpa using ‹_›
    · rw [hx]
      have := bulk_len ((List.range len).map D)
      simp only [Rows.uptoBulk, List.length_map, List.length_range] at *
      omega

theorem tot_bulk {H : Type} (D : Nat → DataW H) (PS : Nat → List Chg) : ∀ (l : List Nat), (∀ i ∈ l, (PS i).length + 1 ≤ Rows.uptoBulk (D i)) → l.length + tot (l.map PS) ≤ Rows.uptoBulkAll (l.map D)
  | [], h => by simp [tot]
  | i :: l, h => by
    have a := tot_bulk D PS l (fun j hj => h j (by simp [hj]))
    have b := h i (by simp)
    simp only [List.map_cons, tot, Rows.uptoBulkAll, List.length_cons]
    omega

set_option maxRecDepth 100000 in
theorem open_patches {H : Type} {enc : TypeId × Value → H} {w : World} {base : Nat} {spare : Nat → Bool} {held : Bool} {fuel : Nat} {cs : List Value} {x : DataW H × List MemPlace}
    (h : DataW.trod enc Try.prog w base spare held fuel 22 cs = some x) :
    ∃ (a : Option Addr) (cap : Nat) (pss : List (List Chg)), cs = [.slice a pss.length cap] ∧ PsAt w a pss ∧ pss.length + tot pss ≤ Rows.uptoBulk x.1 := by
  have hC : Try.prog.cellsOf 30 = 1 := by kernel_rfl
  rcases open_slice1 Try.underlying22 hC h with ⟨h0, h00⟩ | ⟨a, len, cap, m, n, V, D, Pl, hcs, hb, hl, hm, hmm, hx, hi⟩
  · exact ⟨none, 0, [], h0, fun i hi => by simp at hi, by simp [tot]⟩
  · have hlm : len ≤ m := by rw [hmm]; split <;> omega
    have hex : ∀ i, i < len → ∃ r : List Chg × Option Addr × Nat, w.cell? (a.add i) = some (.slice r.2.1 r.1.length r.2.2) ∧ ChgsAt w r.2.1 r.1 ∧ r.1.length + 1 ≤ Rows.uptoBulk (D i) := by
      intro i hil
      obtain ⟨h1, h2⟩ := hi i (by omega)
      obtain ⟨ia, ic, ps, e1, e2, e3⟩ := open_chgs h2
      simp only [List.cons.injEq, and_true] at e1
      rw [e1] at h1
      exact ⟨(ps, ia, ic), h1, e2, e3⟩
    obtain ⟨R, hR⟩ := choose_lt hex
    refine ⟨some a, cap, (List.range len).map (fun i => (R i).1), by rw [hcs]; simp, ?_, ?_⟩
    · intro i hi'
      have hil : i < len := by simpa using hi'
      obtain ⟨k0, k1, k2⟩ := hR i hil
      obtain ⟨z0, _⟩ := hR 0 (by omega)
      have ha := addr_of_cell' z0
      simp only [Addr.add, if_true] at ha
      obtain ⟨ha1, ha2⟩ := ha
      obtain ⟨ab, ao, as'⟩ := a
      simp only [Addr.mk.injEq, true_and] at ha1
      subst ha1
      rw [add_at] at k0
      exact ⟨ab, ao, (R i).2.1, (R i).2.2, rfl, ha2, by simpa using k0, by simpa using k1⟩
    · have := tot_bulk D (fun i => (R i).1) (List.range len) (fun i hi' => (hR i (List.mem_range.1 hi')).2.2)
      rw [hx]
      simp only [Rows.uptoBulk, List.length_map, List.length_range] at *
      omega

end Go.Proofs.Ytbokcmkbnkncoaa

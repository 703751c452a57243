/- BlameFinds: for every list of rows, every offset and every version the law returns true, and its arguments read as they did. No condition. -/
import Derived.Test.YtbokcmkbnkncoaaRows
import Derived.Test.YtbokcmkbnkncoaaFin2
import Derived.ProofKit
import Derived.OpenShut
import Derived.Carry
import Derived.Deep.Slices
import Derived.Deep.Fields
import Derived.ChangeSame
set_option linter.unusedVariables false
set_option linter.unusedSimpArgs false
namespace Go.Proofs.Ytbokcmkbnkncoaa
open Go.ChangeShapes Go.WideShapes Go.ChangeAt Go.RowKit Go.Deep

theorem own_knob' : ownKnob Try.prog.godebug = none := by kernel_rfl

theorem addr_of_cell {w : World} {a : Addr} {v : Value} (h : w.cell? a = some v) : a = ⟨a.block, a.off, none⟩ ∧ a.block < w.heap.size := by
  refine ⟨?_, World.block_lt_of_cell? w _ h⟩
  obtain ⟨b, o, s⟩ := a
  cases s with
  | none => rfl
  | some x =>
    simp only [World.cell?] at h
    split at h
    · simp at h
    · cases h

theorem len4 {α : Type} : ∀ (l : List α), l.length = 4 → ∃ a b c d, l = [a, b, c, d]
  | [a, b, c, d], _ => ⟨a, b, c, d, rfl⟩

set_option maxRecDepth 100000 in
theorem open_rows {H : Type} {enc : TypeId × Value → H} {w : World} {base : Nat} {spare : Nat → Bool} {held : Bool} {fuel : Nat} {cs : List Value} {x : DataW H × List MemPlace}
    (h : DataW.trod enc Try.prog w base spare held fuel 37 cs = some x) :
    ∃ (a : Option Addr) (cap : Nat) (rs : List Rw), cs = [.slice a rs.length cap] ∧ rs.length ≤ 9223372036854775807 ∧ (∀ r ∈ rs, i64r r.fr ∧ i64r r.n) ∧ RowsAt w a rs := by
  have hC : Try.prog.cellsOf 51 = 4 := by kernel_rfl
  rcases open_slice Try.underlying37 h with ⟨h0, _⟩ | ⟨a, len, cap, m, n, D, Pl, hcs, hb, hl, hm, hmm, hx, hi⟩
  · exact ⟨none, 0, [], h0, by simp, fun r hr => by simp at hr, fun i hi => by simp at hi⟩
  · have hlm : len ≤ m := by rw [hmm]; split <;> omega
    have hex : ∀ i, i < len → ∃ r : Rw, (i64r r.fr ∧ i64r r.n) ∧ w.cell? (a.add (i * 4)) = some (.int .i64 r.fr) ∧ w.cell? ((a.add (i * 4)).add 1) = some (.int .i64 r.n) ∧ w.cell? ((a.add (i * 4)).add 2) = some (.int .i64 r.ver) ∧ w.cell? ((a.add (i * 4)).add 3) = some (.int .i64 r.org) := by
      intro i hil
      obtain ⟨cs', hc, ht'⟩ := hi i (by omega)
      rw [hC] at hc
      obtain ⟨ys, n', hn', hy, hlen, hyl, hf⟩ := DataW.trod_struct Try.underlying51 ht'
      obtain ⟨_, hcl, hat⟩ := World.cells?_some hc
      have hys : ys.length = 4 := hyl
      have hci : Try.prog.cellsOf 3 = 1 := by kernel_rfl
      obtain ⟨c0, c1, c2, c3, rfl⟩ := len4 cs' hcl
      obtain ⟨y0, y1, y2, y3, rfl⟩ := len4 ys hys
      have g0 : DataW.trod enc Try.prog w base spare held n' 3 [c0] = some y0 := by have := hf 0 _ rfl; simpa [hci] using this
      have g1 : DataW.trod enc Try.prog w base spare held n' 3 [c1] = some y1 := by have := hf 1 _ rfl; simpa [hci] using this
      have g2 : DataW.trod enc Try.prog w base spare held n' 3 [c2] = some y2 := by have := hf 2 _ rfl; simpa [hci] using this
      have g3 : DataW.trod enc Try.prog w base spare held n' 3 [c3] = some y3 := by have := hf 3 _ rfl; simpa [hci] using this
      obtain ⟨q0, e0, _, w0⟩ := DataW.trod_int Try.underlying3 g0
      obtain ⟨q1, e1, _, w1⟩ := DataW.trod_int Try.underlying3 g1
      obtain ⟨q2, e2, _, w2⟩ := DataW.trod_int Try.underlying3 g2
      obtain ⟨q3, e3, _, w3⟩ := DataW.trod_int Try.underlying3 g3
      simp only [List.cons.injEq, and_true] at e0 e1 e2 e3
      subst e0 e1 e2 e3
      have k0 := hat 0 (by omega)
      have k1 := hat 1 (by omega)
      have k2 := hat 2 (by omega)
      have k3 := hat 3 (by omega)
      refine ⟨⟨q0, q1, q2, q3⟩, ⟨?_, ?_⟩, k0, k1, k2, k3⟩
      · simpa [Lit.wf, IntKind.min, IntKind.max, IntKind.signed, IntKind.bits, i64r] using w0
      · simpa [Lit.wf, IntKind.min, IntKind.max, IntKind.signed, IntKind.bits, i64r] using w1
    obtain ⟨R, hR⟩ := choose_lt hex
    refine ⟨some a, cap, (List.range len).map R, by rw [hcs]; simp, by unfold maxLen at hm; simp; omega, ?_, ?_⟩
    · intro r hr
      obtain ⟨i, hi', rfl⟩ := List.mem_map.1 hr
      exact (hR i (List.mem_range.1 hi')).1
    · intro i hi'
      have hil : i < len := by simpa using hi'
      obtain ⟨_, k0, k1, k2, k3⟩ := hR i hil
      obtain ⟨_, z0, _⟩ := hR 0 (by omega)
      have ha := addr_of_cell z0
      simp only [Nat.zero_mul, Addr.add, if_true] at ha
      obtain ⟨ha1, ha2⟩ := ha
      have hadd : ∀ j, a.add j = ⟨a.block, a.off + j, none⟩ := by
        intro j
        unfold Addr.add
        split
        · next e => rw [e, Nat.add_zero]; exact ha1
        · rfl
      have hadd2 : ∀ b o j, (⟨b, o, none⟩ : Addr).add j = ⟨b, o + j, none⟩ := by
        intro b o j
        unfold Addr.add
        split
        · next e => rw [e, Nat.add_zero]
        · rfl
      rw [hadd] at k0 k1 k2 k3
      rw [hadd2] at k1 k2 k3
      refine ⟨a.block, a.off, by rw [← ha1], ha2, ?_, ?_, ?_, ?_⟩ <;> simpa using ‹_›

theorem finds_laid : laidOutB Try.prog = true := by kernel_rfl

set_option maxRecDepth 100000 in
theorem finds_lifted (os : Os) (started : os.Started) (H : Type) (enc : TypeId × Value → H) :
    ReturnsInHanded {} Try.checked os 5 .any (Rows.blameFindsSpec.pre6 enc Try.prog Try.f5 Rows.blameFindsRow.domain false) (Rows.blameFindsSpec.post enc Try.prog Try.f5 false true false false) := by
  refine returnsInHanded_of_change (C := Try.checked) own_knob' started (by kernel_rfl) Try.func5
    (ChangeSpec.witness6 (enc := enc) (C := Try.checked) false ⟨#[], #[.slice none 0 0, .int .i64 0, .int .i64 0], []⟩ 8 (by kernel_rfl) (by kernel_rfl) (by kernel_rfl) (by kernel_rfl)) ?_
  intro W base args ds gs before hval0 hW hcnd _
  have hval : ∀ (j : Nat) t v, Try.f5.params[j]? = some t → args[j]? = some v → Value.okWide Try.prog W .any base t v := hval0
  have hW' := hW
  obtain ⟨p, q, hA0, hV, rfl, hfz, hnd⟩ := hW
  have hA : DataW.TrodAll enc Try.prog W 0 (fun _ => true) true Try.f5.params.toList args.toList ds p := hA0
  rw [Try.params5] at hA hval
  obtain ⟨v0, vs0, d0, ds0, p0, q0, hargs, rfl, rfl, h0, r0⟩ := trodAll_cons hA
  obtain ⟨v1, vs1, d1, ds1, p1, q1, rfl, rfl, rfl, h1, r1⟩ := trodAll_cons r0
  obtain ⟨v2, vs2, d2, ds2, p2, q2, rfl, rfl, rfl, h2, r2⟩ := trodAll_cons r1
  obtain ⟨rfl, rfl, rfl⟩ := trodAll_nil r2
  obtain rfl : args = #[v0, v1, v2] := by cases args; simp_all
  obtain ⟨rfl, rfl⟩ := trodVars_none hV
  obtain ⟨a1, rfl, rfl, rfl, w1⟩ := open_int Try.underlying3 (hval 1 3 v1 rfl rfl) h1
  obtain ⟨a2, rfl, rfl, rfl, w2⟩ := open_int Try.underlying3 (hval 2 3 v2 rfl rfl) h2
  obtain ⟨a0, len, cap, rfl⟩ := okWide_slice Try.underlying37 (hval 0 37 v0 rfl rfl)
  obtain ⟨fuel, hf⟩ := id h0
  obtain ⟨ra, rcap, rs, hcs, hl, hrng, hR⟩ := open_rows hf
  simp only [Value.cells, List.cons.injEq, and_true, Value.slice.injEq] at hcs
  obtain ⟨rfl, rfl, rfl⟩ := hcs
  clear hA0 hval0
  have hlt : ∀ x ∈ p0, x.block < W.heap.size := fun x hx => hW'.lt x (by simp [hx])
  simp only [List.append_nil] at hW'
  have hat : i64r a1 := by simpa [Lit.wf, IntKind.min, IntKind.max, IntKind.signed, IntKind.bits, i64r] using w1
  refine (finds_walk a0 cap rs a1 a2 hR hl hat hrng).mono fun e W' ⟨he, hg⟩ => ?_
  subst he
  have t0 := Below.trod finds_laid (by kernel_rfl) (of_decide_eq_true (by kernel_rfl)) h0 hg.below hlt
  have t1 := trodAll_cons_mk t0 (trodAll_cons_mk (shut_int Try.underlying3 w1) (trodAll_cons_mk (shut_int Try.underlying3 w2) trodAll_mk0))
  simp only [List.append_nil] at t1
  exact ⟨_, rfl, _, _, _, [], p0, [], hW', trodAll_cons_mk (shut_bool Try.underlying4 _) trodAll_mk0, t1, rfl, hg.below.frame _, fun h => by cases h⟩

theorem blameFinds_holds : Rows.BlameFindsSaid :=
  OpenClaim.holds_of_wide 5 Try.f5 rfl rfl rfl rfl rfl rfl rfl ⟨rfl, rfl, rfl, rfl, rfl⟩ rfl rfl rfl rfl rfl (by kernel_rfl) Try.func5 (by kernel_rfl)
    (of_decide_eq_true (by kernel_rfl)) (by unfold Func.isWrapper; first | (rw [if_pos (by decide +kernel)]; kernel_rfl) | (rw [if_neg (by decide +kernel)]; exact ⟨rfl, rfl⟩))
    (fun os started H enc _ => finds_lifted os started H enc)

#print axioms blameFinds_holds
end Go.Proofs.Ytbokcmkbnkncoaa

/- PatchEdits: for every length and every list of edits the law returns true, and its arguments read as they did. No condition. -/
import Derived.Test.YtclpndigmidjkaaGreatQOp37
import Derived.ChangeMaps5
import Derived.Test.YtclpndigmidjkaaGreatQPe4
set_option linter.unusedVariables false
set_option linter.unusedSimpArgs false
namespace Go.Proofs.YtclpndigmidjkaaGreat
open Go.ChangeShapes Go.WideShapes Go.ChangeAt Go.RowKit Go.Deep Go.ChangeMaps

instance : Inhabited ES := ⟨⟨0, 0, 0, 0, ByteArray.empty⟩⟩

theorem len5 {α : Type} : ∀ (l : List α), l.length = 5 → ∃ a b c d e, l = [a, b, c, d, e]
  | [a, b, c, d, e], _ => ⟨a, b, c, d, e, rfl⟩

set_option maxRecDepth 100000 in
theorem open_eds {H : Type} {enc : TypeId × Value → H} {w : World} {base : Nat} {spare : Nat → Bool} {held : Bool} {fuel : Nat} {cs : List Value} {x : DataW H × List MemPlace}
    (h : DataW.trod enc Tryz.prog w base spare held fuel 70 cs = some x) :
    ∃ (a : Option Addr) (cap : Nat) (ps : List ES), cs = [.slice a ps.length cap] ∧ RG ES.vals 5 w.heap.size w a ps := by
  have hC : Tryz.prog.cellsOf 74 = 5 := by kernel_rfl
  rcases open_slice Tryz.underlying70 h with ⟨h0, h00⟩ | ⟨a, len, cap, m, n, D, Pl, hcs, hb, hl, hm, hmm, hx, hi⟩
  · exact ⟨none, 0, [], h0, RG.nil _ _ _ _ _⟩
  · have hlm : len ≤ m := by rw [hmm]; split <;> omega
    have hex : ∀ i, i < len → ∃ r : ES, w.cell? (a.add (i * 5)) = some (.int .i64 r.kind) ∧ w.cell? ((a.add (i * 5)).add 1) = some (.int .i64 r.at_) ∧ w.cell? ((a.add (i * 5)).add 2) = some (.int .i64 r.n) ∧ w.cell? ((a.add (i * 5)).add 3) = some (.int .i64 r.to_) ∧ w.cell? ((a.add (i * 5)).add 4) = some (.string r.s) := by
      intro i hil
      obtain ⟨cs', hc, ht'⟩ := hi i (by omega)
      rw [hC] at hc
      obtain ⟨ys, n', hn', hy, hlen, hyl, hf⟩ := DataW.trod_struct Tryz.underlying74 ht'
      obtain ⟨_, hcl, hat⟩ := World.cells?_some hc
      have hys : ys.length = 5 := hyl
      have hci : Tryz.prog.cellsOf 3 = 1 := by kernel_rfl
      have hcs' : Tryz.prog.cellsOf 9 = 1 := by kernel_rfl
      obtain ⟨c0, c1, c2, c3, c4, rfl⟩ := len5 cs' hcl
      obtain ⟨y0, y1, y2, y3, y4, rfl⟩ := len5 ys hys
      have g0 : DataW.trod enc Tryz.prog w base spare held n' 3 [c0] = some y0 := by have := hf 0 _ rfl; simpa [hci] using this
      have g1 : DataW.trod enc Tryz.prog w base spare held n' 3 [c1] = some y1 := by have := hf 1 _ rfl; simpa [hci] using this
      have g2 : DataW.trod enc Tryz.prog w base spare held n' 3 [c2] = some y2 := by have := hf 2 _ rfl; simpa [hci] using this
      have g3 : DataW.trod enc Tryz.prog w base spare held n' 3 [c3] = some y3 := by have := hf 3 _ rfl; simpa [hci] using this
      have g4 : DataW.trod enc Tryz.prog w base spare held n' 9 [c4] = some y4 := by have := hf 4 _ rfl; simpa [hcs'] using this
      obtain ⟨q0, e0, _, w0⟩ := DataW.trod_int Tryz.underlying3 g0
      obtain ⟨q1, e1, _, w1⟩ := DataW.trod_int Tryz.underlying3 g1
      obtain ⟨q2, e2, _, w2⟩ := DataW.trod_int Tryz.underlying3 g2
      obtain ⟨q3, e3, _, w3⟩ := DataW.trod_int Tryz.underlying3 g3
      obtain ⟨q4, e4, ey4, w4⟩ := DataW.trod_string Tryz.underlying9 g4
      simp only [List.cons.injEq, and_true] at e0 e1 e2 e3 e4
      subst e0 e1 e2 e3 e4
      exact ⟨⟨q0, q1, q2, q3, q4⟩, hat 0 (by omega), hat 1 (by omega), hat 2 (by omega), hat 3 (by omega), hat 4 (by omega)⟩
    obtain ⟨R, hR⟩ := choose_lt hex
    refine ⟨some a, cap, (List.range len).map R, by rw [hcs]; simp, ?_⟩
    intro i hi'
    have hil : i < len := by simpa using hi'
    obtain ⟨k0, k1, k2, k3, k4⟩ := hR i hil
    obtain ⟨z0, _⟩ := hR 0 (by omega)
    have ha := addr_of_cell' z0
    simp only [Nat.zero_mul, Addr.add, if_true] at ha
    obtain ⟨ha1, ha2⟩ := ha
    obtain ⟨ab, ao, as'⟩ := a
    simp only [Addr.mk.injEq, true_and] at ha1
    subst ha1
    rw [add_offG] at k0 k1 k2 k3 k4
    rw [add_offG] at k1 k2 k3 k4
    refine ⟨ab, ao, rfl, ha2, .inl ha2, fun j u hj => ?_⟩
    rw [List.getElem_map, List.getElem_range] at hj
    match j, hj with
    | 0, hj => simp only [ES.vals, List.getElem?_cons_zero, Option.some.injEq] at hj; subst hj; exact k0
    | 1, hj => simp only [ES.vals, List.getElem?_cons_succ, List.getElem?_cons_zero, Option.some.injEq] at hj; subst hj; exact k1
    | 2, hj => simp only [ES.vals, List.getElem?_cons_succ, List.getElem?_cons_zero, Option.some.injEq] at hj; subst hj; exact k2
    | 3, hj => simp only [ES.vals, List.getElem?_cons_succ, List.getElem?_cons_zero, Option.some.injEq] at hj; subst hj; exact k3
    | 4, hj => simp only [ES.vals, List.getElem?_cons_succ, List.getElem?_cons_zero, Option.some.injEq] at hj; subst hj; exact k4
    | j + 5, hj => simp [ES.vals] at hj

set_option maxRecDepth 100000 in
theorem patchEdits_lifted (os : Os) (started : os.Started) (H : Type) (enc : TypeId × Value → H) :
    ReturnsInHanded {} Tryz.checked os 5 .any (Rows.patchEditsSpec.pre6 enc Tryz.prog Tryz.f5 Rows.patchEditsRow.domain false) (Rows.patchEditsSpec.post enc Tryz.prog Tryz.f5 false true false false) := by
  refine returnsInHanded_of_change (C := Tryz.checked) own_none started (by kernel_rfl) Tryz.func5
    (ChangeSpec.witness6 (enc := enc) (C := Tryz.checked) false ⟨#[], #[.int .u8 0, .slice none 0 0], []⟩ 8 (by kernel_rfl) (by kernel_rfl) (by kernel_rfl) (by kernel_rfl)) ?_
  intro W base args ds gs before hval0 hW hcnd _
  have hval : ∀ (j : Nat) t v, Tryz.f5.params[j]? = some t → args[j]? = some v → Value.okWide Tryz.prog W .any base t v := hval0
  have hW' := hW
  obtain ⟨p, q, hA0, hV, rfl, hfz, hnd⟩ := hW
  have hA : DataW.TrodAll enc Tryz.prog W 0 (fun _ => true) true Tryz.f5.params.toList args.toList ds p := hA0
  rw [Tryz.params5] at hA hval
  obtain ⟨v0, vs0, d0, ds0, p0, q0, hargs, rfl, rfl, h0, r0⟩ := trodAll_cons hA
  obtain ⟨v1, vs1, d1, ds1, p1, q1, rfl, rfl, rfl, h1, r1⟩ := trodAll_cons r0
  obtain ⟨rfl, rfl, rfl⟩ := trodAll_nil r1
  obtain rfl : args = #[v0, v1] := by cases args; simp_all
  obtain ⟨rfl, rfl⟩ := trodVars_none hV
  obtain ⟨a0, rfl, rfl, rfl, w0⟩ := open_int Tryz.underlying5 (hval 0 5 v0 rfl rfl) h0
  obtain ⟨sa1, len1, cap1, rfl⟩ := okWide_slice Tryz.underlying70 (hval 1 70 v1 rfl rfl)
  obtain ⟨fuel, hf⟩ := id h1
  obtain ⟨ra, rcap, ps, hcs, hP⟩ := open_eds hf
  simp only [Value.cells, List.cons.injEq, and_true, Value.slice.injEq] at hcs
  obtain ⟨rfl, rfl, rfl⟩ := hcs
  clear hA0 hval0
  have hlt : ∀ x ∈ p1, x.block < W.heap.size := fun x hx => hW'.lt x (by simp [hx])
  simp only [List.append_nil, List.nil_append] at hW'
  have hb0 : 0 ≤ a0 ∧ a0 ≤ 255 := by
    simpa [Lit.wf, IntKind.min, IntKind.max, IntKind.signed, IntKind.bits] using w0
  obtain ⟨n, rfl⟩ : ∃ n : Nat, a0 = n := ⟨a0.toNat, by omega⟩
  refine (edits_walk n (by omega) (cap := cap1) hP).mono fun e W' ⟨he, hg⟩ => ?_
  subst he
  have t1 := Below.trod laid_out (by kernel_rfl) (of_decide_eq_true (by kernel_rfl)) h1 hg.below hlt
  have tt := trodAll_cons_mk (shut_int Tryz.underlying5 w0) (trodAll_cons_mk t1 trodAll_mk0)
  simp only [List.append_nil, List.nil_append] at tt
  exact ⟨_, rfl, _, _, _, [], p1, [], hW', trodAll_cons_mk (shut_bool Tryz.underlying4 _) trodAll_mk0, tt, rfl, hg.below.frame _, fun h => by cases h⟩

theorem patchEdits_holds : Rows.PatchEditsSaid :=
  OpenClaim.holds_of_wide 5 Tryz.f5 rfl rfl rfl rfl rfl rfl rfl ⟨rfl, rfl, rfl, rfl, rfl⟩ rfl rfl rfl rfl rfl (by kernel_rfl) Tryz.func5 (by kernel_rfl)
    (of_decide_eq_true (by kernel_rfl)) (by unfold Func.isWrapper; first | (rw [if_pos (by decide +kernel)]; kernel_rfl) | (rw [if_neg (by decide +kernel)]; exact ⟨rfl, rfl⟩))
    (fun os started H enc _ => patchEdits_lifted os started H enc)

#print axioms patchEdits_holds
end Go.Proofs.YtclpndigmidjkaaGreat

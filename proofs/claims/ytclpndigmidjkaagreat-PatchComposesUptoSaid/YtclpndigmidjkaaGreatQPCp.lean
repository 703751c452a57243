/- PatchComposes: for every text and every list of changes whose reading is of bulk at most 1048576 the law returns true, and its arguments read as they did. Condition: the bulk's bound (the second form). -/
import Derived.Test.YtclpndigmidjkaaGreatQOp37
import Derived.ChangeMaps5
import Derived.Test.YtclpndigmidjkaaGreatQCp1
set_option linter.unusedVariables false
set_option linter.unusedSimpArgs false
namespace Go.Proofs.YtclpndigmidjkaaGreat
open Go.ChangeShapes Go.WideShapes Go.ChangeAt Go.RowKit Go.Deep Go.ChangeMaps

set_option maxRecDepth 100000 in
theorem patchComposes_contract (H : Type) (enc : TypeId × Value → H) (W : World) (base : Nat) (args : Array Value) (ds gs : List (DataW H)) (before : List MemPlace)
    (hval0 : ∀ (j : Nat) t v, Tryz.f4.params[j]? = some t → args[j]? = some v → Value.okWide Tryz.prog W .any base t v)
    (hW : DataW.Whole enc Tryz.prog Tryz.f4.params.toList Rows.patchComposesSpec.vars false W args.toList ds gs before) (hk : Rows.uptoSmall H (ds ++ gs) = true) :
    Calls Tryz.prog 4 args W fun e W' => ∃ v, e = .returned v ∧ Rows.patchComposesSpec.post enc Tryz.prog Tryz.f4 false true false false W args v W' := by
  have hval : ∀ (j : Nat) t v, Tryz.f4.params[j]? = some t → args[j]? = some v → Value.okWide Tryz.prog W .any base t v := hval0
  have hW' := hW
  obtain ⟨p, q, hA0, hV, rfl, hfz, hnd⟩ := hW
  have hA : DataW.TrodAll enc Tryz.prog W 0 (fun _ => true) true Tryz.f4.params.toList args.toList ds p := hA0
  rw [Tryz.params4] at hA hval
  obtain ⟨v0, vs0, d0, ds0, p0, q0, hargs, rfl, rfl, h0, r0⟩ := trodAll_cons hA
  obtain ⟨v1, vs1, d1, ds1, p1, q1, rfl, rfl, rfl, h1, r1⟩ := trodAll_cons r0
  obtain ⟨v2, vs2, d2, ds2, p2, q2, rfl, rfl, rfl, h2, r2⟩ := trodAll_cons r1
  obtain ⟨rfl, rfl, rfl⟩ := trodAll_nil r2
  obtain rfl : args = #[v0, v1, v2] := by cases args; simp_all
  obtain ⟨rfl, rfl⟩ := trodVars_none hV
  obtain ⟨s, rfl, rfl, rfl, hs⟩ := open_string Tryz.underlying9 (hval 0 9 v0 rfl rfl) h0
  obtain ⟨sa1, len1, cap1, rfl⟩ := okWide_slice Tryz.underlying54 (hval 1 54 v1 rfl rfl)
  obtain ⟨fuel1, hf1⟩ := id h1
  obtain ⟨pa1, pcap1, ps1, hcs1, hP1, hB1⟩ := open_pcs hf1
  simp only [Value.cells, List.cons.injEq, and_true, Value.slice.injEq] at hcs1
  obtain ⟨rfl, rfl, rfl⟩ := hcs1
  obtain ⟨sa2, len2, cap2, rfl⟩ := okWide_slice Tryz.underlying54 (hval 2 54 v2 rfl rfl)
  obtain ⟨fuel2, hf2⟩ := id h2
  obtain ⟨pa2, pcap2, ps2, hcs2, hP2, hB2⟩ := open_pcs hf2
  simp only [Value.cells, List.cons.injEq, and_true, Value.slice.injEq] at hcs2
  obtain ⟨rfl, rfl, rfl⟩ := hcs2
  have hbulk : s.size + costL ps1 + costL ps2 ≤ 1048576 := by
    have hk2 := of_decide_eq_true hk
    simp only [List.append_nil, Rows.uptoBulkAll, Rows.uptoBulk, Array.length_toList] at hk2
    have hss : s.data.size = s.size := rfl
    rw [hss] at hk2
    have hB1' : costL ps1 ≤ Rows.uptoBulk d1 := hB1
    have hB2' : costL ps2 ≤ Rows.uptoBulk d2 := hB2
    omega
  clear hA0 hval0
  have hlt1 : ∀ x ∈ p1, x.block < W.heap.size := fun x hx => hW'.lt x (by simp [hx])
  have hlt2 : ∀ x ∈ p2, x.block < W.heap.size := fun x hx => hW'.lt x (by simp [hx])
  simp only [List.append_nil, List.nil_append] at hW'
  refine (composes_walk s (cap1 := cap1) hP1 (cap2 := cap2) hP2 (by omega)).mono fun e W' ⟨he, hg⟩ => ?_
  subst he
  have t1 := Below.trod laid_out (by kernel_rfl) (of_decide_eq_true (by kernel_rfl)) h1 hg.below hlt1
  have t2 := Below.trod laid_out (by kernel_rfl) (of_decide_eq_true (by kernel_rfl)) h2 hg.below hlt2
  have tt := (trodAll_cons_mk (shut_string Tryz.underlying9 hs) (trodAll_cons_mk t1 (trodAll_cons_mk t2 trodAll_mk0)))
  simp only [List.append_nil, List.nil_append] at tt
  exact ⟨_, rfl, _, _, _, [], p1 ++ p2, [], hW', trodAll_cons_mk (shut_bool Tryz.underlying4 _) trodAll_mk0, tt, rfl, hg.below.frame _, fun h => by cases h⟩

set_option maxRecDepth 100000 in
theorem patchComposes_lifted (os : Os) (started : os.Started) (H : Type) (enc : TypeId × Value → H) (F : Stop.Interp) :
    ReturnsInHanded {} Tryz.checked os 4 .any ((Rows.OpenSpec.upto Rows.patchComposesSpec).pre6 enc Tryz.prog Tryz.f4 Rows.patchComposesUptoRow.domain false) (((Rows.OpenSpec.upto Rows.patchComposesSpec).at F).post enc Tryz.prog Tryz.f4 false true false false) := by
  refine returnsInHanded_of_cond (C := Tryz.checked) (s := Rows.OpenSpec.upto Rows.patchComposesSpec) (k := Rows.uptoSmall) rfl own_none started (by kernel_rfl) Tryz.func4
    (OpenSpec.witness (enc := enc) (C := Tryz.checked) (s := Rows.OpenSpec.upto Rows.patchComposesSpec) (k := Rows.uptoSmall) rfl false ⟨#[], #[.string ByteArray.empty, .slice none 0 0, .slice none 0 0], []⟩ 8 (by kernel_rfl) (by kernel_rfl) (by kernel_rfl)
      (x := ([.lit (.string []), .nil, .nil], [], [])) (by kernel_rfl) rfl (by kernel_rfl)) ?_
  intro W base args ds gs before hval hW _ hk _
  exact patchComposes_contract H enc W base args ds gs before hval hW hk

theorem patchComposes_holds : Rows.PatchComposesUptoSaid :=
  OpenClaim.holds_of_cond 4 Tryz.f4 rfl rfl rfl rfl rfl rfl rfl ⟨rfl, rfl, rfl, rfl, rfl⟩ rfl rfl rfl rfl rfl (by kernel_rfl) Tryz.func4 (by kernel_rfl)
    (of_decide_eq_true (by kernel_rfl)) (by unfold Func.isWrapper; first | (rw [if_pos (by decide +kernel)]; kernel_rfl) | (rw [if_neg (by decide +kernel)]; exact ⟨rfl, rfl⟩))
    (fun os started H enc _ F => patchComposes_lifted os started H enc F)

#print axioms patchComposes_holds
end Go.Proofs.YtclpndigmidjkaaGreat

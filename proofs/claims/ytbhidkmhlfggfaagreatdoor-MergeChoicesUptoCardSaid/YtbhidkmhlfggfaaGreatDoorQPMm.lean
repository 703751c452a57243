/- MergeTexts and MergeChoices (the second form's cards): for all arguments whose reading is of bulk at most 1048576 the laws return true, and their arguments read as they did; the listed variable is tied to the program's text. Condition: the bulk's bound. -/
import Derived.Test.YtbhidkmhlfggfaaGreatDoorQOp37
import Derived.Test.YtbhidkmhlfggfaaGreatDoorQOp43
import Derived.Test.YtbhidkmhlfggfaaGreatDoorTie
import Derived.Test.YtbhidkmhlfggfaaGreatDoorCards
import Derived.ProofKit
import Derived.OpenShut
import Derived.Deep.DeepHandedRow
import Derived.ChangeMaps5
import Derived.Test.YtbhidkmhlfggfaaGreatDoorQLw1
import Derived.Test.YtbhidkmhlfggfaaGreatDoorQLw2
set_option linter.unusedVariables false
set_option linter.unusedSimpArgs false
namespace Go.Proofs.YtbhidkmhlfggfaaGreatDoor
open Go.ChangeShapes Go.WideShapes Go.ChangeAt Go.WideMaps Go.WideElems Go.RowKit Go.Deep Go.ChangeMaps
set_option maxRecDepth 100000 in
theorem mergeTexts_contract (H : Type) (enc : TypeId × Value → H) (W : World) (base : Nat) (args : Array Value) (ds gs : List (DataW H)) (before : List MemPlace)
    (hval0 : ∀ (j : Nat) t v, Tryz.f3.params[j]? = some t → args[j]? = some v → Value.okWide Tryz.prog W .any base t v)
    (hW : DataW.Whole enc Tryz.prog Tryz.f3.params.toList Rows.mergeTextsSpec.vars false W args.toList ds gs before) (hk : Rows.uptoSmall H (ds ++ gs) = true) (hL : laidMetH Tryz.prog Rows.mergeTextsUptoRow.laid W) :
    Calls Tryz.prog 3 args W fun e W' => ∃ v, e = .returned v ∧ Rows.mergeTextsSpec.post enc Tryz.prog Tryz.f3 false true false false W args v W' := by
 have hval : ∀ (j : Nat) t v, Tryz.f3.params[j]? = some t → args[j]? = some v → Value.okWide Tryz.prog W .any base t v := hval0
 have hW' := hW
 obtain ⟨p, q, hA0, hV, rfl, hfz, hnd⟩ := hW
 have hA : DataW.TrodAll enc Tryz.prog W 0 (fun _ => true) true Tryz.f3.params.toList args.toList ds p := hA0
 rw [Tryz.params3] at hA hval
 obtain ⟨v0, vs0, d0, ds0, p0, q0, hargs, rfl, rfl, h0, r0⟩ := trodAll_cons hA
 obtain ⟨v1, vs1, d1, ds1, p1, q1, rfl, rfl, rfl, h1, r1⟩ := trodAll_cons r0
 obtain ⟨v2, vs2, d2, ds2, p2, q2, rfl, rfl, rfl, h2, r2⟩ := trodAll_cons r1
 obtain ⟨rfl, rfl, rfl⟩ := trodAll_nil r2
 obtain rfl : args = #[v0, v1, v2] := by cases args; simp_all
 obtain ⟨rfl, rfl⟩ := trodVars_none hV
 obtain ⟨s, rfl, rfl, rfl, hs⟩ := open_string Tryz.underlying9 (hval 0 9 v0 rfl rfl) h0
 obtain ⟨sa1, len1, cap1, rfl⟩ := okWide_slice Tryz.underlying22 (hval 1 22 v1 rfl rfl)
 obtain ⟨fuel1, hf1⟩ := id h1
 obtain ⟨pa1, pcap1, ps1, hcs1, hP1, hB1⟩ := open_pcs hf1
 simp only [Value.cells, List.cons.injEq, and_true, Value.slice.injEq] at hcs1
 obtain ⟨rfl, rfl, rfl⟩ := hcs1
 obtain ⟨sa2, len2, cap2, rfl⟩ := okWide_slice Tryz.underlying22 (hval 2 22 v2 rfl rfl)
 obtain ⟨fuel2, hf2⟩ := id h2
 obtain ⟨pa2, pcap2, ps2, hcs2, hP2, hB2⟩ := open_pcs hf2
 simp only [Value.cells, List.cons.injEq, and_true, Value.slice.injEq] at hcs2
 obtain ⟨rfl, rfl, rfl⟩ := hcs2
 have hbulk : s.size + costL ps1 + costL ps2 ≤ 1048576 := by
  have hk2 := of_decide_eq_true hk
  simp only [List.append_nil, Rows.uptoBulkAll, Rows.uptoBulk, Array.length_toList] at hk2
  have hss : s.data.size = s.size := rfl
  rw [hss] at hk2
  have hB1' : costL ps1 ≤ Rows.uptoBulk d1 := hB1
  have hB2' : costL ps2 ≤ Rows.uptoBulk d2 := hB2
  omega
 clear hA0 hval0
 have hlt1 : ∀ x ∈ p1, x.block < W.heap.size := fun x hx => hW'.lt x (by simp [hx])
 have hlt2 : ∀ x ∈ p2, x.block < W.heap.size := fun x hx => hW'.lt x (by simp [hx])
 have hdeb := of_laid43 hL
 simp only [List.append_nil, List.nil_append] at hW'
 refine (law_MergeTexts hdeb s (ka := cap1) (kc := cap2) hP1 hP2 (by omega)).mono fun e W' ⟨he, hg⟩ => ?_
 subst he
 have t1 := Below.trod laid_out (by kernel_rfl) (of_decide_eq_true (by kernel_rfl)) h1 hg.below hlt1
 have t2 := Below.trod laid_out (by kernel_rfl) (of_decide_eq_true (by kernel_rfl)) h2 hg.below hlt2
 have tt := (trodAll_cons_mk (shut_string Tryz.underlying9 hs) (trodAll_cons_mk t1 (trodAll_cons_mk t2 trodAll_mk0)))
 simp only [List.append_nil, List.nil_append] at tt
 exact ⟨_, rfl, _, _, _, [], p1 ++ p2, [], hW', trodAll_cons_mk (shut_bool Tryz.underlying4 _) trodAll_mk0, tt, rfl, hg.below.frame _, fun h => by cases h⟩
theorem mergeTexts_laid_met (os : Os) : laidMet Tryz.prog Rows.mergeTextsUptoRow.laid ((World.doorLaid Tryz.prog 400 os).forCall (fun _ _ => 0) ⟨#[], #[.string ByteArray.empty, .slice none 0 0, .slice none 0 0], []⟩).memory :=
 laidMet_of_run' 80 (by kernel_rfl) (by kernel_rfl)
theorem mergeTexts_reads (os : Os) {H : Type} (enc : TypeId × Value → H) : ∃ places, DataW.whole enc Tryz.prog ((World.doorLaid Tryz.prog 400 os).forCall (fun _ _ => 0) ⟨#[], #[.string ByteArray.empty, .slice none 0 0, .slice none 0 0], []⟩).memory Tryz.f3.params.toList Rows.mergeTextsSpec.vars false (#[Value.string ByteArray.empty, .slice none 0 0, .slice none 0 0] : Array Value).toList 8 = some ([.lit (.string []), .nil, .nil], [], places) :=
 ⟨[], by kernel_rfl⟩
set_option maxRecDepth 100000 in
theorem mergeTexts_lifted (os : Os) (started : os.Started) (H : Type) (enc : TypeId × Value → H) (F : Stop.Interp) :
    ReturnsInHanded {} Tryz.checked os 3 .any ((Rows.OpenSpec.upto Rows.mergeTextsSpec).preRow enc Tryz.prog Tryz.f3 Rows.mergeTextsUptoRow.domain false Rows.mergeTextsUptoRow.laid) (((Rows.OpenSpec.upto Rows.mergeTextsSpec).at F).post enc Tryz.prog Tryz.f3 false true false false) := by
 obtain ⟨places, hx⟩ := mergeTexts_reads os enc
 refine returnsInHanded_of_row (C := Tryz.checked) (s := Rows.OpenSpec.upto Rows.mergeTextsSpec) own_none started (by kernel_rfl) Tryz.func3
  (witness_row_at (enc := enc) (C := Tryz.checked) false (World.doorLaid Tryz.prog 400 os) #[.string ByteArray.empty, .slice none 0 0, .slice none 0 0] rfl (by kernel_rfl) (by kernel_rfl) (by kernel_rfl)
   (OpenSpec.preRow_of_cond 8 hx (by kernel_rfl) (fun k hk => by cases hk; kernel_rfl) (by kernel_rfl) (mergeTexts_laid_met os))) ?_
 intro W base args ds gs before hval hW _ hcond _ hL _ _
 exact mergeTexts_contract H enc W base args ds gs before hval hW (hcond _ rfl) hL
theorem mergeTexts_holds : Rows.MergeTextsUptoSaid :=
 OpenClaim.holds_of_cond 3 Tryz.f3 rfl rfl rfl rfl rfl rfl rfl ⟨rfl, rfl, rfl, rfl, rfl⟩ rfl rfl rfl rfl rfl (by kernel_rfl) Tryz.func3 (by kernel_rfl)
  (of_decide_eq_true (by kernel_rfl)) (by unfold Func.isWrapper; first | (rw [if_pos (by decide +kernel)]; kernel_rfl) | (rw [if_neg (by decide +kernel)]; exact ⟨rfl, rfl⟩))
  (fun os started H enc _ F => by rw [OpenClaim.pre_eq_preRow]; exact mergeTexts_lifted os started H enc F)
theorem mergeTexts_plain (f : FuncId) (fn : Func) (hf : Tryz.pinned.checked.prog.funcNamed "evergreen/evergreenlaw43.MergeTexts" = some f) (hfn : Tryz.pinned.checked.prog.funcs[f]? = some fn) :
    true = Tryz.pinned.checked.prog.looks [] ∧ ∀ (j : Nat) t, fn.params[j]? = some t → Tryz.pinned.checked.prog.wantsStandIn t = false := by
 obtain rfl : f = 3 := Option.some.inj ((show Tryz.prog.funcNamed "evergreen/evergreenlaw43.MergeTexts" = some 3 by kernel_rfl).symm.trans hf) |>.symm
 obtain rfl : fn = Tryz.f3 := (Option.some.inj (Tryz.func3.symm.trans hfn)).symm
 refine ⟨by kernel_rfl, fun j t ht => ?_⟩
 rw [Tryz.params3] at ht
 have hm : t ∈ [9, 22, 22] := by simpa using Array.mem_of_getElem? ht
 have hall : ([9, 22, 22].all fun u => !Tryz.prog.wantsStandIn u) = true := by kernel_rfl
 exact (show Tryz.prog.wantsStandIn t = false by simpa using List.all_eq_true.1 hall t hm)
theorem mergeTexts_card : Rows.MergeTextsUptoCardSaid :=
 Claim7.holds_tied_plain_at .later [] _ _ _ _ mergeTexts_holds (fun _ h => by cases h) (by kernel_rfl) (fun _ h => by cases h) mergeTextsUpto_row_tie rfl ⟨rfl, rfl⟩ (by kernel_rfl) rfl mergeTexts_plain (by kernel_rfl)
set_option maxRecDepth 100000 in
theorem mergeChoices_contract (H : Type) (enc : TypeId × Value → H) (W : World) (base : Nat) (args : Array Value) (ds gs : List (DataW H)) (before : List MemPlace)
    (hval0 : ∀ (j : Nat) t v, Tryz.f4.params[j]? = some t → args[j]? = some v → Value.okWide Tryz.prog W .any base t v)
    (hW : DataW.Whole enc Tryz.prog Tryz.f4.params.toList Rows.mergeChoicesSpec.vars false W args.toList ds gs before) (hk : Rows.uptoSmall H (ds ++ gs) = true) (hL : laidMetH Tryz.prog Rows.mergeChoicesUptoRow.laid W) :
    Calls Tryz.prog 4 args W fun e W' => ∃ v, e = .returned v ∧ Rows.mergeChoicesSpec.post enc Tryz.prog Tryz.f4 false true false false W args v W' := by
 have hval : ∀ (j : Nat) t v, Tryz.f4.params[j]? = some t → args[j]? = some v → Value.okWide Tryz.prog W .any base t v := hval0
 have hW' := hW
 obtain ⟨p, q, hA0, hV, rfl, hfz, hnd⟩ := hW
 have hA : DataW.TrodAll enc Tryz.prog W 0 (fun _ => true) true Tryz.f4.params.toList args.toList ds p := hA0
 rw [Tryz.params4] at hA hval
 obtain ⟨v0, vs0, d0, ds0, p0, q0, hargs, rfl, rfl, h0, r0⟩ := trodAll_cons hA
 obtain ⟨v1, vs1, d1, ds1, p1, q1, rfl, rfl, rfl, h1, r1⟩ := trodAll_cons r0
 obtain ⟨v2, vs2, d2, ds2, p2, q2, rfl, rfl, rfl, h2, r2⟩ := trodAll_cons r1
 obtain ⟨v3, vs3, d3, ds3, p3, q3, rfl, rfl, rfl, h3, r3⟩ := trodAll_cons r2
 obtain ⟨rfl, rfl, rfl⟩ := trodAll_nil r3
 obtain rfl : args = #[v0, v1, v2, v3] := by cases args; simp_all
 obtain ⟨rfl, rfl⟩ := trodVars_none hV
 obtain ⟨s, rfl, rfl, rfl, hs⟩ := open_string Tryz.underlying9 (hval 0 9 v0 rfl rfl) h0
 obtain ⟨sa1, len1, cap1, rfl⟩ := okWide_slice Tryz.underlying22 (hval 1 22 v1 rfl rfl)
 obtain ⟨fuel1, hf1⟩ := id h1
 obtain ⟨pa1, pcap1, ps1, hcs1, hP1, hB1⟩ := open_pcs hf1
 simp only [Value.cells, List.cons.injEq, and_true, Value.slice.injEq] at hcs1
 obtain ⟨rfl, rfl, rfl⟩ := hcs1
 obtain ⟨sa2, len2, cap2, rfl⟩ := okWide_slice Tryz.underlying22 (hval 2 22 v2 rfl rfl)
 obtain ⟨fuel2, hf2⟩ := id h2
 obtain ⟨pa2, pcap2, ps2, hcs2, hP2, hB2⟩ := open_pcs hf2
 simp only [Value.cells, List.cons.injEq, and_true, Value.slice.injEq] at hcs2
 obtain ⟨rfl, rfl, rfl⟩ := hcs2
 obtain ⟨sa3, len3, cap3, rfl⟩ := okWide_slice Tryz.underlying46 (hval 3 46 v3 rfl rfl)
 obtain ⟨fuel3, hf3⟩ := id h3
 obtain ⟨pa3, pcap3, ps3, hcs3, hP3, hB3, hC3⟩ := open_ints43 hf3
 simp only [Value.cells, List.cons.injEq, and_true, Value.slice.injEq] at hcs3
 obtain ⟨rfl, rfl, rfl⟩ := hcs3
 have hbulk : s.size + costL ps1 + costL ps2 + ps3.length ≤ 1048576 := by
  have hk2 := of_decide_eq_true hk
  simp only [List.append_nil, Rows.uptoBulkAll, Rows.uptoBulk, Array.length_toList] at hk2
  have hss : s.data.size = s.size := rfl
  rw [hss] at hk2
  have hB1' : costL ps1 ≤ Rows.uptoBulk d1 := hB1
  have hB2' : costL ps2 ≤ Rows.uptoBulk d2 := hB2
  have hB3' : ps3.length ≤ Rows.uptoBulk d3 := hB3
  omega
 clear hA0 hval0
 have hlt1 : ∀ x ∈ p1, x.block < W.heap.size := fun x hx => hW'.lt x (by simp [hx])
 have hlt2 : ∀ x ∈ p2, x.block < W.heap.size := fun x hx => hW'.lt x (by simp [hx])
 have hlt3 : ∀ x ∈ p3, x.block < W.heap.size := fun x hx => hW'.lt x (by simp [hx])
 have hdeb := of_laid43 hL
 simp only [List.append_nil, List.nil_append] at hW'
 refine (law_MergeChoices hdeb s (ka := cap1) (kc := cap2) hP1 hP2 (by omega) (kk := cap3) hP3 (by omega) hC3).mono fun e W' ⟨he, hg⟩ => ?_
 subst he
 have t1 := Below.trod laid_out (by kernel_rfl) (of_decide_eq_true (by kernel_rfl)) h1 hg.below hlt1
 have t2 := Below.trod laid_out (by kernel_rfl) (of_decide_eq_true (by kernel_rfl)) h2 hg.below hlt2
 have t3 := Below.trod laid_out (by kernel_rfl) (of_decide_eq_true (by kernel_rfl)) h3 hg.below hlt3
 have tt := (trodAll_cons_mk (shut_string Tryz.underlying9 hs) (trodAll_cons_mk t1 (trodAll_cons_mk t2 (trodAll_cons_mk t3 trodAll_mk0))))
 simp only [List.append_nil, List.nil_append] at tt
 exact ⟨_, rfl, _, _, _, [], p1 ++ (p2 ++ p3), [], hW', trodAll_cons_mk (shut_bool Tryz.underlying4 _) trodAll_mk0, tt, rfl, hg.below.frame _, fun h => by cases h⟩
theorem mergeChoices_laid_met (os : Os) : laidMet Tryz.prog Rows.mergeChoicesUptoRow.laid ((World.doorLaid Tryz.prog 400 os).forCall (fun _ _ => 0) ⟨#[], #[.string ByteArray.empty, .slice none 0 0, .slice none 0 0, .slice none 0 0], []⟩).memory :=
 laidMet_of_run' 80 (by kernel_rfl) (by kernel_rfl)
theorem mergeChoices_reads (os : Os) {H : Type} (enc : TypeId × Value → H) : ∃ places, DataW.whole enc Tryz.prog ((World.doorLaid Tryz.prog 400 os).forCall (fun _ _ => 0) ⟨#[], #[.string ByteArray.empty, .slice none 0 0, .slice none 0 0, .slice none 0 0], []⟩).memory Tryz.f4.params.toList Rows.mergeChoicesSpec.vars false (#[Value.string ByteArray.empty, .slice none 0 0, .slice none 0 0, .slice none 0 0] : Array Value).toList 8 = some ([.lit (.string []), .nil, .nil, .nil], [], places) :=
 ⟨[], by kernel_rfl⟩
set_option maxRecDepth 100000 in
theorem mergeChoices_lifted (os : Os) (started : os.Started) (H : Type) (enc : TypeId × Value → H) (F : Stop.Interp) :
    ReturnsInHanded {} Tryz.checked os 4 .any ((Rows.OpenSpec.upto Rows.mergeChoicesSpec).preRow enc Tryz.prog Tryz.f4 Rows.mergeChoicesUptoRow.domain false Rows.mergeChoicesUptoRow.laid) (((Rows.OpenSpec.upto Rows.mergeChoicesSpec).at F).post enc Tryz.prog Tryz.f4 false true false false) := by
 obtain ⟨places, hx⟩ := mergeChoices_reads os enc
 refine returnsInHanded_of_row (C := Tryz.checked) (s := Rows.OpenSpec.upto Rows.mergeChoicesSpec) own_none started (by kernel_rfl) Tryz.func4
  (witness_row_at (enc := enc) (C := Tryz.checked) false (World.doorLaid Tryz.prog 400 os) #[.string ByteArray.empty, .slice none 0 0, .slice none 0 0, .slice none 0 0] rfl (by kernel_rfl) (by kernel_rfl) (by kernel_rfl)
   (OpenSpec.preRow_of_cond 8 hx (by kernel_rfl) (fun k hk => by cases hk; kernel_rfl) (by kernel_rfl) (mergeChoices_laid_met os))) ?_
 intro W base args ds gs before hval hW _ hcond _ hL _ _
 exact mergeChoices_contract H enc W base args ds gs before hval hW (hcond _ rfl) hL
theorem mergeChoices_holds : Rows.MergeChoicesUptoSaid :=
 OpenClaim.holds_of_cond 4 Tryz.f4 rfl rfl rfl rfl rfl rfl rfl ⟨rfl, rfl, rfl, rfl, rfl⟩ rfl rfl rfl rfl rfl (by kernel_rfl) Tryz.func4 (by kernel_rfl)
  (of_decide_eq_true (by kernel_rfl)) (by unfold Func.isWrapper; first | (rw [if_pos (by decide +kernel)]; kernel_rfl) | (rw [if_neg (by decide +kernel)]; exact ⟨rfl, rfl⟩))
  (fun os started H enc _ F => by rw [OpenClaim.pre_eq_preRow]; exact mergeChoices_lifted os started H enc F)
theorem mergeChoices_plain (f : FuncId) (fn : Func) (hf : Tryz.pinned.checked.prog.funcNamed "evergreen/evergreenlaw43.MergeChoices" = some f) (hfn : Tryz.pinned.checked.prog.funcs[f]? = some fn) :
    true = Tryz.pinned.checked.prog.looks [] ∧ ∀ (j : Nat) t, fn.params[j]? = some t → Tryz.pinned.checked.prog.wantsStandIn t = false := by
 obtain rfl : f = 4 := Option.some.inj ((show Tryz.prog.funcNamed "evergreen/evergreenlaw43.MergeChoices" = some 4 by kernel_rfl).symm.trans hf) |>.symm
 obtain rfl : fn = Tryz.f4 := (Option.some.inj (Tryz.func4.symm.trans hfn)).symm
 refine ⟨by kernel_rfl, fun j t ht => ?_⟩
 rw [Tryz.params4] at ht
 have hm : t ∈ [9, 22, 22, 46] := by simpa using Array.mem_of_getElem? ht
 have hall : ([9, 22, 22, 46].all fun u => !Tryz.prog.wantsStandIn u) = true := by kernel_rfl
 exact (show Tryz.prog.wantsStandIn t = false by simpa using List.all_eq_true.1 hall t hm)
theorem mergeChoices_card : Rows.MergeChoicesUptoCardSaid :=
 Claim7.holds_tied_plain_at .later [] _ _ _ _ mergeChoices_holds (fun _ h => by cases h) (by kernel_rfl) (fun _ h => by cases h) mergeChoicesUpto_row_tie rfl ⟨rfl, rfl⟩ (by kernel_rfl) rfl mergeChoices_plain (by kernel_rfl)
end Go.Proofs.YtbhidkmhlfggfaaGreatDoor

/- MergeApart (the first form's tied cards): for all arguments the laws return true, and their arguments read as they did; the listed variable is tied to the program's text. No condition. -/
import Derived.Test.YtgldjpldldknoaaGreatDoorRows
import Derived.Test.YtgldjpldldknoaaGreatDoorROp37
import Derived.Test.YtgldjpldldknoaaGreatDoorRGr1
import Derived.Test.YtgldjpldldknoaaGreatDoorTie
import Derived.Test.YtgldjpldldknoaaGreatDoorCards
import Derived.ProofKit
import Derived.LaidMore
import Derived.Lib.LaidTab
import Derived.OpenShut
import Derived.Stop.Joined
import Derived.SevenTiedAt
import Derived.ChangeMaps5
import Derived.Carry
import Derived.Deep.Slices
import Derived.Deep.Fields
import Derived.ChangeSame
set_option linter.unusedVariables false
set_option linter.unusedSimpArgs false
namespace Go.Proofs.YtgldjpldldknoaaGreatDoor
open Go.ChangeShapes Go.WideShapes Go.ChangeAt Go.WideMaps Go.WideElems Go.RowKit Go.Deep Go.ChangeMaps
abbrev laidD : List (String × DataW Unit) := [("math/bits.deBruijn64tab", Rows.laid_math_bits_deBruijn64tab)]
theorem gDeb : Tryz.prog.globalNamed "math/bits.deBruijn64tab" = some 0 := by kernel_rfl
theorem tDeb : (Tryz.prog.globals[0]?).map (·.type) = some 250 := by kernel_rfl
theorem debData : (Rows.laid_math_bits_deBruijn64tab : DataW Unit) = .agg (Lib.deBruijn64tab.map fun (n : Nat) => DataW.lit (.int .u8 (n : Int))) := by kernel_rfl
theorem door_met (os : Os) (args : Array Value) : laidMetH Tryz.prog laidD ((World.doorLaid Tryz.prog 400 os).forCall (fun _ _ => 0) ⟨#[], args, []⟩).memory :=
 laidMetH_of_parts3 (fuel := 80) (laidMet_of_run' 80 (by kernel_rfl) (by kernel_rfl)) (by kernel_rfl) (by kernel_rfl)
theorem of_laid {W : World} (h : laidMetH Tryz.prog laidD W) : Deb W.heap.size W := by
 rw [MakeChecks.laidMetH_plain _ _ _ (by kernel_rfl)] at h
 obtain ⟨ps, ⟨g0, t0, cs0, f0, p0, q0, hg0, ht0, hv0, hd0, _⟩, _⟩ := h
 obtain rfl := Option.some.inj (gDeb.symm.trans hg0)
 obtain rfl := Option.some.inj (tDeb.symm.trans ht0)
 obtain ⟨xs, m1, rfl, hx1, hlen, hn3, hel⟩ := DataW.trod_array Tryz.underlying250 hd0
 have c5 : Tryz.prog.cellsOf 5 = 1 := by kernel_rfl
 rw [debData] at hx1
 simp only [Prod.mk.injEq, DataW.agg.injEq] at hx1
 have hxs := hx1.1
 have key : TabAt 0 Lib.deBruijn64tab W := by
  intro j hj
  have hj64 : j < 64 := hj
  have h1 := hel j hj64
  rw [c5, Nat.mul_one] at h1
  have hjx : j < xs.length := by rw [hn3]; exact hj64
  rw [List.getElem?_eq_getElem hjx] at h1
  obtain ⟨k, e1, e2, _⟩ := DataW.trod_int Tryz.underlying5 h1
  have e3 : (xs.map (·.1))[j]? = some (DataW.lit (.int .u8 k)) := by rw [List.getElem?_map, List.getElem?_eq_getElem hjx, e2]; rfl
  rw [← hxs, List.getElem?_map, List.getElem?_eq_getElem hj] at e3
  simp only [Option.map_some, Option.some.injEq, DataW.lit.injEq, Lit.int.injEq, true_and] at e3
  have e4 : cs0[j]? = some (.int .u8 k) := by
   have := congrArg (fun l => l[0]?) e1
   simpa using this
  rw [World.var?_cell hg0 hv0 j, e4, ← e3, List.getD_eq_getElem?_getD, List.getElem?_eq_getElem hj]
  rfl
 exact ⟨World.block_lt_of_cell? W _ (key 0 (by decide)), key⟩
theorem own_door : ownKnob Tryz.prog.godebug = none := by kernel_rfl
set_option maxRecDepth 100000 in
theorem mergeApart_lifted (os : Os) (started : os.Started) (H : Type) (enc : TypeId × Value → H) :
    ReturnsInHanded {} Tryz.checked os 4 .any (fun w args => (Rows.mergeApartSpec.pre enc Tryz.prog Tryz.f4 [] false w args ∧ laidMetH Tryz.prog laidD w) ∧ sizedMet enc Tryz.prog Tryz.f4 (OpenSpec.ofChange Rows.mergeApartSpec) false w args)
     (Rows.mergeApartSpec.post enc Tryz.prog Tryz.f4 false true false false) := by
 refine returnsInHanded_of_change_and (C := Tryz.checked) (X := fun w _ => laidMetH Tryz.prog laidD w) (fun _ _ _ hh h => h.of_heap hh) own_door started (by kernel_rfl) Tryz.func4
  (ChangeSpec.witness_shaped (enc := enc) (C := Tryz.checked) (os := os) (X := fun w _ => laidMetH Tryz.prog laidD w) false (World.doorLaid Tryz.prog 400 os) #[.string ByteArray.empty, .int .u32 0, .slice none 0 0, .slice none 0 0] 8 rfl (World.shaped_of_RefB (by kernel_rfl) (by kernel_rfl)) (by kernel_rfl) (by kernel_rfl) (by kernel_rfl) (door_met os _)) ?_
 intro W base args ds gs before hval0 hW _ _ hL _
 have hval : ∀ (j : Nat) t v, Tryz.f4.params[j]? = some t → args[j]? = some v → Value.okWide Tryz.prog W .any base t v := hval0
 have hW' := hW
 obtain ⟨p, q, hA0, hV, rfl, hfz, hnd⟩ := hW
 have hA : DataW.TrodAll enc Tryz.prog W 0 (fun _ => true) true Tryz.f4.params.toList args.toList ds p := hA0
 rw [Tryz.params4] at hA hval
 obtain ⟨v0, vs0, d0, ds0, p0, q0, hargs, rfl, rfl, h0, r0⟩ := trodAll_cons hA
 obtain ⟨v1, vs1, d1, ds1, p1, q1, rfl, rfl, rfl, h1, r1⟩ := trodAll_cons r0
 obtain ⟨v2, vs2, d2, ds2, p2, q2, rfl, rfl, rfl, h2, r2⟩ := trodAll_cons r1
 obtain ⟨v3, vs3, d3, ds3, p3, q3, rfl, rfl, rfl, h3, r3⟩ := trodAll_cons r2
 obtain ⟨rfl, rfl, rfl⟩ := trodAll_nil r3
 obtain rfl : args = #[v0, v1, v2, v3] := by cases args; simp_all
 obtain ⟨rfl, rfl⟩ := trodVars_none hV
 obtain ⟨s, rfl, rfl, rfl, hs⟩ := open_string Tryz.underlying9 (hval 0 9 v0 rfl rfl) h0
 obtain ⟨tm, rfl, rfl, rfl, wt⟩ := open_int Tryz.underlying22 (hval 1 22 v1 rfl rfl) h1
 obtain ⟨sa2, len2, cap2, rfl⟩ := okWide_slice Tryz.underlying23 (hval 2 23 v2 rfl rfl)
 obtain ⟨fuel2, hf2⟩ := id h2
 obtain ⟨pa2, pcap2, ps2, hcs2, hP2, hB2⟩ := open_pcs hf2
 simp only [Value.cells, List.cons.injEq, and_true, Value.slice.injEq] at hcs2
 obtain ⟨rfl, rfl, rfl⟩ := hcs2
 obtain ⟨sa3, len3, cap3, rfl⟩ := okWide_slice Tryz.underlying23 (hval 3 23 v3 rfl rfl)
 obtain ⟨fuel3, hf3⟩ := id h3
 obtain ⟨pa3, pcap3, ps3, hcs3, hP3, hB3⟩ := open_pcs hf3
 simp only [Value.cells, List.cons.injEq, and_true, Value.slice.injEq] at hcs3
 obtain ⟨rfl, rfl, rfl⟩ := hcs3
 have hdeb := of_laid hL
 clear hA0 hval0
 have hlt2 : ∀ x ∈ p2, x.block < W.heap.size := fun x hx => hW'.lt x (by simp [hx])
 have hlt3 : ∀ x ∈ p3, x.block < W.heap.size := fun x hx => hW'.lt x (by simp [hx])
 simp only [List.append_nil, List.nil_append] at hW'
 have htm : 0 ≤ tm ∧ tm < 4294967296 := by
  have : 0 ≤ tm ∧ tm ≤ 4294967295 := by simpa [Lit.wf, IntKind.min, IntKind.max, IntKind.signed, IntKind.bits] using wt
  omega
 refine (law_MergeApart hdeb s htm.1 htm.2 (ka := cap2) (kc := cap3) hP2 hP3).mono fun e W' ⟨he, hg⟩ => ?_
 subst he
 have t2 := Below.trod laid_out (by kernel_rfl) (of_decide_eq_true (by kernel_rfl)) h2 hg.below hlt2
 have t3 := Below.trod laid_out (by kernel_rfl) (of_decide_eq_true (by kernel_rfl)) h3 hg.below hlt3
 have tt := (trodAll_cons_mk (shut_string Tryz.underlying9 hs) (trodAll_cons_mk (shut_int Tryz.underlying22 wt) (trodAll_cons_mk t2 (trodAll_cons_mk t3 trodAll_mk0))))
 simp only [List.append_nil, List.nil_append] at tt
 exact ⟨_, rfl, _, _, _, [], p2 ++ p3, [], hW', trodAll_cons_mk (shut_bool Tryz.underlying4 _) trodAll_mk0, tt, rfl, hg.below.frame _, fun h => by cases h⟩
theorem mergeApart_holds : Rows.MergeApartSaid :=
 OpenClaim.holds_of_wide 4 Tryz.f4 rfl rfl rfl rfl rfl rfl rfl ⟨rfl, rfl, rfl, rfl, rfl⟩ rfl rfl rfl rfl rfl (by kernel_rfl) Tryz.func4 (by kernel_rfl)
  (of_decide_eq_true (by kernel_rfl)) (by unfold Func.isWrapper; first | (rw [if_pos (by decide +kernel)]; kernel_rfl) | (rw [if_neg (by decide +kernel)]; exact ⟨rfl, rfl⟩))
  (fun os started H enc _ => mergeApart_lifted os started H enc)
theorem mergeApart_card : Rows.MergeApartCardSaid :=
 Claim7.holds_tied_plain_at .later [] [.data] true (true, "441c2e21842400393a9e8a29ba537e6a61a1fe1842e55c4874c39435e6e5a312") false
  mergeApart_holds (fun _ h => by cases h) (by kernel_rfl) (fun _ h => by cases h) mergeApart_row_tie rfl ⟨rfl, rfl⟩ (by kernel_rfl) rfl
  (fun f fn hf hfn => by
   obtain rfl : f = 4 := Option.some.inj ((show Tryz.prog.funcNamed "evergreen/evergreenlaw43.MergeApart" = some 4 by kernel_rfl).symm.trans hf) |>.symm
   obtain rfl : fn = Tryz.f4 := (Option.some.inj (Tryz.func4.symm.trans hfn)).symm
   exact ⟨by kernel_rfl, fun j t ht => by
    rw [Tryz.params4] at ht
    have hm : t ∈ [9, 22, 23, 23] := by simpa using Array.mem_of_getElem? ht
    have hall : ([9, 22, 23, 23].all fun u => !Tryz.prog.wantsStandIn u) = true := by kernel_rfl
    exact (show Tryz.prog.wantsStandIn t = false by simpa using List.all_eq_true.1 hall t hm)⟩)
  (by kernel_rfl)
end Go.Proofs.YtgldjpldldknoaaGreatDoor

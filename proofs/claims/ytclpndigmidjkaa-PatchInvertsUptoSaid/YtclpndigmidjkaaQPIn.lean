/- PatchInverts: for every text and every list of changes whose reading is of bulk at most 1048576 the law returns true, and its arguments read as they did. Condition: the bulk's bound (the second form). -/
import Derived.Test.YtclpndigmidjkaaQOp37
import Derived.ChangeMaps5
import Derived.Test.YtclpndigmidjkaaQIn1
set_option linter.unusedVariables false
set_option linter.unusedSimpArgs false
namespace Go.Proofs.Ytclpndigmidjkaa
open Go.ChangeShapes Go.WideShapes Go.ChangeAt Go.RowKit Go.Deep Go.ChangeMaps

set_option maxRecDepth 100000 in
theorem patchInverts_contract (H : Type) (enc : TypeId × Value → H) (W : World) (base : Nat) (args : Array Value) (ds gs : List (DataW H)) (before : List MemPlace)
    (hval0 : ∀ (j : Nat) t v, Try.f4.params[j]? = some t → args[j]? = some v → Value.okWide Try.prog W .any base t v)
    (hW : DataW.Whole enc Try.prog Try.f4.params.toList Rows.patchInvertsSpec.vars false W args.toList ds gs before) (hk : Rows.uptoSmall H (ds ++ gs) = true) :
    Calls Try.prog 4 args W fun e W' => ∃ v, e = .returned v ∧ Rows.patchInvertsSpec.post enc Try.prog Try.f4 false true false false W args v W' := by
  have hval : ∀ (j : Nat) t v, Try.f4.params[j]? = some t → args[j]? = some v → Value.okWide Try.prog W .any base t v := hval0
  have hW' := hW
  obtain ⟨p, q, hA0, hV, rfl, hfz, hnd⟩ := hW
  have hA : DataW.TrodAll enc Try.prog W 0 (fun _ => true) true Try.f4.params.toList args.toList ds p := hA0
  rw [Try.params4] at hA hval
  obtain ⟨v0, vs0, d0, ds0, p0, q0, hargs, rfl, rfl, h0, r0⟩ := trodAll_cons hA
  obtain ⟨v1, vs1, d1, ds1, p1, q1, rfl, rfl, rfl, h1, r1⟩ := trodAll_cons r0
  obtain ⟨rfl, rfl, rfl⟩ := trodAll_nil r1
  obtain rfl : args = #[v0, v1] := by cases args; simp_all
  obtain ⟨rfl, rfl⟩ := trodVars_none hV
  obtain ⟨s, rfl, rfl, rfl, hs⟩ := open_string Try.underlying9 (hval 0 9 v0 rfl rfl) h0
  obtain ⟨sa1, len1, cap1, rfl⟩ := okWide_slice Try.underlying22 (hval 1 22 v1 rfl rfl)
  obtain ⟨fuel1, hf1⟩ := id h1
  obtain ⟨pa1, pcap1, ps1, hcs1, hP1, hB1⟩ := open_pcs hf1
  simp only [Value.cells, List.cons.injEq, and_true, Value.slice.injEq] at hcs1
  obtain ⟨rfl, rfl, rfl⟩ := hcs1
  have hbulk : s.size + costL ps1 ≤ 1048576 := by
    have hk2 := of_decide_eq_true hk
    simp only [List.append_nil, Rows.uptoBulkAll, Rows.uptoBulk, Array.length_toList] at hk2
    have hss : s.data.size = s.size := rfl
    rw [hss] at hk2
    have hB1' : costL ps1 ≤ Rows.uptoBulk d1 := hB1
    omega
  clear hA0 hval0
  have hlt1 : ∀ x ∈ p1, x.block < W.heap.size := fun x hx => hW'.lt x (by simp [hx])
  simp only [List.append_nil, List.nil_append] at hW'
  refine (inverts_walk s (cap := cap1) hP1 (by omega)).mono fun e W' ⟨he, hg⟩ => ?_
  subst he
  have t1 := Below.trod laid_out (by kernel_rfl) (of_decide_eq_true (by kernel_rfl)) h1 hg.below hlt1
  have tt := (trodAll_cons_mk (shut_string Try.underlying9 hs) (trodAll_cons_mk t1 trodAll_mk0))
  simp only [List.append_nil, List.nil_append] at tt
  exact ⟨_, rfl, _, _, _, [], p1, [], hW', trodAll_cons_mk (shut_bool Try.underlying4 _) trodAll_mk0, tt, rfl, hg.below.frame _, fun h => by cases h⟩

set_option maxRecDepth 100000 in
theorem patchInverts_lifted (os : Os) (started : os.Started) (H : Type) (enc : TypeId × Value → H) (F : Stop.Interp) :
    ReturnsInHanded {} Try.checked os 4 .any ((Rows.OpenSpec.upto Rows.patchInvertsSpec).pre6 enc Try.prog Try.f4 Rows.patchInvertsUptoRow.domain false) (((Rows.OpenSpec.upto Rows.patchInvertsSpec).at F).post enc Try.prog Try.f4 false true false false) := by
  refine returnsInHanded_of_cond (C := Try.checked) (s := Rows.OpenSpec.upto Rows.patchInvertsSpec) (k := Rows.uptoSmall) rfl own_none started (by kernel_rfl) Try.func4
    (OpenSpec.witness (enc := enc) (C := Try.checked) (s := Rows.OpenSpec.upto Rows.patchInvertsSpec) (k := Rows.uptoSmall) rfl false ⟨#[], #[.string ByteArray.empty, .slice none 0 0], []⟩ 8 (by kernel_rfl) (by kernel_rfl) (by kernel_rfl)
      (x := ([.lit (.string []), .nil], [], [])) (by kernel_rfl) rfl (by kernel_rfl)) ?_
  intro W base args ds gs before hval hW _ hk _
  exact patchInverts_contract H enc W base args ds gs before hval hW hk

theorem patchInverts_holds : Rows.PatchInvertsUptoSaid :=
  OpenClaim.holds_of_cond 4 Try.f4 rfl rfl rfl rfl rfl rfl rfl ⟨rfl, rfl, rfl, rfl, rfl⟩ rfl rfl rfl rfl rfl (by kernel_rfl) Try.func4 (by kernel_rfl)
    (of_decide_eq_true (by kernel_rfl)) (by unfold Func.isWrapper; first | (rw [if_pos (by decide +kernel)]; kernel_rfl) | (rw [if_neg (by decide +kernel)]; exact ⟨rfl, rfl⟩))
    (fun os started H enc _ F => patchInverts_lifted os started H enc F)

#print axioms patchInverts_holds
end Go.Proofs.Ytclpndigmidjkaa

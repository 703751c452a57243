/- EditApplies: for every list of rules, every number of a text and every edit the law returns true, and its arguments read as they did. No condition. -/
import Derived.Test.YtclpndigmidjkaaGreatQAg5
import Derived.Test.YtclpndigmidjkaaGreatQn
set_option linter.unusedVariables false
set_option linter.unusedSimpArgs false
namespace Go.Proofs.YtclpndigmidjkaaGreat
open Go.Joins Go.ChangeShapes Go.WideShapes Go.ChangeAt Go.RowKit Go.Deep Go.ChangeMaps

set_option maxRecDepth 100000 in
set_option maxHeartbeats 1000000 in
theorem applies_many {w : World} {a : Option Addr} {cap m : Nat} (hl : 8 < m) (l k at_ n t pk : Int) :
    Calls Tryz.prog 7 #[.slice a m cap, .int .i64 l, .agg #[.int .i64 k, .int .i64 at_, .int .i64 n, .int .i64 t, .int .i64 pk]] w fun e w' => e = .returned (.bool true) ∧ Fr0 w w' := by
  have q1 : decide ((8 : Int) < (m : Int)) = true := decide_eq_true (by omega)
  clear hl
  go_enter Tryz.func7, Tryz.ntmps7
  go_wp2_with fail
  go_ret
  exact ⟨rfl, (Fr0.refl w).alloc _⟩

theorem applies_walk {w : World} {a : Option Addr} {cap : Nat} {ms : List Mk} (hA : RG Mk.vals 5 w.heap.size w a ms) (hm : ∀ m ∈ ms, m.Ok) (l : Int) (hlen : i64P l) (k at_ n t pk : Int) (hpk : i64P pk) :
    Calls Tryz.prog 7 #[.slice a ms.length cap, .int .i64 l, .agg #[.int .i64 k, .int .i64 at_, .int .i64 n, .int .i64 t, .int .i64 pk]] w fun e w' => e = .returned (.bool true) ∧ Fr0 w w' := by
  by_cases h : 8 < ms.length
  · exact applies_many h l k at_ n t pk
  · exact applies_small hA hm (by omega) l hlen k at_ n t pk hpk


set_option maxRecDepth 100000 in
theorem editApplies_lifted (os : Os) (started : os.Started) (H : Type) (enc : TypeId × Value → H) :
    ReturnsInHanded {} Tryz.checked os 7 .any (Rows.editAppliesSpec.pre6 enc Tryz.prog Tryz.f7 Rows.editAppliesRow.domain false) (Rows.editAppliesSpec.post enc Tryz.prog Tryz.f7 false true false false) := by
  refine returnsInHanded_of_change (C := Tryz.checked) own_none started (by kernel_rfl) Tryz.func7
    (ChangeSpec.witness6 (enc := enc) (C := Tryz.checked) false ⟨#[], #[.slice none 0 0, .int .i64 0, .agg #[.int .i64 0, .int .i64 0, .int .i64 0, .int .i64 0, .int .i64 0]], []⟩ 8 (by kernel_rfl) (by kernel_rfl) (by kernel_rfl) (by kernel_rfl)) ?_
  intro W base args ds gs before hval0 hW hcnd _
  have hval : ∀ (j : Nat) t v, Tryz.f7.params[j]? = some t → args[j]? = some v → Value.okWide Tryz.prog W .any base t v := hval0
  have hW' := hW
  obtain ⟨p, q, hA0, hV, rfl, hfz, hnd⟩ := hW
  have hA : DataW.TrodAll enc Tryz.prog W 0 (fun _ => true) true Tryz.f7.params.toList args.toList ds p := hA0
  rw [Tryz.params7] at hA hval
  obtain ⟨v0, vs0, d0, ds0, p0, q0, hargs, rfl, rfl, h0, r0⟩ := trodAll_cons hA
  obtain ⟨v1, vs1, d1, ds1, p1, q1, rfl, rfl, rfl, h1, r1⟩ := trodAll_cons r0
  obtain ⟨v2, vs2, d2, ds2, p2, q2, rfl, rfl, rfl, h2, r2⟩ := trodAll_cons r1
  obtain ⟨rfl, rfl, rfl⟩ := trodAll_nil r2
  obtain rfl : args = #[v0, v1, v2] := by cases args; simp_all
  obtain ⟨rfl, rfl⟩ := trodVars_none hV
  obtain ⟨a1, rfl, rfl, rfl, w1⟩ := open_int Tryz.underlying3 (hval 1 3 v1 rfl rfl) h1
  obtain ⟨sa0, len0, cap0, rfl⟩ := okWide_slice Tryz.underlying22 (hval 0 22 v0 rfl rfl)
  obtain ⟨fuel0, hf0⟩ := id h0
  obtain ⟨ra0, rcap0, ms, hcs0, hM, hMr⟩ := open_makes hf0
  simp only [Value.cells, List.cons.injEq, and_true, Value.slice.injEq] at hcs0
  obtain ⟨rfl, rfl, rfl⟩ := hcs0
  obtain ⟨x0, x1, x2, x3, x4, y0, y1, y2, y3, y4, n, rfl, rfl, rfl, t0, t1, t2, t3, t4⟩ := open_agg5 Tryz.underlying85 (by kernel_rfl) (by kernel_rfl) (hval 2 85 v2 rfl rfl) (id h2)
  obtain ⟨n0, e0, rfl, _⟩ := DataW.trod_int Tryz.underlying3 t0
  obtain ⟨n1, e1, rfl, _⟩ := DataW.trod_int Tryz.underlying3 t1
  obtain ⟨n2, e2, rfl, _⟩ := DataW.trod_int Tryz.underlying3 t2
  obtain ⟨n3, e3, rfl, _⟩ := DataW.trod_int Tryz.underlying3 t3
  obtain ⟨n4, e4, rfl, wf4⟩ := DataW.trod_int Tryz.underlying3 t4
  simp only [List.cons.injEq, and_true] at e0 e1 e2 e3 e4
  subst e0 e1 e2 e3 e4
  clear hA0 hval0 t0 t1 t2 t3 t4
  have hlt0 : ∀ x ∈ p0, x.block < W.heap.size := fun x hx => hW'.lt x (by simp [hx])
  simp only [List.append_nil, List.nil_append] at hW' h2
  have hat : i64P a1 := by simpa [Lit.wf, IntKind.min, IntKind.max, IntKind.signed, IntKind.bits, i64P] using w1
  have hpk : i64P n4 := by simpa [Lit.wf, IntKind.min, IntKind.max, IntKind.signed, IntKind.bits, i64P] using wf4
  refine (applies_walk (cap := cap0) hM (fun m hm => (hMr m hm).ok) a1 hat n0 n1 n2 n3 n4 hpk).mono fun e W' ⟨he, hg⟩ => ?_
  subst he
  have t0 := Below.trod laid_out (by kernel_rfl) (of_decide_eq_true (by kernel_rfl)) h0 hg.below hlt0
  have t2 := Below.trod laid_out (by kernel_rfl) (of_decide_eq_true (by kernel_rfl)) h2 hg.below (fun x hx => by simp at hx)
  have tt := trodAll_cons_mk t0 (trodAll_cons_mk (shut_int Tryz.underlying3 w1) (trodAll_cons_mk t2 trodAll_mk0))
  simp only [List.append_nil, List.nil_append] at tt
  exact ⟨_, rfl, _, _, _, [], p0, [], hW', trodAll_cons_mk (shut_bool Tryz.underlying4 _) trodAll_mk0, tt, rfl, hg.below.frame _, fun h => by cases h⟩

theorem editApplies_holds : Rows.EditAppliesSaid :=
  OpenClaim.holds_of_wide 7 Tryz.f7 rfl rfl rfl rfl rfl rfl rfl ⟨rfl, rfl, rfl, rfl, rfl⟩ rfl rfl rfl rfl rfl (by kernel_rfl) Tryz.func7 (by kernel_rfl)
    (of_decide_eq_true (by kernel_rfl)) (by unfold Func.isWrapper; first | (rw [if_pos (by decide +kernel)]; kernel_rfl) | (rw [if_neg (by decide +kernel)]; exact ⟨rfl, rfl⟩))
    (fun os started H enc _ => editApplies_lifted os started H enc)

#print axioms editApplies_holds
end Go.Proofs.YtclpndigmidjkaaGreat

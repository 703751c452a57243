/- The walk of PatchInverts. -/
import Derived.Test.YtclpndigmidjkaaQAp0
import Derived.Test.YtclpndigmidjkaaQInv2
set_option linter.unusedSimpArgs false
set_option linter.unusedVariables false
namespace Go.Proofs.Ytclpndigmidjkaa
open Go.RowKit

set_option maxRecDepth 100000 in
set_option maxHeartbeats 2000000 in
theorem inverts_long {w : World} (s : ByteArray) {a : Option Addr} {cap : Nat} {ps : List PS} (hA : RG PS.vals 3 w.heap.size w a ps) (hl : s.size + costL ps ≤ 1000000000) (hsm : ¬ s.size + costL ps ≤ 800) :
    Calls Try.prog 4 #[.string s, .slice a ps.length cap] w fun e w' => e = .returned (.bool true) ∧ Fr0 w w' := by
  have CS := Lib.hid (law37_Store w)
  have HA := Lib.hid hA
  have HSM : Hid (decide (s.size + costs [ps] ≤ 800) = false) := decide_eq_false (by simp only [costs]; omega)
  have HL : Hid (s.size + costs [ps] ≤ 1000000000) := by show _ ≤ _; simp only [costs]; omega
  clear hA hl hsm
  go_enter Try.func4, Try.ntmps4
  go_wp2_with fail
  refine CS.out.mono ?_
  rintro e w1 ⟨p, mb, L, rfl, hR, hL, hF⟩
  have CM := Lib.hid (law37_small (cap := 1) s (pss_one (cap := cap) 22 (HA.out.kept0 hF)) HL.out (by simp) false HSM.out)
  have HF := Lib.hid hF
  clear CS hR hF hL
  go_wp2_with fail
  refine CM.out.mono ?_
  rintro e w2 ⟨rfl, f2⟩
  go_wp2_with fail
  go_ret
  exact ⟨rfl, (HF.out.alloc _).trans f2⟩

set_option maxRecDepth 100000 in
set_option maxHeartbeats 600000 in
theorem inverts_bad {w : World} (s : ByteArray) {a : Option Addr} {cap : Nat} {ps : List PS} (hA : RG PS.vals 3 w.heap.size w a ps) (hsm : s.size + costL ps ≤ 800) (hv : validP s.size (-1) (ps.map PS.pc) = false) :
    Calls Try.prog 4 #[.string s, .slice a ps.length cap] w fun e w' => e = .returned (.bool true) ∧ Fr0 w w' := by
  have CS := Lib.hid (law37_Store w)
  have HA := Lib.hid hA
  have HSM : Hid (decide (s.size + costs [ps] ≤ 800) = true) := decide_eq_true (by simp only [costs]; omega)
  have HL : Hid (s.size + costs [ps] ≤ 1000000000) := by show _ ≤ _; simp only [costs]; omega
  have hpl := costL_len ps
  have HMEM := Lib.hid (costL_mem ps)
  have HV := Lib.hid hv
  have HI := Lib.hid (costL_ins ps)
  have hs8 : s.size ≤ 800 := by omega
  clear hA hv
  go_enter Try.func4, Try.ntmps4
  go_wp2_with fail
  refine CS.out.mono ?_
  rintro e w1 ⟨p, mb, L, rfl, hR, hL, hF⟩
  have CM := Lib.hid (law37_small (cap := 1) s (pss_one (cap := cap) 22 (HA.out.kept0 hF)) HL.out (by simp) true HSM.out)
  have HR := Lib.hid hR
  have HF := Lib.hid hF
  clear CS hR hF
  go_wp2_with fail
  refine CM.out.mono ?_
  rintro e w2 ⟨rfl, f2⟩
  have hR2 := HR.out.kept0 (((Fr0.refl w1).alloc _).trans f2)
  have hF2 := (HF.out.alloc _).trans f2
  obtain ⟨tcap, tf, hconv, hct⟩ := ap_text hR2 s hs8
  have CT := Lib.hid hct
  have HR2 := Lib.hid hR2
  have HF2 := Lib.hid hF2
  clear CM f2 hR2 hF2 hct HR HF
  go_wp2_with fail
  refine CT.out.mono ?_
  rintro e w3 ⟨L3, id, d, k3, rfl, hS3, hK3, g3, b3, hk3⟩
  have hR3 := HR2.out.next (k := 990000) hS3 ((Kp.of0 (((Fr0.refl w2).alloc _).drew)).trans hK3) g3 (by omega)
  have hF3 := Kp.all0 ((HF2.out.alloc _).drew) hK3
  have CO := Lib.hid (law37_To (cap := cap) (hR3.less (by have := HI.out; omega)) (HA.out.kept0 hF3) (by omega) (fun c hc => by have := HMEM.out c hc; omega))
  have HK3 := Lib.hid hK3
  have HG3 := Lib.hid g3
  have HB3 := Lib.hid b3
  clear hconv hR3 hF3 hK3 g3 b3 hS3 CT
  go_wp2_with fail
  refine CO.out.mono ?_
  rintro e w4 ⟨L4, v, cs, k4, rfl, hS4, hK4, g4, hk4, ho4, hp4⟩
  obtain ⟨va, vcap, rfl, hst⟩ := ApSt.mk' HR2.out hL HF2.out HA.out hsm (((Fr0.refl w2).alloc _).drew) HK3.out HG3.out hk3 HB3.out hS4 hK4 g4 hk4 ho4 hp4
  have hcl := hst.pchg.len
  rw [List.length_map] at hcl
  have hfm := hst.pchg.valid hst.room.dok hst.room.sok (length := s.size) (-1)
  rw [HV.out] at hfm
  have hlen := hst.text.len hst.room.dok hst.room.sok
  rw [sbs_len] at hlen
  have CK := Lib.hid (fun W (hW : Fr0 w4 W) => by
    obtain ⟨sv, hS, _⟩ := hst.room.st
    exact pat_Check_form (hS.kept0 hW) s.size (by omega) (by omega) va vcap cs ((chgs_of_rg hst.chgs).kept0 hW) (by omega) (fun c hc => (hst.pchg.known c hc).1) hfm)
  have CL := Lib.hid (fun W (hW : Fr0 w4 W) => pat_Length_err (s.size : Int) (.slice va cs.length vcap) 4 (CK.out W hW))
  have CI := Lib.hid (pat_Invert_err id (.slice va cs.length vcap) 4 0 (pat_applied hst.room.st hst.text.known hst.text.even s.size hlen.symm (.slice va cs.length vcap) 0 _ (fun W2 hW2 => CL.out W2 hW2)))
  have CV := Lib.hid (fun W (hW : Fr0 w4 W) => ref37_Valid (cap := cap) (hst.args.kept0 hW) (by omega) s.size (by omega) (by omega) false HV.out)
  have HFR := Lib.hid hst.fr
  clear hst hcl hfm hlen hS4 hK4 g4 hk4 ho4 hp4 CO HR2 HF2 HK3 HG3 HB3 HA HV HI HMEM hk3
  go_wp2_with fail
  refine CI.out.mono ?_
  rintro e w5 ⟨rfl, f5⟩
  clear CI CK CL
  go_wp2_with fail
  refine (CV.out _ f5).mono ?_
  rintro e w8 ⟨rfl, f8⟩
  have F8 := HFR.out.trans (f5.trans f8)
  clear f5 f8
  go_wp2_with (go_at_call 13; refine (base_Is 4 _ (by omega)).mono ?_; rintro e w' ⟨rfl, rfl⟩)
  go_ret
  exact ⟨rfl, F8⟩

set_option maxRecDepth 100000 in
set_option maxHeartbeats 600000 in
theorem inverts_ok {w : World} (s : ByteArray) {a : Option Addr} {cap : Nat} {ps : List PS} (hA : RG PS.vals 3 w.heap.size w a ps) (hsm : s.size + costL ps ≤ 800) (hv : validP s.size (-1) (ps.map PS.pc) = true) :
    Calls Try.prog 4 #[.string s, .slice a ps.length cap] w fun e w' => e = .returned (.bool true) ∧ Fr0 w w' := by
  have CS := Lib.hid (law37_Store w)
  have HA := Lib.hid hA
  have HSM : Hid (decide (s.size + costs [ps] ≤ 800) = true) := decide_eq_true (by simp only [costs]; omega)
  have HL : Hid (s.size + costs [ps] ≤ 1000000000) := by show _ ≤ _; simp only [costs]; omega
  have hpl := costL_len ps
  have HMEM := Lib.hid (costL_mem ps)
  have HV := Lib.hid hv
  have HI := Lib.hid (costL_ins ps)
  have hs8 : s.size ≤ 800 := by omega
  clear hA hv
  go_enter Try.func4, Try.ntmps4
  go_wp2_with fail
  refine CS.out.mono ?_
  rintro e w1 ⟨p, mb, L, rfl, hR, hL, hF⟩
  have CM := Lib.hid (law37_small (cap := 1) s (pss_one (cap := cap) 22 (HA.out.kept0 hF)) HL.out (by simp) true HSM.out)
  have HR := Lib.hid hR
  have HF := Lib.hid hF
  clear CS hR hF
  go_wp2_with fail
  refine CM.out.mono ?_
  rintro e w2 ⟨rfl, f2⟩
  have hR2 := HR.out.kept0 (((Fr0.refl w1).alloc _).trans f2)
  have hF2 := (HF.out.alloc _).trans f2
  obtain ⟨tcap, tf, hconv, hct⟩ := ap_text hR2 s hs8
  have CT := Lib.hid hct
  have HR2 := Lib.hid hR2
  have HF2 := Lib.hid hF2
  clear CM f2 hR2 hF2 hct HR HF
  go_wp2_with fail
  refine CT.out.mono ?_
  rintro e w3 ⟨L3, id, d, k3, rfl, hS3, hK3, g3, b3, hk3⟩
  have hR3 := HR2.out.next (k := 990000) hS3 ((Kp.of0 (((Fr0.refl w2).alloc _).drew)).trans hK3) g3 (by omega)
  have hF3 := Kp.all0 ((HF2.out.alloc _).drew) hK3
  have CO := Lib.hid (law37_To (cap := cap) (hR3.less (by have := HI.out; omega)) (HA.out.kept0 hF3) (by omega) (fun c hc => by have := HMEM.out c hc; omega))
  have HK3 := Lib.hid hK3
  have HG3 := Lib.hid g3
  have HB3 := Lib.hid b3
  clear hconv hR3 hF3 hK3 g3 b3 hS3 CT
  go_wp2_with fail
  refine CO.out.mono ?_
  rintro e w4 ⟨L4, v, cs, k4, rfl, hS4, hK4, g4, hk4, ho4, hp4⟩
  obtain ⟨va, vcap, rfl, hst⟩ := ApSt.mk' HR2.out hL HF2.out HA.out hsm (((Fr0.refl w2).alloc _).drew) HK3.out HG3.out hk3 HB3.out hS4 hK4 g4 hk4 ho4 hp4
  have hcl := hst.pchg.len
  rw [List.length_map] at hcl
  have hfm := hst.pchg.valid hst.room.dok hst.room.sok (length := s.size) (-1)
  rw [HV.out] at hfm
  have hlen := hst.text.len hst.room.dok hst.room.sok
  rw [sbs_len] at hlen
  have hvt : validP (sbs s).length (-1) (ps.map PS.pc) = true := by rw [sbs_len]; exact HV.out
  have hul := patR_len hvt
  have hul2 := patR_le hvt
  have hi := HI.out
  have hdl := delP_nn hvt
  have hdl2 := delP_le hvt (by omega) (by omega) (by omega)
  rw [sbs_len] at hul hul2 hdl2
  obtain ⟨d0, d1⟩ := hst.text.deep hst.room.dok hst.room.sok (D := 13) (by rw [lst14, sbs_len]; omega)
  have hcost : (2 * (ps.map PS.pc).length + 1) * (11 * d.toNat + 1) ≤ 1601 * 144 := mul_room (by rw [List.length_map]; omega) (by omega)
  have hcost2 : (2 * (ps.map PS.pc).length + 1) * (3 * 13 + 1) ≤ 1601 * 40 := mul_room (by rw [List.length_map]; omega) (by omega)
  have hinv := inv_ok hvt
  have hul3 : (patR (sbs s) (ps.map PS.pc)).length ≤ 800 := by omega
  have hti : ∀ c ∈ invG (sbs s) 0 (ps.map PS.pc), c.text.length ≤ 4096 := by
    intro c hc
    obtain ⟨i, hi', rfl⟩ := List.mem_iff_getElem.1 hc
    have hi2 : i < (ps.map PS.pc).length := by rw [invG_len] at hi'; exact hi'
    rw [invG_get _ _ _ _ hi2 hi']
    show (cutL _ _ _).length ≤ _
    unfold cutL
    have h1 := List.length_take_le ((ps.map PS.pc)[i].n).toNat ((sbs s).drop ((ps.map PS.pc)[i].at_).toNat)
    have h2 := List.length_take_le' ((ps.map PS.pc)[i].n).toNat ((sbs s).drop ((ps.map PS.pc)[i].at_).toNat)
    rw [List.length_drop, sbs_len] at h2
    omega
  have hcost3 : (ps.map PS.pc).length * (11 * d.toNat + 1) ≤ 800 * 144 := mul_room (by rw [List.length_map]; omega) (by omega)
  have CI := Lib.hid (pat_Invert_ok (cap := vcap) (hst.room.less (by omega)) hst.text hst.chgs hst.pchg (by rw [List.length_map]; omega) hvt (by omega))
  have HST := Lib.hid hst
  have HCL := Lib.hid hcl
  have HCO := Lib.hid hcost
  have HCO2 := Lib.hid hcost2
  have HCO3 := Lib.hid hcost3
  have HUL3 := Lib.hid hul3
  have HINV := Lib.hid hinv
  have HTI := Lib.hid hti
  have HVT := Lib.hid hvt
  clear hst hfm hlen hS4 hK4 g4 hk4 ho4 hp4 CO HR2 HF2 HK3 HG3 HB3 HA hk3 hcl hul hul2 hi hdl hdl2 hcost hcost2 hcost3 hvt d0 d1 hinv hti hul3
  go_wp2_with fail
  refine CI.out.mono ?_
  rintro e w5 ⟨L5, bv, bs, k5, rfl, hS5, hK5, g5, hk5, ho5, hp5⟩
  have hst5 := HST.out.next (m := 880000) hS5 hK5 g5 (by have := HCO3.out; omega)
  obtain ⟨ba, bcap, rfl, hrb⟩ := rg_of_own (vals := Chg.vals) (size := 3) (B := w.heap.size) (fun c _ => rfl) ho5 (by decide) (by decide)
  have hbl := hp5.len
  rw [invG_len, List.length_map] at hbl
  have CV := Lib.hid (ref37_Valid (cap := cap) hst5.args (by omega) s.size (by omega) (by omega) true HV.out)
  have CF := Lib.hid (fun W (hW : Fr0 w5 W) => law37_From (cap := bcap) (hst5.room.st.kept0 hW) hst5.room.sok hst5.room.dok (by have := hst5.big; omega) (hrb.kept0 hW) hp5 (by omega) HTI.out)
  have CA := Lib.hid (fun W (hW : Fr0 w5 W) => pat_Apply_ok (cap := vcap) 13 ((hst5.room.kept0 hW).less (by have := HCO.out; have := HCO2.out; omega)) hst5.text (hst5.chgs.kept0 hW) hst5.pchg (by rw [List.length_map]; omega) HVT.out (by have := HUL3.out; omega) (by rw [lst14]; have := HUL3.out; omega))
  obtain ⟨QS, hQS⟩ : ∃ QS, (invG (sbs s) 0 (ps.map PS.pc)).map PC.ps = QS := ⟨_, rfl⟩
  rw [hQS] at CF
  have HQS := Lib.hid hQS
  have HQL : Hid (QS.length ≤ 1000000) := by show _ ≤ _; rw [← hQS, List.length_map, invG_len, List.length_map]; omega
  clear hQS
  have HST5 := Lib.hid hst5
  have HRB := Lib.hid hrb
  have HP5 := Lib.hid hp5
  have HBL := Lib.hid hbl
  clear hst5 hrb hp5 hbl ho5 hS5 hK5 g5 hk5 CI HST
  go_wp2_with fail
  refine CV.out.mono ?_
  rintro e w6 ⟨rfl, f6⟩
  clear CV
  go_wp2_with fail
  refine (CF.out _ f6).mono ?_
  rintro e w7 ⟨fv, rfl, hfv⟩
  have F7 := f6.trans hfv.fr
  obtain ⟨fa, fcap, rfl, hrf⟩ := rg_of_own (vals := PS.vals) (size := 3) (B := w.heap.size) (fun c _ => rfl) hfv.row (by decide) (by decide)
  have HRF := Lib.hid hrf
  have CA2 := Lib.hid (CA.out _ F7)
  have HF7 := Lib.hid F7
  clear CF f6 hfv hrf F7 CA
  go_wp2_with fail
  refine CA2.out.mono ?_
  rintro e w8 ⟨L8, r, dr, k8, rfl, hS8, hK8, g8, b8, hk8⟩
  have hst8 := (HST5.out.kept0 HF7.out).next (m := 500000) hS8 hK8 g8 (by have := HCO.out; have := HCO2.out; omega)
  have hp8 := HP5.out.more g8 HST5.out.room.dok
  have hrb8 := (HRB.out.kept0 HF7.out).keptK hK8
  obtain ⟨q0, q1⟩ := b8.deep hst8.room.dok hst8.room.sok (D := 13) (by rw [lst14]; have := HUL3.out; omega)
  have hcA : (2 * (invG (sbs s) 0 (ps.map PS.pc)).length + 1) * (11 * dr.toNat + 1) ≤ 1601 * 144 := mul_room (by rw [invG_len, List.length_map]; omega) (by omega)
  have hcB : (2 * (invG (sbs s) 0 (ps.map PS.pc)).length + 1) * (3 * 13 + 1) ≤ 1601 * 40 := mul_room (by rw [invG_len, List.length_map]; omega) (by omega)
  have CB := Lib.hid (pat_Apply_ok (cap := bcap) 13 (hst8.room.less (by omega)) b8 hrb8 hp8 (by rw [invG_len, List.length_map]; omega) HINV.out.2 (by rw [HINV.out.1, sbs_len]; omega) (by rw [HINV.out.1, sbs_len, lst14]; omega))
  rw [HINV.out.1] at CB
  have HST8 := Lib.hid hst8
  have HRF8 := Lib.hid (HRF.out.keptK hK8)
  have HC2 : Hid (∀ k, k ≤ (2 * (invG (sbs s) 0 (ps.map PS.pc)).length + 1) * (11 * dr.toNat + 1) + (2 * (invG (sbs s) 0 (ps.map PS.pc)).length + 1) * (3 * 13 + 1) → k ≤ 294600) := fun k hk => by omega
  clear hst8 hp8 hrb8 q0 q1 hcA hcB hS8 hK8 g8 b8 hk8 CA2 HST5 HRB HP5 HBL HF7 HRF HCO HCO2 HCO3
  go_wp2_with fail
  refine CB.out.mono ?_
  rintro e w9 ⟨L9, y, dy, k9, rfl, hS9, hK9, g9, b9, hk9⟩
  have hst9 := HST8.out.next (m := 200000) hS9 hK9 g9 (by have := HC2.out _ hk9; omega)
  have CP := Lib.hid (law37_Plain hst9.room.st hst9.room.sok hst9.room.dok (by have := hst9.big; omega) b9 (by rw [sbs_len]; omega))
  rw [str_sbs] at CP
  have HRF9 := Lib.hid (HRF8.out.keptK hK9)
  have CR := Lib.hid (fun W (hW : Fr0 w9 W) => ref37_Invert (cap := cap) s (hst9.args.kept0 hW) (by omega) (by omega) HVT.out (by have := HUL3.out; omega) (fun c hc => by have := HMEM.out c hc; omega))
  rw [HQS.out] at CR
  have HFR := Lib.hid hst9.fr
  clear hst9 hS9 hK9 g9 b9 hk9 HST8 HRF8 CB HC2
  go_wp2_with fail
  refine CP.out.mono ?_
  rintro e w10 ⟨rfl, f10⟩
  have HF10 := Lib.hid f10
  clear f10 CP
  go_wp2_with fail
  refine (CR.out _ HF10.out).mono ?_
  rintro e w11 ⟨rv, rfl, hrv⟩
  obtain ⟨ra, rcap, rfl, hrr⟩ := rg_of_own (vals := PS.vals) (size := 3) (B := 0) (fun c _ => rfl) hrv.row (by decide) (by decide)
  have CQ := Lib.hid (ref37_Same (cap := fcap) (cap' := rcap) (HRF9.out.kept0 (HF10.out.trans hrv.fr)) hrr HQL.out)
  have F11 := HFR.out.trans (HF10.out.trans hrv.fr)
  clear hrr hrv CR HRF9
  go_wp2_with fail
  (with_reducible refine CQ.out.mono ?_)
  rintro e w12 ⟨rfl, f12⟩
  go_wp2_with fail
  go_ret
  exact ⟨rfl, F11.trans f12⟩

theorem inverts_walk {w : World} (s : ByteArray) {a : Option Addr} {cap : Nat} {ps : List PS} (hA : RG PS.vals 3 w.heap.size w a ps) (hl : s.size + costL ps ≤ 1000000000) :
    Calls Try.prog 4 #[.string s, .slice a ps.length cap] w fun e w' => e = .returned (.bool true) ∧ Fr0 w w' := by
  by_cases hsm : s.size + costL ps ≤ 800
  · cases hv : validP s.size (-1) (ps.map PS.pc) with
    | true => exact inverts_ok s hA hsm hv
    | false => exact inverts_bad s hA hsm hv
  · exact inverts_long s hA hl hsm

end Go.Proofs.Ytclpndigmidjkaa

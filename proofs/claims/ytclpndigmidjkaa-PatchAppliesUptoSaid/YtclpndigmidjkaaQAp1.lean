/- The walk of PatchApplies. -/
import Derived.Test.YtclpndigmidjkaaQAp0
import Derived.Test.YtclpndigmidjkaaQPaS
set_option linter.unusedSimpArgs false
set_option linter.unusedVariables false
namespace Go.Proofs.Ytclpndigmidjkaa
open Go.RowKit

set_option maxRecDepth 100000 in
set_option maxHeartbeats 2000000 in
theorem applies_long {w : World} (s : ByteArray) {a : Option Addr} {cap : Nat} {ps : List PS} (hA : RG PS.vals 3 w.heap.size w a ps) (hl : s.size + costL ps ≤ 1000000000) (hsm : ¬ s.size + costL ps ≤ 800) :
    Calls Try.prog 3 #[.string s, .slice a ps.length cap] w fun e w' => e = .returned (.bool true) ∧ Fr0 w w' := by
  have CS := Lib.hid (law37_Store w)
  have HA := Lib.hid hA
  have HSM : Hid (decide (s.size + costs [ps] ≤ 800) = false) := decide_eq_false (by simp only [costs]; omega)
  have HL : Hid (s.size + costs [ps] ≤ 1000000000) := by show _ ≤ _; simp only [costs]; omega
  clear hA hl hsm
  go_enter Try.func3, Try.ntmps3
  go_wp2_with fail
  refine CS.out.mono ?_
  rintro e w1 ⟨p, mb, L, rfl, hR, hL, hF⟩
  have CM := Lib.hid (law37_small (cap := 1) s (pss_one (cap := cap) 22 (HA.out.kept0 hF)) HL.out (by simp) false HSM.out)
  have HF := Lib.hid hF
  clear CS hR hF hL
  go_wp2_with fail
  refine CM.out.mono ?_
  rintro e w2 ⟨rfl, f2⟩
  go_wp2_with fail
  go_ret
  exact ⟨rfl, (HF.out.alloc _).trans f2⟩

set_option maxRecDepth 100000 in
set_option maxHeartbeats 4000000 in
theorem applies_bad {w : World} (s : ByteArray) {a : Option Addr} {cap : Nat} {ps : List PS} (hA : RG PS.vals 3 w.heap.size w a ps) (hsm : s.size + costL ps ≤ 800) (hv : validP s.size (-1) (ps.map PS.pc) = false) :
    Calls Try.prog 3 #[.string s, .slice a ps.length cap] w fun e w' => e = .returned (.bool true) ∧ Fr0 w w' := by
  have CS := Lib.hid (law37_Store w)
  have HA := Lib.hid hA
  have HSM : Hid (decide (s.size + costs [ps] ≤ 800) = true) := decide_eq_true (by simp only [costs]; omega)
  have HL : Hid (s.size + costs [ps] ≤ 1000000000) := by show _ ≤ _; simp only [costs]; omega
  have hpl := costL_len ps
  have HMEM := Lib.hid (costL_mem ps)
  have HV := Lib.hid hv
  have HI := Lib.hid (costL_ins ps)
  have hs8 : s.size ≤ 800 := by omega
  clear hA hv
  go_enter Try.func3, Try.ntmps3
  go_wp2_with fail
  refine CS.out.mono ?_
  rintro e w1 ⟨p, mb, L, rfl, hR, hL, hF⟩
  have CM := Lib.hid (law37_small (cap := 1) s (pss_one (cap := cap) 22 (HA.out.kept0 hF)) HL.out (by simp) true HSM.out)
  have HR := Lib.hid hR
  have HF := Lib.hid hF
  clear CS hR hF
  go_wp2_with fail
  refine CM.out.mono ?_
  rintro e w2 ⟨rfl, f2⟩
  have hR2 := HR.out.kept0 (((Fr0.refl w1).alloc _).trans f2)
  have hF2 := (HF.out.alloc _).trans f2
  obtain ⟨tcap, tf, hconv, hct⟩ := ap_text hR2 s hs8
  have CT := Lib.hid hct
  have HR2 := Lib.hid hR2
  have HF2 := Lib.hid hF2
  clear CM f2 hR2 hF2 hct HR HF
  go_wp2_with fail
  refine CT.out.mono ?_
  rintro e w3 ⟨L3, id, d, k3, rfl, hS3, hK3, g3, b3, hk3⟩
  have hR3 := HR2.out.next (k := 990000) hS3 ((Kp.of0 (((Fr0.refl w2).alloc _).drew)).trans hK3) g3 (by omega)
  have hF3 := Kp.all0 ((HF2.out.alloc _).drew) hK3
  have CO := Lib.hid (law37_To (cap := cap) (hR3.less (by have := HI.out; omega)) (HA.out.kept0 hF3) (by omega) (fun c hc => by have := HMEM.out c hc; omega))
  have HK3 := Lib.hid hK3
  have HG3 := Lib.hid g3
  have HB3 := Lib.hid b3
  clear hconv hR3 hF3 hK3 g3 b3 hS3 CT
  go_wp2_with fail
  refine CO.out.mono ?_
  rintro e w4 ⟨L4, v, cs, k4, rfl, hS4, hK4, g4, hk4, ho4, hp4⟩
  obtain ⟨va, vcap, rfl, hst⟩ := ApSt.mk' HR2.out hL HF2.out HA.out hsm (((Fr0.refl w2).alloc _).drew) HK3.out HG3.out hk3 HB3.out hS4 hK4 g4 hk4 ho4 hp4
  have hcl := hst.pchg.len
  rw [List.length_map] at hcl
  have hfm := hst.pchg.valid hst.room.dok hst.room.sok (length := s.size) (-1)
  rw [HV.out] at hfm
  have hlen := hst.text.len hst.room.dok hst.room.sok
  rw [sbs_len] at hlen
  have CK := Lib.hid (fun W (hW : Fr0 w4 W) => by
    obtain ⟨sv, hS, _⟩ := hst.room.st
    exact pat_Check_form (hS.kept0 hW) s.size (by omega) (by omega) va vcap cs ((chgs_of_rg hst.chgs).kept0 hW) (by omega) (fun c hc => (hst.pchg.known c hc).1) hfm)
  have CL := Lib.hid (fun W (hW : Fr0 w4 W) => pat_Length_err (s.size : Int) (.slice va cs.length vcap) 4 (CK.out W hW))
  have CA := Lib.hid (fun W (hW : Fr0 w4 W) => pat_Apply_err id (.slice va cs.length vcap) 4 0 (pat_applied (hst.room.st.kept0 hW) hst.text.known hst.text.even s.size hlen.symm (.slice va cs.length vcap) 0 _ (fun W2 hW2 => CL.out W2 (hW.trans hW2))))
  have CV := Lib.hid (fun W (hW : Fr0 w4 W) => ref37_Valid (cap := cap) (hst.args.kept0 hW) (by omega) s.size (by omega) (by omega) false HV.out)
  have HFR := Lib.hid hst.fr
  clear hst hcl hfm hlen hS4 hK4 g4 hk4 ho4 hp4 CO HR2 HF2 HK3 HG3 HB3 HA HV HI HMEM hk3
  go_wp2_with fail
  refine (CK.out _ (Fr0.refl _)).mono ?_
  rintro e w5 ⟨rfl, f5⟩
  go_wp2_with fail
  refine (CA.out _ f5).mono ?_
  rintro e w6 ⟨rfl, f6⟩
  have F6 := f5.trans f6
  clear f5 f6
  go_wp2_with fail
  refine (CL.out _ F6).mono ?_
  rintro e w7 ⟨rfl, f7⟩
  have F7 := F6.trans f7
  clear F6 f7
  go_wp2_with fail
  refine (CV.out _ F7).mono ?_
  rintro e w8 ⟨rfl, f8⟩
  have F8 := HFR.out.trans (F7.trans f8)
  clear F7 f8
  go_wp2_with (go_at_call 13; refine (base_Is 4 _ (by omega)).mono ?_; rintro e w' ⟨rfl, rfl⟩)
  go_ret
  exact ⟨rfl, F8⟩


set_option maxRecDepth 100000 in
set_option maxHeartbeats 4000000 in
theorem applies_ok {w : World} (s : ByteArray) {a : Option Addr} {cap : Nat} {ps : List PS} (hA : RG PS.vals 3 w.heap.size w a ps) (hsm : s.size + costL ps ≤ 800) (hv : validP s.size (-1) (ps.map PS.pc) = true) :
    Calls Try.prog 3 #[.string s, .slice a ps.length cap] w fun e w' => e = .returned (.bool true) ∧ Fr0 w w' := by
  have CS := Lib.hid (law37_Store w)
  have HA := Lib.hid hA
  have HSM : Hid (decide (s.size + costs [ps] ≤ 800) = true) := decide_eq_true (by simp only [costs]; omega)
  have HL : Hid (s.size + costs [ps] ≤ 1000000000) := by show _ ≤ _; simp only [costs]; omega
  have hpl := costL_len ps
  have HMEM := Lib.hid (costL_mem ps)
  have HV := Lib.hid hv
  have HI := Lib.hid (costL_ins ps)
  have hs8 : s.size ≤ 800 := by omega
  clear hA hv
  go_enter Try.func3, Try.ntmps3
  go_wp2_with fail
  refine CS.out.mono ?_
  rintro e w1 ⟨p, mb, L, rfl, hR, hL, hF⟩
  have CM := Lib.hid (law37_small (cap := 1) s (pss_one (cap := cap) 22 (HA.out.kept0 hF)) HL.out (by simp) true HSM.out)
  have HR := Lib.hid hR
  have HF := Lib.hid hF
  clear CS hR hF
  go_wp2_with fail
  refine CM.out.mono ?_
  rintro e w2 ⟨rfl, f2⟩
  have hR2 := HR.out.kept0 (((Fr0.refl w1).alloc _).trans f2)
  have hF2 := (HF.out.alloc _).trans f2
  obtain ⟨tcap, tf, hconv, hct⟩ := ap_text hR2 s hs8
  have CT := Lib.hid hct
  have HR2 := Lib.hid hR2
  have HF2 := Lib.hid hF2
  clear CM f2 hR2 hF2 hct HR HF
  go_wp2_with fail
  refine CT.out.mono ?_
  rintro e w3 ⟨L3, id, d, k3, rfl, hS3, hK3, g3, b3, hk3⟩
  have hR3 := HR2.out.next (k := 990000) hS3 ((Kp.of0 (((Fr0.refl w2).alloc _).drew)).trans hK3) g3 (by omega)
  have hF3 := Kp.all0 ((HF2.out.alloc _).drew) hK3
  have CO := Lib.hid (law37_To (cap := cap) (hR3.less (by have := HI.out; omega)) (HA.out.kept0 hF3) (by omega) (fun c hc => by have := HMEM.out c hc; omega))
  have HK3 := Lib.hid hK3
  have HG3 := Lib.hid g3
  have HB3 := Lib.hid b3
  clear hconv hR3 hF3 hK3 g3 b3 hS3 CT
  go_wp2_with fail
  refine CO.out.mono ?_
  rintro e w4 ⟨L4, v, cs, k4, rfl, hS4, hK4, g4, hk4, ho4, hp4⟩
  obtain ⟨va, vcap, rfl, hst⟩ := ApSt.mk' HR2.out hL HF2.out HA.out hsm (((Fr0.refl w2).alloc _).drew) HK3.out HG3.out hk3 HB3.out hS4 hK4 g4 hk4 ho4 hp4
  have hcl := hst.pchg.len
  rw [List.length_map] at hcl
  have hfm := hst.pchg.valid hst.room.dok hst.room.sok (length := s.size) (-1)
  rw [HV.out] at hfm
  have hlen := hst.text.len hst.room.dok hst.room.sok
  rw [sbs_len] at hlen
  have hvt : validP (sbs s).length (-1) (ps.map PS.pc) = true := by rw [sbs_len]; exact HV.out
  have hul := patR_len hvt
  have hul2 := patR_le hvt
  have hi := HI.out
  have hdl := delP_nn hvt
  have hdl2 := delP_le hvt (by omega) (by omega) (by omega)
  rw [sbs_len] at hul hul2 hdl2
  obtain ⟨d0, d1⟩ := hst.text.deep hst.room.dok hst.room.sok (D := 13) (by rw [lst14, sbs_len]; omega)
  have hcost : (2 * (ps.map PS.pc).length + 1) * (11 * d.toNat + 1) ≤ 1601 * 144 := mul_room (by rw [List.length_map]; omega) (by omega)
  have hcost2 : (2 * (ps.map PS.pc).length + 1) * (3 * 13 + 1) ≤ 1601 * 40 := mul_room (by rw [List.length_map]; omega) (by omega)
  have CK := Lib.hid (by
    obtain ⟨sv, hS, _⟩ := hst.room.st
    exact pat_Check_formed hS s.size (by omega) (by omega) va vcap cs (chgs_of_rg hst.chgs) (by omega) (fun c hc => (hst.pchg.known c hc).1) hfm .nilIface (fun W hW => pat_balanced_ok (hS.kept0 hW) va vcap cs ((chgs_of_rg hst.chgs).kept0 hW) (by omega) hst.pchg.known))
  have CA := Lib.hid (fun W (hW : Fr0 w4 W) => pat_Apply_ok (cap := vcap) 13 ((hst.room.kept0 hW).less (by omega)) hst.text (hst.chgs.kept0 hW) hst.pchg (by rw [List.length_map]; omega) hvt (by omega) (by rw [lst14]; omega))
  have HST := Lib.hid hst
  have HFM := Lib.hid hfm
  have HCL := Lib.hid hcl
  have HUL := Lib.hid hul
  have HUL2 := Lib.hid hul2
  have HD1 := Lib.hid hdl
  have HD2 := Lib.hid hdl2
  have HCO := Lib.hid hcost
  have HCO2 := Lib.hid hcost2
  clear hst hfm hlen hS4 hK4 g4 hk4 ho4 hp4 CO HR2 HF2 HK3 HG3 HB3 HA hk3 hcl hul hul2 hi hdl hdl2 hcost hcost2 hvt d0 d1
  go_wp2_with fail
  refine CK.out.mono ?_
  rintro e w5 ⟨rfl, f5⟩
  clear CK
  go_wp2_with fail
  refine (CA.out _ f5).mono ?_
  rintro e w6 ⟨L6, r, dr, k6, rfl, hS6, hK6, g6, b6, hk6⟩
  have hcl := HCL.out
  have hul := HUL.out
  have hul2 := HUL2.out
  have hi := HI.out
  have hdl := HD1.out
  have hdl2 := HD2.out
  have hcost := HCO.out
  have hcost2 := HCO2.out
  have hst := (HST.out.kept0 f5).next (m := 600000) hS6 hK6 g6 (by omega)
  have hins := hst.pchg.ins hst.room.dok hst.room.sok
  have hdel := hst.pchg.del
  obtain ⟨u, hu⟩ : ∃ u, patR (sbs s) (ps.map PS.pc) = u := ⟨_, rfl⟩
  rw [hu] at hul hul2 b6
  have HU := Lib.hid hu
  have hW : ((strOfNums u).size : Int) = (s.size : Int) - sumN cs + sumT (lnL L6) cs := by rw [strOfNums_size, hdel, hins]; exact hul
  have hWb : (strOfNums u).size ≤ 800 := by rw [strOfNums_size]; omega
  have CL := Lib.hid (by
    obtain ⟨sv, hS, _⟩ := hst.room.st
    exact pat_Length_ok hS hst.room.sok s.size (by omega) (by omega) va vcap cs (chgs_of_rg hst.chgs) (by omega) hst.pchg.known HFM.out (by rw [← hW]; omega))
  rw [← hW] at CL
  have hcells : (cellsOf (sbs s)).length = s.size := by rw [cellsOf_len, sbs_len]
  have CV := Lib.hid (fun W (hW : Fr0 w6 W) => ref37_Valid (cap := cap) (hst.args.kept0 hW) (by omega) s.size (by omega) (by omega) true HV.out)
  have CZ := Lib.hid (fun W (hW : Fr0 w6 W) => by
    obtain ⟨sv, hS, _⟩ := hst.room.st
    exact pat_Size_ok (hS.kept0 hW) hst.room.sok va vcap cs ((chgs_of_rg hst.chgs).kept0 hW) (by omega) hst.pchg.known (by rw [hst.pchg.valid hst.room.dok hst.room.sok]; exact validP_mono (by omega) _ _ HV.out) (by rw [hins]; omega))
  have CP := Lib.hid (fun W (hW : Fr0 w6 W) => law37_Plain (hst.room.st.kept0 hW) hst.room.sok hst.room.dok (by have := hst.big; omega) b6 (by omega))
  have CC := Lib.hid (fun W => ref37_Cells s W (by omega))
  have HFU : Hid ((patG embC (cellsOf (sbs s)) 0 (ps.map PS.pc)).map Prod.fst = u) := by show _ = _; rw [patC_fst]; exact HU.out
  have hFl : (patG embC (cellsOf (sbs s)) 0 (ps.map PS.pc)).length ≤ 800 := by
    have := congrArg List.length HFU.out
    rw [List.length_map] at this
    omega
  have HVC : Hid (validP (cellsOf (sbs s)).length (-1) (ps.map PS.pc) = true) := by show _ = _; rw [hcells]; exact HV.out
  have CR := Lib.hid (fun W W2 (hW : Fr0 w6 W) tv (hO : OwnG clv 85 2 W W2 tv (cellsOf (sbs s))) => ref37_Apply tv _ (owns_low hO.row (Nat.zero_le _)) a cap ps (hst.args.kept0 (hW.trans hO.fr)) HVC.out _ rfl (by omega) (by omega) (by omega))
  have HFR := Lib.hid hst.fr
  obtain ⟨FF, hFF⟩ : ∃ F, patG embC (cellsOf (sbs s)) 0 (ps.map PS.pc) = F := ⟨_, rfl⟩
  rw [hFF] at HFU hFl CR
  have z1 : 0 ≤ sumN cs := by omega
  have z2 : sumN cs ≤ (s.size : Int) := by omega
  have z3 : 0 ≤ sumT (lnL L6) cs := by omega
  have z4 : sumT (lnL L6) cs ≤ 800 := by omega
  generalize sumN cs = DL at *
  generalize sumT (lnL L6) cs = IN at *
  have z5 : (IN - DL == ((strOfNums u).size : Int) - (s.size : Int)) = true := by rw [beq_iff_eq]; omega
  clear hFF hst hul hul2 hi hdl hdl2 hins hdel hcost hcost2 hW HST hS6 hK6 g6 b6 hk6 CA HI HV HMEM HFM hcl hu hcells HVC HU HCL HUL HUL2 HD1 HD2 HCO HCO2
  go_wp2_with fail
  refine CL.out.mono ?_
  rintro e w7 ⟨rfl, f7⟩
  go_wp2_with fail
  refine (CV.out _ f7).mono ?_
  rintro e w8 ⟨rfl, f8⟩
  have F8 := f7.trans f8
  clear f7 f8 CL CV
  go_wp2_with fail
  refine (CZ.out _ F8).mono ?_
  rintro e w9 ⟨rfl, f9⟩
  have F9 := F8.trans f9
  clear F8 f9 CZ
  go_wp2_with fail
  refine (CP.out _ F9).mono ?_
  rintro e w10 ⟨rfl, f10⟩
  have F10 := F9.trans f10
  clear F9 f10 CP
  go_wp2_with fail
  refine (CC.out _).mono ?_
  rintro e w11 ⟨tv, rfl, hO⟩
  have C2 := Lib.hid (CR.out _ _ F10 tv hO)
  have F11 := F10.trans hO.fr
  clear F10 hO CC CR
  go_wp2_with fail
  refine C2.out.mono ?_
  rintro e w12 ⟨fv, rfl, hO⟩
  obtain ⟨fa, fcap, rfl, hrg⟩ := rg_of_own (vals := clv) (size := 2) (B := 0) (fun c _ => rfl) hO.row (by decide) (by decide)
  have C3 := Lib.hid (ref37_Text (cap := fcap) hrg (by omega))
  rw [HFU.out] at C3
  have F12 := F11.trans hO.fr
  clear F11 hO hrg C2
  go_wp2_with fail
  refine C3.out.mono ?_
  rintro e w13 ⟨rfl, f13⟩
  have F13 := HFR.out.trans (F12.trans f13)
  clear F12 f13 C3
  go_wp2_with fail
  go_ret
  exact ⟨rfl, F13⟩

theorem applies_walk {w : World} (s : ByteArray) {a : Option Addr} {cap : Nat} {ps : List PS} (hA : RG PS.vals 3 w.heap.size w a ps) (hl : s.size + costL ps ≤ 1000000000) :
    Calls Try.prog 3 #[.string s, .slice a ps.length cap] w fun e w' => e = .returned (.bool true) ∧ Fr0 w w' := by
  by_cases hsm : s.size + costL ps ≤ 800
  · cases hv : validP s.size (-1) (ps.map PS.pc) with
    | true => exact applies_ok s hA hsm hv
    | false => exact applies_bad s hA hsm hv
  · exact applies_long s hA hl hsm

end Go.Proofs.Ytclpndigmidjkaa

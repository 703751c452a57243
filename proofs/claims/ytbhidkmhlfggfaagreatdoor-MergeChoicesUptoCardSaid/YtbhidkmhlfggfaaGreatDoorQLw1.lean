/- The walk of MergeTexts. -/
import Derived.Test.YtbhidkmhlfggfaaGreatDoorQLw0
import Derived.Test.YtbhidkmhlfggfaaGreatDoorQRg1
import Derived.Test.YtbhidkmhlfggfaaGreatDoorQPx5
set_option linter.unusedSimpArgs false
set_option linter.unusedVariables false
namespace Go.Proofs.YtbhidkmhlfggfaaGreatDoor
open Go.RowKit
set_option maxRecDepth 100000 in
set_option maxHeartbeats 4000000 in
theorem law_MergeTexts {w : World} (hdeb : Deb w.heap.size w) (s : ByteArray) {a b : Option Addr} {ka kc : Nat} {ps qs : List PS} (hA : RG PS.vals 3 w.heap.size w a ps) (hB : RG PS.vals 3 w.heap.size w b qs) (hl : s.size + costL ps + costL qs ≤ 1000000000) :
    Calls Tryz.prog 3 #[.string s, .slice a ps.length ka, .slice b qs.length kc] w fun e w' => e = .returned (.bool true) ∧ Fr0 w w' := by
 have CB := Lib.hid (law43_begun hdeb)
 have HA := Lib.hid hA
 have HB := Lib.hid hB
 obtain ⟨vv, hv⟩ : ∃ vv, (decide (s.size + costL ps + costL qs ≤ 500) && validP s.size (-1) (ps.map PS.pc) && validP s.size (-1) (qs.map PS.pc)) = vv := ⟨_, rfl⟩
 have HV := Lib.hid hv
 have HL := Lib.hid hl
 have hwb : w.heap.size ≤ w.heap.size := Nat.le_refl _
 clear hA hB hdeb hv hl
 go_enter Tryz.func3, Tryz.ntmps3
 go_wp2_with fail
 refine CB.out.mono ?_
 rintro e w1 ⟨mp, kb, pp, tp, p, mb, L, rfl, hm1, hl1, hf1, hkb⟩
 have CV := Lib.hid (law43_valid (ca := ka) (cb := kc) (HA.out.kept0 hf1) (HB.out.kept0 hf1) HL.out vv HV.out)
 have HM1 := Lib.hid hm1
 have HF1 := Lib.hid hf1
 have HL1 := Lib.hid hl1
 have HKB := Lib.hid hkb
 clear CB hm1 hf1 hl1 hkb HL
 go_wp2_with fail
 refine CV.out.mono ?_
 rintro e w2 ⟨rfl, f2⟩
 have HF2 := Lib.hid (HF1.out.trans f2)
 have HM2 := Lib.hid (HM1.out.kept0 f2)
 clear CV f2 HF1 HM1
 cases vv with
 | false =>
  go_wp2_with fail
  go_ret
  exact ⟨rfl, HF2.out⟩
 | true =>
  have hvv := HV.out
  rw [Bool.and_eq_true, Bool.and_eq_true, decide_eq_true_iff] at hvv
  obtain ⟨⟨hc, v1⟩, v2⟩ := hvv
  have i1 := costL_ins ps
  have i2 := costL_ins qs
  have m1 := costL_mem ps
  have m2 := costL_mem qs
  have CM := Lib.hid (law43_made (s := s) (ka := ka) (kb := kc) (N := 1000) (HM2.out.room (n := 1000) (by have := HL1.out; omega) (by have := HL1.out; omega)) (by omega) (HA.out.kept0 HF2.out) (HB.out.kept0 HF2.out) (by omega) (by omega) (by omega) (fun c hc2 => by have := m1 c hc2; omega) (fun c hc2 => by have := m2 c hc2; omega))
  have HC := Lib.hid hc
  have HV1 := Lib.hid v1
  have HV2 := Lib.hid v2
  clear hc v1 v2 i1 i2 m1 m2 HV
  go_wp2_with fail
  refine CM.out.mono ?_
  rintro e w3 ⟨L3, id, d, va, vb, ca, cb, cs, ds, k3, rfl, hmd⟩
  obtain ⟨hm3, hk3, hl3, ht3⟩ := mt_start HM2.out HL1.out hmd HC.out HV1.out HV2.out
  have HF3 : Hid (Fr0 w w3) := Kk.all0 HF2.out hk3 HKB.out
  have hgo : GrOk (sbs s) (ps.map PS.pc) (qs.map PS.pc) _ := groups_ok (t := sbs s) (by rw [sbs_len]; exact HV1.out) (by rw [sbs_len]; exact HV2.out)
  obtain ⟨hs, hhs⟩ : ∃ hs, dvdG PC.at_ PC.n (ps.map PS.pc) (qs.map PS.pc) = hs := ⟨_, rfl⟩
  rw [hhs] at hgo
  have hsm : (sbs s).length + insP (ps.map PS.pc) + insP (qs.map PS.pc) ≤ 500 := by
   have := costL_ins ps
   have := costL_ins qs
   have := HC.out
   rw [sbs_len]; omega
  have hcnt : hs.length ≤ 500 := by
   have h1 := hgo.count
   rw [List.length_map, List.length_map] at h1
   have := costL_len ps
   have := costL_len qs
   have := HC.out
   omega
  have hin : ∀ h ∈ hs, 0 ≤ h.at_ ∧ h.at_ ≤ h.end_ ∧ h.end_ ≤ 1000000 := fun h hh => by
   have := hgo.inside h hh
   exact ⟨this.1, this.2.1, by have := this.2.2.1; omega⟩
  obtain ⟨NM, hNM, CG⟩ := mt_merge hm3 (by omega) ht3 hhs
  have CO := Lib.hid (mr_Of (by omega) hgo.ne hin CG)
  have HM3 := Lib.hid hm3
  have HT3 := Lib.hid ht3
  have HGO := Lib.hid hgo
  have HSM := Lib.hid hsm
  have HCN := Lib.hid hcnt
  have HHS := Lib.hid hhs
  have HL3 := Lib.hid (show L3.length ≤ 11000 from hl3)
  have HNM := Lib.hid hNM
  clear CM hmd hm3 hk3 hl3 ht3 hgo hhs hsm hcnt hin CG HM2 HL1 HF2 hNM
  go_wp2_with fail
  refine CO.out.mono ?_
  rintro e w4 ⟨L4, z1, z2, rs, fs, rfl, hm4, hk4, hg4, o1, o2, hp4, ha4⟩
  obtain ⟨a1, c1, rfl⟩ := owns_form o1
  obtain ⟨a2, c2, rfl⟩ := owns_form o2
  have hl4 : L4.length ≤ 220000 := by have := hg4.gr.len; have := HL3.out; have := HNM.out; omega
  have ht4 := HT3.out.next HM3.out hk4 hg4
  obtain ⟨NM2, hNM2, CG⟩ := mt_merge hm4 (by omega) ht4 HHS.out
  have CC := Lib.hid (mr_Clean (by have := HCN.out; omega) CG)
  have HF4 : Hid (Fr0 w w4) := Kk.all0 HF3.out hk4 HKB.out
  have HM4 := Lib.hid hm4
  have HO1 := Lib.hid o1
  have HO2 := Lib.hid o2
  have HP4 := Lib.hid hp4
  have HA4 := Lib.hid ha4
  have HL4 := Lib.hid hl4
  have HNM2 := Lib.hid hNM2
  clear CO hm4 hk4 hg4 o1 o2 hp4 ha4 hl4 ht4 CG hNM2 HM3 HT3 HL3 HNM HF3
  go_wp2_with fail
  refine CC.out.mono ?_
  rintro e w5 ⟨L5, rfl, hm5, hk5, hg5⟩
  have hl5 : L5.length ≤ 1000000 := by have := hg5.gr.len; have := HL4.out; have := HNM2.out; omega
  have o1 := own_kk HM4.out hk5 HO1.out (by decide)
  have o2 := own_kk HM4.out hk5 HO2.out (by decide)
  have hp5 := HP4.out.more hg5.gr HM4.out.dok
  have ha5 := HA4.out.cfr hg5.gr HM4.out.dok
  have HF5 : Hid (Fr0 w w5) := Kk.all0 HF4.out hk5 HKB.out
  have hrl : rs.length ≤ 500 := by have := hp5.len; have := mgO_len (sbs s) hs; have := HCN.out; omega
  have hfl : fs.length ≤ 500 := by have := ha5.len; have := mgC_len (sbs s) hs; have := HCN.out; omega
  have r1 := owns_rd (B := w.heap.size) (vals := Chg.vals) (size := 3) (fun _ _ => rfl) o1 (by decide) (by decide)
  have r2 := owns_rd (B := w.heap.size) (vals := Cf.vals) (size := 4) (fun _ _ => rfl) o2 (by decide) (by decide)
  have CF := Lib.hid (law37_From (cap := c1) hm5.st hm5.sok hm5.dok hl5 r1 hp5 (by omega) (fun c hc => by have := mgO_text HGO.out HSM.out c hc; omega))
  have HM5 := Lib.hid hm5
  have HR2 := Lib.hid r2
  have HA5 := Lib.hid ha5
  have HL5 := Lib.hid hl5
  have HCL := Lib.hid (hp5.len)
  have hmo : (mgO (sbs s) hs).length ≤ 500 := by have := mgO_len (sbs s) hs; have := HCN.out; omega
  have hmc : (mgC (sbs s) hs).length ≤ 500 := by have := mgC_len (sbs s) hs; have := HCN.out; omega
  clear CC hm5 hk5 hg5 o1 o2 hp5 ha5 r1 r2 hl5 HM4 HO1 HO2 HP4 HA4 HL4 HNM2 HF4
  go_wp2_with fail
  refine CF.out.mono ?_
  rintro e w6 ⟨gv, rfl, hgv⟩
  obtain ⟨ga, gc, rfl⟩ := hgv.form
  have HF6 := Lib.hid (HF5.out.trans hgv.fr)
  have CR := Lib.hid (r43_Of (s := s) (ca := ka) (cb := kc) (cc := 0) (kA := none) (ks := []) (HA.out.kept0 HF6.out) (HB.out.kept0 HF6.out) (by have := costL_len ps; have := HC.out; omega) (by have := costL_len qs; have := HC.out; omega) (by have := HC.out; omega) (roIn_of HGO.out HSM.out) (by have := HCN.out; omega) (RG.nil _ _ _ _ _) (by simp) (by
   obtain ⟨mx, G⟩ := HGO.out.gi
   refine r43_Groups (HA.out.kept0 HF6.out) (HB.out.kept0 HF6.out) (by have := costL_len ps; have := costL_len qs; have := HC.out; omega) (fun c hc => ?_) G
   have h5 := HC.out
   rcases List.mem_append.1 hc with hc | hc
   · have := (validP_asc HV1.out).2 c.pc (List.mem_map_of_mem hc)
     exact ⟨this.1, this.2.1, by have h6 := this.2.2.1; show c.at_ + c.n ≤ _; have e : c.pc.at_ + c.pc.n = c.at_ + c.n := rfl; omega⟩
   · have := (validP_asc HV2.out).2 c.pc (List.mem_map_of_mem hc)
     exact ⟨this.1, this.2.1, by have h6 := this.2.2.1; show c.at_ + c.n ≤ _; have e : c.pc.at_ + c.pc.n = c.at_ + c.n := rfl; omega⟩))
  have HGV := Lib.hid hgv
  clear CF hgv HF5
  go_wp2_with fail
  refine CR.out.mono ?_
  rintro e w7 ⟨u1, u2, rfl, hf7, q1, q2⟩
  rw [refQ_nil] at q1
  obtain ⟨xa, xc, rfl⟩ := owns_form q1
  obtain ⟨ya, yc, rfl⟩ := owns_form q2
  have hgv7 := HGV.out.kept0 hf7
  have CS := Lib.hid (fun W (hW : Fr0 w7 W) => ref37_Same (cap := gc) (cap' := xc) ((owns_rd (B := w.heap.size) (vals := PS.vals) (size := 3) (fun _ _ => rfl) hgv7.row (by decide) (by decide)).kept0 hW) ((owns_rd (B := w.heap.size) (vals := PS.vals) (size := 3) (fun _ _ => rfl) q1 (by decide) (by decide)).kept0 hW) (by rw [List.length_map]; omega))
  have hlf := HA5.out.len
  have F57 : Fr0 w5 w7 := HGV.out.fr.trans hf7
  have CK := Lib.hid (fun W (hW : Fr0 w7 W) => law43_conflicts (ca := c2) (cb := yc) ((HM5.out.kept0 F57).st.kept0 hW) HM5.out.sok HM5.out.dok HL5.out ((HR2.out.kept0 F57).kept0 hW) HA5.out ((owns_rd (B := w.heap.size) (vals := Rcf.vals) (size := 4) (fun _ _ => rfl) q2 (by decide) (by decide)).kept0 hW) (by omega) (fun c hc => by have := mgC_text HGO.out HSM.out c hc; omega))
  have HAN := Lib.hid (anyC_len (sbs s) hs)
  have HF7 := Lib.hid (HF6.out.trans hf7)
  have hcl1 : ((mgC (sbs s) hs).map CfP.rc).length = (mgC (sbs s) hs).length := List.length_map ..
  have hol1 : ((mgO (sbs s) hs).map PC.ps).length = (mgO (sbs s) hs).length := List.length_map ..
  rw [hcl1] at CK ⊢
  rw [hol1] at CS ⊢
  have HCA : Hid ((!anyC (sbs s) hs) = decide ((mgC (sbs s) hs).length = 0)) := HAN
  clear CR q1 q2 hf7 HGV hgv7 hlf F57 HF6 HM5 HR2 HA5 HL5 HGO HSM HCN HHS HAN hcl1 hol1 HA HB HC HV1 HV2 HKB HCL
  generalize (!anyC (sbs s) hs) = cl at *
  generalize (mgC (sbs s) hs).length = nc at *
  generalize (mgO (sbs s) hs).length = no at *
  obtain ⟨zc, hzc⟩ : ∃ zc, decide (nc = 0) = zc := ⟨_, rfl⟩
  have zq : ((nc : Int) == 0) = zc := by
   rw [← hzc]
   by_cases e : nc = 0
   · rw [e]; rfl
   · rw [decide_eq_false e, beq_eq_false_iff_ne]; omega
  have hcl : cl = zc := by rw [HCA.out, hzc]
  subst hcl
  clear HCA hzc hmo hmc
  go_wp2_with fail
  refine (CS.out _ (Fr0.refl _)).mono ?_
  rintro e w8 ⟨rfl, f8⟩
  go_wp2_with fail
  refine (CK.out _ f8).mono ?_
  rintro e w9 ⟨rfl, f9⟩
  have HF9 := Lib.hid (HF7.out.trans (f8.trans f9))
  clear CS CK f8 f9
  cases cl with
  | true =>
   go_wp2_with fail
   go_ret
   exact ⟨rfl, HF9.out⟩
  | false =>
   go_wp2_with fail
   go_ret
   exact ⟨rfl, HF9.out⟩
end Go.Proofs.YtbhidkmhlfggfaaGreatDoor

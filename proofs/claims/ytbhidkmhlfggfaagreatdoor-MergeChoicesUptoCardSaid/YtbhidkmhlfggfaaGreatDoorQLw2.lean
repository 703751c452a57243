/- The walk of MergeChoices. -/
import Derived.Test.YtbhidkmhlfggfaaGreatDoorQLw0
import Derived.Test.YtbhidkmhlfggfaaGreatDoorQRg1
import Derived.Test.YtbhidkmhlfggfaaGreatDoorQPx5
import Derived.Test.YtbhidkmhlfggfaaGreatDoorQMr8
import Derived.Test.YtbhidkmhlfggfaaGreatDoorQErr
set_option linter.unusedSimpArgs false
set_option linter.unusedVariables false
namespace Go.Proofs.YtbhidkmhlfggfaaGreatDoor
open Go.RowKit
def RvAny (B : Nat) (w : World) (mp kb pp tp p mb : Nat) (most : Int) (L : List Ent) (t : List Int) (hs : List (Grp PC)) (ks : List Int) (ov : Bool) (N : Nat) (e : Ending) (w' : World) : Prop :=
 ∃ L' lv ev, e = .returned (.tuple #[lv, ev]) ∧ Me B w' mp kb pp tp p mb most L' ∧ Kk B mb kb w w' ∧ Gu L L' N ∧ (ov = false → lv = .slice none 0 0 ∧ ev = .iface 50 (.int .i64 1)) ∧ (ov = true → ev = .nilIface ∧ ∃ cs, w'.ownsRow w.heap.size 75 3 lv cs.length (cs.flatMap Chg.vals) ∧ PChg L' cs (refQ t ks 0 hs))
theorem mr_Resolve {B : Nat} {w : World} {mp kb pp tp p mb : Nat} {most : Int} {L : List Ent} {id : Int} {t : List Int} {a b ch : Option Addr} {ca cb cc n m : Nat} {hs : List (Grp PC)} {ks : List Int} {NM : Nat} (hhl : hs.length ≤ 1000) (hne : ∀ h ∈ hs, h.left ≠ [] ∨ h.right ≠ []) (hin : ∀ h ∈ hs, 0 ≤ h.at_ ∧ h.at_ ≤ h.end_ ∧ h.end_ ≤ 1000000) (hlen : ∀ g ∈ hs, (sdl t g).length ≤ 600 ∧ (sdr t g).length ≤ 600) (hsum : ∀ g ∈ hs, (sdl t g).length + (sdr t g).length ≤ 600) (hK : ChR B w ch ks.length cc ks) (hkl : ks.length ≤ 1000) (hkb : B ≤ kb) (hBw : B ≤ w.heap.size) (ov : Bool) (hov : okCh (mgC t hs).length ks = ov) (hmost : ((L.length + NM + 74000 : Nat) : Int) ≤ most) (hL : L.length + NM + 74000 ≤ 500000) {NR : Nat} (hNR : NM + 74000 = NR)
    (hM : Calls Tryz.prog 22 #[.pointer (some ⟨mp, 0, none⟩), .int .i64 id, .slice a n ca, .slice b m cb] w (MgPost B w mp kb pp tp p mb most L t hs NM)) :
    Calls Tryz.prog 14 #[.pointer (some ⟨mp, 0, none⟩), .int .i64 id, .slice a n ca, .slice b m cb, .slice ch ks.length cc] w (RvAny B w mp kb pp tp p mb most L t hs ks ov NR) := by
 subst hNR
 cases ov with
 | false =>
  refine (mr_Resolve_bad hhl hlen hK hkl hkb hov hM).mono ?_
  rintro e w' ⟨L', rfl, hm, hk, hg⟩
  exact ⟨L', _, _, rfl, hm, hk, hg.le (by omega), (fun _ => ⟨rfl, rfl⟩), (fun h => by cases h)⟩
 | true =>
  refine (mr_Resolve_ok hhl hne hin hlen hsum hK hkl hkb hBw hov hmost hL hM).mono ?_
  rintro e w' ⟨L', v, cs, rfl, hm, hk, hg, ho, hp⟩
  exact ⟨L', v, _, rfl, hm, hk, hg, (fun h => by cases h), (fun _ => ⟨rfl, cs, ho, hp⟩)⟩
theorem refQ_text {t : List Int} {p q : List PC} (ks : List Int) : ∀ {gs : List (Grp PC)} (c : Nat), (∀ g ∈ gs, (sdl t g).length + (sdr t g).length ≤ 500) → ∀ x ∈ refQ t ks c gs, x.text.length ≤ 500
 | [], c, _, x, hx => by simp [refQ] at hx
 | g :: gs, c, h, x, hx => by
  have hg := h g (by simp)
  rw [refQ] at hx
  split at hx
  · rcases List.mem_append.1 hx with hx | hx
    · unfold resQ at hx
      split at hx
      · rw [List.mem_singleton.1 hx]
        dsimp only
        split
        · omega
        · split
          · rw [List.length_append]; omega
          · omega
      · simp at hx
    · exact refQ_text (p := p) (q := q) ks (c + 1) (fun g' h' => h g' (by simp [h'])) x hx
  · rcases List.mem_cons.1 hx with rfl | hx
    · unfold chP
      dsimp only
      split <;> omega
    · exact refQ_text (p := p) (q := q) ks c (fun g' h' => h g' (by simp [h'])) x hx
def pCh (k : Int) : Bool := decide (0 ≤ k) && decide (k ≤ 3)
theorem pCh_no {k : Int} (h : ¬ (0 ≤ k ∧ k ≤ 3)) : pCh k = false := by unfold pCh; simpa using h
theorem pCh_yes {k : Int} (h1 : 0 ≤ k) (h2 : k ≤ 3) : pCh k = true := by unfold pCh; simp [h1, h2]
theorem bad_step (z : Bool) (ks : List Int) {k : Nat} (hk : k < ks.length) : (!(z && (ks.take (k + 1)).all pCh)) = (!(z && (ks.take k).all pCh) || !pCh ks[k]) := by
 rw [List.take_succ_eq_append_getElem hk, List.all_append]
 cases z <;> simp [Bool.not_and]
set_option maxRecDepth 100000 in
set_option maxHeartbeats 4000000 in
theorem law_MergeChoices {w : World} (hdeb : Deb w.heap.size w) (s : ByteArray) {a b kA : Option Addr} {ka kc kk : Nat} {ps qs : List PS} {ks : List Int} (hA : RG PS.vals 3 w.heap.size w a ps) (hB : RG PS.vals 3 w.heap.size w b qs) (hl : s.size + costL ps + costL qs ≤ 1000000000) (hK : RG (fun x => [Value.int .i64 x]) 1 w.heap.size w kA ks) (hkl : ks.length ≤ 1000000000) (hkc : ks.length ≤ kk) :
    Calls Tryz.prog 4 #[.string s, .slice a ps.length ka, .slice b qs.length kc, .slice kA ks.length kk] w fun e w' => e = .returned (.bool true) ∧ Fr0 w w' := by
 have CB := Lib.hid (law43_begun hdeb)
 have HA := Lib.hid hA
 have HB := Lib.hid hB
 have HK : Hid (ChR w.heap.size w kA ks.length kk ks) := ⟨rfl, hkc, fun hne ad had => by
  obtain ⟨b, off, e, h2, _⟩ := hK 0 (List.length_pos_iff.2 hne)
  rw [had] at e
  rw [Option.some.inj e]
  exact h2, hK⟩
 obtain ⟨vv, hv⟩ : ∃ vv, (decide (s.size + costL ps + costL qs ≤ 500) && validP s.size (-1) (ps.map PS.pc) && validP s.size (-1) (qs.map PS.pc)) = vv := ⟨_, rfl⟩
 have HV := Lib.hid hv
 have HL := Lib.hid hl
 clear hA hB hdeb hv hl hK hkc
 go_enter Tryz.func4, Tryz.ntmps4
 go_wp2_with fail
 refine CB.out.mono ?_
 rintro e w1 ⟨mp, kb, pp, tp, p, mb, L, rfl, hm1, hl1, hf1, hkb⟩
 have CV := Lib.hid (law43_valid (ca := ka) (cb := kc) (HA.out.kept0 hf1) (HB.out.kept0 hf1) HL.out vv HV.out)
 have HM1 := Lib.hid hm1
 have HF1 := Lib.hid hf1
 have HL1 := Lib.hid hl1
 have HKB := Lib.hid hkb
 clear CB hm1 hf1 hl1 hkb HL
 go_wp2_with fail
 refine CV.out.mono ?_
 rintro e w2 ⟨rfl, f2⟩
 have HF2 := Lib.hid (HF1.out.trans f2)
 have HM2 := Lib.hid (HM1.out.kept0 f2)
 clear CV f2 HF1 HM1
 cases vv with
 | false =>
  go_wp2_with fail
  go_ret
  exact ⟨rfl, HF2.out⟩
 | true =>
  by_cases h100 : 100 < ks.length
  · have d1 : decide ((100 : Int) < (ks.length : Int)) = true := decide_eq_true (by omega)
    go_wp2_with fail
    go_ret
    exact ⟨rfl, HF2.out⟩
  · have d1 : decide ((100 : Int) < (ks.length : Int)) = false := decide_eq_false (by omega)
    have hk100 : ks.length ≤ 100 := by omega
    have hvv := HV.out
    rw [Bool.and_eq_true, Bool.and_eq_true, decide_eq_true_iff] at hvv
    obtain ⟨⟨hc, v1⟩, v2⟩ := hvv
    have i1 := costL_ins ps
    have i2 := costL_ins qs
    have m1 := costL_mem ps
    have m2 := costL_mem qs
    have CM := Lib.hid (law43_made (s := s) (ka := ka) (kb := kc) (N := 1000) (HM2.out.room (n := 1000) (by have := HL1.out; omega) (by have := HL1.out; omega)) (by omega) (HA.out.kept0 HF2.out) (HB.out.kept0 HF2.out) (by omega) (by omega) (by omega) (fun c hc2 => by have := m1 c hc2; omega) (fun c hc2 => by have := m2 c hc2; omega))
    have HC := Lib.hid hc
    have HV1 := Lib.hid v1
    have HV2 := Lib.hid v2
    clear hc v1 v2 i1 i2 m1 m2 HV h100 hkl
    go_wp2_with fail
    refine CM.out.mono ?_
    rintro e w3 ⟨L3, id, d, va, vb, ca, cb, cs, ds, k3, rfl, hmd⟩
    obtain ⟨hm3, hk3, hl3, ht3⟩ := mt_start HM2.out HL1.out hmd HC.out HV1.out HV2.out
    have HF3 : Hid (Fr0 w w3) := Kk.all0 HF2.out hk3 HKB.out
    have hgo : GrOk (sbs s) (ps.map PS.pc) (qs.map PS.pc) _ := groups_ok (t := sbs s) (by rw [sbs_len]; exact HV1.out) (by rw [sbs_len]; exact HV2.out)
    obtain ⟨hs, hhs⟩ : ∃ hs, dvdG PC.at_ PC.n (ps.map PS.pc) (qs.map PS.pc) = hs := ⟨_, rfl⟩
    rw [hhs] at hgo
    have hsm : (sbs s).length + insP (ps.map PS.pc) + insP (qs.map PS.pc) ≤ 500 := by
     have := costL_ins ps
     have := costL_ins qs
     have := HC.out
     rw [sbs_len]; omega
    have hcnt : hs.length ≤ 500 := by
     have h1 := hgo.count
     rw [List.length_map, List.length_map] at h1
     have := costL_len ps
     have := costL_len qs
     have := HC.out
     omega
    have hin : ∀ h ∈ hs, 0 ≤ h.at_ ∧ h.at_ ≤ h.end_ ∧ h.end_ ≤ 1000000 := fun h hh => by
     have := hgo.inside h hh
     exact ⟨this.1, this.2.1, by have := this.2.2.1; omega⟩
    have hsum : ∀ g ∈ hs, (sdl (sbs s) g).length + (sdr (sbs s) g).length ≤ 500 := fun g hg => by
     have := hgo.short g hg
     unfold sdl sdr; omega
    obtain ⟨NM, hNM, CG⟩ := mt_merge hm3 (by omega) ht3 hhs
    obtain ⟨ov, hov⟩ : ∃ ov, okCh (mgC (sbs s) hs).length ks = ov := ⟨_, rfl⟩
    obtain ⟨NR, hNR⟩ : ∃ NR, NM + 74000 = NR := ⟨_, rfl⟩
    have CO := Lib.hid (mr_Resolve (cc := kk) (by omega) hgo.ne hin (fun g hg => by have := hsum g hg; omega) (fun g hg => by have := hsum g hg; omega) ((HK.out.kk (Kk.of0 (mb := mb) (kb := kb) HF3.out) HKB.out)) (by omega) HKB.out HF3.out.size ov hov (by omega) (by omega) hNR CG)
    have HOV := Lib.hid hov
    have HSU := Lib.hid hsum
    have HGO := Lib.hid hgo
    have HSM := Lib.hid hsm
    have HCN := Lib.hid hcnt
    have HL3 := Lib.hid (show L3.length ≤ 11000 from hl3)
    have HNM : Hid (NR ≤ 283000) := by show _ ≤ _; omega
    clear CM hmd hm3 hk3 hl3 ht3 hgo hhs hsm hcnt hin CG HM2 HL1 HF2 hNM hov hsum hNR
    go_wp2_with fail
    refine CO.out.mono ?_
    rintro e w4 ⟨L4, lv, ev, rfl, hm4, hk4, hg4, hbad, hgood⟩
    have hl4 : L4.length ≤ 1000000 := by have := hg4.gr.len; have := HL3.out; have := HNM.out; omega
    have HF4 : Hid (Fr0 w w4) := Kk.all0 HF3.out hk4 HKB.out
    have HM4 := Lib.hid hm4
    have HBAD := Lib.hid hbad
    have HGOOD := Lib.hid hgood
    have HL4 := Lib.hid hl4
    have hck4 := HK.out.kk (Kk.of0 (mb := mb) (kb := kb) HF4.out) HKB.out
    have CR := Lib.hid (r43_Of (s := s) (ca := ka) (cb := kc) (cc := kk) (kA := kA) (ks := ks) (HA.out.kept0 HF4.out) (HB.out.kept0 HF4.out) (by have := costL_len ps; have := HC.out; omega) (by have := costL_len qs; have := HC.out; omega) (by have := HC.out; omega) (roIn_of HGO.out HSM.out) (by have := HCN.out; omega) hck4.rg (by omega) (by
     obtain ⟨mx, G⟩ := HGO.out.gi
     refine r43_Groups (HA.out.kept0 HF4.out) (HB.out.kept0 HF4.out) (by have := costL_len ps; have := costL_len qs; have := HC.out; omega) (fun c hc => ?_) G
     have h5 := HC.out
     rcases List.mem_append.1 hc with hc | hc
     · have := (validP_asc HV1.out).2 c.pc (List.mem_map_of_mem hc)
       exact ⟨this.1, this.2.1, by have h6 := this.2.2.1; show c.at_ + c.n ≤ _; have e : c.pc.at_ + c.pc.n = c.at_ + c.n := rfl; omega⟩
     · have := (validP_asc HV2.out).2 c.pc (List.mem_map_of_mem hc)
       exact ⟨this.1, this.2.1, by have h6 := this.2.2.1; show c.at_ + c.n ≤ _; have e : c.pc.at_ + c.pc.n = c.at_ + c.n := rfl; omega⟩))
    clear CO hm4 hk4 hg4 hbad hgood hl4 HL3 HNM HF3 hck4
    go_wp2_with fail
    refine CR.out.mono ?_
    rintro e w5 ⟨u1, u2, rfl, hf5, q1, q2⟩
    obtain ⟨xa, xc, rfl⟩ := owns_form q1
    obtain ⟨ya, yc, rfl⟩ := owns_form q2
    have hcl1 : ((mgC (sbs s) hs).map CfP.rc).length = (mgC (sbs s) hs).length := List.length_map ..
    rw [hcl1]
    have HQ1 := Lib.hid q1
    have HF5 := Lib.hid (HF4.out.trans hf5)
    have HM5 := Lib.hid (HM4.out.kept0 hf5)
    have HGD5 : Hid (ov = true → ev = .nilIface ∧ ∃ cs, w5.ownsRow w3.heap.size 75 3 lv cs.length (cs.flatMap Chg.vals) ∧ PChg L4 cs (refQ (sbs s) ks 0 hs)) := fun h => by
     obtain ⟨h1, cs, h2, h3⟩ := HGOOD.out h
     exact ⟨h1, cs, hf5.owns h2, h3⟩
    have HK5 := Lib.hid (HK.out.kk (Kk.of0 (mb := mb) (kb := kb) HF5.out) HKB.out)
    have HRL : Hid ((refQ (sbs s) ks 0 hs).length ≤ 500) := Nat.le_trans (refQ_len _ _ _ _) HCN.out
    have HRT : Hid (∀ c ∈ refQ (sbs s) ks 0 hs, c.text.length ≤ 500) := refQ_text (p := []) (q := []) ks 0 HSU.out
    clear CR q1 q2 hf5 HF4 HM4 HGOOD HK HA HB HC HV1 HV2 HGO HSM HCN HSU hcl1
    have hnl : (mgC (sbs s) hs).length = (mgC (sbs s) hs).length := rfl
    generalize refQ (sbs s) ks 0 hs = RQ at *
    generalize (mgC (sbs s) hs).length = nc at *
    clear hnl
    obtain ⟨z, hz⟩ : ∃ z, decide (ks.length = nc) = z := ⟨_, rfl⟩
    have HZ := Lib.hid hz
    have zq : ((ks.length : Int) != (nc : Int)) = !z := by
     rw [← hz]
     by_cases e : ks.length = nc
     · rw [e]; simp
     · rw [decide_eq_false e]; simpa using (show ¬ (ks.length : Int) = (nc : Int) by omega)
    have HOK : Hid (okCh nc ks = (z && ks.all pCh)) := by show _ = _; unfold okCh; rw [HZ.out]; rfl
    clear hz
    go_wp2_with fail
    go_loopg [19, 78] ks.length (fun gk s19 i wr => ∃ (k : Nat) (bk : Bool), k + gk = ks.length ∧ i = .int .i64 k ∧ s19 = .bool bk ∧ w5 = wr ∧ Hid (bk = !(z && (ks.take k).all pCh)))
    case atStart => exact ⟨0, !z, by omega, rfl, by first | rfl | (cases z <;> rfl), rfl, by show _ = _; cases z <;> rfl⟩
    case round =>
     obtain ⟨k, bk, hk, rfl, rfl, rfl, HBK⟩ := hrel
     by_cases hlt : k < ks.length
     · obtain ⟨b2, o2, rfl, l2, _, hc2⟩ := HK5.out.rg k hlt
       have c0 := hc2 0 _ rfl
       rw [Nat.add_zero, Nat.mul_one] at c0
       have HST : Hid ((!(z && (ks.take (k + 1)).all pCh)) = (bk || !pCh ks[k])) := by show _ = _; rw [bad_step z ks hlt, HBK.out]
       generalize ks[k] = c at *
       clear hc2 HBK
       cases bk with
       | true =>
        go_wp2_with fail
        go_roundg (gk - 1)
        case measure => omega
        case rel => exact ⟨k + 1, true, by omega, by go_num, rfl, rfl, by show _ = _; rw [HST.out]; rfl⟩
       | false =>
        by_cases h0 : c < 0
        · have q : pCh c = false := pCh_no (by omega)
          have d0 : decide (c < 0) = true := decide_eq_true h0
          rw [q] at HST
          go_wp2_with fail
          go_roundg (gk - 1)
          case measure => omega
          case rel => exact ⟨k + 1, true, by omega, by go_num, rfl, rfl, by show _ = _; rw [HST.out]; rfl⟩
        · have d0 : decide (c < 0) = false := decide_eq_false h0
          by_cases h3 : 3 < c
          · have q : pCh c = false := pCh_no (by omega)
            have d3 : decide (3 < c) = true := decide_eq_true h3
            rw [q] at HST
            go_wp2_with fail
            go_roundg (gk - 1)
            case measure => omega
            case rel => exact ⟨k + 1, true, by omega, by go_num, rfl, rfl, by show _ = _; rw [HST.out]; rfl⟩
          · have q : pCh c = true := pCh_yes (by omega) (by omega)
            have d3 : decide (3 < c) = false := decide_eq_false h3
            rw [q] at HST
            go_wp2_with fail
            go_roundg (gk - 1)
            case measure => omega
            case rel => exact ⟨k + 1, false, by omega, by go_num, rfl, rfl, by show _ = _; rw [HST.out]; rfl⟩
     · have hbk : bk = !ov := by
         rw [HBK.out, List.take_of_length_le (by omega), ← HOK.out, HOV.out]
       subst hbk
       clear HBK HOK HZ HOV zq
       cases ov with
       | false =>
        obtain ⟨rfl, rfl⟩ := HBAD.out rfl
        clear HBAD HGD5
        go_wp2_with (go_at_call 15; refine (base_Is 1 _ (by omega)).mono ?_; rintro e w' ⟨rfl, rfl⟩)
        go_ret
        exact ⟨rfl, HF5.out⟩
       | true =>
        obtain ⟨rfl, cs2, ho5, hp5⟩ := HGD5.out rfl
        obtain ⟨la, lc, rfl⟩ := owns_form ho5
        have hcl := hp5.len
        have r1 := owns_rd (B := w.heap.size) (vals := Chg.vals) (size := 3) (fun _ _ => rfl) ho5 (by decide) (by decide)
        have CF := Lib.hid (law37_From (cap := lc) HM5.out.st HM5.out.sok HM5.out.dok HL4.out r1 hp5 (by have := HRL.out; omega) (fun c hc => by have := HRT.out c hc; omega))
        clear HBAD HGD5 ho5 hp5 r1 hcl
        go_wp2_with fail
        refine CF.out.mono ?_
        rintro e w6 ⟨gv, rfl, hgv⟩
        obtain ⟨ga, gc, rfl⟩ := hgv.form
        have CS := Lib.hid (fun W (hW : Fr0 w6 W) => ref37_Same (cap := gc) (cap' := xc) ((owns_rd (B := w.heap.size) (vals := PS.vals) (size := 3) (fun _ _ => rfl) hgv.row (by decide) (by decide)).kept0 hW) ((owns_rd (B := w.heap.size) (vals := PS.vals) (size := 3) (fun _ _ => rfl) (hgv.fr.owns HQ1.out) (by decide) (by decide)).kept0 hW) (by rw [List.length_map]; have := HRL.out; omega))
        have HF6 := Lib.hid (HF5.out.trans hgv.fr)
        have hol1 : (RQ.map PC.ps).length = RQ.length := List.length_map ..
        rw [hol1] at CS ⊢
        clear CF hgv hol1
        go_wp2_with fail
        refine (CS.out _ (Fr0.refl _)).mono ?_
        rintro e w7 ⟨rfl, f7⟩
        go_wp2_with fail
        go_ret
        exact ⟨rfl, HF6.out.trans f7⟩
end Go.Proofs.YtbhidkmhlfggfaaGreatDoor

/- The walk of evergreenref43.Of. -/
import Derived.Test.YtbhidkmhlfggfaaGreatDoorQLg1
set_option linter.unusedSimpArgs false
set_option linter.unusedVariables false
namespace Go.Proofs.YtbhidkmhlfggfaaGreatDoor
open Go.RowKit
theorem str_app (a b : List Int) : strOfNums (a ++ b) = strOfNums a ++ strOfNums b := by
 apply ByteArray.ext
 unfold strOfNums
 rw [ByteArray.data_append]
 simp
theorem resQ_two (t : List Int) (g : Grp PC) : (resQ t g 2).map PC.ps = [⟨g.at_, g.end_ - g.at_, strOfNums (sdr t g)⟩] := rfl
theorem resQ_three (t : List Int) (g : Grp PC) : (resQ t g 3).map PC.ps = [⟨g.at_, g.end_ - g.at_, strOfNums (sdl t g ++ sdr t g)⟩] := rfl
theorem resQ_pos (t : List Int) (g : Grp PC) {k : Int} (h0 : 0 < k) (h2 : k ≠ 2) (h3 : k ≠ 3) : (resQ t g k).map PC.ps = [⟨g.at_, g.end_ - g.at_, strOfNums (sdl t g)⟩] := by
 unfold resQ
 rw [if_pos h0, if_neg h2, if_neg h3]
 rfl
structure RoIn (t : List Int) (ps qs : List PC) (hs : List (Grp PC)) : Prop where
 inside : ∀ g ∈ hs, 0 ≤ g.at_ ∧ g.at_ ≤ g.end_ ∧ g.end_ ≤ t.length ∧ within g.end_ g.at_ g.left ∧ within g.end_ g.at_ g.right
 fl : ∀ g ∈ hs, ps.filter (fun c => decide (g.at_ ≤ c.at_ ∧ c.at_ ≤ g.end_)) = g.left
 fr : ∀ g ∈ hs, qs.filter (fun c => decide (g.at_ ≤ c.at_ ∧ c.at_ ≤ g.end_)) = g.right
 ne : ∀ g ∈ hs, g.left ≠ [] ∨ g.right ≠ []
 len : ∀ g ∈ hs, (sdl t g).length ≤ 600 ∧ (sdr t g).length ≤ 600
 rng : ∀ g ∈ hs, (∀ x ∈ sdl t g, 0 ≤ x ∧ x < 256) ∧ (∀ x ∈ sdr t g, 0 ≤ x ∧ x < 256)
set_option maxRecDepth 100000 in
set_option maxHeartbeats 4000000 in
theorem r43_Of {B : Nat} {w : World} {s : ByteArray} {a b : Option Addr} {ca cb cc : Nat} {ps qs : List PS} {hs : List (Grp PC)} {kA : Option Addr} {ks : List Int} (hA : RG PS.vals 3 B w a ps) (hB : RG PS.vals 3 B w b qs) (hpl : ps.length ≤ 1000) (hql : qs.length ≤ 1000) (hsz : s.size ≤ 1000) (hI : RoIn (sbs s) (ps.map PS.pc) (qs.map PS.pc) hs) (hhl : hs.length ≤ 1000)
    (hK : RG (fun x => [Value.int .i64 x]) 1 B w kA ks) (hkl : ks.length ≤ 1000)
    (hG : Calls Tryz.prog 25 #[.slice a ps.length ca, .slice b qs.length cb] w fun e w' => ∃ v, e = .returned v ∧ RgRow w w' v (hs.map Grp.rg) ∧ Fr0 w w') :
    Calls Tryz.prog 11 #[.string s, .slice a ps.length ca, .slice b qs.length cb, .slice kA ks.length cc] w (RoPost w (sbs s) hs ks) := by
 have CG := Lib.hid hG
 have HI := Lib.hid hI
 have HK := Lib.hid hK
 have CS1 := Lib.hid (fun W (hW : Fr0 w W) (g : Grp PC) (hg : g ∈ hs) => by
  have h := hI.inside g hg
  have := side_of (ca := ca) (g := g.rg) (l := g.left) (hA.kept0 hW) hpl ⟨h.1, by rw [← sbs_len]; exact h.2.2.1⟩ hsz (hI.fl g hg) h.2.2.2.1 (by have := (hI.len g hg).1; show (sdl (sbs s) g).length ≤ _; omega)
  exact this)
 have CS2 := Lib.hid (fun W (hW : Fr0 w W) (g : Grp PC) (hg : g ∈ hs) => by
  have h := hI.inside g hg
  have := side_of (ca := cb) (g := g.rg) (l := g.right) (hB.kept0 hW) hql ⟨h.1, by rw [← sbs_len]; exact h.2.2.1⟩ hsz (hI.fr g hg) h.2.2.2.2 (by have := (hI.len g hg).2; show (sdr (sbs s) g).length ≤ _; omega)
  exact this)
 clear hG hI hK hA hB
 go_enter Tryz.func11, Tryz.ntmps11
 go_wp2_with fail
 refine CG.out.mono ?_
 rintro e w1 ⟨gv, rfl, hr1, f1⟩
 have hlm : (hs.map Grp.rg).length = hs.length := List.length_map ..
 have HR1 := Lib.hid hr1
 have HF1 := Lib.hid f1
 unfold RgRow at hr1
 obtain ⟨va, vc, hgv⟩ := owns_form hr1
 rw [hlm] at hgv
 subst hgv
 clear hr1 f1 CG
 go_wp2_with fail
 go_loopg [10, 11, 24] hs.length (fun gk ov cv i wr => ∃ (k : Nat) (os : List PS) (rs : List Rcf), k + gk = hs.length ∧ i = .int .i64 k ∧ Fr0 w1 wr ∧ wr.ownsRow w1.heap.size 62 3 ov os.length (os.flatMap PS.vals) ∧ wr.ownsRow w1.heap.size 84 4 cv rs.length (rs.flatMap Rcf.vals) ∧ Hid (os = (refQ (sbs s) ks 0 (hs.take k)).map PC.ps) ∧ Hid (rs = (mgC (sbs s) (hs.take k)).map CfP.rc) ∧ os.length ≤ k ∧ rs.length ≤ k)
 case atStart => exact ⟨0, [], [], by omega, rfl, Fr0.refl w1, World.ownsRow_nil _ _ _ _, World.ownsRow_nil _ _ _ _, rfl, rfl, Nat.le_refl _, Nat.le_refl _⟩
 case round =>
  obtain ⟨k, os, rs, hk, rfl, hfr, hoo, hoc, HOS, HRS, hol, hrl⟩ := hrel
  by_cases hlt : k < hs.length
  · have hltm : k < (hs.map Grp.rg).length := by rw [hlm]; exact hlt
    obtain ⟨bb, cc2, e1, lb, _, hcap, i0, i1, i2, i3⟩ := read_rg (HR1.out.kept0 hfr) k hltm
    rw [hlm] at e1
    simp only [Value.slice.injEq, true_and] at e1
    obtain ⟨rfl, rfl⟩ := e1
    rw [List.getElem_map] at i0 i1 i2 i3
    have hin := HI.out.inside hs[k] (List.getElem_mem hlt)
    have hne := HI.out.ne hs[k] (List.getElem_mem hlt)
    have hsn : hs.take (k + 1) = hs.take k ++ [hs[k]] := List.take_succ_eq_append_getElem hlt
    have hrl2 : rs.length = (mgC (sbs s) (hs.take k)).length := by rw [HRS.out, List.length_map]
    have HQ : Hid ((refQ (sbs s) ks 0 (hs.take (k + 1))).map PC.ps = os ++ (if isC (sbs s) hs[k] = true then resQ (sbs s) hs[k] (ks.getD rs.length 0) else [chP (sbs s) hs[k]]).map PC.ps) := by show _ = _; rw [hsn, refQ_snoc, List.map_append, HOS.out, hrl2, Nat.zero_add]
    have HC : Hid ((mgC (sbs s) (hs.take (k + 1))).map CfP.rc = rs ++ (if isC (sbs s) hs[k] = true then [cfP (sbs s) hs[k]] else []).map CfP.rc) := by show _ = _; rw [hsn, mgC_snoc, List.map_append, HRS.out]
    have C1 := Lib.hid (fun W (hW : Fr0 w1 W) => CS1.out W (HF1.out.trans hW) hs[k] (List.getElem_mem hlt))
    have C2 := Lib.hid (fun W (hW : Fr0 w1 W) => CS2.out W (HF1.out.trans hW) hs[k] (List.getElem_mem hlt))
    have HRN := Lib.hid (HI.out.rng hs[k] (List.getElem_mem hlt))
    have HLN := Lib.hid (HI.out.len hs[k] (List.getElem_mem hlt))
    have HFR := Lib.hid hfr
    have HOO := Lib.hid hoo
    have HOC := Lib.hid hoc
    obtain ⟨oA, oC, rfl⟩ := owns_form hoo
    obtain ⟨cA, cC, rfl⟩ := owns_form hoc
    clear hoo hoc hsn hfr CS1 CS2 HOS HRS hrl2
    generalize hs[k] = h at *
    replace i0 : wr.cell? ⟨bb, k * 4, none⟩ = some (.int .i64 h.at_) := i0
    replace i1 : wr.cell? ⟨bb, k * 4 + 1, none⟩ = some (.int .i64 h.end_) := i1
    obtain ⟨fl, hfl⟩ : ∃ fl, decide (h.left ≠ []) = fl := ⟨_, rfl⟩
    obtain ⟨fr, hfr⟩ : ∃ fr, decide (h.right ≠ []) = fr := ⟨_, rfl⟩
    replace i2 : wr.cell? ⟨bb, k * 4 + 2, none⟩ = some (.bool fl) := by rw [← hfl]; exact i2
    replace i3 : wr.cell? ⟨bb, k * 4 + 3, none⟩ = some (.bool fr) := by rw [← hfr]; exact i3
    have erg : h.rg = ⟨h.at_, h.end_, fl, fr⟩ := by rw [← hfl, ← hfr]; rfl
    rw [erg] at C1 C2
    dsimp only at C1 C2
    have eL : sdG (sbs s) h.end_ h.at_ h.left = sdl (sbs s) h := rfl
    have eR : sdG (sbs s) h.end_ h.at_ h.right = sdr (sbs s) h := rfl
    rw [eL] at C1
    rw [eR] at C2
    have HFL := Lib.hid hfl
    have HFr := Lib.hid hfr
    have HSL : Hid (∃ x, strOfNums (sdl (sbs s) h) = x) := ⟨_, rfl⟩
    obtain ⟨sa, hsa⟩ := HSL.out
    have HSR : Hid (∃ x, strOfNums (sdr (sbs s) h) = x) := ⟨_, rfl⟩
    obtain ⟨sb, hsb⟩ := HSR.out
    rw [hsa] at C1
    rw [hsb] at C2
    have HSA := Lib.hid hsa
    have HSB := Lib.hid hsb
    have hz1 := hin.2.1
    have hz0 := hin.1
    have hz2 : h.end_ ≤ 1000 := by have := hin.2.2.1; rw [sbs_len] at this; omega
    have hbs : w1.heap.size ≤ wr.heap.size := HFR.out.size
    clear erg eL eR hfl hfr hsa hsb HSL HSR hin
    go_upto_region 8 with fail
    have F2 : Fr0 wr (wr.alloc (.cells #[.int .i64 h.at_, .int .i64 h.end_, .bool fl, .bool fr] 81 (0, 0))) := (Fr0.refl wr).alloc _
    have b2 := alloc_at wr (.cells #[.int .i64 h.at_, .int .i64 h.end_, .bool fl, .bool fr] 81 (0, 0)) wr.heap.size rfl
    obtain ⟨Gb, hGb⟩ : ∃ Gb, wr.heap.size = Gb := ⟨_, rfl⟩
    rw [hGb] at b2 ⊢
    generalize wr.alloc (.cells #[.int .i64 h.at_, .int .i64 h.end_, .bool fl, .bool fr] 81 (0, 0)) = W2 at *
    obtain ⟨g0, g1, g2, g3, gf, lg⟩ := cells4s b2
    have HB2 := Lib.hid b2
    have HF2 := Lib.hid F2
    have HGB := Lib.hid hGb
    have HX0 := Lib.hid (HFR.out.trans F2)
    clear b2 F2 hGb i0 i1 i2 i3 lb
    go_cut [15, 16] (fun u15 u16 wx => u15 = .string sa ∧ u16 = .string sb ∧ Fr0 W2 wx)
    case first =>
     clear HQ HC HRN HOO HOC HFL HFr HSA HSB HR1 HK HI
     go_region_held3 (fun w' => w'.cell? ⟨Gb, 0, none⟩ = some (.int .i64 h.at_) ∧ w'.cell? ⟨Gb, 1, none⟩ = some (.int .i64 h.end_) ∧ w'.cell? ⟨Gb, 2, none⟩ = some (.bool fl) ∧ w'.cell? ⟨Gb, 3, none⟩ = some (.bool fr))
      (first | (go_keep; done) | exact HK6 | exact HK5)
      ((first
       | (go_at_call 26; (with_reducible refine Calls.mono (C1.out _ (by first | exact HX0.out | exact HX0.out.drew | exact HX0.out.drewN _)) ?_); rintro e w5 ⟨rfl, f5⟩; have HK5 : w5.cell? ⟨Gb, 0, none⟩ = some (.int .i64 h.at_) ∧ w5.cell? ⟨Gb, 1, none⟩ = some (.int .i64 h.end_) ∧ w5.cell? ⟨Gb, 2, none⟩ = some (.bool fl) ∧ w5.cell? ⟨Gb, 3, none⟩ = some (.bool fr) := (by obtain ⟨r0, r1, r2, r3, _, _⟩ := cells4s (f5.kept HB2.out); exact ⟨r0, r1, r2, r3⟩))
       | (go_at_call 26; (with_reducible refine Calls.mono (C1.out _ (by first | exact HX0.out.trans f5 | exact HX0.out.drew.trans f5)) ?_); rintro e w6 ⟨rfl, f6⟩; have HK6 : w6.cell? ⟨Gb, 0, none⟩ = some (.int .i64 h.at_) ∧ w6.cell? ⟨Gb, 1, none⟩ = some (.int .i64 h.end_) ∧ w6.cell? ⟨Gb, 2, none⟩ = some (.bool fl) ∧ w6.cell? ⟨Gb, 3, none⟩ = some (.bool fr) := (by obtain ⟨r0, r1, r2, r3, _, _⟩ := cells4s ((f5.trans f6).kept HB2.out); exact ⟨r0, r1, r2, r3⟩))
       | (go_at_call 26; (with_reducible refine Calls.mono (C2.out _ (by first | exact HX0.out | exact HX0.out.drew | exact HX0.out.drewN _)) ?_); rintro e w5 ⟨rfl, f5⟩; have HK5 : w5.cell? ⟨Gb, 0, none⟩ = some (.int .i64 h.at_) ∧ w5.cell? ⟨Gb, 1, none⟩ = some (.int .i64 h.end_) ∧ w5.cell? ⟨Gb, 2, none⟩ = some (.bool fl) ∧ w5.cell? ⟨Gb, 3, none⟩ = some (.bool fr) := (by obtain ⟨r0, r1, r2, r3, _, _⟩ := cells4s (f5.kept HB2.out); exact ⟨r0, r1, r2, r3⟩))
       | (go_at_call 26; (with_reducible refine Calls.mono (C2.out _ (by first | exact HX0.out.trans f5 | exact HX0.out.drew.trans f5)) ?_); rintro e w6 ⟨rfl, f6⟩; have HK6 : w6.cell? ⟨Gb, 0, none⟩ = some (.int .i64 h.at_) ∧ w6.cell? ⟨Gb, 1, none⟩ = some (.int .i64 h.end_) ∧ w6.cell? ⟨Gb, 2, none⟩ = some (.bool fl) ∧ w6.cell? ⟨Gb, 3, none⟩ = some (.bool fr) := (by obtain ⟨r0, r1, r2, r3, _, _⟩ := cells4s ((f5.trans f6).kept HB2.out); exact ⟨r0, r1, r2, r3⟩))))
     all_goals
      go_wp2_with fail
      go_meet
      exact ⟨rfl, rfl, (Fr0.refl W2).drew.trans (f5.trans f6)⟩
    case rest =>
    obtain ⟨rfl, rfl, hf3⟩ := hcut
    rename World => W3
    obtain ⟨g0, g1, g2, g3, gf, lg⟩ := cells4s (hf3.kept HB2.out)
    have HF3 := Lib.hid (HF2.out.trans hf3)
    have HB3 := Lib.hid (hf3.kept HB2.out)
    have z1 := IntWalk.i64_in (h.end_ - h.at_) (by omega)
    clear hf3 HB2 HF2 HX0 C1 C2
    go_upto_region 10 with fail
    have F4 : Fr0 wr (W3.alloc (.cells #[.int .i64 h.at_, .int .i64 (h.end_ - h.at_), .string sa] 62 (0, 0))) := HF3.out.alloc _
    have b4 := alloc_at W3 (.cells #[.int .i64 h.at_, .int .i64 (h.end_ - h.at_), .string sa] 62 (0, 0)) W3.heap.size rfl
    have b5 := ((Fr0.refl W3).alloc (.cells #[.int .i64 h.at_, .int .i64 (h.end_ - h.at_), .string sa] 62 (0, 0))).kept HB3.out
    obtain ⟨K, hK⟩ : ∃ K, W3.heap.size = K := ⟨_, rfl⟩
    rw [hK] at b4 ⊢
    have hKw : wr.heap.size ≤ K := by rw [← hK]; exact HF3.out.size
    generalize W3.alloc (.cells #[.int .i64 h.at_, .int .i64 (h.end_ - h.at_), .string sa] 62 (0, 0)) = W4 at *
    obtain ⟨g0, g1, g2, g3, gf, lg⟩ := cells4s b5
    obtain ⟨k0, k1, k2, kf, lk⟩ := cells3 b4
    have HF4 := Lib.hid F4
    have HB4 := Lib.hid b4
    have HOO4 := Lib.hid (F4.owns HOO.out)
    have HOC4 := Lib.hid (F4.owns HOC.out)
    have hbs4 : w1.heap.size ≤ W4.heap.size := Nat.le_trans hbs F4.size
    have hol2 : os.length ≤ 1000000 := by omega
    have hrl2 : rs.length ≤ 1000000 := by omega
    have FS : Fr0 wr (W4.setCell ⟨K, 2, none⟩ (.string sb)) := Fr0.setCell F4 _ _ hKw
    have bS := setCell_block b4 2 (.string sb)
    simp only [List.setIfInBounds_toArray, List.set_cons_zero, List.set_cons_succ] at bS
    have hgk : ¬ Gb = K := fun e => ne_of_types b5 b4 (by decide) e
    have HBG := Lib.hid ((Fr.setCell (S := fun j => j = K) (Fr.refl _ W4) ⟨K, 2, none⟩ (.string sb) (fun _ => rfl)).kept b5 hgk)
    have HFS := Lib.hid FS
    have HBS := Lib.hid bS
    clear b4 b5 F4 FS bS hK HB3 HF3 HGB hgk
    cases fl with
    | false =>
     have hl : h.left = [] := by have := HFL.out; simpa using this
     have hnc : isC (sbs s) h = false := by unfold isC; simp [hl]
     have hcp : (chP (sbs s) h).ps = ⟨h.at_, h.end_ - h.at_, sb⟩ := by unfold chP; rw [if_neg (by simp [hl])]; show (⟨_, _, strOfNums _⟩ : PS) = _; rw [HSB.out]
     have HQ2 : Hid ((refQ (sbs s) ks 0 (hs.take (k + 1))).map PC.ps = os ++ [⟨h.at_, h.end_ - h.at_, sb⟩]) := by
      show _ = _
      rw [HQ.out, if_neg (by rw [hnc]; simp)]
      show os ++ [(chP (sbs s) h).ps] = _
      rw [hcp]
     have HC2 : Hid ((mgC (sbs s) (hs.take (k + 1))).map CfP.rc = rs) := by
      show _ = _
      rw [HC.out, if_neg (by rw [hnc]; simp)]
      simp
     clear HQ HC hnc hcp
     have HOOS := Lib.hid (HFS.out.owns HOO.out)
     have hbsS : w1.heap.size ≤ (W4.setCell ⟨K, 2, none⟩ (.string sb)).heap.size := Nat.le_trans hbs HFS.out.size
     obtain ⟨p0, p1, p2, pf, lp⟩ := cells3 HBS.out
     go_upto_region 12 with fail
     generalize W4.setCell ⟨K, 2, none⟩ (.string sb) = W5 at *
     clear k0 k1 k2 kf lk g0 g1 g2 g3 gf lg
     obtain ⟨g0, g1, g2, g3, gf, lg⟩ := cells4s HBG.out
     go_wp2_with (at_builtin; refine wpList_pushG (vals := PS.vals) rt_ps rfl _ _ rfl w1.heap.size _ os rfl HOOS.out hbsS 62 ⟨h.at_, h.end_ - h.at_, sb⟩ #[.int .i64 h.at_, .int .i64 (h.end_ - h.at_), .string sb] rfl rfl (by simp [PS.vals, Value.oneCell']) 1 _ rfl rfl (by omega) hol2 ?_; intro v7 w7 hO7 hg7 hat7)
     have hF7 : Fr (fun j => (Value.slice oA os.length oC).ownBlock = some j) W5 w7 := Fr.grown ((Fr.refl _ _).alloc _) hg7 (fun j hj _ => hj)
     have HFX : Hid (Fr0 w1 w7) := Fr.trans (HFR.out.trans HFS.out) hF7 (fun j hj hlt => by have := (HOO.out.lt j hj).1; omega)
     have HOC7 : Hid (w7.ownsRow w1.heap.size 84 4 (.slice cA rs.length cC) rs.length (rs.flatMap Rcf.vals)) := hF7.owns (HFS.out.owns HOC.out) (fun j hj e => by
      obtain ⟨cur, hc⟩ := owns_block HOC.out hj
      obtain ⟨cur2, hc2⟩ := owns_block HOO.out e
      rw [hc] at hc2; cases hc2)
     have HO7 := Lib.hid hO7
     clear hO7 hg7 hat7 hF7
     go_roundg (gk - 1)
     case measure => omega
     case rel => exact ⟨k + 1, _, rs, by omega, by go_num, HFX.out, HO7.out, HOC7.out, HQ2.out.symm, HC2.out.symm, by simp; omega, by omega⟩
    | true =>
     have hl : h.left ≠ [] := of_decide_eq_true HFL.out
     cases fr with
     | false =>
      have hr : h.right = [] := by have := HFr.out; simpa using this
      have hnc : isC (sbs s) h = false := by unfold isC; simp [hr]
      have hcp : (chP (sbs s) h).ps = ⟨h.at_, h.end_ - h.at_, sa⟩ := by unfold chP; rw [if_pos hl]; show (⟨_, _, strOfNums _⟩ : PS) = _; rw [HSA.out]
      have HQ2 : Hid ((refQ (sbs s) ks 0 (hs.take (k + 1))).map PC.ps = os ++ [⟨h.at_, h.end_ - h.at_, sa⟩]) := by
       show _ = _
       rw [HQ.out, if_neg (by rw [hnc]; simp)]
       show os ++ [(chP (sbs s) h).ps] = _
       rw [hcp]
      have HC2 : Hid ((mgC (sbs s) (hs.take (k + 1))).map CfP.rc = rs) := by
       show _ = _
       rw [HC.out, if_neg (by rw [hnc]; simp)]
       simp
      clear HQ HC hnc hcp
      go_wp2_with (at_builtin; refine wpList_pushG (vals := PS.vals) rt_ps rfl _ _ rfl w1.heap.size _ os rfl HOO4.out hbs4 62 ⟨h.at_, h.end_ - h.at_, sa⟩ #[.int .i64 h.at_, .int .i64 (h.end_ - h.at_), .string sa] rfl rfl (by simp [PS.vals, Value.oneCell']) 1 _ rfl rfl (by omega) hol2 ?_; intro v7 w7 hO7 hg7 hat7)
      have hF7 : Fr (fun j => (Value.slice oA os.length oC).ownBlock = some j) W4 w7 := Fr.grown ((Fr.refl _ _).alloc _) hg7 (fun j hj _ => hj)
      have HFX : Hid (Fr0 w1 w7) := Fr.trans (HFR.out.trans HF4.out) hF7 (fun j hj hlt => by have := (HOO.out.lt j hj).1; omega)
      have HOC7 : Hid (w7.ownsRow w1.heap.size 84 4 (.slice cA rs.length cC) rs.length (rs.flatMap Rcf.vals)) := hF7.owns (HF4.out.owns HOC.out) (fun j hj e => by
       obtain ⟨cur, hc⟩ := owns_block HOC.out hj
       obtain ⟨cur2, hc2⟩ := owns_block HOO.out e
       rw [hc] at hc2; cases hc2)
      have HO7 := Lib.hid hO7
      clear hO7 hg7 hat7 hF7
      go_roundg (gk - 1)
      case measure => omega
      case rel => exact ⟨k + 1, _, rs, by omega, by go_num, HFX.out, HO7.out, HOC7.out, HQ2.out.symm, HC2.out.symm, by simp; omega, by omega⟩
     | true =>
      have hr : h.right ≠ [] := of_decide_eq_true HFr.out
      by_cases hab : sdl (sbs s) h = sdr (sbs s) h
      · have hnc : isC (sbs s) h = false := by unfold isC; simp [hab]
        have hcp : (chP (sbs s) h).ps = ⟨h.at_, h.end_ - h.at_, sa⟩ := by unfold chP; rw [if_pos hl]; show (⟨_, _, strOfNums _⟩ : PS) = _; rw [HSA.out]
        have hss : sa = sb := by rw [← HSA.out, ← HSB.out, hab]
        have q1 : (sa.toList == sb.toList) = true := by rw [hss]; simp
        clear hss hab
        have HQ2 : Hid ((refQ (sbs s) ks 0 (hs.take (k + 1))).map PC.ps = os ++ [⟨h.at_, h.end_ - h.at_, sa⟩]) := by
         show _ = _
         rw [HQ.out, if_neg (by rw [hnc]; simp)]
         show os ++ [(chP (sbs s) h).ps] = _
         rw [hcp]
        have HC2 : Hid ((mgC (sbs s) (hs.take (k + 1))).map CfP.rc = rs) := by
         show _ = _
         rw [HC.out, if_neg (by rw [hnc]; simp)]
         simp
        clear HQ HC hnc hcp
        go_wp2_with (at_builtin; refine wpList_pushG (vals := PS.vals) rt_ps rfl _ _ rfl w1.heap.size _ os rfl HOO4.out hbs4 62 ⟨h.at_, h.end_ - h.at_, sa⟩ #[.int .i64 h.at_, .int .i64 (h.end_ - h.at_), .string sa] rfl rfl (by simp [PS.vals, Value.oneCell']) 1 _ rfl rfl (by omega) hol2 ?_; intro v7 w7 hO7 hg7 hat7)
        have hF7 : Fr (fun j => (Value.slice oA os.length oC).ownBlock = some j) W4 w7 := Fr.grown ((Fr.refl _ _).alloc _) hg7 (fun j hj _ => hj)
        have HFX : Hid (Fr0 w1 w7) := Fr.trans (HFR.out.trans HF4.out) hF7 (fun j hj hlt => by have := (HOO.out.lt j hj).1; omega)
        have HOC7 : Hid (w7.ownsRow w1.heap.size 84 4 (.slice cA rs.length cC) rs.length (rs.flatMap Rcf.vals)) := hF7.owns (HF4.out.owns HOC.out) (fun j hj e => by
         obtain ⟨cur, hc⟩ := owns_block HOC.out hj
         obtain ⟨cur2, hc2⟩ := owns_block HOO.out e
         rw [hc] at hc2; cases hc2)
        have HO7 := Lib.hid hO7
        clear hO7 hg7 hat7 hF7
        go_roundg (gk - 1)
        case measure => omega
        case rel => exact ⟨k + 1, _, rs, by omega, by go_num, HFX.out, HO7.out, HOC7.out, HQ2.out.symm, HC2.out.symm, by simp; omega, by omega⟩
      · have hcC : isC (sbs s) h = true := by unfold isC; simp [hl, hr, hab]
        have q1 : (sa.toList == sb.toList) = false := beq_eq_false_iff_ne.2 (fun e => by
         have e2 : sa = sb := by rw [← str_sbs sa, ← str_sbs sb]; unfold sbs; rw [← ByteArray.toList_eq, ← ByteArray.toList_eq, e]
         rw [← HSA.out, ← HSB.out] at e2
         exact hab ((str_inj HRN.out.1 HRN.out.2).1 e2))
        have hsz2 : sa.size + sb.size ≤ 1200 := by
         have h1 := HLN.out
         have h2 : sa.size = (sdl (sbs s) h).length := by rw [← sbs_len, ← HSA.out, sbs_str HRN.out.1]
         have h3 : sb.size = (sdr (sbs s) h).length := by rw [← sbs_len, ← HSB.out, sbs_str HRN.out.2]
         omega
        by_cases hkr : rs.length < ks.length
        · obtain ⟨kv, hkv⟩ : ∃ kv, ks.getD rs.length 0 = kv := ⟨_, rfl⟩
          have hkg : ks[rs.length] = kv := by rw [← hkv, List.getD_eq_getElem?_getD, List.getElem?_eq_getElem hkr]; rfl
          obtain ⟨kbb, ko, rfl, lkb, _, hkc⟩ := (HK.out.kept0 (HF1.out.trans (HFR.out.trans HF4.out))) rs.length hkr
          have kc := hkc 0 _ rfl
          rw [Nat.mul_one, Nat.add_zero, hkg] at kc
          clear hkc hkg HK
          have HCC : Hid ((mgC (sbs s) (hs.take (k + 1))).map CfP.rc = rs ++ [⟨h.at_, h.end_ - h.at_, sa, sb⟩]) := by
           show _ = _
           rw [HC.out, if_pos hcC]
           show rs ++ [(cfP (sbs s) h).rc] = _
           unfold cfP CfP.rc
           rw [HSA.out, HSB.out]
          go_upto_region 18 with (at_builtin; refine wpList_pushG (vals := Rcf.vals) rt_rcf rfl _ _ rfl w1.heap.size _ rs rfl HOC4.out hbs4 84 ⟨h.at_, h.end_ - h.at_, sa, sb⟩ #[.int .i64 h.at_, .int .i64 (h.end_ - h.at_), .string sa, .string sb] rfl rfl (by simp [Rcf.vals, Value.oneCell']) 1 _ rfl rfl (by omega) hrl2 ?_; intro v6 w6 hO6 hg6 hat6)
          have hF6 : Fr (fun j => (Value.slice cA rs.length cC).ownBlock = some j) W4 w6 := Fr.grown ((Fr.refl _ W4).alloc _) hg6 (fun j hj _ => hj)
          have hkn : ∀ j, (Value.slice cA rs.length cC).ownBlock = some j → ¬ j = K := fun j hj e => by
           obtain ⟨cur, hc⟩ := owns_block HOC4.out hj
           exact ne_of_types hc HB4.out (by decide) e
          have b6 := hF6.kept HB4.out (fun e => hkn K e rfl)
          have HFX6 : Hid (Fr0 w1 w6) := Fr.trans (HFR.out.trans HF4.out) hF6 (fun j hj hlt => by have := (HOC.out.lt j hj).1; omega)
          have HOO6 : Hid (w6.ownsRow w1.heap.size 62 3 (.slice oA os.length oC) os.length (os.flatMap PS.vals)) := hF6.owns HOO4.out (fun j hj e => by
           obtain ⟨cur, hc⟩ := owns_block HOO4.out hj
           obtain ⟨cur2, hc2⟩ := owns_block HOC4.out e
           rw [hc] at hc2; cases hc2)
          have HO6 := Lib.hid hO6
          obtain ⟨k0, k1, k2, kf, lk⟩ := cells3 b6
          have HB6 := Lib.hid b6
          have hv6a : ∀ j, v6.ownBlock = some j → (Value.slice oA os.length oC).ownBlock ≠ some j := fun j hj e => by
           obtain ⟨cur, hc⟩ := owns_block hO6 hj
           obtain ⟨cur2, hc2⟩ := owns_block HOO6.out e
           rw [hc] at hc2; cases hc2
          have hv6b : ∀ j, v6.ownBlock = some j → ¬ j = K := fun j hj e => by
           obtain ⟨cur, hc⟩ := owns_block hO6 hj
           exact ne_of_types hc b6 (by decide) e
          have hv6 : ∀ j, v6.ownBlock = some j → (Value.slice oA os.length oC).ownBlock ≠ some j ∧ ¬ j = K := fun j hj => ⟨hv6a j hj, hv6b j hj⟩
          have HV6 := Lib.hid hv6
          have hbs6 : w1.heap.size ≤ w6.heap.size := HFX6.out.size
          have hos : ∀ j, (Value.slice oA os.length oC).ownBlock = some j → ¬ j = K := fun j hj e => by
           have := (HOO.out.lt j hj).2
           omega
          have HOSK := Lib.hid hos
          have hKw1 : w1.heap.size ≤ K := by omega
          clear hO6 hg6 hat6 hF6 hkn b6 hv6 hv6a hv6b hos HOO4 HOC4 HB4 HC HFS HBS HBG
          clear kc lkb
          by_cases e2 : kv = 2
          · subst e2
            have HQ2 : Hid ((refQ (sbs s) ks 0 (hs.take (k + 1))).map PC.ps = os ++ [⟨h.at_, h.end_ - h.at_, sb⟩]) := by
             show _ = _
             rw [HQ.out, if_pos hcC, hkv]
             rw [resQ_two, HSB.out]
            clear HQ hcC hkv
            have HFX5 : Hid (Fr0 w1 (w6.setCell ⟨K, 2, none⟩ (.string (sb)))) := Fr0.setCell HFX6.out _ _ hKw1
            have fK : Fr (fun j => j = K) w6 (w6.setCell ⟨K, 2, none⟩ (.string (sb))) := Fr.setCell (Fr.refl _ w6) _ _ (fun _ => rfl)
            have HOO5 := Lib.hid (fK.owns HOO6.out (fun j hj e => HOSK.out j hj e))
            have HO5 := Lib.hid (fK.owns HO6.out (fun j hj e => (HV6.out j hj).2 e))
            have b5 := setCell_block HB6.out 2 (.string (sb))
            simp only [List.setIfInBounds_toArray, List.set_cons_zero, List.set_cons_succ] at b5
            have HB5 := Lib.hid b5
            clear b5 fK
            go_upto_region 23 with fail
            generalize w6.setCell ⟨K, 2, none⟩ (.string (sb)) = W5 at *
            clear k0 k1 k2 kf lk
            obtain ⟨k0, k1, k2, kf, lk⟩ := cells3 HB5.out
            have hbs5 : w1.heap.size ≤ W5.heap.size := HFX5.out.size
            go_wp2_with (at_builtin; refine wpList_pushG (vals := PS.vals) rt_ps rfl _ _ rfl w1.heap.size _ os rfl HOO5.out hbs5 62 ⟨h.at_, h.end_ - h.at_, sb⟩ #[.int .i64 h.at_, .int .i64 (h.end_ - h.at_), .string (sb)] rfl rfl (by simp [PS.vals, Value.oneCell']) 1 _ rfl rfl (by omega) hol2 ?_; intro v7 w7 hO7 hg7 hat7)
            have hF7 : Fr (fun j => (Value.slice oA os.length oC).ownBlock = some j) W5 w7 := Fr.grown ((Fr.refl _ _).alloc _) hg7 (fun j hj _ => hj)
            have HFX : Hid (Fr0 w1 w7) := Fr.trans HFX5.out hF7 (fun j hj hlt => by have := (HOO.out.lt j hj).1; omega)
            have HOC7 := Lib.hid (hF7.owns HO5.out (fun j hj e => (HV6.out j hj).1 e))
            have HO7 := Lib.hid hO7
            clear hO7 hg7 hat7 hF7
            go_roundg (gk - 1)
            case measure => omega
            case rel => exact ⟨k + 1, _, _, by omega, by go_num, HFX.out, HO7.out, HOC7.out, HQ2.out.symm, HCC.out.symm, by simp; omega, by simp; omega⟩
          · have d2 : (kv == 2) = false := beq_eq_false_iff_ne.2 e2
            by_cases e3 : kv = 3
            · subst e3
              have HQ2 : Hid ((refQ (sbs s) ks 0 (hs.take (k + 1))).map PC.ps = os ++ [⟨h.at_, h.end_ - h.at_, sa ++ sb⟩]) := by
               show _ = _
               rw [HQ.out, if_pos hcC, hkv]
               rw [resQ_three, str_app, HSA.out, HSB.out]
              clear HQ hcC hkv
              have HFX5 : Hid (Fr0 w1 (w6.setCell ⟨K, 2, none⟩ (.string (sa ++ sb)))) := Fr0.setCell HFX6.out _ _ hKw1
              have fK : Fr (fun j => j = K) w6 (w6.setCell ⟨K, 2, none⟩ (.string (sa ++ sb))) := Fr.setCell (Fr.refl _ w6) _ _ (fun _ => rfl)
              have HOO5 := Lib.hid (fK.owns HOO6.out (fun j hj e => HOSK.out j hj e))
              have HO5 := Lib.hid (fK.owns HO6.out (fun j hj e => (HV6.out j hj).2 e))
              have b5 := setCell_block HB6.out 2 (.string (sa ++ sb))
              simp only [List.setIfInBounds_toArray, List.set_cons_zero, List.set_cons_succ] at b5
              have HB5 := Lib.hid b5
              clear b5 fK
              go_upto_region 23 with fail
              generalize w6.setCell ⟨K, 2, none⟩ (.string (sa ++ sb)) = W5 at *
              clear k0 k1 k2 kf lk
              obtain ⟨k0, k1, k2, kf, lk⟩ := cells3 HB5.out
              have hbs5 : w1.heap.size ≤ W5.heap.size := HFX5.out.size
              go_wp2_with (at_builtin; refine wpList_pushG (vals := PS.vals) rt_ps rfl _ _ rfl w1.heap.size _ os rfl HOO5.out hbs5 62 ⟨h.at_, h.end_ - h.at_, sa ++ sb⟩ #[.int .i64 h.at_, .int .i64 (h.end_ - h.at_), .string (sa ++ sb)] rfl rfl (by simp [PS.vals, Value.oneCell']) 1 _ rfl rfl (by omega) hol2 ?_; intro v7 w7 hO7 hg7 hat7)
              have hF7 : Fr (fun j => (Value.slice oA os.length oC).ownBlock = some j) W5 w7 := Fr.grown ((Fr.refl _ _).alloc _) hg7 (fun j hj _ => hj)
              have HFX : Hid (Fr0 w1 w7) := Fr.trans HFX5.out hF7 (fun j hj hlt => by have := (HOO.out.lt j hj).1; omega)
              have HOC7 := Lib.hid (hF7.owns HO5.out (fun j hj e => (HV6.out j hj).1 e))
              have HO7 := Lib.hid hO7
              clear hO7 hg7 hat7 hF7
              go_roundg (gk - 1)
              case measure => omega
              case rel => exact ⟨k + 1, _, _, by omega, by go_num, HFX.out, HO7.out, HOC7.out, HQ2.out.symm, HCC.out.symm, by simp; omega, by simp; omega⟩
            · have d3 : (kv == 3) = false := beq_eq_false_iff_ne.2 e3
              by_cases e0 : 0 < kv
              · have d0 : decide (0 < kv) = true := decide_eq_true e0
                have HQ2 : Hid ((refQ (sbs s) ks 0 (hs.take (k + 1))).map PC.ps = os ++ [⟨h.at_, h.end_ - h.at_, sa⟩]) := by
                 show _ = _
                 rw [HQ.out, if_pos hcC, hkv]
                 rw [resQ_pos _ _ e0 e2 e3, HSA.out]
                clear HQ hcC hkv
                go_wp2_with (at_builtin; refine wpList_pushG (vals := PS.vals) rt_ps rfl _ _ rfl w1.heap.size _ os rfl HOO6.out hbs6 62 ⟨h.at_, h.end_ - h.at_, sa⟩ #[.int .i64 h.at_, .int .i64 (h.end_ - h.at_), .string (sa)] rfl rfl (by simp [PS.vals, Value.oneCell']) 1 _ rfl rfl (by omega) hol2 ?_; intro v7 w7 hO7 hg7 hat7)
                have hF7 : Fr (fun j => (Value.slice oA os.length oC).ownBlock = some j) w6 w7 := Fr.grown ((Fr.refl _ _).alloc _) hg7 (fun j hj _ => hj)
                have HFX : Hid (Fr0 w1 w7) := Fr.trans HFX6.out hF7 (fun j hj hlt => by have := (HOO.out.lt j hj).1; omega)
                have HOC7 := Lib.hid (hF7.owns HO6.out (fun j hj e => (HV6.out j hj).1 e))
                have HO7 := Lib.hid hO7
                clear hO7 hg7 hat7 hF7
                go_roundg (gk - 1)
                case measure => omega
                case rel => exact ⟨k + 1, _, _, by omega, by go_num, HFX.out, HO7.out, HOC7.out, HQ2.out.symm, HCC.out.symm, by simp; omega, by simp; omega⟩
              · have d0 : decide (0 < kv) = false := decide_eq_false e0
                have HQ2 : Hid ((refQ (sbs s) ks 0 (hs.take (k + 1))).map PC.ps = os) := by
                 show _ = _
                 rw [HQ.out, if_pos hcC, hkv]
                 unfold resQ
                 rw [if_neg (by omega)]
                 simp
                clear HQ hcC hkv
                go_wp2_with fail
                go_roundg (gk - 1)
                case measure => omega
                case rel => exact ⟨k + 1, os, _, by omega, by go_num, HFX6.out, HOO6.out, HO6.out, HQ2.out.symm, HCC.out.symm, by omega, by simp; omega⟩
        · have hkv : ks.getD rs.length 0 = 0 := by rw [List.getD_eq_getElem?_getD, List.getElem?_eq_none (by omega)]; rfl
          have d1 : decide ((rs.length : Int) < (ks.length : Int)) = false := decide_eq_false (by omega)
          clear HK
          have HCC : Hid ((mgC (sbs s) (hs.take (k + 1))).map CfP.rc = rs ++ [⟨h.at_, h.end_ - h.at_, sa, sb⟩]) := by
           show _ = _
           rw [HC.out, if_pos hcC]
           show rs ++ [(cfP (sbs s) h).rc] = _
           unfold cfP CfP.rc
           rw [HSA.out, HSB.out]
          go_upto_region 18 with (at_builtin; refine wpList_pushG (vals := Rcf.vals) rt_rcf rfl _ _ rfl w1.heap.size _ rs rfl HOC4.out hbs4 84 ⟨h.at_, h.end_ - h.at_, sa, sb⟩ #[.int .i64 h.at_, .int .i64 (h.end_ - h.at_), .string sa, .string sb] rfl rfl (by simp [Rcf.vals, Value.oneCell']) 1 _ rfl rfl (by omega) hrl2 ?_; intro v6 w6 hO6 hg6 hat6)
          have hF6 : Fr (fun j => (Value.slice cA rs.length cC).ownBlock = some j) W4 w6 := Fr.grown ((Fr.refl _ W4).alloc _) hg6 (fun j hj _ => hj)
          have hkn : ∀ j, (Value.slice cA rs.length cC).ownBlock = some j → ¬ j = K := fun j hj e => by
           obtain ⟨cur, hc⟩ := owns_block HOC4.out hj
           exact ne_of_types hc HB4.out (by decide) e
          have b6 := hF6.kept HB4.out (fun e => hkn K e rfl)
          have HFX6 : Hid (Fr0 w1 w6) := Fr.trans (HFR.out.trans HF4.out) hF6 (fun j hj hlt => by have := (HOC.out.lt j hj).1; omega)
          have HOO6 : Hid (w6.ownsRow w1.heap.size 62 3 (.slice oA os.length oC) os.length (os.flatMap PS.vals)) := hF6.owns HOO4.out (fun j hj e => by
           obtain ⟨cur, hc⟩ := owns_block HOO4.out hj
           obtain ⟨cur2, hc2⟩ := owns_block HOC4.out e
           rw [hc] at hc2; cases hc2)
          have HO6 := Lib.hid hO6
          obtain ⟨k0, k1, k2, kf, lk⟩ := cells3 b6
          have HB6 := Lib.hid b6
          have hv6a : ∀ j, v6.ownBlock = some j → (Value.slice oA os.length oC).ownBlock ≠ some j := fun j hj e => by
           obtain ⟨cur, hc⟩ := owns_block hO6 hj
           obtain ⟨cur2, hc2⟩ := owns_block HOO6.out e
           rw [hc] at hc2; cases hc2
          have hv6b : ∀ j, v6.ownBlock = some j → ¬ j = K := fun j hj e => by
           obtain ⟨cur, hc⟩ := owns_block hO6 hj
           exact ne_of_types hc b6 (by decide) e
          have hv6 : ∀ j, v6.ownBlock = some j → (Value.slice oA os.length oC).ownBlock ≠ some j ∧ ¬ j = K := fun j hj => ⟨hv6a j hj, hv6b j hj⟩
          have HV6 := Lib.hid hv6
          have hbs6 : w1.heap.size ≤ w6.heap.size := HFX6.out.size
          have hos : ∀ j, (Value.slice oA os.length oC).ownBlock = some j → ¬ j = K := fun j hj e => by
           have := (HOO.out.lt j hj).2
           omega
          have HOSK := Lib.hid hos
          have hKw1 : w1.heap.size ≤ K := by omega
          clear hO6 hg6 hat6 hF6 hkn b6 hv6 hv6a hv6b hos HOO4 HOC4 HB4 HC HFS HBS HBG
          have HQ2 : Hid ((refQ (sbs s) ks 0 (hs.take (k + 1))).map PC.ps = os) := by
           show _ = _
           rw [HQ.out, if_pos hcC, hkv]
           unfold resQ
           rw [if_neg (by omega)]
           simp
          clear HQ hcC hkv
          go_wp2_with fail
          go_roundg (gk - 1)
          case measure => omega
          case rel => exact ⟨k + 1, os, _, by omega, by go_num, HFX6.out, HOO6.out, HO6.out, HQ2.out.symm, HCC.out.symm, by omega, by simp; omega⟩
  · have hke : hs.take k = hs := List.take_of_length_le (by omega)
    have e1 := HOS.out
    have e2 := HRS.out
    rw [hke] at e1 e2
    rw [e1] at hoo
    rw [e2] at hoc
    have HX : Hid (RoPost w (sbs s) hs ks (.returned (.tuple #[u10, u11])) wr) := ⟨_, _, rfl, HF1.out.trans hfr, owns_dn hoo HF1.out.size, owns_dn hoc HF1.out.size⟩
    clear hoo hoc hfr hke e1 e2 HOS HRS
    go_wp2_with fail
    go_ret2
    exact HX.out
end Go.Proofs.YtbhidkmhlfggfaaGreatDoor

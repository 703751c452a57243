/- The walks of (group).text, merge.Clean and merge.Of. -/
import Derived.Test.YtbhidkmhlfggfaaGreatDoorQMr4
set_option linter.unusedSimpArgs false
set_option linter.unusedVariables false
namespace Go.Proofs.YtbhidkmhlfggfaaGreatDoor
open Go.RowKit
set_option maxRecDepth 100000 in
set_option maxHeartbeats 400000 in
theorem gr_text {w : World} {gb : Nat} {la : Option Addr} {lc n : Nat} {x1 x2 x3 x6 : Value} {x y : Int} (h : w.heap[gb]? = some (.cells #[.slice la n lc, x1, x2, x3, .int .i64 x, .int .i64 y, x6] 72 (0, 0))) (z : Int) (hz : z = if 0 < n then x else y) :
    Calls Tryz.prog 23 #[.pointer (some ⟨gb, 0, none⟩)] w fun e w' => e = .returned (.int .i64 z) ∧ w = w' := by
 obtain ⟨m0, m1, m2, m3, m4, m5, m6, lm, mf⟩ := cells7 h
 have HZ := Lib.hid hz
 clear h hz
 by_cases hn : 0 < n
 · have hv := HZ.out
   rw [if_pos hn] at hv
   subst hv
   have q : decide ((0 : Int) < (n : Int)) = true := decide_eq_true (by omega)
   clear HZ
   go_enter Tryz.func23, Tryz.ntmps23
   go_wp2_with fail
   go_ret
   exact ⟨rfl, rfl⟩
 · have hv := HZ.out
   rw [if_neg hn] at hv
   subst hv
   have q : decide ((0 : Int) < (n : Int)) = false := decide_eq_false (by omega)
   clear HZ
   go_enter Tryz.func23, Tryz.ntmps23
   go_wp2_with fail
   go_ret
   exact ⟨rfl, rfl⟩
structure Cf where
 at_ : Int
 n : Int
 left : Int
 right : Int
def Cf.vals (c : Cf) : List Value := [.int .i64 c.at_, .int .i64 c.n, .int .i64 c.left, .int .i64 c.right]
theorem info_cf : (Tryz.prog.info? 64).map (fun i => (i.zero, i.size, i.bytes)) = some (some (.agg #[.int .i64 0, .int .i64 0, .int .i64 0, .int .i64 0]), 4, 32) := by kernel_rfl
theorem rt_cf : RT 32 64 4 32 := by
 obtain ⟨i, h1, h2, h3, h4⟩ := info_parts info_cf
 exact ⟨by omega, i, _, by kernel_rfl, h1, h2, h3, h4, rfl⟩
structure CfR (L : List Ent) (c : Cf) (p : CfP) : Prop where
 at_ : c.at_ = p.at_
 n : c.n = p.n
 left : ∃ d, BalZ L c.left p.left d
 right : ∃ d, BalZ L c.right p.right d
theorem GmF.text {w : World} {z : Gm} {t : List Int} {L : List Ent} {h : Grp PC} {x y : Int} (g : GmF w z t L h x y) (hne : h.left ≠ [] ∨ h.right ≠ []) : ∃ d, BalZ L (if 0 < h.left.length then x else y) (chP t h).text d := by
 unfold chP
 dsimp only
 by_cases hl : h.left = []
 · rw [if_neg (by rw [hl]; simp), if_neg (by simp [hl])]
   have hr : h.right ≠ [] := hne.resolve_left (by simp [hl])
   obtain ⟨d, b⟩ := g.by_
   exact ⟨d, by have e : sdE t h.end_ h.at_ h.right = sdr t h := if_neg hr; rw [e] at b; exact b⟩
 · rw [if_pos (List.length_pos_iff.2 hl), if_pos hl]
   obtain ⟨d, b⟩ := g.bx
   exact ⟨d, by have e : sdE t h.end_ h.at_ h.left = sdl t h := if_neg hl; rw [e] at b; exact b⟩
theorem GmF.conf {w : World} {z : Gm} {t : List Int} {L : List Ent} {h : Grp PC} {x y : Int} (g : GmF w z t L h x y) (hc : isC t h = true) : CfR L ⟨z.g.at_, z.g.end_ - z.g.at_, x, y⟩ (cfP t h) := by
 unfold isC at hc
 simp only [Bool.and_eq_true, decide_eq_true_eq] at hc
 refine ⟨g.at_, by show z.g.end_ - z.g.at_ = h.end_ - h.at_; rw [g.at_, g.end_], ?_, ?_⟩
 · obtain ⟨d, b⟩ := g.bx
   exact ⟨d, by have e : sdE t h.end_ h.at_ h.left = sdl t h := if_neg hc.1.1; rw [e] at b; exact b⟩
 · obtain ⟨d, b⟩ := g.by_
   exact ⟨d, by have e : sdE t h.end_ h.at_ h.right = sdr t h := if_neg hc.1.2; rw [e] at b; exact b⟩
theorem GsF.kept0 {w w' : World} {t : List Int} {L : List Ent} {zs : List Gm} {xs : Nat → Int × Int} {hs : List (Grp PC)} (h : GsF w t L zs xs hs) (hf : Fr0 w w') : GsF w' t L zs xs hs := fun i h1 h2 => by
 have g := h i h1 h2
 exact ⟨hf.kept g.box, g.lv, g.rv, g.bx, g.by_, g.at_, g.end_⟩
theorem read_grp {base : Nat} {w : World} {v : Value} {zs : List Gm} (h : w.ownsRow base 70 1 v zs.length (zs.flatMap gpz)) (k : Nat) (hk : k < zs.length) : ∃ b off cap, v = .slice (some ⟨b, off, none⟩) zs.length cap ∧ b < w.heap.size ∧ w.cell? ⟨b, off + k, none⟩ = some (.pointer (some ⟨zs[k].gb, 0, none⟩)) := by
 obtain ⟨a, cap, rfl⟩ := owns_form h
 obtain ⟨b, off, rfl, lb, _, hc⟩ := owns_rd (vals := gpz) (size := 1) (B := 0) (fun _ _ => rfl) h (by decide) (by decide) k hk
 exact ⟨b, off, cap, rfl, lb, by have := hc 0 _ rfl; rwa [Nat.mul_one, Nat.add_zero] at this⟩
def anyC (t : List Int) (hs : List (Grp PC)) : Bool := hs.any fun h => isC t h
set_option maxRecDepth 100000 in
set_option maxHeartbeats 2000000 in
theorem mr_Clean {B : Nat} {w : World} {mp kb pp tp p mb : Nat} {most : Int} {L : List Ent} {id : Int} {t : List Int} {a b : Option Addr} {ca cb n m : Nat} {hs : List (Grp PC)} {NM : Nat} (hhl : hs.length ≤ 100000)
    (hM : Calls Tryz.prog 22 #[.pointer (some ⟨mp, 0, none⟩), .int .i64 id, .slice a n ca, .slice b m cb] w (MgPost B w mp kb pp tp p mb most L t hs NM)) :
    Calls Tryz.prog 9 #[.pointer (some ⟨mp, 0, none⟩), .int .i64 id, .slice a n ca, .slice b m cb] w fun e w' => ∃ L', e = .returned (.tuple #[.bool (!anyC t hs), .nilIface]) ∧ Me B w' mp kb pp tp p mb most L' ∧ Kk B mb kb w w' ∧ Gu L L' NM := by
 have CM := Lib.hid hM
 clear hM
 go_enter Tryz.func9, Tryz.ntmps9
 go_wp2_with fail
 refine CM.out.mono ?_
 rintro e w1 ⟨L1, gv, zs, xs, rfl, hm1, hk1, hg1, hl1, hr1, hf1⟩
 obtain ⟨va, vc, rfl⟩ := owns_form hr1
 have HM1 := Lib.hid hm1
 have HK1 := Lib.hid hk1
 have HG1 := Lib.hid hg1
 have HR1 := Lib.hid hr1
 have HF1 := Lib.hid hf1
 have HL1 := Lib.hid hl1
 have hzl : zs.length ≤ 100000 := by omega
 clear hm1 hk1 hg1 hl1 hr1 hf1 CM
 go_wp2_with fail
 go_loopg [27] zs.length (fun gk i wr => ∃ k : Nat, k + gk = zs.length ∧ i = .int .i64 k ∧ w1 = wr ∧ Hid (anyC t (hs.take k) = false))
 case atStart => exact ⟨0, by omega, rfl, rfl, rfl⟩
 case round =>
  obtain ⟨k, hk, rfl, rfl, HA⟩ := hrel
  by_cases hlt : k < zs.length
  · obtain ⟨b5, o5, cap5, e5, l5, c5⟩ := read_grp HR1.out k hlt
    simp only [Value.slice.injEq, true_and] at e5
    obtain ⟨rfl, rfl⟩ := e5
    have hlt2 : k < hs.length := by have := HL1.out; omega
    have hg := HF1.out k hlt hlt2
    obtain ⟨m0, m1, m2, m3, m4, m5, m6, lm, mf⟩ := cells7 hg.box
    have HT : Hid (anyC t (hs.take (k + 1)) = (anyC t (hs.take k) || isC t hs[k])) := by
     show _ = _
     unfold anyC
     rw [List.take_succ_eq_append_getElem hlt2, List.any_append]
     simp
    have HW : Hid (isC t hs[k] = true → anyC t hs = true) := fun h => List.any_eq_true.2 ⟨_, List.getElem_mem hlt2, h⟩
    generalize zs[k].gb = gb at *
    obtain ⟨cf, hcf⟩ : ∃ cf, isC t hs[k] = cf := ⟨_, rfl⟩
    rw [hcf] at m6 HT HW
    clear hg hcf m0 m1 m2 m3 m4 m5
    cases cf with
    | true =>
     have HV : Hid ((!anyC t hs) = false) := by show _ = _; rw [HW.out rfl]; rfl
     clear HT HW HF1
     go_wp2_with fail
     go_ret2
     exact ⟨L1, by rw [HV.out]; rfl, HM1.out, HK1.out, HG1.out⟩
    | false =>
     have HA2 : Hid (anyC t (hs.take (k + 1)) = false) := by show _ = _; rw [HT.out, HA.out]; rfl
     clear HT HW HF1
     go_wp2_with fail
     go_roundg (gk - 1)
     case measure => omega
     case rel => exact ⟨k + 1, by omega, by go_num, rfl, HA2⟩
  · have HV : Hid ((!anyC t hs) = true) := by
      show _ = _
      have := HA.out
      rw [List.take_of_length_le (by have := HL1.out; omega)] at this
      rw [this]; rfl
    go_wp2_with fail
    go_ret2
    exact ⟨L1, by rw [HV.out]; rfl, HM1.out, HK1.out, HG1.out⟩
end Go.Proofs.YtbhidkmhlfggfaaGreatDoor
/- The walk of merge.Of. -/
set_option linter.unusedSimpArgs false
set_option linter.unusedVariables false
namespace Go.Proofs.YtbhidkmhlfggfaaGreatDoor
open Go.RowKit
def OmPost (B : Nat) (w : World) (mp kb pp tp p mb : Nat) (most : Int) (L : List Ent) (t : List Int) (hs : List (Grp PC)) (N : Nat) (e : Ending) (w' : World) : Prop :=
 ∃ L' v1 v2 cs fs, e = .returned (.tuple #[v1, v2, .nilIface]) ∧ Me B w' mp kb pp tp p mb most L' ∧ Kk B mb kb w w' ∧ Gu L L' N ∧ w'.ownsRow w.heap.size 75 3 v1 cs.length (cs.flatMap Chg.vals) ∧ w'.ownsRow w.heap.size 64 4 v2 fs.length (fs.flatMap Cf.vals) ∧ PChg L' cs (mgO t hs) ∧ All2 (CfR L') fs (mgC t hs)
theorem mgO_len (t : List Int) (hs : List (Grp PC)) : (mgO t hs).length ≤ hs.length := by
 unfold mgO; rw [List.length_map]; exact List.length_filter_le _ _
theorem mgC_len (t : List Int) (hs : List (Grp PC)) : (mgC t hs).length ≤ hs.length := by
 unfold mgC; rw [List.length_map]; exact List.length_filter_le _ _
set_option maxRecDepth 100000 in
set_option maxHeartbeats 4000000 in
theorem mr_Of {B : Nat} {w : World} {mp kb pp tp p mb : Nat} {most : Int} {L : List Ent} {id : Int} {t : List Int} {a b : Option Addr} {ca cb n m : Nat} {hs : List (Grp PC)} {NM : Nat} (hhl : hs.length ≤ 100000) (hne : ∀ h ∈ hs, h.left ≠ [] ∨ h.right ≠ []) (hin : ∀ h ∈ hs, 0 ≤ h.at_ ∧ h.at_ ≤ h.end_ ∧ h.end_ ≤ 1000000)
    (hM : Calls Tryz.prog 22 #[.pointer (some ⟨mp, 0, none⟩), .int .i64 id, .slice a n ca, .slice b m cb] w (MgPost B w mp kb pp tp p mb most L t hs NM)) :
    Calls Tryz.prog 8 #[.pointer (some ⟨mp, 0, none⟩), .int .i64 id, .slice a n ca, .slice b m cb] w (OmPost B w mp kb pp tp p mb most L t hs NM) := by
 have CM := Lib.hid hM
 have HNE := Lib.hid hne
 have HIN := Lib.hid hin
 clear hM hne hin
 go_enter Tryz.func8, Tryz.ntmps8
 go_wp2_with fail
 refine CM.out.mono ?_
 rintro e w1 ⟨L1, gv, zs, xs, rfl, hm1, hk1, hg1, hl1, hr1, hf1⟩
 obtain ⟨va, vc, rfl⟩ := owns_form hr1
 have HM1 := Lib.hid hm1
 have HK1 := Lib.hid hk1
 have HG1 := Lib.hid hg1
 have HR1 := Lib.hid hr1
 have HF1 := Lib.hid hf1
 have HL1 := Lib.hid hl1
 have hzl : zs.length ≤ 100000 := by omega
 clear hm1 hk1 hg1 hl1 hr1 hf1 CM
 go_wp2_with fail
 go_loopg [13, 14, 30] zs.length (fun gk cv fv i wr => ∃ (k : Nat) (cs : List Chg) (fs : List Cf), k + gk = zs.length ∧ i = .int .i64 k ∧ Fr0 w1 wr ∧ wr.ownsRow w1.heap.size 75 3 cv cs.length (cs.flatMap Chg.vals) ∧ wr.ownsRow w1.heap.size 64 4 fv fs.length (fs.flatMap Cf.vals) ∧ PChg L1 cs (mgO t (hs.take k)) ∧ All2 (CfR L1) fs (mgC t (hs.take k)))
 case atStart => exact ⟨0, [], [], by omega, rfl, Fr0.refl w1, World.ownsRow_nil _ _ _ _, World.ownsRow_nil _ _ _ _, trivial, trivial⟩
 case round =>
  obtain ⟨k, cs, fs, hk, rfl, hfr, hoc, hof, hpc, hpf⟩ := hrel
  have hcl : cs.length ≤ 100000 := by
   have := hpc.len
   have := mgO_len t (hs.take k)
   rw [List.length_take] at this
   omega
  have hfl : fs.length ≤ 100000 := by
   have := hpf.len
   have := mgC_len t (hs.take k)
   rw [List.length_take] at this
   omega
  by_cases hlt : k < zs.length
  · obtain ⟨b5, o5, cap5, e5, l5, c5⟩ := read_grp (hfr.owns HR1.out) k hlt
    simp only [Value.slice.injEq, true_and] at e5
    obtain ⟨rfl, rfl⟩ := e5
    have hlt2 : k < hs.length := by have := HL1.out; omega
    have hg := (HF1.out.kept0 hfr) k hlt hlt2
    obtain ⟨m0, m1, m2, m3, m4, m5, m6, lm, mf⟩ := cells7 hg.box
    obtain ⟨la, lc, hlv⟩ := hg.lv
    have hsn : hs.take (k + 1) = hs.take k ++ [hs[k]] := List.take_succ_eq_append_getElem hlt2
    have HTO : Hid (mgO t (hs.take (k + 1)) = mgO t (hs.take k) ++ (if isC t hs[k] = true then [] else [chP t hs[k]])) := by show _ = _; rw [hsn, mgO_snoc]
    have HTC : Hid (mgC t (hs.take (k + 1)) = mgC t (hs.take k) ++ (if isC t hs[k] = true then [cfP t hs[k]] else [])) := by show _ = _; rw [hsn, mgC_snoc]
    have hin := HIN.out hs[k] (List.getElem_mem hlt2)
    have hne := HNE.out hs[k] (List.getElem_mem hlt2)
    have HTX := Lib.hid (hg.text hne)
    have HCF := Lib.hid (fun hc => hg.conf hc)
    have eat := hg.at_
    have een := hg.end_
    have hbx := hg.box
    rw [hlv] at hbx
    rw [eat, een] at HCF hbx
    rw [eat] at m2
    rw [een] at m3
    have eqa : (chP t hs[k]).at_ = hs[k].at_ := rfl
    have eqn : (chP t hs[k]).n = hs[k].end_ - hs[k].at_ := rfl
    have HHX := Lib.hid hbx
    generalize zs[k].gb = gb at *
    generalize (xs k).1 = x at *
    generalize (xs k).2 = y at *
    have HFR := Lib.hid hfr
    have HPC := Lib.hid hpc
    have HPF := Lib.hid hpf
    have HOC := Lib.hid hoc
    have HOF := Lib.hid hof
    obtain ⟨cA, cC, rfl⟩ := owns_form hoc
    obtain ⟨fA, fC, rfl⟩ := owns_form hof
    have hbs : w1.heap.size ≤ wr.heap.size := hfr.size
    have hgc : some gb ≠ (Value.slice cA cs.length cC).ownBlock := fun e => by
     obtain ⟨cur, hc⟩ := owns_block hoc e.symm
     rw [hbx] at hc; cases hc
    have hgf : some gb ≠ (Value.slice fA fs.length fC).ownBlock := fun e => by
     obtain ⟨cur, hc⟩ := owns_block hof e.symm
     rw [hbx] at hc; cases hc
    have hcf2 : ∀ j, (Value.slice cA cs.length cC).ownBlock = some j → (Value.slice fA fs.length fC).ownBlock ≠ some j := fun j h1 h2 => by
     obtain ⟨cur, hc⟩ := owns_block hoc h1
     obtain ⟨cur2, hc2⟩ := owns_block hof h2
     rw [hc] at hc2; cases hc2
    have HCF2 := Lib.hid hcf2
    have HAP := Lib.hid hlv
    obtain ⟨cf, hcf⟩ : ∃ cf, isC t hs[k] = cf := ⟨_, rfl⟩
    rw [hcf] at m6 HTO HTC HCF
    have hlen : hs[k].left.length = hs[k].left.length := rfl
    have hd : hs[k].at_ ≤ hs[k].end_ := hin.2.1
    have z1 := IntWalk.i64_in (hs[k].end_ - hs[k].at_) (by omega)
    clear hg hfr hpc hpf hoc hof hsn hne eat een hcf2 hcf hlv hlen m0 m1 hbx
    cases cf with
    | true =>
     have HTO2 : Hid (mgO t (hs.take (k + 1)) = mgO t (hs.take k)) := by show _ = _; rw [HTO.out, if_pos rfl, List.append_nil]
     have HTC2 : Hid (mgC t (hs.take (k + 1)) = mgC t (hs.take k) ++ [cfP t hs[k]]) := by show _ = _; rw [HTC.out, if_pos rfl]
     have HCF3 := Lib.hid (HCF.out rfl)
     clear HTO HTC HCF
     go_upto_region 10 with fail
     go_region_held3 (fun w' => w'.cell? ⟨gb, 2, none⟩ = some (.int .i64 hs[k].at_) ∧ w'.cell? ⟨gb, 3, none⟩ = some (.int .i64 hs[k].end_) ∧ w'.cell? ⟨gb, 4, none⟩ = some (.int .i64 x) ∧ w'.cell? ⟨gb, 5, none⟩ = some (.int .i64 y))
      (first
       | (go_keep; done)
       | (go_split_ands
          refine ⟨?_, ?_, ?_, ?_⟩
          · (rw [hg4.cell_far _ (by simp; omega) hgf]; assumption)
          · (rw [hg4.cell_far _ (by simp; omega) hgf]; assumption)
          · (rw [hg4.cell_far _ (by simp; omega) hgf]; assumption)
          · (rw [hg4.cell_far _ (by simp; omega) hgf]; assumption)))
      ((refine step_pushN (vals := Cf.vals) rt_cf (by rfl) _ _ (by rfl) w1.heap.size _ fs [⟨hs[k].at_, hs[k].end_ - hs[k].at_, x, y⟩] (by rfl) HOF.out hbs 64 #[.int .i64 hs[k].at_, .int .i64 (hs[k].end_ - hs[k].at_), .int .i64 x, .int .i64 y] (by rfl) (by rfl) (by simp [Cf.vals, Value.oneCell']) 1 wr.heap.size 1 (by rfl) (by omega) (by rfl) (by rfl) (by omega) (by omega) (by simp) ?_; intro g2 gcap w4 hO4 hg4 hat4))
     all_goals
      have hF : Fr (fun j => (Value.slice fA fs.length fC).ownBlock = some j) wr w4 := Fr.grown ((Fr.refl _ wr).alloc _).drew hg4 (fun j hj _ => hj)
      have HFX : Hid (Fr0 w1 w4) := Fr.trans HFR.out hF (fun j hj hlt => by have := (HOF.out.lt j hj).1; omega)
      have HXO : Hid (w4.ownsRow w1.heap.size 75 3 (Value.slice cA cs.length cC) cs.length (cs.flatMap Chg.vals)) := hF.owns HOC.out (fun j hj e => HCF2.out j hj e)
      have HO4 := Lib.hid hO4
      clear hO4 hg4 hat4 hF m2 m3 m4 m5 lm mf
      go_wp2_with fail
      go_roundg (gk - 1)
      case measure => omega
      case rel => exact ⟨k + 1, cs, _, by omega, by go_num, HFX.out, HXO.out, HO4.out, by rw [HTO2.out]; exact HPC.out, by rw [HTC2.out]; exact HPF.out.snoc HCF3.out⟩
    | false =>
     have HTO2 : Hid (mgO t (hs.take (k + 1)) = mgO t (hs.take k) ++ [chP t hs[k]]) := by show _ = _; rw [HTO.out, if_neg (by simp)]
     have HTC2 : Hid (mgC t (hs.take (k + 1)) = mgC t (hs.take k)) := by show _ = _; rw [HTC.out, if_neg (by simp), List.append_nil]
     clear HTO HTC HCF
     have CT : Hid (∀ W, Fr0 wr W → Calls Tryz.prog 23 #[.pointer (some ⟨gb, 0, none⟩)] W fun e w' => e = .returned (.int .i64 (if 0 < hs[k].left.length then x else y)) ∧ W = w') := fun W hW => gr_text (hW.kept HHX.out) _ rfl
     have HPN : Hid (PChg L1 (cs ++ [⟨hs[k].at_, hs[k].end_ - hs[k].at_, if 0 < hs[k].left.length then x else y⟩]) (mgO t (hs.take k) ++ [chP t hs[k]])) := by
      obtain ⟨dd, bb⟩ := HTX.out
      exact HPC.out.snoc eqa.symm eqn.symm bb
     generalize (if 0 < hs[k].left.length then x else y) = zt at *
     go_upto_region 11 with fail
     go_region_held3 (fun w' => w'.cell? ⟨gb, 2, none⟩ = some (.int .i64 hs[k].at_) ∧ w'.cell? ⟨gb, 3, none⟩ = some (.int .i64 hs[k].end_))
      (first
       | (go_keep; done)
       | (go_split_ands
          refine ⟨?_, ?_⟩
          · (rw [hg4.cell_far _ (by simp; omega) hgc]; assumption)
          · (rw [hg4.cell_far _ (by simp; omega) hgc]; assumption)))
      (first | (refine step_pushN (vals := Chg.vals) rt_chg (by rfl) _ _ (by rfl) w1.heap.size _ cs [⟨hs[k].at_, hs[k].end_ - hs[k].at_, zt⟩] (by rfl) HOC.out hbs 75 #[.int .i64 hs[k].at_, .int .i64 (hs[k].end_ - hs[k].at_), .int .i64 zt] (by rfl) (by rfl) (by simp [Chg.vals, Value.oneCell']) 1 wr.heap.size 1 (by rfl) (by omega) (by rfl) (by rfl) (by omega) (by omega) (by simp) ?_; intro g2 gcap w4 hO4 hg4 hat4) | (go_at_call 23; (with_reducible refine Calls.mono (CT.out _ (by first | exact Fr0.refl _ | exact (Fr0.refl _).drew)) ?_); rintro e w5 ⟨rfl, rfl⟩))
     all_goals
      have hF : Fr (fun j => (Value.slice cA cs.length cC).ownBlock = some j) wr w4 := Fr.grown ((Fr.refl _ wr).alloc _).drew hg4 (fun j hj _ => hj)
      have HFX : Hid (Fr0 w1 w4) := Fr.trans HFR.out hF (fun j hj hlt => by have := (HOC.out.lt j hj).1; omega)
      have HXO : Hid (w4.ownsRow w1.heap.size 64 4 (Value.slice fA fs.length fC) fs.length (fs.flatMap Cf.vals)) := hF.owns HOF.out (fun j hj e => HCF2.out j e hj)
      have HO4 := Lib.hid hO4
      clear hO4 hg4 hat4 hF m2 m3 m4 m5 lm mf
      go_wp2_with fail
      go_roundg (gk - 1)
      case measure => omega
      case rel => exact ⟨k + 1, _, fs, by omega, by go_num, HFX.out, HO4.out, HXO.out, by rw [HTO2.out]; exact HPN.out, by rw [HTC2.out]; exact HPF.out⟩
  · have hkz : k = zs.length := by omega
    have HX : Hid (OmPost B w mp kb pp tp p mb most L t hs NM (.returned (.tuple #[u13, u14, .nilIface])) wr) := by
     rw [List.take_of_length_le (by have := HL1.out; omega)] at hpc hpf
     exact ⟨L1, u13, u14, cs, fs, rfl, HM1.out.kept0 hfr, HK1.out.trans (Kk.of0 hfr), HG1.out, owns_dn hoc HK1.out.size, owns_dn hof HK1.out.size, hpc, hpf⟩
    clear hpc hpf hoc hof hfr
    go_wp2_with fail
    go_ret3
    exact HX.out
end Go.Proofs.YtbhidkmhlfggfaaGreatDoor
/- The walk of merge.chosen. -/
set_option linter.unusedSimpArgs false
set_option linter.unusedVariables false
namespace Go.Proofs.YtbhidkmhlfggfaaGreatDoor
open Go.RowKit
def okCh (n : Nat) (ks : List Int) : Bool := decide (ks.length = n) && ks.all fun k => decide (0 ≤ k) && decide (k ≤ 3)
def GsK (w : World) (L : List Ent) (z : Gm) : Prop :=
 ∃ (x y : Int) (f : Value) (lx ly : Nat), w.heap[z.gb]? = some (.cells #[z.lv, z.rv, .int .i64 z.g.at_, .int .i64 z.g.end_, .int .i64 x, .int .i64 y, f] 72 (0, 0)) ∧ isKnown L x ∧ isKnown L y ∧ (entAt L x).wt.len = lx ∧ lx ≤ 600 ∧ (entAt L y).wt.len = ly ∧ ly ≤ 600
theorem GsF.gsk {w : World} {t : List Int} {L : List Ent} {zs : List Gm} {xs : Nat → Int × Int} {hs : List (Grp PC)} (h : GsF w t L zs xs hs) (hl : zs.length = hs.length) (hD : DOk L) (hO : SOk L) (ht : ∀ g ∈ hs, (sdE t g.end_ g.at_ g.left).length ≤ 600 ∧ (sdE t g.end_ g.at_ g.right).length ≤ 600) : ∀ z ∈ zs, GsK w L z := by
 intro z hz
 obtain ⟨i, hi, rfl⟩ := List.getElem_of_mem hz
 have hi2 : i < hs.length := by omega
 have g := h i hi hi2
 obtain ⟨dx, bx⟩ := g.bx
 obtain ⟨dy, by_⟩ := g.by_
 have h1 := ht hs[i] (List.getElem_mem hi2)
 exact ⟨_, _, _, _, _, g.box, bx.known, by_.known, (bx.len hD hO).symm, h1.1, (by_.len hD hO).symm, h1.2⟩
theorem GsK.kept0 {w w' : World} {L : List Ent} {z : Gm} (h : GsK w L z) (hf : Fr0 w w') : GsK w' L z := by
 obtain ⟨x, y, f, lx, ly, h1, h2⟩ := h
 exact ⟨x, y, f, lx, ly, hf.kept h1, h2⟩
theorem okCh_no {n : Nat} {ks : List Int} {k : Nat} (hk : k < ks.length) (h : ¬ (0 ≤ ks[k] ∧ ks[k] ≤ 3)) : okCh n ks = false := by
 unfold okCh
 rw [Bool.and_eq_false_iff]
 right
 rw [List.all_eq_false]
 exact ⟨ks[k], List.getElem_mem hk, by simpa using h⟩
theorem okCh_yes {n : Nat} {ks : List Int} (hl : ks.length = n) (h : ∀ (i : Nat) (hi : i < ks.length), 0 ≤ ks[i] ∧ ks[i] ≤ 3) : okCh n ks = true := by
 unfold okCh
 rw [Bool.and_eq_true, decide_eq_true_iff]
 refine ⟨hl, List.all_eq_true.2 fun k hk => ?_⟩
 obtain ⟨i, hi, rfl⟩ := List.getElem_of_mem hk
 have := h i hi
 simp [this.1, this.2]
def chE (b : Bool) : Value := if b = true then .nilIface else .iface 50 (.int .i64 1)
set_option maxRecDepth 100000 in
set_option maxHeartbeats 4000000 in
theorem mr_chosen {B base : Nat} {w : World} {p mb : Nat} {most : Int} {L : List Ent} {t : List Int} {hs : List (Grp PC)} {zs : List Gm} {xs : Nat → Int × Int} {gv : Value} {a : Option Addr} {ca : Nat} {ks : List Int} (hS : Sto B w p mb most L) (hO : SOk L) (hD : DOk L) (hr : w.ownsRow base 70 1 gv zs.length (zs.flatMap gpz)) (hf : GsF w t L zs xs hs) (hl : zs.length = hs.length) (hzl : zs.length ≤ 100000) (ht : ∀ g ∈ hs, (sdE t g.end_ g.at_ g.left).length ≤ 600 ∧ (sdE t g.end_ g.at_ g.right).length ≤ 600) (hK : RG (fun x => [Value.int .i64 x]) 1 B w a ks) (hkl : ks.length ≤ 1000) :
    Calls Tryz.prog 29 #[.pointer (some ⟨p, 0, none⟩), gv, .slice a ks.length ca] w fun e w' => e = .returned (chE (okCh (mgC t hs).length ks)) ∧ Fr0 w w' := by
 obtain ⟨va, vc, rfl⟩ := owns_form hr
 obtain ⟨ov, hov⟩ : ∃ ov, okCh (mgC t hs).length ks = ov := ⟨_, rfl⟩
 rw [hov]
 have HOV := Lib.hid hov
 clear hov
 have HR := Lib.hid hr
 have HF := Lib.hid hf
 have HL := Lib.hid hl
 have HK := Lib.hid hK
 have HGK := Lib.hid (hf.gsk hl hD hO ht)
 have CW := Lib.hid (fun W (hW : Fr0 w W) (x : Int) (hx : isKnown L x) => sto_Weight (hS.kept0 hW) x hx)
 clear hr hf hl hK ht hS hO hD
 go_enter Tryz.func29, Tryz.ntmps29
 go_wp2_with fail
 go_loopg [7, 21] zs.length (fun gk v i wr => ∃ (k : Nat) (js : List Gm), k + gk = zs.length ∧ i = .int .i64 k ∧ Fr0 w wr ∧ wr.ownsRow w.heap.size 70 1 v js.length (js.flatMap gpz) ∧ js.length = (mgC t (hs.take k)).length ∧ ∀ z ∈ js, z ∈ zs)
 case atStart => exact ⟨0, [], by omega, rfl, Fr0.refl w, World.ownsRow_nil _ _ _ _, rfl, fun z hz => by cases hz⟩
 case round =>
  obtain ⟨k, js, hk, rfl, hfr, hrow, hjl, hjm⟩ := hrel
  by_cases hlt : k < zs.length
  · obtain ⟨b5, o5, cap5, e5, l5, c5⟩ := read_grp (hfr.owns HR.out) k hlt
    simp only [Value.slice.injEq, true_and] at e5
    obtain ⟨rfl, rfl⟩ := e5
    have hlt2 : k < hs.length := by have := HL.out; omega
    have hg := (HF.out.kept0 hfr) k hlt hlt2
    obtain ⟨m0, m1, m2, m3, m4, m5, m6, lm, mf⟩ := cells7 hg.box
    have hsn : hs.take (k + 1) = hs.take k ++ [hs[k]] := List.take_succ_eq_append_getElem hlt2
    have HTC : Hid ((mgC t (hs.take (k + 1))).length = (mgC t (hs.take k)).length + (if isC t hs[k] = true then 1 else 0)) := by
     show _ = _
     rw [hsn, mgC_snoc, List.length_append]
     split <;> simp
    have HZM : Hid (zs[k] ∈ zs) := List.getElem_mem hlt
    have hjk : js.length ≤ 100000 := by
     have h1 := mgC_len t (hs.take k)
     rw [List.length_take] at h1
     omega
    have HJL := Lib.hid hjl
    have HJM := Lib.hid hjm
    have HRW := Lib.hid hrow
    have HFR := Lib.hid hfr
    have hbs : w.heap.size ≤ wr.heap.size := hfr.size
    obtain ⟨ja, jc, rfl⟩ := owns_form hrow
    obtain ⟨cf, hcf⟩ : ∃ cf, isC t hs[k] = cf := ⟨_, rfl⟩
    rw [hcf] at m6 HTC
    generalize zs[k] = z at *
    clear hg hsn hcf m0 m1 m2 m3 m4 m5 hjl hjm hrow hfr
    cases cf with
    | true =>
     go_wp2_with (at_builtin; refine wpList_pushG (vals := gpz) rt_pgrp rfl _ _ rfl w.heap.size _ js rfl HRW.out hbs 70 z #[.pointer (some ⟨z.gb, 0, none⟩)] rfl rfl (by simp [gpz, Value.oneCell']) 1 _ rfl rfl (by omega) (by omega) ?_; intro v6 w6 hO6 hg6 hat6)
     have HFX : Hid (Fr0 w w6) := Fr.trans HFR.out (Fr.grown (S := fun j => (Value.slice ja js.length jc).ownBlock = some j) ((Fr.refl _ wr).alloc _) hg6 (fun j hj _ => hj)) (fun j hj hlt => by have := (HRW.out.lt j hj).1; omega)
     have HO6 := Lib.hid hO6
     clear hO6 hg6 hat6 lm mf m6
     go_wp2_with fail
     go_roundg (gk - 1)
     case measure => omega
     case rel => exact ⟨k + 1, js ++ [z], by omega, by go_num, HFX.out, HO6.out, by rw [List.length_append, HJL.out, HTC.out]; rfl, fun y hy => by
      rcases List.mem_append.1 hy with hy | hy
      · exact HJM.out y hy
      · rw [List.mem_singleton.1 hy]; exact HZM.out⟩
    | false =>
     go_wp2_with fail
     go_roundg (gk - 1)
     case measure => omega
     case rel => exact ⟨k + 1, js, by omega, by go_num, HFR.out, HRW.out, by rw [HJL.out, HTC.out]; rfl, HJM.out⟩
  · have hjn : js.length = (mgC t hs).length := by
      rw [List.take_of_length_le (by have := HL.out; omega)] at hjl
      exact hjl
    rename World => w1
    have HFR := Lib.hid hfr
    have HGK1 : Hid (∀ z ∈ js, GsK w1 L z) := fun z hz => (HGK.out z (hjm z hz)).kept0 hfr
    have HK1 := Lib.hid (HK.out.kept0 hfr)
    have HR1 := Lib.hid hrow
    obtain ⟨ja, jc, rfl⟩ := owns_form hrow
    have HOJ : Hid (okCh js.length ks = ov) := by show _ = _; rw [hjn]; exact HOV.out
    have hjk : js.length ≤ 100000 := by
     have h1 := mgC_len t hs
     have := HL.out
     omega
    clear hjl hjm hrow hfr HGK HK HF HR hjn
    by_cases hne : ks.length = js.length
    · have z1 : ((ks.length : Int) != (js.length : Int)) = false := by rw [hne]; simp
      have HNE := Lib.hid hne
      clear hne
      go_wp2_with fail
      go_loopg [42] ks.length (fun gk i wr => ∃ k : Nat, k + gk = ks.length ∧ i = .int .i64 k ∧ w1 = wr ∧ Hid (∀ (j : Nat) (hj : j < ks.length), j < k → 0 ≤ ks[j] ∧ ks[j] ≤ 3))
      case atStart => exact ⟨0, by omega, rfl, rfl, fun j hj h => absurd h (by omega)⟩
      case round =>
       obtain ⟨k, hk, rfl, rfl, HOK⟩ := hrel
       by_cases hlt : k < ks.length
       · obtain ⟨b2, o2, rfl, l2, _, hc2⟩ := HK1.out k hlt
         have c0 := hc2 0 _ rfl
         rw [Nat.add_zero, Nat.mul_one] at c0
         have HB1 := Lib.hid (okCh_no (n := js.length) hlt)
         have HB2 : Hid (0 ≤ ks[k] ∧ ks[k] ≤ 3 → ∀ (j : Nat) (hj : j < ks.length), j < k + 1 → 0 ≤ ks[j] ∧ ks[j] ≤ 3) := fun h j hj hjk => by
          by_cases e : j = k
          · subst e; exact h
          · exact HOK.out j hj (by omega)
         generalize ks[k] = c at *
         clear hc2
         by_cases h0 : c < 0
         · have q : ov = false := HOJ.out.symm.trans (HB1.out (by omega))
           subst q
           have d0 : decide (c < 0) = true := decide_eq_true h0
           go_wp2_with fail
           go_ret
           exact ⟨rfl, HFR.out⟩
         · have d0 : decide (c < 0) = false := decide_eq_false h0
           by_cases h3 : 3 < c
           · have q : ov = false := HOJ.out.symm.trans (HB1.out (by omega))
             subst q
             have d3 : decide (3 < c) = true := decide_eq_true h3
             go_wp2_with fail
             go_ret
             exact ⟨rfl, HFR.out⟩
           · have d3 : decide (3 < c) = false := decide_eq_false h3
             have HB3 := Lib.hid (HB2.out ⟨by omega, by omega⟩)
             go_wp2_with fail
             go_roundg (gk - 1)
             case measure => omega
             case rel => exact ⟨k + 1, by omega, by go_num, rfl, HB3.out⟩
       · have q : ov = true := HOJ.out.symm.trans (okCh_yes HNE.out (fun i hi => HOK.out i hi (by omega)))
         subst q
         clear HOK
         go_wp2_with fail
         go_loopg [56] js.length (fun gk i wr => ∃ k : Nat, k + gk = js.length ∧ i = .int .i64 k ∧ Fr0 w1 wr)
         case atStart => exact ⟨0, by omega, rfl, Fr0.refl _⟩
         case round =>
          obtain ⟨k2, hk2, rfl, hfr⟩ := hrel
          by_cases hlt2 : k2 < js.length
          · obtain ⟨b5, o5, cap5, e5, l5, c5⟩ := read_grp (hfr.owns HR1.out) k2 hlt2
            simp only [Value.slice.injEq, true_and] at e5
            obtain ⟨rfl, rfl⟩ := e5
            have hlt3 : k2 < ks.length := by have := HNE.out; omega
            obtain ⟨b2, o2, rfl, l2, _, hc2⟩ := (HK1.out.kept0 hfr) k2 hlt3
            have c0 := hc2 0 _ rfl
            rw [Nat.add_zero, Nat.mul_one] at c0
            have hgk := (HGK1.out js[k2] (List.getElem_mem hlt2)).kept0 hfr
            obtain ⟨x, y, f, lx, ly, hb, kx, ky, ex, bx, ey, by_⟩ := hgk
            generalize js[k2] = z at *
            generalize ks[k2] = c at *
            have HFW := Lib.hid (HFR.out.trans hfr)
            have HF1 := Lib.hid hfr
            clear hc2 hfr
            by_cases h3 : c = 3
            · subst h3
              have CX := Lib.hid (fun W (hW : Fr0 wr W) => CW.out W (HFW.out.trans hW) x kx)
              have CY := Lib.hid (fun W (hW : Fr0 wr W) => CW.out W (HFW.out.trans hW) y ky)
              rw [ex] at CX
              rw [ey] at CY
              obtain ⟨m0, m1, m2, m3, m4, m5, m6, lm, mf⟩ := cells7 hb
              have HB := Lib.hid hb
              have CA := Lib.hid (fun W => len_Add_ok (lx : Int) (ly : Int) W (by omega) (by omega) (by omega))
              generalize (entAt L x).wt = wx at *
              generalize (entAt L y).wt = wy at *
              clear ex ey kx ky hb
              go_wp2_with fail
              refine (CX.out _ (Fr0.refl _)).mono ?_
              rintro e w3 ⟨rfl, f3⟩
              go_upto_region 21 with fail
              have F3 : Fr0 wr (w3.alloc (.cells #[.int .i64 lx, .int .i64 wx.lines, .int .i64 wx.head, .int .i64 wx.tail, .int .u64 wx.val, .int .u64 wx.scale] 106 (0, 0))) := f3.alloc _
              have b3 := alloc_at w3 (.cells #[.int .i64 lx, .int .i64 wx.lines, .int .i64 wx.head, .int .i64 wx.tail, .int .u64 wx.val, .int .u64 wx.scale] 106 (0, 0)) w3.heap.size rfl
              generalize w3.alloc (.cells #[.int .i64 lx, .int .i64 wx.lines, .int .i64 wx.head, .int .i64 wx.tail, .int .u64 wx.val, .int .u64 wx.scale] 106 (0, 0)) = W3 at *
              generalize w3.heap.size = K3 at *
              obtain ⟨m0, m1, m2, m3, m4, m5, m6, lm, mf⟩ := cells7 (F3.kept HB.out)
              have HB3 := Lib.hid b3
              have HF3 := Lib.hid F3
              clear b3 F3 f3 CX HB
              go_wp2_with fail
              refine (CY.out _ HF3.out).mono ?_
              rintro e w4 ⟨rfl, f4⟩
              go_upto_region 24 with fail
              have F4 : Fr0 W3 (w4.alloc (.cells #[.int .i64 ly, .int .i64 wy.lines, .int .i64 wy.head, .int .i64 wy.tail, .int .u64 wy.val, .int .u64 wy.scale] 106 (0, 0))) := f4.alloc _
              have b4 := alloc_at w4 (.cells #[.int .i64 ly, .int .i64 wy.lines, .int .i64 wy.head, .int .i64 wy.tail, .int .u64 wy.val, .int .u64 wy.scale] 106 (0, 0)) w4.heap.size rfl
              generalize w4.alloc (.cells #[.int .i64 ly, .int .i64 wy.lines, .int .i64 wy.head, .int .i64 wy.tail, .int .u64 wy.val, .int .u64 wy.scale] 106 (0, 0)) = W4 at *
              generalize w4.heap.size = K4 at *
              obtain ⟨e0, _, _, _, _, _, le, _⟩ := cells6t b4
              obtain ⟨d0, _, _, _, _, _, ld, _⟩ := cells6t (F4.kept HB3.out)
              have HF4 := Lib.hid (HF3.out.trans F4)
              clear b4 F4 f4 CY HB3 HF3 lm mf m0 m1 m2 m3 m4 m5 m6
              go_wp2_with fail
              refine (CA.out W4).mono ?_
              rintro e w5 ⟨rfl, rfl⟩
              go_wp2_with fail
              go_roundg (gk - 1)
              case measure => omega
              case rel => exact ⟨k2 + 1, by omega, by go_num, HF1.out.trans HF4.out⟩
            · have q : (c == 3) = false := beq_eq_false_iff_ne.2 h3
              clear hb ex ey
              go_wp2_with fail
              go_roundg (gk - 1)
              case measure => omega
              case rel => exact ⟨k2 + 1, by omega, by go_num, HF1.out⟩
          · go_wp2_with fail
            go_ret
            exact ⟨rfl, HFR.out.trans hfr⟩
    · have z1 : ((ks.length : Int) != (js.length : Int)) = true := by simpa using (show ¬ (ks.length : Int) = (js.length : Int) by omega)
      have q : ov = false := HOJ.out.symm.trans (by unfold okCh; rw [decide_eq_false hne]; rfl)
      subst q
      clear hne
      go_wp2_with fail
      go_ret
      exact ⟨rfl, HFR.out⟩
end Go.Proofs.YtbhidkmhlfggfaaGreatDoor

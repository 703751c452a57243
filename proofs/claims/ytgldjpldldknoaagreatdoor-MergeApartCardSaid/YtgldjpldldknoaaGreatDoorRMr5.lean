/- The walks of (group).text, merge.Clean and merge.Of. -/
import Derived.Test.YtgldjpldldknoaaGreatDoorRMr4
import Derived.Test.YtgldjpldldknoaaGreatDoorRKy0
set_option linter.unusedSimpArgs false
set_option linter.unusedVariables false
namespace Go.Proofs.YtgldjpldldknoaaGreatDoor
open Go.RowKit
set_option maxRecDepth 100000 in
set_option maxHeartbeats 400000 in
theorem gr_text {w : World} {gb : Nat} {la : Option Addr} {lc n : Nat} {x1 x2 x3 x6 : Value} {x y : Int} (h : w.heap[gb]? = some (.cells #[.slice la n lc, x1, x2, x3, .int .i64 x, .int .i64 y, x6] 73 (0, 0))) (z : Int) (hz : z = if 0 < n then x else y) :
    Calls Tryz.prog 20 #[.pointer (some ⟨gb, 0, none⟩)] w fun e w' => e = .returned (.int .i64 z) ∧ w = w' := by
 obtain ⟨m0, m1, m2, m3, m4, m5, m6, lm, mf⟩ := cells7 h
 have HZ := Lib.hid hz
 clear h hz
 by_cases hn : 0 < n
 · have hv := HZ.out
   rw [if_pos hn] at hv
   subst hv
   have q : decide ((0 : Int) < (n : Int)) = true := decide_eq_true (by omega)
   clear HZ
   go_enter Tryz.func20, Tryz.ntmps20
   go_wp2_with fail
   go_ret
   exact ⟨rfl, rfl⟩
 · have hv := HZ.out
   rw [if_neg hn] at hv
   subst hv
   have q : decide ((0 : Int) < (n : Int)) = false := decide_eq_false (by omega)
   clear HZ
   go_enter Tryz.func20, Tryz.ntmps20
   go_wp2_with fail
   go_ret
   exact ⟨rfl, rfl⟩
structure Cf where
 at_ : Int
 n : Int
 left : Int
 right : Int
def Cf.vals (c : Cf) : List Value := [.int .i64 c.at_, .int .i64 c.n, .int .i64 c.left, .int .i64 c.right]
theorem info_cf : (Tryz.prog.info? 67).map (fun i => (i.zero, i.size, i.bytes)) = some (some (.agg #[.int .i64 0, .int .i64 0, .int .i64 0, .int .i64 0]), 4, 32) := by kernel_rfl
theorem rt_cf : RT 32 67 4 32 := by
 obtain ⟨i, h1, h2, h3, h4⟩ := info_parts info_cf
 exact ⟨by omega, i, _, by kernel_rfl, h1, h2, h3, h4, rfl⟩
structure CfR (L : List Ent) (c : Cf) (p : CfP) : Prop where
 at_ : c.at_ = p.at_
 n : c.n = p.n
 left : ∃ d, BalZ L c.left p.left d
 right : ∃ d, BalZ L c.right p.right d
theorem GmF.text {w : World} {z : Gm} {t : List Int} {L : List Ent} {h : Grp PC} {x y : Int} (g : GmF w z t L h x y) (hne : h.left ≠ [] ∨ h.right ≠ []) : ∃ d, BalZ L (if 0 < h.left.length then x else y) (chP t h).text d := by
 unfold chP
 dsimp only
 by_cases hl : h.left = []
 · rw [if_neg (by rw [hl]; simp), if_neg (by simp [hl])]
   have hr : h.right ≠ [] := hne.resolve_left (by simp [hl])
   obtain ⟨d, b⟩ := g.by_
   exact ⟨d, by have e : sdE t h.end_ h.at_ h.right = sdr t h := if_neg hr; rw [e] at b; exact b⟩
 · rw [if_pos (List.length_pos_iff.2 hl), if_pos hl]
   obtain ⟨d, b⟩ := g.bx
   exact ⟨d, by have e : sdE t h.end_ h.at_ h.left = sdl t h := if_neg hl; rw [e] at b; exact b⟩
theorem GmF.conf {w : World} {z : Gm} {t : List Int} {L : List Ent} {h : Grp PC} {x y : Int} (g : GmF w z t L h x y) (hc : isC t h = true) : CfR L ⟨z.g.at_, z.g.end_ - z.g.at_, x, y⟩ (cfP t h) := by
 unfold isC at hc
 simp only [Bool.and_eq_true, decide_eq_true_eq] at hc
 refine ⟨g.at_, by show z.g.end_ - z.g.at_ = h.end_ - h.at_; rw [g.at_, g.end_], ?_, ?_⟩
 · obtain ⟨d, b⟩ := g.bx
   exact ⟨d, by have e : sdE t h.end_ h.at_ h.left = sdl t h := if_neg hc.1.1; rw [e] at b; exact b⟩
 · obtain ⟨d, b⟩ := g.by_
   exact ⟨d, by have e : sdE t h.end_ h.at_ h.right = sdr t h := if_neg hc.1.2; rw [e] at b; exact b⟩
theorem GsF.kept0 {w w' : World} {t : List Int} {L : List Ent} {zs : List Gm} {xs : Nat → Int × Int} {hs : List (Grp PC)} (h : GsF w t L zs xs hs) (hf : Fr0 w w') : GsF w' t L zs xs hs := fun i h1 h2 => by
 have g := h i h1 h2
 exact ⟨hf.kept g.box, g.lv, g.rv, g.bx, g.by_, g.at_, g.end_⟩
theorem read_grp {base : Nat} {w : World} {v : Value} {zs : List Gm} (h : w.ownsRow base 71 1 v zs.length (zs.flatMap gpz)) (k : Nat) (hk : k < zs.length) : ∃ b off cap, v = .slice (some ⟨b, off, none⟩) zs.length cap ∧ b < w.heap.size ∧ w.cell? ⟨b, off + k, none⟩ = some (.pointer (some ⟨zs[k].gb, 0, none⟩)) := by
 obtain ⟨a, cap, rfl⟩ := owns_form h
 obtain ⟨b, off, rfl, lb, _, hc⟩ := owns_rd (vals := gpz) (size := 1) (B := 0) (fun _ _ => rfl) h (by decide) (by decide) k hk
 exact ⟨b, off, cap, rfl, lb, by have := hc 0 _ rfl; rwa [Nat.mul_one, Nat.add_zero] at this⟩
end Go.Proofs.YtgldjpldldknoaaGreatDoor
/- The walk of merge.Of. -/
set_option linter.unusedSimpArgs false
set_option linter.unusedVariables false
namespace Go.Proofs.YtgldjpldldknoaaGreatDoor
open Go.RowKit
def OmPost (B : Nat) (w : World) (mp kb pp tp p mb : Nat) (most : Int) (L : List Ent) (t : List Int) (hs : List (Grp PC)) (N : Nat) (e : Ending) (w' : World) : Prop :=
 ∃ L' v1 v2 cs fs, e = .returned (.tuple #[v1, v2, .nilIface]) ∧ Me B w' mp kb pp tp p mb most L' ∧ Kk B mb kb w w' ∧ Gu L L' N ∧ w'.ownsRow w.heap.size 55 3 v1 cs.length (cs.flatMap Chg.vals) ∧ w'.ownsRow w.heap.size 67 4 v2 fs.length (fs.flatMap Cf.vals) ∧ PChg L' cs (mgO t hs) ∧ All2 (CfR L') fs (mgC t hs)
theorem mgO_len (t : List Int) (hs : List (Grp PC)) : (mgO t hs).length ≤ hs.length := by
 unfold mgO; rw [List.length_map]; exact List.length_filter_le _ _
theorem mgC_len (t : List Int) (hs : List (Grp PC)) : (mgC t hs).length ≤ hs.length := by
 unfold mgC; rw [List.length_map]; exact List.length_filter_le _ _
set_option maxRecDepth 100000 in
set_option maxHeartbeats 4000000 in
theorem mr_Of {B : Nat} {w : World} {mp kb pp tp p mb : Nat} {most : Int} {L : List Ent} {id : Int} {t : List Int} {a b : Option Addr} {ca cb n m : Nat} {hs : List (Grp PC)} {NM : Nat} (hhl : hs.length ≤ 100000) (hne : ∀ h ∈ hs, h.left ≠ [] ∨ h.right ≠ []) (hin : ∀ h ∈ hs, 0 ≤ h.at_ ∧ h.at_ ≤ h.end_ ∧ h.end_ ≤ 1152921504606846976)
    (hM : Calls Tryz.prog 19 #[.pointer (some ⟨mp, 0, none⟩), .int .i64 id, .slice a n ca, .slice b m cb] w (MgPost B w mp kb pp tp p mb most L t hs NM)) :
    Calls Tryz.prog 7 #[.pointer (some ⟨mp, 0, none⟩), .int .i64 id, .slice a n ca, .slice b m cb] w (OmPost B w mp kb pp tp p mb most L t hs NM) := by
 have CM := Lib.hid hM
 have HNE := Lib.hid hne
 have HIN := Lib.hid hin
 clear hM hne hin
 go_enter Tryz.func7, Tryz.ntmps7
 go_wp2_with fail
 refine CM.out.mono ?_
 rintro e w1 ⟨L1, gv, zs, xs, rfl, hm1, hk1, hg1, hl1, hr1, hf1⟩
 obtain ⟨va, vc, rfl⟩ := owns_form hr1
 have HM1 := Lib.hid hm1
 have HK1 := Lib.hid hk1
 have HG1 := Lib.hid hg1
 have HR1 := Lib.hid hr1
 have HF1 := Lib.hid hf1
 have HL1 := Lib.hid hl1
 have hzl : zs.length ≤ 100000 := by omega
 clear hm1 hk1 hg1 hl1 hr1 hf1 CM
 go_wp2_with fail
 go_loopg [13, 14, 30] zs.length (fun gk cv fv i wr => ∃ (k : Nat) (cs : List Chg) (fs : List Cf), k + gk = zs.length ∧ i = .int .i64 k ∧ Fr0 w1 wr ∧ wr.ownsRow w1.heap.size 55 3 cv cs.length (cs.flatMap Chg.vals) ∧ wr.ownsRow w1.heap.size 67 4 fv fs.length (fs.flatMap Cf.vals) ∧ PChg L1 cs (mgO t (hs.take k)) ∧ All2 (CfR L1) fs (mgC t (hs.take k)))
 case atStart => exact ⟨0, [], [], by omega, rfl, Fr0.refl w1, World.ownsRow_nil _ _ _ _, World.ownsRow_nil _ _ _ _, trivial, trivial⟩
 case round =>
  obtain ⟨k, cs, fs, hk, rfl, hfr, hoc, hof, hpc, hpf⟩ := hrel
  have hcl : cs.length ≤ 100000 := by
   have := hpc.len
   have := mgO_len t (hs.take k)
   rw [List.length_take] at this
   omega
  have hfl : fs.length ≤ 100000 := by
   have := hpf.len
   have := mgC_len t (hs.take k)
   rw [List.length_take] at this
   omega
  by_cases hlt : k < zs.length
  · obtain ⟨b5, o5, cap5, e5, l5, c5⟩ := read_grp (hfr.owns HR1.out) k hlt
    simp only [Value.slice.injEq, true_and] at e5
    obtain ⟨rfl, rfl⟩ := e5
    have hlt2 : k < hs.length := by have := HL1.out; omega
    have hg := (HF1.out.kept0 hfr) k hlt hlt2
    obtain ⟨m0, m1, m2, m3, m4, m5, m6, lm, mf⟩ := cells7 hg.box
    obtain ⟨la, lc, hlv⟩ := hg.lv
    have hsn : hs.take (k + 1) = hs.take k ++ [hs[k]] := List.take_succ_eq_append_getElem hlt2
    have HTO : Hid (mgO t (hs.take (k + 1)) = mgO t (hs.take k) ++ (if isC t hs[k] = true then [] else [chP t hs[k]])) := by show _ = _; rw [hsn, mgO_snoc]
    have HTC : Hid (mgC t (hs.take (k + 1)) = mgC t (hs.take k) ++ (if isC t hs[k] = true then [cfP t hs[k]] else [])) := by show _ = _; rw [hsn, mgC_snoc]
    have hin := HIN.out hs[k] (List.getElem_mem hlt2)
    have hne := HNE.out hs[k] (List.getElem_mem hlt2)
    have HTX := Lib.hid (hg.text hne)
    have HCF := Lib.hid (fun hc => hg.conf hc)
    have eat := hg.at_
    have een := hg.end_
    have hbx := hg.box
    rw [hlv] at hbx
    rw [eat, een] at HCF hbx
    rw [eat] at m2
    rw [een] at m3
    have eqa : (chP t hs[k]).at_ = hs[k].at_ := rfl
    have eqn : (chP t hs[k]).n = hs[k].end_ - hs[k].at_ := rfl
    have HHX := Lib.hid hbx
    generalize zs[k].gb = gb at *
    generalize (xs k).1 = x at *
    generalize (xs k).2 = y at *
    have HFR := Lib.hid hfr
    have HPC := Lib.hid hpc
    have HPF := Lib.hid hpf
    have HOC := Lib.hid hoc
    have HOF := Lib.hid hof
    obtain ⟨cA, cC, rfl⟩ := owns_form hoc
    obtain ⟨fA, fC, rfl⟩ := owns_form hof
    have hbs : w1.heap.size ≤ wr.heap.size := hfr.size
    have hgc : some gb ≠ (Value.slice cA cs.length cC).ownBlock := fun e => by
     obtain ⟨cur, hc⟩ := owns_block hoc e.symm
     rw [hbx] at hc; cases hc
    have hgf : some gb ≠ (Value.slice fA fs.length fC).ownBlock := fun e => by
     obtain ⟨cur, hc⟩ := owns_block hof e.symm
     rw [hbx] at hc; cases hc
    have hcf2 : ∀ j, (Value.slice cA cs.length cC).ownBlock = some j → (Value.slice fA fs.length fC).ownBlock ≠ some j := fun j h1 h2 => by
     obtain ⟨cur, hc⟩ := owns_block hoc h1
     obtain ⟨cur2, hc2⟩ := owns_block hof h2
     rw [hc] at hc2; cases hc2
    have HCF2 := Lib.hid hcf2
    have HAP := Lib.hid hlv
    obtain ⟨cf, hcf⟩ : ∃ cf, isC t hs[k] = cf := ⟨_, rfl⟩
    rw [hcf] at m6 HTO HTC HCF
    have hlen : hs[k].left.length = hs[k].left.length := rfl
    have hd : hs[k].at_ ≤ hs[k].end_ := hin.2.1
    have z1 := IntWalk.i64_in (hs[k].end_ - hs[k].at_) (by omega)
    clear hg hfr hpc hpf hoc hof hsn hne eat een hcf2 hcf hlv hlen m0 m1 hbx
    cases cf with
    | true =>
     have HTO2 : Hid (mgO t (hs.take (k + 1)) = mgO t (hs.take k)) := by show _ = _; rw [HTO.out, if_pos rfl, List.append_nil]
     have HTC2 : Hid (mgC t (hs.take (k + 1)) = mgC t (hs.take k) ++ [cfP t hs[k]]) := by show _ = _; rw [HTC.out, if_pos rfl]
     have HCF3 := Lib.hid (HCF.out rfl)
     clear HTO HTC HCF
     go_upto_region 10 with fail
     go_region_held3 (fun w' => w'.cell? ⟨gb, 2, none⟩ = some (.int .i64 hs[k].at_) ∧ w'.cell? ⟨gb, 3, none⟩ = some (.int .i64 hs[k].end_) ∧ w'.cell? ⟨gb, 4, none⟩ = some (.int .i64 x) ∧ w'.cell? ⟨gb, 5, none⟩ = some (.int .i64 y))
      (first
       | (go_keep; done)
       | (go_split_ands
          refine ⟨?_, ?_, ?_, ?_⟩
          · (rw [hg4.cell_far _ (by simp; omega) hgf]; assumption)
          · (rw [hg4.cell_far _ (by simp; omega) hgf]; assumption)
          · (rw [hg4.cell_far _ (by simp; omega) hgf]; assumption)
          · (rw [hg4.cell_far _ (by simp; omega) hgf]; assumption)))
      ((refine step_pushN (vals := Cf.vals) rt_cf (by rfl) _ _ (by rfl) w1.heap.size _ fs [⟨hs[k].at_, hs[k].end_ - hs[k].at_, x, y⟩] (by rfl) HOF.out hbs 67 #[.int .i64 hs[k].at_, .int .i64 (hs[k].end_ - hs[k].at_), .int .i64 x, .int .i64 y] (by rfl) (by rfl) (by simp [Cf.vals, Value.oneCell']) 1 wr.heap.size 1 (by rfl) (by omega) (by rfl) (by rfl) (by omega) (by omega) (by simp) ?_; intro g2 gcap w4 hO4 hg4 hat4))
     all_goals
      have hF : Fr (fun j => (Value.slice fA fs.length fC).ownBlock = some j) wr w4 := Fr.grown ((Fr.refl _ wr).alloc _).drew hg4 (fun j hj _ => hj)
      have HFX : Hid (Fr0 w1 w4) := Fr.trans HFR.out hF (fun j hj hlt => by have := (HOF.out.lt j hj).1; omega)
      have HXO : Hid (w4.ownsRow w1.heap.size 55 3 (Value.slice cA cs.length cC) cs.length (cs.flatMap Chg.vals)) := hF.owns HOC.out (fun j hj e => HCF2.out j hj e)
      have HO4 := Lib.hid hO4
      clear hO4 hg4 hat4 hF m2 m3 m4 m5 lm mf
      go_wp2_with fail
      go_roundg (gk - 1)
      case measure => omega
      case rel => exact ⟨k + 1, cs, _, by omega, by go_num, HFX.out, HXO.out, HO4.out, by rw [HTO2.out]; exact HPC.out, by rw [HTC2.out]; exact HPF.out.snoc HCF3.out⟩
    | false =>
     have HTO2 : Hid (mgO t (hs.take (k + 1)) = mgO t (hs.take k) ++ [chP t hs[k]]) := by show _ = _; rw [HTO.out, if_neg (by simp)]
     have HTC2 : Hid (mgC t (hs.take (k + 1)) = mgC t (hs.take k)) := by show _ = _; rw [HTC.out, if_neg (by simp), List.append_nil]
     clear HTO HTC HCF
     have CT : Hid (∀ W, Fr0 wr W → Calls Tryz.prog 20 #[.pointer (some ⟨gb, 0, none⟩)] W fun e w' => e = .returned (.int .i64 (if 0 < hs[k].left.length then x else y)) ∧ W = w') := fun W hW => gr_text (hW.kept HHX.out) _ rfl
     have HPN : Hid (PChg L1 (cs ++ [⟨hs[k].at_, hs[k].end_ - hs[k].at_, if 0 < hs[k].left.length then x else y⟩]) (mgO t (hs.take k) ++ [chP t hs[k]])) := by
      obtain ⟨dd, bb⟩ := HTX.out
      exact HPC.out.snoc eqa.symm eqn.symm bb
     generalize (if 0 < hs[k].left.length then x else y) = zt at *
     go_upto_region 11 with fail
     go_region_held3 (fun w' => w'.cell? ⟨gb, 2, none⟩ = some (.int .i64 hs[k].at_) ∧ w'.cell? ⟨gb, 3, none⟩ = some (.int .i64 hs[k].end_))
      (first
       | (go_keep; done)
       | (go_split_ands
          refine ⟨?_, ?_⟩
          · (rw [hg4.cell_far _ (by simp; omega) hgc]; assumption)
          · (rw [hg4.cell_far _ (by simp; omega) hgc]; assumption)))
      (first | (refine step_pushN (vals := Chg.vals) rt_chg (by rfl) _ _ (by rfl) w1.heap.size _ cs [⟨hs[k].at_, hs[k].end_ - hs[k].at_, zt⟩] (by rfl) HOC.out hbs 55 #[.int .i64 hs[k].at_, .int .i64 (hs[k].end_ - hs[k].at_), .int .i64 zt] (by rfl) (by rfl) (by simp [Chg.vals, Value.oneCell']) 1 wr.heap.size 1 (by rfl) (by omega) (by rfl) (by rfl) (by omega) (by omega) (by simp) ?_; intro g2 gcap w4 hO4 hg4 hat4) | (go_at_call 20; (with_reducible refine Calls.mono (CT.out _ (by first | exact Fr0.refl _ | exact (Fr0.refl _).drew)) ?_); rintro e w5 ⟨rfl, rfl⟩))
     all_goals
      have hF : Fr (fun j => (Value.slice cA cs.length cC).ownBlock = some j) wr w4 := Fr.grown ((Fr.refl _ wr).alloc _).drew hg4 (fun j hj _ => hj)
      have HFX : Hid (Fr0 w1 w4) := Fr.trans HFR.out hF (fun j hj hlt => by have := (HOC.out.lt j hj).1; omega)
      have HXO : Hid (w4.ownsRow w1.heap.size 67 4 (Value.slice fA fs.length fC) fs.length (fs.flatMap Cf.vals)) := hF.owns HOF.out (fun j hj e => HCF2.out j e hj)
      have HO4 := Lib.hid hO4
      clear hO4 hg4 hat4 hF m2 m3 m4 m5 lm mf
      go_wp2_with fail
      go_roundg (gk - 1)
      case measure => omega
      case rel => exact ⟨k + 1, _, fs, by omega, by go_num, HFX.out, HO4.out, HXO.out, by rw [HTO2.out]; exact HPN.out, by rw [HTC2.out]; exact HPF.out⟩
  · have hkz : k = zs.length := by omega
    have HX : Hid (OmPost B w mp kb pp tp p mb most L t hs NM (.returned (.tuple #[u13, u14, .nilIface])) wr) := by
     rw [List.take_of_length_le (by have := HL1.out; omega)] at hpc hpf
     exact ⟨L1, u13, u14, cs, fs, rfl, HM1.out.kept0 hfr, HK1.out.trans (Kk.of0 hfr), HG1.out, owns_dn hoc HK1.out.size, owns_dn hof HK1.out.size, hpc, hpf⟩
    clear hpc hpf hoc hof hfr
    go_wp2_with fail
    go_ret3
    exact HX.out
end Go.Proofs.YtgldjpldldknoaaGreatDoor
/- The walks of sideText and fill where each side has no change in a group, or one that covers its range. -/
set_option linter.unusedSimpArgs false
set_option linter.unusedVariables false
namespace Go.Proofs.YtgldjpldldknoaaGreatDoor
open Go.RowKit
def xOf : List Chg → Int
 | [] => 0
 | c :: _ => c.text
def WholeS (f e : Int) : List Chg → Prop
 | [] => True
 | [c] => c.at_ = f ∧ c.at_ + c.n = e
 | _ => False
set_option maxRecDepth 100000 in
set_option maxHeartbeats 4000000 in
theorem mr_sideX {w : World} {p gb : Nat} {id f e : Int} {x0 x1 x4 x5 x6 : Value} {base : Nat} {sv : Value} {cs : List Chg} (hg : w.heap[gb]? = some (.cells #[x0, x1, .int .i64 f, .int .i64 e, x4, x5, x6] 73 (0, 0)))
    (hs : w.ownsRow base 55 3 sv cs.length (cs.flatMap Chg.vals)) (hw : WholeS f e cs) (hf : 0 ≤ f) (he : f ≤ e) (he2 : e ≤ 1152921504606846976) :
    Calls Tryz.prog 53 #[.pointer (some ⟨p, 0, none⟩), .int .i64 id, .pointer (some ⟨gb, 0, none⟩), sv] w fun e' w' => e' = .returned (.tuple #[.int .i64 (xOf cs), .nilIface]) ∧ Fr0 w w' := by
 match cs, hs, hw with
 | [], hs, _ =>
  obtain ⟨a, c, rfl⟩ := owns_form hs
  clear hs hg
  show Calls _ _ #[_, _, _, .slice a 0 c] _ _
  go_enter Tryz.func53, Tryz.ntmps53
  go_wp2_with fail
  go_ret2
  exact ⟨rfl, Fr0.refl w⟩
 | [x], hs, hw =>
  obtain ⟨b, off, cap, rfl, lb, c0, c1, c2⟩ := read_chg hs 0 (by simp)
  rw [Nat.zero_mul, Nat.add_zero] at c0 c1 c2
  obtain ⟨_, _, g2, g3, _, _, _, lg, gf⟩ := cells7 hg
  simp only [List.getElem_cons_zero] at c0 c1 c2
  obtain ⟨xa, xn, xt⟩ := x
  have h1 : xa = f := hw.1
  have h2 : xa + xn = e := hw.2
  dsimp only at *
  have q2 : (xa == f) = true := beq_iff_eq.2 h1
  have q3 : (xa + xn == e) = true := beq_iff_eq.2 h2
  have q4 : 0 ≤ xa + xn := by omega
  have q5 : xa + xn ≤ 1152921504606846976 := by omega
  have q6 : IntKind.i64.wrap (xa + xn) = xa + xn := wrapI (by omega) (by omega)
  clear hg hs hw h1 h2
  show Calls _ _ #[_, _, _, .slice (some ⟨b, off, none⟩) 1 cap] _ _
  go_enter Tryz.func53, Tryz.ntmps53
  go_upto_region 4 with fail
  have F1 := (Fr0.refl w).alloc (.cells #[.int .i64 xa, .int .i64 xn, .int .i64 xt] 55 (0, 0))
  go_cut [41] (fun u wx => u = .bool true ∧ Fr0 (w.alloc (.cells #[.int .i64 xa, .int .i64 xn, .int .i64 xt] 55 (0, 0))) wx)
  case first =>
   go_quiet (fail)
   go_wp2_with fail
   go_meet
   exact ⟨rfl, (Fr0.refl _).drewN _⟩
  case rest =>
  obtain ⟨rfl, hF⟩ := hcut
  rename World => W2
  obtain ⟨d0, d1, d2, _, ld⟩ := cells3 (hF.kept (alloc_at w (.cells #[.int .i64 xa, .int .i64 xn, .int .i64 xt] 55 (0, 0)) _ rfl))
  have HF := Lib.hid (F1.trans hF)
  clear hF F1 c0 c1 c2 lb g2 g3 lg gf
  go_wp2_with fail
  go_ret2
  exact ⟨rfl, HF.out⟩
set_option maxRecDepth 100000 in
set_option maxHeartbeats 400000 in
theorem mr_equal_same {w : World} (mv : Value) (x : Int) :
    Calls Tryz.prog 54 #[mv, .int .i64 x, .int .i64 x] w fun e w' => e = .returned (.tuple #[.bool true, .nilIface]) ∧ w = w' := by
 go_enter Tryz.func54, Tryz.ntmps54
 go_wp2_with fail
 go_ret2
 exact ⟨rfl, rfl⟩
theorem xOf_bal {L : List Ent} {cs : List Chg} {ps : List PC} {t : List Int} {f e : Int} (hP : PChg L cs ps) (hw : WholeS f e cs) (hf : 0 ≤ f) (hin : within e f ps) : ∃ d, BalZ L (xOf cs) (sdE t e f ps) d := by
 match cs, ps, hP, hw with
 | [], [], _, _ => exact ⟨0, BalZ.zero L⟩
 | [c], [q], hP, hw =>
  obtain ⟨e1, e2, d, hb⟩ := hP.1
  have h1 : c.at_ = f := hw.1
  have h2 : c.at_ + c.n = e := hw.2
  obtain ⟨g1, _⟩ := sdG_whole t (f := f) (e := e) (c := q) (r := []) hin hf (by rw [← e1]; exact h1) (by rw [← e1, ← e2]; exact h2) List.Pairwise.nil (fun x hx => by cases hx)
  exact ⟨d, by rw [show sdE t e f [q] = sdG t e f [q] from if_neg (by simp), g1]; exact hb⟩
theorem xOf_same {L : List Ent} {cs ds : List Chg} {ps qs : List PC} {t : List Int} {f e : Int} (hP : PChg L cs ps) (hQ : PChg L ds qs) (hw : WholeS f e cs) (hv : WholeS f e ds) (hf : 0 ≤ f) (hin : within e f ps) (hin2 : within e f qs) (hx : ps ≠ [] → qs ≠ [] → xOf cs = xOf ds) (h1 : ps ≠ []) (h2 : qs ≠ []) : sdG t e f ps = sdG t e f qs := by
 obtain ⟨d1, b1⟩ := xOf_bal (t := t) hP hw hf hin
 obtain ⟨d2, b2⟩ := xOf_bal (t := t) hQ hv hf hin2
 rw [hx h1 h2] at b1
 have e1 : sdE t e f ps = sdG t e f ps := if_neg h1
 have e2 : sdE t e f qs = sdG t e f qs := if_neg h2
 rw [← e1, ← e2, ← b1.text, ← b2.text]
set_option maxRecDepth 100000 in
set_option maxHeartbeats 4000000 in
theorem mr_fillW {B : Nat} {w : World} {mp kb pp tp p mb : Nat} {most : Int} {L : List Ent} {z : Gm} {h : Grp PC} {id : Int} {t : List Int} (hm : Me B w mp kb pp tp p mb most L) (hz : GmD w z) (hzB : B ≤ z.lo) (hr : GRel L z.g h)
    (hin : 0 ≤ h.at_ ∧ h.at_ ≤ h.end_ ∧ h.end_ ≤ t.length ∧ within h.end_ h.at_ h.left ∧ within h.end_ h.at_ h.right) (htl : t.length ≤ 1152921504606846976) (hL : L.length ≤ 1000000) (hwl : WholeS z.g.at_ z.g.end_ z.g.left) (hwr : WholeS z.g.at_ z.g.end_ z.g.right) (hx : h.left ≠ [] → h.right ≠ [] → xOf z.g.left = xOf z.g.right) :
    Calls Tryz.prog 38 #[.pointer (some ⟨z.gb, 0, none⟩), .pointer (some ⟨mp, 0, none⟩), .int .i64 id] w fun e w' => ∃ x y, e = .returned .nilIface ∧ Me B w' mp kb pp tp p mb most L ∧ Ks (Sf kb z) B mb w w' ∧ GmF w' z t L h x y := by
 have hmq := hm
 obtain ⟨T, kn, hq⟩ := hmq
 have CP := Lib.hid (cn_Parser hq.box)
 have CS := Lib.hid (sig_Store hq.pq)
 have hbase := hm.base
 have hlo2 : z.lo ≤ w.heap.size := by have := hz.lo; have := lt_of_block hz.box; omega
 have hlenl := hr.left.len
 have hlenr := hr.right.len
 have hgat := hr.at_
 have hgend := hr.end_
 have hge : 0 ≤ z.g.at_ ∧ z.g.at_ ≤ z.g.end_ ∧ z.g.end_ ≤ 1152921504606846976 := by omega
 have C1 := Lib.hid (mr_sideX (p := p) (id := id) hz.box hz.lr hwl hge.1 hge.2.1 hge.2.2)
 have C2 : Hid (∀ W x4, W.heap[z.gb]? = some (.cells #[z.lv, z.rv, .int .i64 z.g.at_, .int .i64 z.g.end_, x4, .int .i64 0, .bool false] 73 (0, 0)) → W.ownsRow z.lo 55 3 z.rv z.g.right.length (z.g.right.flatMap Chg.vals) → Calls Tryz.prog 53 #[.pointer (some ⟨p, 0, none⟩), .int .i64 id, .pointer (some ⟨z.gb, 0, none⟩), z.rv] W fun e' w' => e' = .returned (.tuple #[.int .i64 (xOf z.g.right), .nilIface]) ∧ Fr0 W w') := fun W x4 hbx ho => mr_sideX hbx ho hwr hge.1 hge.2.1 hge.2.2
 have HBX := Lib.hid (xOf_bal (t := t) hr.left (by rw [← hgat, ← hgend]; exact hwl) hin.1 hin.2.2.2.1)
 have HBY := Lib.hid (xOf_bal (t := t) hr.right (by rw [← hgat, ← hgend]; exact hwr) hin.1 hin.2.2.2.2)
 have HXS : Hid (h.left ≠ [] → h.right ≠ [] → sdl t h = sdr t h) := fun a b => xOf_same (t := t) hr.left hr.right (by rw [← hgat, ← hgend]; exact hwl) (by rw [← hgat, ← hgend]; exact hwr) hin.1 hin.2.2.2.1 hin.2.2.2.2 hx a b
 have HXX := Lib.hid hx
 have HME := Lib.hid hm
 have HZ := Lib.hid hz
 have HGR := Lib.hid (Grows.refl hm.sok hm.dok)
 obtain ⟨lo, hi, gb, lv, rv, g⟩ := z
 dsimp only at *
 obtain ⟨la, lc, hlv⟩ := owns_form hz.lr
 obtain ⟨ra, rc, hrv⟩ := owns_form hz.rr
 dsimp only at hlv hrv
 subst hlv hrv
 obtain ⟨ga, ge, gl, gr⟩ := g
 dsimp only at *
 obtain ⟨c0, c1, cf, lmp⟩ := cells2 hq.box
 obtain ⟨m0, m1, m2, m3, m4, m5, m6, lm, mf⟩ := cells7 hz.box
 dsimp only at m0 m1 m2 m3 m4 m5 m6 lm mf
 have HPL := Lib.hid hlenl
 have HPR := Lib.hid hlenr
 have hfx := Lib.hid hgat
 have hfe := Lib.hid hgend
 clear hm hz hr hin hq hwl hwr hx hlenl hlenr hgat hgend hge
 generalize hx1 : xOf gl = x at *
 generalize hy1 : xOf gr = y at *
 clear hx1 hy1
 go_enter Tryz.func38, Tryz.ntmps38
 go_wp2_with fail
 refine CP.out.mono ?_
 rintro e w1 ⟨rfl, rfl⟩
 go_wp2_with fail
 refine CS.out.mono ?_
 rintro e w1 ⟨rfl, rfl⟩
 go_wp2_with fail
 refine C1.out.mono ?_
 rintro e w1 ⟨rfl, f1⟩
 obtain ⟨q1, q2, q3, q4⟩ := fill_step (i := 4) (u := .int .i64 x) (sv := .slice la gl.length lc) HME.out HZ.out.box HZ.out.lr hzB HZ.out.lo (HME.out.st.kept0 f1) (Kv.of0 f1) HGR.out hL
 have q5 := fill_row (S := fun _ => True) (sv := .slice la gl.length lc) (i := 4) (u := .int .i64 x) (lo' := 0) (n := 0) (xs := []) (B := B) (mb := mb) HZ.out.rr (Kv.of0 f1) (fun k hk e => HZ.out.ap k e hk) q1
 have C2' := Lib.hid (C2.out _ (.int .i64 x) q3 q5)
 obtain ⟨m0, m1, m2, m3, m4, m5, m6, lm, mf⟩ := cells7 q1
 have HQ2 := Lib.hid q2
 have HQ3 := Lib.hid q3
 have HQ4 := Lib.hid q4
 have HQ5 := Lib.hid q5
 clear f1 q1 q2 q3 q4 q5 C1 C2 CP CS
 go_upto_region 6 with fail
 generalize w1.setCell ⟨gb, 4, none⟩ (.int .i64 x) = W1 at *
 have h3 := HQ3.out
 simp only [List.setIfInBounds_toArray, List.set_cons_zero, List.set_cons_succ] at h3
 obtain ⟨m0, m1, m2, m3, m4, m5, m6, lm, mf⟩ := cells7 h3
 have HB3 := Lib.hid h3
 clear h3 HQ3
 go_wp2_with fail
 refine C2'.out.mono ?_
 rintro e w2 ⟨rfl, f2⟩
 obtain ⟨q1, q2, q3, q4⟩ := fill_step (i := 5) (u := .int .i64 y) (sv := .slice ra gr.length rc) HQ2.out HB3.out HQ5.out hzB HZ.out.lo (HQ2.out.st.kept0 f2) (Kv.of0 f2) HGR.out hL
 have HK2 : Hid (Ks (Sf kb ⟨lo, hi, gb, .slice la gl.length lc, .slice ra gr.length rc, ⟨ga, ge, gl, gr⟩⟩) B mb w (w2.setCell ⟨gb, 5, none⟩ (.int .i64 y))) :=
  Ks.trans (Ks.weak HQ4.out (fun j _ e => by
   rcases e with e | e
   · exact .inr (.inl e)
   · exact .inr (.inr (.inl e)))) (Ks.weak q4 (fun j _ e => by
   rcases e with e | e
   · exact .inr (.inl e)
   · exact .inr (.inr (.inr e))))
 obtain ⟨m0, m1, m2, m3, m4, m5, m6, lm, mf⟩ := cells7 q1
 have HQ6 := Lib.hid q2
 have HQ7 := Lib.hid q3
 clear f2 q1 q2 q3 q4 C2' HQ2 HQ4 HQ5 HB3
 go_upto_region 9 with fail
 generalize w2.setCell ⟨gb, 5, none⟩ (.int .i64 y) = W2 at *
 have h3 := HQ7.out
 simp only [List.setIfInBounds_toArray, List.set_cons_zero, List.set_cons_succ] at h3
 obtain ⟨m0, m1, m2, m3, m4, m5, m6, lm, mf⟩ := cells7 h3
 have HB3 := Lib.hid h3
 have HLV : Hid (∃ a c, (Value.slice la gl.length lc) = .slice a h.left.length c) := ⟨la, lc, by rw [HPL.out]⟩
 have HRV : Hid (∃ a c, (Value.slice ra gr.length rc) = .slice a h.right.length c) := ⟨ra, rc, by rw [HPR.out]⟩
 have hfa : Hid (isC t h = false) := by
  show _ = _
  unfold isC
  by_cases e1 : h.left = []
  · simp [e1]
  · by_cases e2 : h.right = []
    · simp [e2]
    · simp [HXS.out e1 e2]
 clear h3 HQ7
 by_cases hc : gl.length = 0 ∨ gr.length = 0
 · have HGF : Hid (GmF W2 ⟨lo, hi, gb, .slice la gl.length lc, .slice ra gr.length rc, ⟨ga, ge, gl, gr⟩⟩ t L h x y) :=
     ⟨by rw [hfa.out]; exact HB3.out, HLV.out, HRV.out, HBX.out, HBY.out, hfx.out, hfe.out⟩
   clear hfa HBX HBY HB3 HLV HRV HPL HPR
   by_cases h1 : gl.length = 0
   · have h3 : ((gl.length : Int) == 0) = true := by rw [h1]; rfl
     clear hc h1
     go_wp2_with fail
     go_ret
     exact ⟨x, y, rfl, HQ6.out, HK2.out, HGF.out⟩
   · have h2 : gr.length = 0 := by omega
     have h3 : ((gl.length : Int) == 0) = false := beq_eq_false_iff_ne.2 (by omega)
     have h4 : ((gr.length : Int) == 0) = true := by rw [h2]; rfl
     clear hc h1 h2
     go_wp2_with fail
     go_ret
     exact ⟨x, y, rfl, HQ6.out, HK2.out, HGF.out⟩
 · have hln : h.left ≠ [] := fun e => hc (.inl (by rw [HPL.out, e]; rfl))
   have hrn : h.right ≠ [] := fun e => hc (.inr (by rw [HPR.out, e]; rfl))
   have hxy : x = y := HXX.out hln hrn
   subst hxy
   have CE := Lib.hid (fun W => mr_equal_same (w := W) (.pointer (some ⟨mp, 0, none⟩)) x)
   have n1 : ((gl.length : Int) == 0) = false := beq_eq_false_iff_ne.2 (by omega)
   have n2 : ((gr.length : Int) == 0) = false := beq_eq_false_iff_ne.2 (by omega)
   clear hln hrn hc
   go_upto_region 11 with fail
   go_cut [9, 8] (fun u9 u8 wx => u9 = .bool true ∧ u8 = .nilIface ∧ Fr0 W2 wx)
   case first =>
    clear HBX HBY HK2 HLV HRV HXS HXX HME HZ
    go_region_held3 (fun w' => w'.cell? ⟨gb, 4, none⟩ = some (.int .i64 x) ∧ w'.cell? ⟨gb, 5, none⟩ = some (.int .i64 x))
     (first | (go_keep; done))
     ((go_at_call 54; (with_reducible refine Calls.mono (CE.out _) ?_); rintro e w5 ⟨rfl, rfl⟩))
    all_goals
     go_wp2_with fail
     go_meet
     exact ⟨rfl, rfl, by first | exact Fr0.refl _ | exact (Fr0.refl _).drew⟩
   case rest =>
   obtain ⟨rfl, rfl, hf3⟩ := hcut
   rename World => W3
   have h3 := hf3.kept HB3.out
   obtain ⟨m0, m1, m2, m3, m4, m5, m6, lm, mf⟩ := cells7 h3
   have hF3 : Fr (fun k => k = gb) W3 (W3.setCell ⟨gb, 6, none⟩ (.bool false)) := Fr.setCell (Fr.refl _ W3) _ _ (fun _ => rfl)
   have hB3 := setCell_block h3 6 (.bool false)
   simp only [List.setIfInBounds_toArray, List.set_cons_zero, List.set_cons_succ] at hB3
   have HGF : Hid (GmF (W3.setCell ⟨gb, 6, none⟩ (.bool false)) ⟨lo, hi, gb, .slice la gl.length lc, .slice ra gr.length rc, ⟨ga, ge, gl, gr⟩⟩ t L h x x) :=
    ⟨by rw [hfa.out]; exact hB3, HLV.out, HRV.out, HBX.out, HBY.out, hfx.out, hfe.out⟩
   have HM4 := Lib.hid ((HQ6.out.kept0 hf3).fr hF3 (fun j hj e => by subst e; exact ⟨Nat.le_trans hzB HZ.out.lo, _, _, _, h3, by decide⟩))
   have HK4 := Lib.hid (HK2.out.trans (Ks.fr (Ks.of0 hf3) hF3 (fun j _ e => .inr (.inl e))))
   clear h3 hF3 hB3 hf3 HBX HBY HLV HRV HK2 HB3 hfa
   go_wp2_with fail
   go_ret
   first | exact ⟨rfl, HM4.out, HK4.out, x, x, HGF.out⟩ | exact ⟨x, x, rfl, HM4.out, HK4.out, HGF.out⟩
end Go.Proofs.YtgldjpldldknoaaGreatDoor
/- The walk of merge.merge where each side is whole in each group (a text of any length). -/
set_option linter.unusedSimpArgs false
set_option linter.unusedVariables false
namespace Go.Proofs.YtgldjpldldknoaaGreatDoor
open Go.RowKit
structure WholeG (g : Grp Chg) : Prop where
 left : WholeS g.at_ g.end_ g.left
 right : WholeS g.at_ g.end_ g.right
 same : g.left ≠ [] → g.right ≠ [] → xOf g.left = xOf g.right
structure TwoG (B : Nat) (w : World) (L : List Ent) (id : Int) (t : List Int) (d : Int) (a b : Option Addr) (ca cb : Nat) (cs ds : List Chg) (ps qs : List PC) : Prop where
 text : BalZ L id t d
 ra : RG Chg.vals 3 B w a cs
 rb : RG Chg.vals 3 B w b ds
 ca : cs.length ≤ ca
 cb : ds.length ≤ cb
 hp : PChg L cs ps
 hq : PChg L ds qs
 vp : validP t.length (-1) ps = true
 vq : validP t.length (-1) qs = true
 lc : cs.length + ds.length ≤ 1000
 lt : t.length + insP ps + insP qs ≤ 1152921504606846976
theorem two_LengthG {B : Nat} {w : World} {p mb : Nat} {most : Int} {L : List Ent} {cs : List Chg} {ps : List PC} {a : Option Addr} {ca : Nat} {T : Nat} (hS : Sto B w p mb most L) (hO : SOk L) (hD : DOk L) (hA : RG Chg.vals 3 B w a cs) (hP : PChg L cs ps) (hv : validP T (-1) ps = true) (hT : T + insP ps ≤ 1152921504606846976) (hc : cs.length ≤ 1000) :
    ∃ v, Calls Tryz.prog 13 #[.pointer (some ⟨p, 0, none⟩), .int .i64 T, .slice a cs.length ca] w fun e w' => e = .returned (.tuple #[.int .i64 v, .nilIface]) ∧ Fr0 w w' := by
 obtain ⟨sv, hSt, _⟩ := hS
 have hf : formedFrom T (-1) cs = true := by rw [hP.valid hD hO]; exact hv
 have hdel := delP_nn hv
 exact ⟨_, pat_Length_ok hSt hO T (by omega) (by omega) a ca cs (chgs_of_rg hA) (by omega) hP.known hf (by rw [hP.del, hP.ins hD hO]; omega)⟩
theorem Me.big {B : Nat} {w : World} {mp kb pp tp p mb : Nat} {most : Int} {L : List Ent} (h : Me B w mp kb pp tp p mb most L) : L.length ≤ 1000000 := by
 obtain ⟨T, h⟩ := h.pq; exact h.big
set_option maxRecDepth 100000 in
set_option maxHeartbeats 4000000 in
theorem mr_mergeW {B : Nat} {w : World} {mp kb pp tp p mb : Nat} {most : Int} {L : List Ent} {id : Int} {t : List Int} {d : Int} {a b : Option Addr} {ca cb : Nat} {cs ds : List Chg} {ps qs : List PC} (NM : Nat) (hm : Me B w mp kb pp tp p mb most L) (h2 : TwoG B w L id t d a b ca cb cs ds ps qs) (hwg : ∀ g ∈ dvdG Chg.at_ Chg.n cs ds, WholeG g) :
    Calls Tryz.prog 19 #[.pointer (some ⟨mp, 0, none⟩), .int .i64 id, .slice a cs.length ca, .slice b ds.length cb] w (MgPost B w mp kb pp tp p mb most L t (dvdG PC.at_ PC.n ps qs) NM) := by
 have hlc := h2.lc
 have hlt := h2.lt
 have HWG := Lib.hid hwg
 clear hwg
 obtain ⟨hs, hhs⟩ : ∃ hs, dvdG PC.at_ PC.n ps qs = hs := ⟨_, rfl⟩
 rw [hhs]
 have HHS := Lib.hid hhs
 clear hhs
 have hmq := hm
 obtain ⟨T, kn, hq⟩ := hmq
 have CP := Lib.hid (fun W (hW : Fr0 w W) => cn_Parser (hq.kept0 hW).box)
 have CS := Lib.hid (fun W (hW : Fr0 w W) => sig_Store (hq.kept0 hW).pq)
 have hlen := h2.text.len hm.dok hm.sok
 have CW := Lib.hid (fun W (hW : Fr0 w W) => sto_Weight (hm.kept0 hW).st id h2.text.known)
 rw [← hlen] at CW
 have CB : Hid (∀ W, Fr0 w W → Calls Tryz.prog 23 #[.pointer (some ⟨p, 0, none⟩), .int .i64 id] W fun e w' => e = .returned (.tuple #[.bool true, .nilIface]) ∧ Fr0 W w') := fun W hW => by
  obtain ⟨sv, hS, _⟩ := (hm.kept0 hW).st
  have := avl_Balanced hS id h2.text.known
  rw [h2.text.even] at this
  exact this
 have CL1 : Hid (∀ W, Fr0 w W → ∃ v, Calls Tryz.prog 13 #[.pointer (some ⟨p, 0, none⟩), .int .i64 t.length, .slice a cs.length ca] W fun e w' => e = .returned (.tuple #[.int .i64 v, .nilIface]) ∧ Fr0 W w') := fun W hW => two_LengthG (hm.kept0 hW).st hm.sok hm.dok (h2.ra.kept0 hW) h2.hp h2.vp (by omega) (by omega)
 have CL2 : Hid (∀ W, Fr0 w W → ∃ v, Calls Tryz.prog 13 #[.pointer (some ⟨p, 0, none⟩), .int .i64 t.length, .slice b ds.length cb] W fun e w' => e = .returned (.tuple #[.int .i64 v, .nilIface]) ∧ Fr0 W w') := fun W hW => two_LengthG (hm.kept0 hW).st hm.sok hm.dok (h2.rb.kept0 hW) h2.hq h2.vq (by omega) (by omega)
 have CD := Lib.hid (fun W (hW : Fr0 w W) => mr_divide (h2.ra.kept0 hW) (h2.rb.kept0 hW) h2.ca h2.cb (by omega) (fun c hc => by
  rcases List.mem_append.1 hc with hc | hc
  · have := chg_bounds h2.hp h2.vp c hc; omega
  · have := chg_bounds h2.hq h2.vq c hc; omega))
 have HME := Lib.hid hm
 have HTW := Lib.hid h2
 obtain ⟨c0, c1, cf, lmp⟩ := cells2 hq.box
 generalize (entAt L id).wt = wt at *
 have HLT := Lib.hid hlt
 clear hm h2 hq hlen hlt
 go_enter Tryz.func19, Tryz.ntmps19
 go_wp2_with fail
 refine (CP.out w (Fr0.refl w)).mono ?_
 rintro e w1 ⟨rfl, rfl⟩
 go_wp2_with fail
 refine (CP.out w (Fr0.refl w)).mono ?_
 rintro e w1 ⟨rfl, rfl⟩
 go_wp2_with fail
 refine (CS.out w (Fr0.refl w)).mono ?_
 rintro e w1 ⟨rfl, rfl⟩
 go_wp2_with fail
 refine (CP.out w (Fr0.refl w)).mono ?_
 rintro e w1 ⟨rfl, rfl⟩
 go_wp2_with fail
 refine (CS.out w (Fr0.refl w)).mono ?_
 rintro e w1 ⟨rfl, rfl⟩
 go_wp2_with fail
 refine (CW.out w (Fr0.refl w)).mono ?_
 rintro e w1 ⟨rfl, f1⟩
 clear CP CS CW c0 c1 cf lmp
 go_upto_region 5 with fail
 have F2 : Fr0 w (w1.alloc (.cells #[.int .i64 t.length, .int .i64 wt.lines, .int .i64 wt.head, .int .i64 wt.tail, .int .u64 wt.val, .int .u64 wt.scale] 47 (0, 0))) := f1.alloc _
 have b2 := alloc_at w1 (.cells #[.int .i64 t.length, .int .i64 wt.lines, .int .i64 wt.head, .int .i64 wt.tail, .int .u64 wt.val, .int .u64 wt.scale] 47 (0, 0)) w1.heap.size rfl
 generalize w1.alloc (.cells #[.int .i64 t.length, .int .i64 wt.lines, .int .i64 wt.head, .int .i64 wt.tail, .int .u64 wt.val, .int .u64 wt.scale] 47 (0, 0)) = W2 at *
 generalize w1.heap.size = K at *
 have HB2 := Lib.hid b2
 have HF2 := Lib.hid F2
 clear b2 F2 f1
 go_wp2_with fail
 refine (CB.out W2 HF2.out).mono ?_
 rintro e w3 ⟨rfl, f3⟩
 have HB3 := Lib.hid (f3.kept HB2.out)
 have HF3 := Lib.hid (HF2.out.trans f3)
 clear HB2 HF2 f3 CB
 go_upto_region 13 with fail
 have F4 : Fr0 w (w3.alloc (.cells #[.slice a cs.length ca, .slice b ds.length cb] 29 (0, 0))) := HF3.out.alloc _
 have b4 := alloc_at w3 (.cells #[.slice a cs.length ca, .slice b ds.length cb] 29 (0, 0)) w3.heap.size rfl
 have b5 := ((Fr0.refl w3).alloc (.cells #[.slice a cs.length ca, .slice b ds.length cb] 29 (0, 0))).kept HB3.out
 generalize w3.alloc (.cells #[.slice a cs.length ca, .slice b ds.length cb] 29 (0, 0)) = W4 at *
 generalize w3.heap.size = Z at *
 have HB4 := Lib.hid b4
 have HB5 := Lib.hid b5
 have HF4 := Lib.hid F4
 clear b4 b5 F4 HB3 HF3
 go_loopg [65] 2 (fun gk i wr => ∃ k : Nat, k + gk = 2 ∧ i = .int .i64 k ∧ Fr0 W4 wr)
 case atStart => exact ⟨0, rfl, rfl, Fr0.refl _⟩
 case round =>
  obtain ⟨k, hk, rfl, hf⟩ := hrel
  obtain ⟨z0, z1, zf, lz⟩ := cells2 (hf.kept HB4.out)
  obtain ⟨e0, _, _, _, _, _, le, _⟩ := cells6t (hf.kept HB5.out)
  have HF := Lib.hid hf
  have hfw := Lib.hid (HF4.out.trans hf)
  clear hf
  match k, hk with
  | 0, hk =>
   obtain ⟨v, cl⟩ := CL1.out wr hfw.out
   have CL := Lib.hid cl
   clear cl CL1 CL2 CD HME HTW HB4 HB5
   go_wp2_with fail
   refine CL.out.mono ?_
   rintro e w5 ⟨rfl, f5⟩
   go_wp2_with fail
   go_roundg 1
   case measure => omega
   case rel => exact ⟨1, rfl, by go_num, HF.out.trans f5⟩
  | 1, hk =>
   obtain ⟨v, cl⟩ := CL2.out wr hfw.out
   have CL := Lib.hid cl
   clear cl CL1 CL2 CD HME HTW HB4 HB5
   go_wp2_with fail
   refine CL.out.mono ?_
   rintro e w5 ⟨rfl, f5⟩
   go_wp2_with fail
   go_roundg 0
   case measure => omega
   case rel => exact ⟨2, rfl, by go_num, HF.out.trans f5⟩
  | k + 3, hk => omega
  | 2, hk =>
   have CD2 := Lib.hid (CD.out wr hfw.out)
   clear CL1 CL2 CD HB4 HB5 z0 z1 zf lz e0 le
   go_wp2_with fail
   refine CD2.out.mono ?_
   rintro e w6 ⟨gv, zs, rfl, hdv, hzs⟩
   have F6 : Fr0 w w6 := hfw.out.trans hdv.fr
   have hhs := HHS.out
   have hG := groups_ok HTW.out.vp HTW.out.vq
   rw [hhs] at hG
   have hrel := dvdG_rel HTW.out.hp HTW.out.hq
   rw [hhs, ← hzs] at hrel
   have hlz : zs.length = hs.length := by have := hrel.len; rwa [List.length_map] at this
   have HREL : Hid (∀ i (h1 : i < zs.length) (h2 : i < hs.length), GRel L zs[i].g hs[i]) := fun i h1 h2 => by
    have := hrel.get i (by rw [List.length_map]; exact h1) h2
    rwa [List.getElem_map] at this
   have hws : w.heap.size ≤ wr.heap.size := hfw.out.size
   have HLO : Hid (∀ z ∈ zs, w.heap.size ≤ z.lo) := fun z hz => Nat.le_trans hws (hdv.all z hz).2.1
   have HGB : Hid (∀ z ∈ zs, z.gb < z.hi) := fun z hz => (hdv.all z hz).1.hi
   have HASC := Lib.hid hdv.asc
   have HWZ : Hid (∀ z ∈ zs, WholeG z.g) := fun z hz => HWG.out z.g (by rw [← hzs]; exact List.mem_map_of_mem hz)
   have hzb : zs.length ≤ 100000 := by
    have hx : ∀ (hs : List (Grp PC)), (∀ g ∈ hs, g.left ≠ [] ∨ g.right ≠ []) → hs.length ≤ (hs.flatMap Grp.left).length + (hs.flatMap Grp.right).length := by
     intro hs
     induction hs with
     | nil => intro _; simp
     | cons g r ih =>
      intro h
      have := ih (fun x hx => h x (by simp [hx]))
      simp only [List.flatMap_cons, List.length_append, List.length_cons]
      rcases h g (by simp) with h | h
      · have := List.length_pos_iff.2 h; omega
      · have := List.length_pos_iff.2 h; omega
    obtain ⟨m, G⟩ := hG.gi
    have := hx hs G.ne
    rw [hG.lefts, hG.rights] at this
    have l1 := HTW.out.hp.len
    have l2 := HTW.out.hq.len
    omega
   have H0 : Hid (MgR B w w6 w6 mp kb pp tp p mb most L 0 t gv zs hs 0 L (fun _ => (0, 0))) :=
    ⟨HME.out.kept0 F6, Kk.of0 F6, (Gu.refl HME.out.sok HME.out.dok HME.out.uq).le (Nat.zero_le _), owns_dn hdv.row hws, fun i _ _ h => absurd h (by omega), fun i h1 _ => (hdv.all _ (List.getElem_mem h1)).1⟩
   obtain ⟨va, vc, rfl⟩ := owns_form hdv.row
   have HLZ := Lib.hid hlz
   have HG := Lib.hid hG
   have HBW := HME.out.base
   clear hdv hzs hhs hrel hG CD2 F6 hlz HHS
   go_wp2_with fail
   go_loopg [86] zs.length (fun gk i wx => ∃ (k : Nat) (xs : Nat → Int × Int), k + gk = zs.length ∧ i = .int .i64 k ∧ MgR B w w6 wx mp kb pp tp p mb most L 0 t (.slice va zs.length vc) zs hs k L xs)
   case atStart => exact ⟨0, _, by omega, rfl, H0.out⟩
   case round =>
    obtain ⟨k, xs, hk2, rfl, hr⟩ := hrel
    clear H0
    by_cases hlt : k < zs.length
    · have hlt2 : k < hs.length := by have := HLZ.out; omega
      obtain ⟨b5, o5, e5, l5, _, hc5⟩ := owns_rd (vals := gpz) (size := 1) (B := 0) (fun _ _ => rfl) hr.row (by decide) (by decide) k hlt
      have c5 := hc5 0 _ rfl
      rw [Nat.mul_one, Nat.add_zero] at c5
      subst e5
      have hg := HG.out.inside hs[k] (List.getElem_mem hlt2)
      have hwz := HWZ.out zs[k] (List.getElem_mem hlt)
      have hgr := HREL.out k hlt hlt2
      have l1 := hgr.left.len
      have l2 := hgr.right.len
      have CF := Lib.hid (mr_fillW (id := id) hr.me (hr.todo k hlt (Nat.le_refl _)) (Nat.le_trans HBW (HLO.out _ (List.getElem_mem hlt))) hgr hg (by have := HLT.out; omega) hr.me.big hwz.left hwz.right (fun e1 e2 => hwz.same (fun e => e1 (List.eq_nil_of_length_eq_zero (by rw [← l1, e]; rfl))) (fun e => e2 (List.eq_nil_of_length_eq_zero (by rw [← l2, e]; rfl)))))
      have HST := Lib.hid (fun w' x y (h1 : Me B w' mp kb pp tp p mb most L) h2 h4 => hr.step (w' := w') (L2 := L) (x := x) (y := y) (n := 0) hlt hlt2 HASC.out HLO.out HGB.out h1 h2 (Gu.refl h1.sok h1.dok h1.uq) (by have := (cst_take 0 hs k hlt2).1; omega) h4)
      clear hr hg hwz hgr l1 l2 hc5
      go_wp2_with fail
      refine CF.out.mono ?_
      rintro e w7 ⟨x, y, rfl, hm7, hk7, hf7⟩
      have HX := HST.out w7 x y hm7 hk7 hf7
      clear hm7 hk7 hf7 CF HST
      go_wp2_with fail
      go_roundg (gk - 1)
      case measure => omega
      case rel => exact ⟨k + 1, _, by omega, by go_num, HX⟩
    · have hke : k = zs.length := by omega
      have HP : Hid (MgPost B w mp kb pp tp p mb most L t hs NM (.returned (.tuple #[.slice va zs.length vc, .nilIface])) wr) :=
       ⟨L, _, zs, xs, rfl, hr.me, hr.ks, (Gu.refl hr.me.sok hr.me.dok hr.me.uq).le (Nat.zero_le _), HLZ.out, hr.row, fun i h1 h2 => hr.done i h1 h2 (by omega)⟩
      clear hr hke
      go_wp2_with fail
      go_ret2
      exact HP.out
end Go.Proofs.YtgldjpldldknoaaGreatDoor
/- merge.Of of a patch with none, of none with a patch, and of a patch with itself: the patch (a text of any length). -/
set_option linter.unusedSimpArgs false
set_option linter.unusedVariables false
namespace Go.Proofs.YtgldjpldldknoaaGreatDoor
open Go.RowKit
theorem PChg.asc {L : List Ent} {cs : List Chg} {ps : List PC} (h : PChg L cs ps) (hp : ps.Pairwise fun x y => x.at_ + x.n < y.at_) : cs.Pairwise fun x y => x.at_ + x.n < y.at_ := by
 rw [List.pairwise_iff_getElem] at hp ⊢
 intro i j hi hj hij
 have hl := h.len
 obtain ⟨e1, e2, _⟩ := h.get i hi (by omega)
 obtain ⟨e3, _, _⟩ := h.get j hj (by omega)
 rw [e1, e2, e3]
 exact hp i j (by omega) (by omega) hij
theorem PChg.nn {L : List Ent} {cs : List Chg} {ps : List PC} (h : PChg L cs ps) (hp : ∀ x ∈ ps, 0 ≤ x.n) : ∀ x ∈ cs, 0 ≤ x.n := by
 intro x hx
 obtain ⟨i, hi, rfl⟩ := List.getElem_of_mem hx
 have hl := h.len
 obtain ⟨_, e2, _⟩ := h.get i hi (by omega)
 rw [e2]
 exact hp _ (List.getElem_mem _)
theorem wg_left (cs : List Chg) : ∀ g ∈ cs.map (fun c => Grp.new Chg.at_ Chg.n (c, true)), WholeG g := by
 intro g hg
 obtain ⟨c, _, rfl⟩ := List.mem_map.1 hg
 exact ⟨⟨rfl, (new_end Chg.at_ Chg.n (c, true)).symm⟩, trivial, fun _ h => absurd rfl h⟩
theorem wg_right (cs : List Chg) : ∀ g ∈ cs.map (fun c => Grp.new Chg.at_ Chg.n (c, false)), WholeG g := by
 intro g hg
 obtain ⟨c, _, rfl⟩ := List.mem_map.1 hg
 exact ⟨trivial, ⟨rfl, (new_end Chg.at_ Chg.n (c, false)).symm⟩, fun h _ => absurd rfl h⟩
theorem mw_Of {B : Nat} {w : World} {mp kb pp tp p mb : Nat} {most : Int} {L : List Ent} {id : Int} {t : List Int} {d : Int} {a b : Option Addr} {ca cb : Nat} {cs ds : List Chg} {ps qs : List PC} (hm : Me B w mp kb pp tp p mb most L) (h2 : TwoG B w L id t d a b ca cb cs ds ps qs) (hwg : ∀ g ∈ dvdG Chg.at_ Chg.n cs ds, WholeG g) {RES : List PC} (hO : mgO t (dvdG PC.at_ PC.n ps qs) = RES) (hC : mgC t (dvdG PC.at_ PC.n ps qs) = []) :
    Calls Tryz.prog 7 #[.pointer (some ⟨mp, 0, none⟩), .int .i64 id, .slice a cs.length ca, .slice b ds.length cb] w fun e w' => ∃ L' v1 v2 rs, e = .returned (.tuple #[v1, v2, .nilIface]) ∧ Me B w' mp kb pp tp p mb most L' ∧ Kk B mb kb w w' ∧ Gu L L' 0 ∧ w'.ownsRow w.heap.size 55 3 v1 rs.length (rs.flatMap Chg.vals) ∧ PChg L' rs RES ∧ ∃ va vc, v2 = .slice va 0 vc := by
 have hG := groups_ok h2.vp h2.vq
 have hcnt := hG.count
 have l1 := h2.hp.len
 have l2 := h2.hq.len
 have hlc := h2.lc
 have hlt := h2.lt
 refine (mr_Of (by omega) hG.ne (fun g hg => by have := hG.inside g hg; exact ⟨this.1, this.2.1, by have := this.2.2.1; omega⟩) (mr_mergeW 0 hm h2 hwg)).mono ?_
 rintro e w' ⟨L', v1, v2, rs, fs, rfl, h1, h3, h4, h5, h6, h7, h8⟩
 rw [hO] at h7
 rw [hC] at h8
 have hf : fs = [] := List.eq_nil_of_length_eq_zero h8.len
 subst hf
 exact ⟨L', v1, v2, rs, rfl, h1, h3, h4, h5, h7, owns_form h6⟩
theorem mw_left {B : Nat} {w : World} {L : List Ent} {id : Int} {t : List Int} {d : Int} {a b : Option Addr} {ca cb : Nat} {cs : List Chg} {ps : List PC} (h2 : TwoG B w L id t d a b ca cb cs [] ps []) :
    (∀ g ∈ dvdG Chg.at_ Chg.n cs [], WholeG g) ∧ mgO t (dvdG PC.at_ PC.n ps []) = ps ∧ mgC t (dvdG PC.at_ PC.n ps []) = [] := by
 have hp := (validP_asc h2.vp).1
 refine ⟨?_, ?_⟩
 · rw [dvdG_left Chg.at_ Chg.n (h2.hp.asc hp)]
   exact wg_left cs
 · rw [dvdG_left PC.at_ PC.n hp]
   exact mgO_single t _ ps (by simp) (fun i h1 h3 => by rw [List.getElem_map]; exact new_left t _)
theorem mw_right {B : Nat} {w : World} {L : List Ent} {id : Int} {t : List Int} {d : Int} {a b : Option Addr} {ca cb : Nat} {cs : List Chg} {ps : List PC} (h2 : TwoG B w L id t d a b ca cb [] cs [] ps) :
    (∀ g ∈ dvdG Chg.at_ Chg.n [] cs, WholeG g) ∧ mgO t (dvdG PC.at_ PC.n [] ps) = ps ∧ mgC t (dvdG PC.at_ PC.n [] ps) = [] := by
 have hp := (validP_asc h2.vq).1
 refine ⟨?_, ?_⟩
 · rw [dvdG_right Chg.at_ Chg.n (h2.hq.asc hp)]
   exact wg_right cs
 · rw [dvdG_right PC.at_ PC.n hp]
   exact mgO_single t _ ps (by simp) (fun i h1 h3 => by rw [List.getElem_map]; exact new_right t _)
theorem mw_apart {B : Nat} {w : World} {L : List Ent} {id : Int} {t : List Int} {d : Int} {a b : Option Addr} {ca cb : Nat} {cs ds : List Chg} {ps qs : List PC} (h2 : TwoG B w L id t d a b ca cb cs ds ps qs) (hpq : ∀ x ∈ ps, ∀ y ∈ qs, x.at_ + x.n < y.at_) :
    (∀ g ∈ dvdG Chg.at_ Chg.n cs ds, WholeG g) ∧ mgO t (dvdG PC.at_ PC.n ps qs) = ps ++ qs ∧ mgC t (dvdG PC.at_ PC.n ps qs) = [] := by
 obtain ⟨hp, hb⟩ := validP_asc h2.vp
 obtain ⟨hq, _⟩ := validP_asc h2.vq
 have hn : ∀ x ∈ ps, 0 ≤ x.n := fun x hx => (hb x hx).2.1
 have hpc : ∀ x ∈ cs, ∀ y ∈ ds, x.at_ + x.n < y.at_ := by
  intro x hx y hy
  obtain ⟨i, hi, rfl⟩ := List.getElem_of_mem hx
  obtain ⟨j, hj, rfl⟩ := List.getElem_of_mem hy
  have l1 := h2.hp.len
  have l2 := h2.hq.len
  obtain ⟨e1, e2, _⟩ := h2.hp.get i hi (by omega)
  obtain ⟨e3, _, _⟩ := h2.hq.get j hj (by omega)
  rw [e1, e2, e3]
  exact hpq _ (List.getElem_mem _) _ (List.getElem_mem _)
 refine ⟨?_, ?_⟩
 · rw [dvdG_apart Chg.at_ Chg.n (h2.hp.asc hp) (h2.hq.asc hq) hpc (h2.hp.nn hn)]
   intro g hg
   rcases List.mem_append.1 hg with hg | hg
   · exact wg_left cs g hg
   · exact wg_right ds g hg
 · rw [dvdG_apart PC.at_ PC.n hp hq hpq hn]
   refine mgO_single t _ (ps ++ qs) (by simp) (fun i h1 h3 => ?_)
   by_cases hi : i < ps.length
   · rw [List.getElem_append_left (by simpa using hi), List.getElem_map, List.getElem_append_left hi]
     exact new_left t _
   · rw [List.getElem_append_right (by simpa using hi), List.getElem_map, List.getElem_append_right (by omega)]
     simp only [List.length_map]
     exact new_right t _
end Go.Proofs.YtgldjpldldknoaaGreatDoor

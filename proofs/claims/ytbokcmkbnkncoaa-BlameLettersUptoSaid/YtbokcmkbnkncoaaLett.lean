/- The walk of BlameLetters. -/
import Derived.Test.YtbokcmkbnkncoaaRef2
import Derived.Test.YtbokcmkbnkncoaaRef3
import Derived.Test.YtbokcmkbnkncoaaCov2
set_option linter.unusedSimpArgs false
set_option linter.unusedVariables false
namespace Go.Proofs.Ytbokcmkbnkncoaa
open Go.RowKit

/-- A change as the reference's: with the text's length. -/
def refC (ln : Int → Int) (c : Chg) : Chg := ⟨c.at_, c.n, ln c.text⟩

theorem applyC_ref (ln : Int → Int) (ver : Int) (T : List Lt) : ∀ (cs : List Chg) (a : Int) (out : List Lt), applyC id ver T a out (cs.map (refC ln)) = applyC ln ver T a out cs
  | [], a, out => rfl
  | c :: r, a, out => by
    show applyC id ver T (c.at_ + c.n) (out ++ sl T a c.at_ ++ run (ln c.text).toNat ver ((out ++ sl T a c.at_).length : Int)) (r.map (refC ln)) = applyC ln ver T (c.at_ + c.n) _ r
    rw [applyC_ref ln ver T r]

theorem formed_ref (ln : Int → Int) (length : Int) : ∀ (cs : List Chg) (last : Int), (∀ c ∈ cs, c.text ≠ 0 → ln c.text ≠ 0) → formedFrom length last cs = true → formedFrom length last (cs.map (refC ln)) = true
  | [], last, h, hf => rfl
  | c :: r, last, h, hf => by
    unfold formedFrom at hf
    rw [Bool.and_eq_true] at hf
    obtain ⟨t1, t2, t3, t4, t5⟩ := fitB_true hf.1
    show (fitB length last (refC ln c) && formedFrom length (c.at_ + c.n) (r.map (refC ln))) = true
    rw [Bool.and_eq_true]
    refine ⟨decide_eq_true ⟨t1, t2, t3, t4, ?_⟩, formed_ref ln length r _ (fun x hx => h x (by simp [hx])) hf.2⟩
    rintro ⟨e1, e2⟩
    by_cases ht : c.text = 0
    · exact t5 ⟨e1, ht⟩
    · exact h c (by simp) ht e2

theorem sumT_le (ln : Int → Int) : ∀ (cs : List Chg), (∀ c ∈ cs, ln c.text ≤ 9) → sumT ln cs ≤ 9 * cs.length
  | [], h => by simp [sumT]
  | c :: r, h => by
    have := sumT_le ln r (fun x hx => h x (by simp [hx]))
    have := h c (by simp)
    simp only [sumT, List.length_cons]
    omega

theorem info_rchg : (Try.prog.info? 79).map (fun i => (i.zero, i.size, i.bytes)) = some (some (.agg #[.int .i64 0, .int .i64 0, .int .i64 0]), 3, 24) := by kernel_rfl

/-- What one patch of letters needs. -/
theorem step_facts {L : List Ent} (hO : SOk L) {i : Int} {T TF : List Lt} {cs : List Chg} {r : List (List Chg)} (h : ofR L i T (cs :: r) = (0, TF)) (h9 : ∀ c ∈ cs, lnL L c.text ≤ 9) :
    (∀ c ∈ cs, isKnown L c.text) ∧ formedFrom T.length (-1) (cs.map (refC (lnL L))) = true ∧ (∀ c ∈ cs.map (refC (lnL L)), 0 ≤ c.text) ∧ applyC id (i + 1) T 0 [] (cs.map (refC (lnL L))) = applyC (lnL L) (i + 1) T 0 [] cs ∧
    (applyC (lnL L) (i + 1) T 0 [] cs).length ≤ T.length + 9 * cs.length ∧ ofR L (i + 1) (applyC (lnL L) (i + 1) T 0 [] cs) r = (0, TF) := by
  have he : patchErr L T.length cs = 0 := by
    refine Classical.byContradiction fun hx => ?_
    unfold ofR at h
    rw [if_pos hx] at h
    exact hx (Prod.mk.inj h).1
  obtain ⟨hkn, hfm⟩ := patchErr_zero he
  have hln : ∀ c ∈ cs, 0 ≤ lnL L c.text := fun c hc => (hO.at _ (hkn c hc).1).1.len0
  have hle := applyC_len_eq (ver := i + 1) hfm hln
  have hs := sumT_le (lnL L) cs h9
  have hn := sumN_nn (fun c hc => (formed_nn cs _ hfm c hc).1)
  refine ⟨fun c hc => (hkn c hc).1, ?_, ?_, applyC_ref _ _ _ _ _ _, by omega, ?_⟩
  · refine formed_ref _ _ _ _ (fun c hc hne => ?_) hfm
    have := (hO.at _ (hkn c hc).1).2.2.2 hne
    show (entAt L c.text).wt.len ≠ 0
    omega
  · intro c hc
    obtain ⟨x, hx, rfl⟩ := List.mem_map.1 hc
    exact hln x hx
  · unfold ofR at h
    rw [if_neg (by simp [he])] at h
    exact h

theorem setSix {W w5 : World} {t : TypeId} {z0 z1 z2 z3 z4 z5 v0 v1 v2 v3 v4 v5 : Value} (hf : Fr0 (W.alloc (.cells #[z0, z1, z2, z3, z4, z5] t (0, 0))).drew w5) :
    Fr0 W ((((((w5.setCell ⟨W.heap.size, 0, none⟩ v0).setCell ⟨W.heap.size, 1, none⟩ v1).setCell ⟨W.heap.size, 2, none⟩ v2).setCell ⟨W.heap.size, 3, none⟩ v3).setCell ⟨W.heap.size, 4, none⟩ v4).setCell ⟨W.heap.size, 5, none⟩ v5) ∧
    ((((((w5.setCell ⟨W.heap.size, 0, none⟩ v0).setCell ⟨W.heap.size, 1, none⟩ v1).setCell ⟨W.heap.size, 2, none⟩ v2).setCell ⟨W.heap.size, 3, none⟩ v3).setCell ⟨W.heap.size, 4, none⟩ v4).setCell ⟨W.heap.size, 5, none⟩ v5).cell? ⟨W.heap.size, 0, none⟩ = some v0 := by
  have h0 : Fr0 W w5 := (((Fr0.refl W).alloc _).drew).trans hf
  have hb : w5.heap[W.heap.size]? = some (.cells #[z0, z1, z2, z3, z4, z5] t (0, 0)) := hf.kept (alloc_at W _ _ rfl)
  refine ⟨(((((h0.setCell _ _ (Nat.le_refl _)).setCell _ _ (Nat.le_refl _)).setCell _ _ (Nat.le_refl _)).setCell _ _ (Nat.le_refl _)).setCell _ _ (Nat.le_refl _)).setCell _ _ (Nat.le_refl _), ?_⟩
  rw [cell_of_block (setCell_block (setCell_block (setCell_block (setCell_block (setCell_block (setCell_block hb 0 v0) 1 v1) 2 v2) 3 v3) 4 v4) 5 v5) 0]
  rfl

theorem rowsOf_len (T : List Lt) : (rowsOf T).length ≤ T.length := by
  induction T using snoc_ind with
  | h0 => simp [rowsOf_nil]
  | h1 T l ih => rw [rowsOf_snoc]; have := addRow_len (rowsOf T) T.length 1 l.ver l.org; simp; omega

structure LRel (w wr : World) (L : List Ent) (out : List (List Chg)) (TF : List Lt) (k : Nat) (v : Value) (T : List Lt) : Prop where
  lown : LOwn w wr v T
  frame : Fr0 w wr
  fin : ofR L k T (out.drop k) = (0, TF)
  small : T.length + 9 * tot (out.drop k) ≤ 840

set_option maxRecDepth 100000 in
set_option maxHeartbeats 2000000 in
theorem letters_walk {w : World} (length version : Int) (a : Option Addr) (cap : Nat) (pss : List (List Chg)) (hp : PsAt w a pss) (ht : pss.length + tot pss ≤ 4611686018427387904) :
    Calls Try.prog 7 #[.int .i64 length, .int .i64 version, .slice a pss.length cap] w fun e w' => e = .returned (.bool true) ∧ Fr0 w w' := by
  have HP := Lib.hid hp
  by_cases h0 : length < 0
  · clear hp
    go_enter Try.func7, Try.ntmps7
    go_wp2_with fail
    go_ret
    exact ⟨rfl, Fr0.refl w⟩
  have d0 : decide (length < 0) = false := decide_eq_false h0
  by_cases h1 : 300 < length
  · clear hp h0
    go_enter Try.func7, Try.ntmps7
    go_wp2_with fail
    go_ret
    exact ⟨rfl, Fr0.refl w⟩
  have d1 : decide (300 < length) = false := decide_eq_false h1
  by_cases h2 : 60 < pss.length + tot pss
  · have CM := Lib.hid (law_many a cap pss hp ht true (by simpa using h2))
    clear hp h0 h1 h2
    go_enter Try.func7, Try.ntmps7
    go_wp2_with fail
    refine CM.out.mono ?_
    rintro e w' ⟨rfl, rfl⟩
    go_wp2_with fail
    go_ret
    exact ⟨rfl, Fr0.refl w⟩
  have CM := Lib.hid (law_many a cap pss hp ht false (by simpa using h2))
  obtain ⟨n0, rfl⟩ : ∃ n0 : Nat, length = n0 := ⟨length.toNat, by omega⟩
  clear hp ht
  go_enter Try.func7, Try.ntmps7
  go_wp2_with fail
  refine CM.out.mono ?_
  rintro e w' ⟨rfl, rfl⟩
  go_wp2_with fail
  refine (law_begun _).mono ?_
  rintro e w1 ⟨q, p, mb, ids, pw, L, rfl, hG⟩
  have f1 := hG.frame
  have CV := Lib.hid (law_valid9 hG (n0 : Int) (by omega) (by omega) a cap pss (HP.out.kept0 f1) (by omega))
  obtain ⟨sv, hS, hsv⟩ := hG.st
  have HS := Lib.hid hS
  have HSO := Lib.hid hG.sok
  obtain ⟨tv, hq, hT, htv⟩ := hG.wptr
  have HQ := Lib.hid hq
  clear hG hS hsv hq hT htv
  go_wp2_with fail
  refine CV.out.mono ?_
  rintro e w2 ⟨ov, lv, out, ls, rfl, hL, hV, hol, hto, hhd, hn9⟩
  have f2 := hL.frame
  obtain ⟨oa, ocap, rfl, hps⟩ := psAt_of_lists hL
  have hll := VOk.len out ls hV
  have hbd := VOk.bnd out ls hV
  obtain ⟨T, e1, e2, e3, e4⟩ := VOk.of HSO.out ls out ls 0 (run n0 0 0) hV (by rw [run_len]; exact hhd) (fun j => by rw [Nat.zero_add]) (LV.start hhd)
  have hws := wsum_le out
  have e1' : ofR L 0 (run n0 0 0) out = (0, T) := e1
  have hq2 := f2.kept HQ.out
  obtain ⟨c0, c1, c2, cf, cl⟩ := cells3 hq2
  have hlens := hL.lens
  have hTm : (T.length : Int) ∈ ls := List.mem_of_getLast? e4
  have hTl := (hbd _ hTm).2
  have f2' := Lib.hid f2
  have HPS2 := Lib.hid hps
  have HN9 := Lib.hid hn9
  have HCS := Lib.hid (fun W (hW : Fr0 w2 W) (hv0 : 0 ≤ version) (hv1 : version ≤ out.length) => bl_Since (HS.out.kept0 (f2.trans hW)) HSO.out (n0 : Int) n0 rfl (by omega) oa ocap out (hps.kept0 hW) e2 (by omega) (by omega) T e1' hTl version hv0 hv1)
  have HE1 := Lib.hid e1'
  have HQ2 := Lib.hid hq2
  have CST := Lib.hid (fun W => ref_Start (n0 : Int) n0 (by simp) (by omega) W)
  have hto60 : out.length + tot out ≤ 60 := by omega
  obtain ⟨i1, hi1, ha1, ha2, ha3⟩ := info_parts info_rchg
  have hu1 : Try.prog.underlying 32 = some (.slice 79) := Try.underlying32
  clear hol hL hV hto hhd hps hll hbd e1 e2 e3 e4 hws e1' hq2 CV CM hTm hlens hn9 c0 c1 c2 cf cl
  go_wp2_with fail
  refine (CST.out _).mono ?_
  rintro e w3 ⟨tv, rfl, hL3, f3⟩
  have hn0 : n0 ≤ 300 := by omega
  have H0 : Hid (LRel w2 w3 L out T 0 tv (run n0 0 0)) := ⟨hL3, f3, HE1.out, by rw [run_len, List.drop_zero]; omega⟩
  clear hL3 CST
  go_wp2_with fail
  go_loopg [11, 51] out.length (fun gk v i wr => ∃ (k : Nat) (Tk : List Lt), k + gk = out.length ∧ i = .int .i64 k ∧ (∃ a cap, v = .slice a Tk.length cap) ∧ LRel w2 wr L out T k v Tk)
  case atStart => exact ⟨0, run n0 0 0, by omega, rfl, owns_form H0.out.lown.own, H0.out⟩
  case round =>
    clear H0
    obtain ⟨k, Tk, hk, rfl, ⟨ta, tcap, rfl⟩, hP⟩ := hrel
    have hgk : gk + k = out.length := by omega
    clear hk
    have hfr := hP.frame
    have HP := Lib.hid hP
    by_cases hlt : k < out.length
    · obtain ⟨b, off, ai, ci, hab, lb, d0, hcs⟩ := (HPS2.out.kept0 hfr) k hlt
      have hfin := hP.fin
      have hsm := hP.small
      rw [List.drop_eq_getElem_cons hlt] at hfin hsm
      have hsf := step_facts HSO.out hfin (HN9.out out[k] (List.getElem_mem _))
      have hcl : out[k].length ≤ 60 := by have := tot_mem (List.getElem_mem hlt); omega
      simp only [tot] at hsm
      subst hab
      have HCSK := Lib.hid hcs
      have HSF := Lib.hid hsf
      clear hP hfin hsf hcs
      generalize out[k] = cs at *
      go_wp2_with fail
      obtain ⟨ws, rfl⟩ : ∃ ws : World, ws = wr := ⟨_, rfl⟩
      go_loopg [14, 58] cs.length (fun gk v i wx => ∃ (j : Nat) (M : List Chg), j + gk = cs.length ∧ i = .int .i64 j ∧ Hid (M = (cs.take j).map (refC (lnL L))) ∧ M.length ≤ 60 ∧ (∃ a cap, v = .slice a M.length cap) ∧ wx.ownsRow 0 79 3 v M.length (chgCells M) ∧ (∀ x, v.ownBlock = some x → ws.heap.size ≤ x) ∧ Fr0 ws wx)
      case atStart => exact ⟨0, [], by omega, rfl, rfl, by simp, ⟨none, 0, rfl⟩, World.ownsRow_nil _ _ _ _, fun x hx => by simp [Value.ownBlock] at hx, Fr0.refl _⟩
      case round =>
        obtain ⟨j, M, hj, rfl, HM, hM60, ⟨ma, mcap, rfl⟩, hMo, hMn, hf2⟩ := hrel
        have hgj : gk + j = cs.length := by omega
        clear hj
        by_cases hltj : j < cs.length
        · obtain ⟨b2, off2, hab2, lb2, x0, x1, x2⟩ := (HCSK.out.kept0 hf2) j hltj
          subst hab2
          have hkn := HSF.out.1 cs[j] (List.getElem_mem _)
          have HM2 : Hid (M ++ [refC (lnL L) cs[j]] = (cs.take (j + 1)).map (refC (lnL L))) := by show _ = _; rw [List.take_succ_eq_append_getElem hltj, List.map_append, ← HM.out]; rfl
          have hMl : M.length = j := by rw [HM.out]; simp; omega
          have HML : Hid (M.length + 1 ≤ 60) := by show _ ≤ _; omega
          generalize cs[j] = c at *
          have CW := Lib.hid (fun W (hW : Fr0 wr W) => st_Weight (HS.out.kept0 (f2'.out.trans (hfr.trans (hf2.trans hW)))) c.text hkn)
          obtain ⟨W1, hW1⟩ : ∃ W1, wr.alloc (.cells #[.int .i64 c.at_, .int .i64 c.n, .int .i64 c.text] 71 (0, 0)) = W1 := ⟨_, rfl⟩
          have hf1 : Fr0 wr W1 := by rw [← hW1]; exact (Fr0.refl _).alloc _
          have hcb : W1.heap[wr.heap.size]? = some (.cells #[.int .i64 c.at_, .int .i64 c.n, .int .i64 c.text] 71 (0, 0)) := by rw [← hW1]; exact alloc_at _ _ _ rfl
          obtain ⟨y0, y1, y2, yf, yl⟩ := cells3 hcb
          have hqw := ((hfr.trans hf2).trans hf1).kept HQ2.out
          obtain ⟨q0, q1, q2, qf, ql⟩ := cells3 hqw
          have HMo := Lib.hid hMo
          have HMn := Lib.hid hMn
          have HF1 := Lib.hid hf1
          clear hcb hqw hMo hMn hMl hkn
          go_upto_region 15 with fail
          try rw [hW1]
          clear hW1
          generalize wr.heap.size = sc at *
          go_cut [17] (fun s wx => ∃ D : Nat, s = .pointer (some ⟨D, 0, none⟩) ∧ Fr0 W1 wx ∧ wx.cell? ⟨D, 0, none⟩ = some (.int .i64 (lnL L c.text)))
          case first =>
            go_region_with (go_at_call 23; refine (CW.out _ ?_).mono ?_; (first | exact HF1.out.drew | exact HF1.out.drew.alloc _ | exact (HF1.out.alloc _).drew); rintro e w5 ⟨rfl, hf5⟩; obtain ⟨hcc, hcf⟩ := hf5.cells)
            all_goals (go_wp2_with fail; go_meet; first | exact ⟨_, rfl, ((Fr0.refl W1).drew.trans hf5).alloc _, by rw [cell_of_block (alloc_at _ _ _ rfl)]; rfl⟩ | exact ⟨_, rfl, setSix hf5⟩)
          case rest =>
            obtain ⟨D, rfl, hf3, hD⟩ := hcut
            have y0' := (hf3.cell sc 0 yl).trans y0
            have y1' := (hf3.cell sc 1 yl).trans y1
            have hMo := hf3.owns (HF1.out.owns HMo.out)
            have hn63 : M.length + 1 ≤ maxLen := by unfold maxLen; have := HML.out; omega
            have hby : (M.length + 1) * 24 ≤ 140737488355328 := by have := HML.out; omega
            have f5 := (hf2.trans HF1.out).trans hf3
            have hMv : ∀ x, (Value.slice ma M.length mcap).ownBlock = some x → ws.heap.size ≤ x := HMn.out
            have HMV := Lib.hid hMv
            have HF5 := Lib.hid f5
            clear y0 y1 y2 yf q0 q1 q2 qf CW f5 hMv
            generalize hlen : lnL L c.text = cl at *
            have HLEN := Lib.hid hlen
            clear hlen
            go_wp2_with (at_builtin; refine wpList_append_lies _ rfl _ _ _ rfl 0 79 i1 _ 3 24 hu1 hi1 ha1 ha2 ha3 rfl (by omega) (.slice ma M.length mcap) M.length (chgCells M) rfl (hMo.alloc _) ⟨wc.heap.size, 0, none⟩ 1 1 [.int .i64 c.at_, .int .i64 c.n, .int .i64 cl] rfl rfl (World.news_of_block (cs := #[.int .i64 c.at_, .int .i64 c.n, .int .i64 cl]) (t := 79) (fr := (0, 0)) (heap_alloc_new wc _)) (by simp [Value.oneCell']) (by omega) hn63 hby (by omega) (wc.heap.size + 1) (by simp) ?_; intro g cap' w6 hown6 hgrow6 hat6 hlt6)
            have hfr6 : Fr0 ws w6 := Fr.grown (Fr.alloc HF5.out _) hgrow6 (fun j hj hlt => by have := HMV.out j hj; omega)
            have hnew6 : ∀ x, (Value.slice (some ⟨g, 0, none⟩) (M.length + 1) cap').ownBlock = some x → ws.heap.size ≤ x := by
              intro x hx
              simp [Value.ownBlock] at hx
              subst hx
              have := HF5.out.size'
              rcases hat6 with e | e
              · exact HMV.out _ e
              · omega
            have hown7 : w6.ownsRow 0 79 3 (.slice (some ⟨g, 0, none⟩) (M.length + 1) cap') (M ++ [refC (lnL L) c]).length (chgCells (M ++ [refC (lnL L) c])) := by
              have e : chgCells (M ++ [refC (lnL L) c]) = chgCells M ++ [.int .i64 c.at_, .int .i64 c.n, .int .i64 cl] := by rw [← HLEN.out]; simp [chgCells, Chg.vals, refC]
              rw [e, List.length_append]
              exact hown6
            go_roundg (gk - 1)
            case measure => omega
            case rel => exact ⟨j + 1, M ++ [refC (lnL L) c], by omega, by go_num, HM2, by have := HML.out; simp; omega, ⟨some ⟨g, 0, none⟩, cap', by simp⟩, hown7, hnew6, hfr6⟩
        · have HM3 : Hid (M = cs.map (refC (lnL L))) := by show _ = _; have := HM.out; rw [List.take_of_length_le (by omega)] at this; exact this
          have hTo := hf2.owns HP.out.lown.own
          have hF := HSF.out.2.2.2.1
          rw [← HM3.out] at hF
          have hFle := HSF.out.2.2.2.2.1
          have CA := Lib.hid (ref_Apply _ Tk hTo ma mcap M (chgsAt_of_owns hMo).2 ((k : Int) + 1) (by rw [HM3.out]; exact HSF.out.2.1) (by rw [HM3.out]; exact HSF.out.2.2.1) _ hF (by omega) (by omega) (by omega))
          have HNXT := Lib.hid HSF.out.2.2.2.2.2
          generalize applyC (lnL L) ((k : Int) + 1) Tk 0 [] cs = F at *
          clear hMo hTo hF hMn HSF HM3 HM HCSK
          go_wp2_with fail
          refine CA.out.mono ?_
          rintro e w5 ⟨v5, rfl, hL5, f5⟩
          obtain ⟨va, vcap, hv5⟩ := owns_form hL5.own
          subst hv5
          have HL5 := Lib.hid hL5
          clear hL5 CA
          go_wp2_with fail
          go_roundg (out.length - k - 1)
          case measure => omega
          case rel => exact ⟨k + 1, F, by omega, by go_num, ⟨_, _, rfl⟩, ⟨⟨HL5.out.own, fun x hx => by have := HL5.out.new x hx; have := (hfr.trans hf2).size'; omega⟩, (hfr.trans hf2).trans f5, HNXT.out, by omega⟩⟩
    · have hTT : Hid (Tk = T) := by
        have := hP.fin
        rw [List.drop_of_length_le (by omega)] at this
        exact (Prod.mk.inj this).2
      by_cases hver : version < 0 ∨ (out.length : Int) < version
      · clear hP HCS
        by_cases hv0 : version < 0
        · clear hver
          go_wp2_with fail
          go_ret
          exact ⟨rfl, (f1.trans f2'.out).trans hfr⟩
        · have d2 : decide (version < 0) = false := decide_eq_false hv0
          have d3 : decide ((out.length : Int) < version) = true := decide_eq_true (by omega)
          clear hver
          go_wp2_with fail
          go_ret
          exact ⟨rfl, (f1.trans f2'.out).trans hfr⟩
      · have CS := Lib.hid (HCS.out wr hfr (by omega) (by omega))
        have d2 : decide (version < 0) = false := decide_eq_false (by omega)
        have d3 : decide ((out.length : Int) < version) = false := decide_eq_false (by omega)
        have CR := Lib.hid (fun W (hW : Fr0 wr W) => ref_Since _ Tk (hP.lown.kept0 hW) (by have := hP.small; omega) version)
        obtain ⟨l, hl⟩ : ∃ l, sinceR version (rowsOf T) = l := ⟨_, rfl⟩
        have hl2 : sinceF version 0 [] Tk = l := by rw [sinceF_eq, hTT.out]; exact hl
        rw [hl] at CS
        rw [hl2] at CR
        have hl9 : l.length ≤ 1000000 := by
          have k1 := sinceR_len version (rowsOf T) (rowsOf T).length (Nat.le_refl _)
          rw [List.take_length] at k1
          have k2 := rowsOf_len T
          have k3 := hP.small
          have k4 : Tk.length = T.length := by rw [hTT.out]
          rw [← hl]
          omega
        obtain ⟨q0, q1, q2, qf, ql⟩ := cells3 (hfr.kept HQ2.out)
        clear hl hl2 hP HCS hver hTT
        go_wp2_with fail
        refine CS.out.mono ?_
        rintro e w4 ⟨lv4, rfl, f4, hlo, hln⟩
        obtain ⟨la, lcap, hlv⟩ := owns_form hlo
        subst hlv
        have HLO := Lib.hid hlo
        clear hlo hln CS
        go_wp2_with fail
        refine (CR.out _ f4).mono ?_
        rintro e w5 ⟨rv5, rfl, hro, f5⟩
        obtain ⟨ra, rcap, hrv⟩ := owns_form hro
        subst hrv
        have HA := Lib.hid (f5.owns HLO.out)
        have HB := Lib.hid hro
        clear hro CR HLO
        go_wp2_with fail
        clear d2 d3
        go_loopw [122] (fun i wx => ∃ (k : Nat), k ≤ l.length ∧ i = .int .i64 k ∧ Fr0 w5 wx) (fun i _ => l.length - (intOf i).toNat)
        case atStart => exact ⟨0, Nat.zero_le _, rfl, Fr0.refl _⟩
        case round =>
          obtain ⟨k, hk, rfl, hf6⟩ := hrel
          by_cases hltk : k < l.length
          · obtain ⟨b1, k1, e1, y1⟩ := owned_sp (hf6.owns HA.out) (List.getElem?_eq_getElem hltk)
            obtain ⟨b2, k2, e2, y2⟩ := owned_spE (hf6.owns HB.out) (List.getElem?_eq_getElem hltk)
            simp only [Value.slice.injEq] at e1 e2
            obtain ⟨rfl, _, rfl⟩ := e1
            obtain ⟨rfl, _, rfl⟩ := e2
            have y10 := y1 0 _ rfl
            have y11 := y1 1 _ rfl
            have y20 := y2 0 _ rfl
            have y21 := y2 1 _ rfl
            rw [Nat.add_zero] at y10 y20
            have l1 := World.block_lt_of_cell? _ _ y10
            have l2 := World.block_lt_of_cell? _ _ y20
            clear y1 y2
            generalize l[k] = s at *
            have z1 : (s.fr != s.fr) = false := by simp
            have z2 : (s.n != s.n) = false := by simp
            go_upto_region 29 with fail
            go_quiet (fail)
            clear z1 z2
            go_wp2_with fail
            go_roundw
            case rel => exact ⟨k + 1, by omega, by go_num, (hf6.alloc _).drewN _⟩
            case measure => simp [intOf]; omega
          · go_wp2_with fail
            go_ret
            exact ⟨rfl, ((((f1.trans f2'.out).trans hfr).trans f4).trans f5).trans hf6⟩

end Go.Proofs.Ytbokcmkbnkncoaa

/- The walk of BlameRows. -/
import Derived.Test.YtbokcmkbnkncoaaRow3
set_option linter.unusedSimpArgs false
set_option linter.unusedVariables false
namespace Go.Proofs.Ytbokcmkbnkncoaa
open Go.RowKit

theorem rowsOf_len' (T : List Lt) : (rowsOf T).length ≤ T.length := by
  induction T using snoc_ind with
  | h0 => simp [rowsOf_nil]
  | h1 T l ih => rw [rowsOf_snoc]; have := addRow_len (rowsOf T) T.length 1 l.ver l.org; simp; omega

set_option maxRecDepth 100000 in
set_option maxHeartbeats 4000000 in
theorem rows_walk {w : World} (length : Int) (a : Option Addr) (cap : Nat) (pss : List (List Chg)) (hp : PsAt w a pss) (ht : pss.length + tot pss ≤ 4611686018427387904) :
    Calls Try.prog 3 #[.int .i64 length, .slice a pss.length cap] w fun e w' => e = .returned (.bool true) ∧ Fr0 w w' := by
  have HP := Lib.hid hp
  by_cases h1 : 300 < length
  · clear hp
    go_enter Try.func3, Try.ntmps3
    go_wp2_with fail
    go_ret
    exact ⟨rfl, Fr0.refl w⟩
  have d1 : decide (300 < length) = false := decide_eq_false h1
  by_cases h2 : 60 < pss.length + tot pss
  · have CM := Lib.hid (law_many a cap pss hp ht true (by simpa using h2))
    clear hp h1 h2
    go_enter Try.func3, Try.ntmps3
    go_wp2_with fail
    refine CM.out.mono ?_
    rintro e w' ⟨rfl, rfl⟩
    go_wp2_with fail
    go_ret
    exact ⟨rfl, Fr0.refl w⟩
  have CM := Lib.hid (law_many a cap pss hp ht false (by simpa using h2))
  obtain ⟨i1, hi1, ha1, ha2, ha3⟩ := info_parts info_chgs
  have hu1 : Try.prog.underlying 29 = some (.slice 31) := Try.underlying29
  clear hp ht
  go_enter Try.func3, Try.ntmps3
  go_wp2_with fail
  refine CM.out.mono ?_
  rintro e w' ⟨rfl, rfl⟩
  go_wp2_with fail
  refine (law_begun _).mono ?_
  rintro e w1 ⟨q, p, mb, ids, pw, L, rfl, hG⟩
  have f1 := hG.frame
  obtain ⟨OUT, hOUT⟩ : ∃ OUT, (pss.map fun cs => cs.map (outC ids pw)) = OUT := ⟨_, rfl⟩
  have hOl : OUT.length = pss.length := by rw [← hOUT]; simp
  have hOt : tot OUT = tot pss := by rw [← hOUT]; exact tot_map _ _
  obtain ⟨R, hR⟩ : ∃ R : Int × List Lt, R = if length < 0 then (1, []) else ofR L 0 (run length.toNat 0 0) OUT := ⟨_, rfl⟩
  obtain ⟨sv, hS, hsv⟩ := hG.st
  have h9 : ∀ cs ∈ OUT, ∀ c ∈ cs, isKnown L c.text → (entAt L c.text).even = true → lnL L c.text ≤ 9 := by
    rw [← hOUT]
    intro cs hcs
    obtain ⟨x, _, rfl⟩ := List.mem_map.1 hcs
    exact outC_nine hG.ids hG.len hG.power x
  have HCO : Hid (∀ W oa oc, Fr0 w1 W → PsAt W oa OUT → Calls Try.prog 15 #[.pointer (some ⟨p, 0, none⟩), .int .i64 length, .slice oa OUT.length oc] W (OfPost W R)) := by
    intro W oa oc hW hps
    rw [hR]
    by_cases hn : length < 0
    · rw [if_pos hn]
      refine (bl_Of_range p length _ W (.inl hn)).mono ?_
      rintro e w' ⟨rfl, rfl⟩
      exact ⟨Fr0.refl _, .inl ⟨by simp, rfl⟩⟩
    · rw [if_neg hn]
      exact bl_Of (hS.kept0 hW) hG.sok length length.toNat (by omega) (by omega) oa oc OUT hps (ofB_small hG.sok OUT 0 _ h9 (by rw [run_len]; omega)) (by rw [wsum_le]; omega) (by omega)
  have CST := Lib.hid (fun W => ref_Start length length.toNat rfl (by omega) W)
  have HG := Lib.hid hG
  have HQ := Lib.hid hG.wptr
  have HOUT := Lib.hid hOUT
  have HRR := Lib.hid hR
  have HOL := Lib.hid hOl
  have hOt60 : pss.length + tot OUT ≤ 60 := by omega
  have hp60 : pss.length ≤ 60 := by omega
  clear hG hS hsv h9 hOUT hR hOl hOt CM
  obtain ⟨b0, hb0⟩ : ∃ b0 : Int, b0 = if length < 0 then 1 else 0 := ⟨_, rfl⟩
  have HB0 := Lib.hid hb0
  clear hb0
  go_upto_if 33 with (fail)
  go_cut [7] (fun s wx => s = .int .i64 b0 ∧ wx = w1)
  case first =>
    by_cases hn : length < 0
    · have HBB : Hid (b0 = 1) := by show _ = _; rw [HB0.out, if_pos hn]
      go_wp2_with fail
      go_meet
      exact ⟨by rw [HBB.out], rfl⟩
    · have HBB : Hid (b0 = 0) := by show _ = _; rw [HB0.out, if_neg hn]
      go_wp2_with fail
      go_meet
      exact ⟨by rw [HBB.out], rfl⟩
  case rest =>
    obtain ⟨rfl, rfl⟩ := hcut
    go_wp2_with fail
    refine (CST.out _).mono ?_
    rintro e w3 ⟨tv, rfl, hL3, f3⟩
    have H0 : Hid (BRel wc w3 L R OUT 0 b0 tv (.slice none 0 0) (run length.toNat 0 0)) := by
      refine ⟨f3, hL3, ⟨⟨[], World.ownsRow_nil _ _ _ _, fun i hi => by simp at hi⟩, fun k hk => by simp [Value.ownBlock] at hk⟩, LOk.run (by omega) (by unfold BB; omega), by rw [run_len]; omega, ?_⟩
      by_cases hn : length < 0
      · have := HRR.out
        rw [if_pos hn] at this
        exact .inr ⟨by rw [HB0.out, if_pos hn]; decide, by rw [this, HB0.out, if_pos hn]⟩
      · have := HRR.out
        rw [if_neg hn] at this
        exact .inl ⟨by rw [HB0.out, if_neg hn], this.symm, by rw [run_len, List.drop_zero]; omega⟩
    clear hL3 CST HB0 HRR
    go_wp2_with fail
    go_loopg [7, 8, 9, 38] pss.length (fun gk b t o i wr => ∃ (k : Nat) (bn : Int) (T : List Lt), k + gk = pss.length ∧ i = .int .i64 k ∧ b = .int .i64 bn ∧ (∃ a cap, t = .slice a T.length cap) ∧ (∃ a cap, o = .slice a k cap) ∧ BRel wc wr L R OUT k bn t o T)
    case atStart => exact ⟨0, b0, run length.toNat 0 0, by omega, rfl, rfl, owns_form H0.out.lt.own, ⟨none, 0, rfl⟩, H0.out⟩
    case round =>
      clear H0
      obtain ⟨k, bn, T, hk, rfl, rfl, ⟨ta, tcap, rfl⟩, ⟨oa, ocap, rfl⟩, hP⟩ := hrel
      have hgk : gk + k = pss.length := by omega
      clear hk
      have hfr := hP.frame
      have hsm := hP.small
      have HB := Lib.hid hP
      by_cases hlt : k < pss.length
      · obtain ⟨b, off, ai, ci, hab, lb, d0, hcs⟩ := (HP.out.kept0 (f1.trans hfr)) k hlt
        subst hab
        have hkO : k < OUT.length := by have := HOL.out; omega
        have hOk : OUT[k] = pss[k].map (outC ids pw) := by simp only [← HOUT.out, List.getElem_map]
        have hdr : OUT.drop k = pss[k].map (outC ids pw) :: OUT.drop (k + 1) := by rw [List.drop_eq_getElem_cons hkO, hOk]
        have htk : OUT.take (k + 1) = OUT.take k ++ [pss[k].map (outC ids pw)] := by rw [List.take_succ_eq_append_getElem hkO, hOk]
        have hcl : pss[k].length ≤ 60 := by have := tot_mem (List.getElem_mem hkO); rw [hOk, List.length_map] at this; omega
        have HST : Hid ((bn = 0 ∧ ofR L k T (pss[k].map (outC ids pw) :: OUT.drop (k + 1)) = R ∧ T.length + 9 * pss[k].length + 9 * tot (OUT.drop (k + 1)) ≤ 840) ∨ (bn ≠ 0 ∧ R.1 = bn)) := by
          rcases hP.st with ⟨x1, x2, x3⟩ | x
          · rw [hdr] at x2 x3
            simp only [tot, List.length_map] at x3
            exact .inl ⟨x1, x2, by omega⟩
          · exact .inr x
        have htl : (OUT.take k).length = k := by rw [List.length_take]; omega
        have CP := Lib.hid (law_patch (HG.out.kept0 hfr) ai ci pss[k] hcs hcl)
        have HTK := Lib.hid htk
        have HTL := Lib.hid htl
        clear hcs hkO hOk hdr htk htl hP
        generalize pss[k] = cs at *
        go_wp2_with fail
        refine CP.out.mono ?_
        rintro e w4 ⟨ov, ma, mcap, M, rfl, f4, hOo, hMo, hMe⟩
        obtain ⟨xa, xc, hov⟩ := owns_form hOo.own
        rw [List.length_map] at hov
        have HMe := Lib.hid hMe
        have houts := HB.out.outs.kept0 f4
        obtain ⟨vs, hvs, hin⟩ := houts.own
        have f14 := hfr.trans f4
        have HPU := Lib.hid (fun (w5 : World) (o1 : Obj) (g1 c1 : Nat) hg1 hw1 ha1 => houts.push (w1 := w5) (o1 := o1) (g1 := g1) (c1 := c1) f14 hvs hin hOo.own hg1 hw1 ha1)
        have HLT := Lib.hid (HB.out.lt.kept0 f4)
        have HMO := Lib.hid hMo
        have HAT := Lib.hid (fun k hk => owns_apart HLT.out.own hvs (by decide) k hk)
        have HAM := Lib.hid (fun k hk => owns_apart hMo.own hvs (by decide) k hk)
        subst hov
        rw [HTL.out] at hvs HPU
        have hn63 : k + 1 ≤ maxLen := by unfold maxLen; omega
        have hby : (k + 1) * 24 ≤ 140737488355328 := by omega
        generalize hcd : codeF cs = cd at *
        have HCD := Lib.hid hcd
        clear hcd hMe hOo hMo houts hin CP
        go_upto_region 16 with (at_builtin; refine wpList_append_lies _ rfl _ _ _ rfl 0 31 i1 _ 1 24 hu1 hi1 ha1 ha2 ha3 rfl (by omega) (.slice oa k ocap) k vs rfl (hvs.alloc _) ⟨w4.heap.size, 0, none⟩ 1 1 [.slice xa cs.length xc] rfl rfl (World.news_of_block (cs := #[.slice xa cs.length xc]) (t := 31) (fr := (0, 0)) (heap_alloc_new w4 _)) (by simp [Value.oneCell']) (by omega) hn63 hby (by omega) (w4.heap.size + 1) (by simp) ?_; intro g cap' w5 hown5 hgrow5 hat5 hlt5)
        obtain ⟨hO5, f5⟩ := HPU.out w5 _ g cap' hgrow5 hown5 (by simpa [Value.ownBlock] using hat5)
        rw [← HTK.out] at hO5
        have hLT5 := owns_grown hgrow5 (HLT.out.own.alloc _) HAT.out
        have hM5 := owns_grown hgrow5 (HMO.out.own.alloc _) HAM.out
        have HO5 := Lib.hid hO5
        have HLT5 : Hid (LOwn wc w5 (.slice ta T.length tcap) T) := ⟨hLT5, HLT.out.new⟩
        have HM5 := Lib.hid (chgsAt_of_owns hM5).2
        clear hO5 hLT5 hM5 hown5 hgrow5 hat5 hvs HPU HLT HMO HAT HAM d0
        have HLK := Lib.hid HB.out.lok
        rcases HST.out with ⟨hb, hof, hsm2⟩ | ⟨hb, hof⟩
        · subst hb
          have hstep := row_step HG.out.ids HG.out.len HG.out.power HG.out.sok hof HLK.out (by omega)
          rw [HCD.out] at hstep
          obtain ⟨s1, s2, s3⟩ := hstep
          by_cases hc : cd = 0
          · have hc0 : (cd == 0) = true := by simpa using hc
            have HMM := Lib.hid (HMe.out (by rw [hc]))
            cases hfm : formedFrom T.length (-1) (cs.map modC) with
            | false =>
              have HR4 := Lib.hid (s2 hc hfm)
              have CF := Lib.hid (ref_Formed (T.length : Int) (by omega) (by omega) ma mcap M HM5.out (by rw [HMM.out, List.length_map]; omega) false (by rw [HMM.out]; exact hfm))
              clear s1 s2 s3 hfm hof hc
              go_wp2_with fail
              refine CF.out.mono ?_
              rintro e w6 ⟨rfl, f6⟩
              go_wp2_with fail
              go_roundg (gk - 1)
              case measure => omega
              case rel => exact ⟨k + 1, 4, T, by omega, by go_num, rfl, ⟨_, _, rfl⟩, ⟨_, _, rfl⟩, ⟨f5.trans f6, HLT5.out.kept0 f6, HO5.out.kept0 f6, HLK.out, hsm, .inr ⟨by decide, HR4.out⟩⟩⟩
            | true =>
              obtain ⟨q1, q2, q3, q4⟩ := s3 hc hfm
              have CF := Lib.hid (ref_Formed (T.length : Int) (by omega) (by omega) ma mcap M HM5.out (by rw [HMM.out, List.length_map]; omega) true (by rw [HMM.out]; exact hfm))
              have CA := Lib.hid (fun W (hW : Fr0 w5 W) => ref_Apply _ T (hW.owns HLT5.out.own) ma mcap M (HM5.out.kept0 hW) ((k : Int) + 1) (by rw [HMM.out]; exact hfm) (by rw [HMM.out]; intro c hc; obtain ⟨x, _, rfl⟩ := List.mem_map.1 hc; show (0 : Int) ≤ (pk x.text : Int); omega) (applyC (lnL L) ((k : Int) + 1) T 0 [] (cs.map (outC ids pw))) (by rw [HMM.out]; exact q1) (by omega) (by omega) (by rw [HMM.out, List.length_map]; omega))
              have HQ3 := Lib.hid q3
              have HQ4 := Lib.hid q4
              clear s1 s2 s3 hfm hof q1 q3 q4
              generalize applyC (lnL L) ((k : Int) + 1) T 0 [] (cs.map (outC ids pw)) = F at *
              have hc1 : Hid (cd = 0) := hc
              clear hc
              go_wp2_with fail
              refine CF.out.mono ?_
              rintro e w6 ⟨rfl, f6⟩
              go_wp2_with fail
              refine (CA.out _ f6).mono ?_
              rintro e w7 ⟨v7, rfl, hL7, f7⟩
              obtain ⟨va, vcap, hv7⟩ := owns_form hL7.own
              subst hv7
              have HL7 := Lib.hid hL7
              clear hL7 CA CF
              go_wp2_with fail
              go_roundg (gk - 1)
              case measure => omega
              case rel => exact ⟨k + 1, cd, F, by omega, by go_num, rfl, ⟨_, _, rfl⟩, ⟨_, _, rfl⟩, ⟨(f5.trans f6).trans f7, ⟨HL7.out.own, fun x hx => by have := HL7.out.new x hx; have := (f5.trans f6).size'; omega⟩, HO5.out.kept0 (f6.trans f7), HQ3.out, by omega, .inl ⟨hc1.out, HQ4.out, by omega⟩⟩⟩
          · have hc0 : (cd == 0) = false := by simpa using hc
            have HR1 := Lib.hid (s1 hc)
            have HCN : Hid (cd ≠ 0) := hc
            clear s1 s2 s3 hof hc
            go_wp2_with fail
            go_roundg (gk - 1)
            case measure => omega
            case rel => exact ⟨k + 1, cd, T, by omega, by go_num, rfl, ⟨_, _, rfl⟩, ⟨_, _, rfl⟩, ⟨f5, HLT5.out, HO5.out, HLK.out, hsm, .inr ⟨HCN.out, HR1.out⟩⟩⟩
        · have hb0 : (bn == 0) = false := by simpa using hb
          have HBN : Hid (bn ≠ 0 ∧ R.1 = bn) := ⟨hb, hof⟩
          clear hb hof
          go_wp2_with fail
          go_roundg (gk - 1)
          case measure => omega
          case rel => exact ⟨k + 1, bn, T, by omega, by go_num, rfl, ⟨_, _, rfl⟩, ⟨_, _, rfl⟩, ⟨f5, HLT5.out, HO5.out, HLK.out, hsm, .inr HBN.out⟩⟩
      · have htk : OUT.take k = OUT := List.take_of_length_le (by have := HOL.out; omega)
        have houts := hP.outs
        rw [htk] at houts
        obtain ⟨oa', oc', ho, hps⟩ := psAt_of_outs houts
        have hko : OUT.length = k := by have := HOL.out; omega
        rw [hko] at ho
        simp only [Value.slice.injEq] at ho
        obtain ⟨rfl, _, rfl⟩ := ho
        have CO := Lib.hid (HCO.out wr oa ocap hfr hps)
        rw [hko] at CO
        obtain ⟨wtv, hq, _, _⟩ := HQ.out
        obtain ⟨c0, c1, c2, cf, cl⟩ := cells3 (hfr.kept hq)
        have HLT := Lib.hid hP.lt
        have HLK := Lib.hid hP.lok
        rcases hP.st with ⟨hb, hof, _⟩ | ⟨hb, hof⟩
        · have hRT : R = (0, T) := by rw [List.drop_of_length_le (by omega)] at hof; exact hof.symm
          rw [hRT] at CO
          subst hb
          have CR := Lib.hid (fun W (hW : Fr0 wr W) => ref_Rows _ T (HLT.out.kept0 hW) (by omega) HLK.out)
          have hrl := rowsOf_len' T
          obtain ⟨rs, hrs⟩ : ∃ rs, rowsOf T = rs := ⟨_, rfl⟩
          simp only [hrs] at CR hrl
          clear hP htk houts hps hko hof hRT hq
          go_wp2_with fail
          refine CO.out.mono ?_
          rintro e w4 ⟨f4, hO4⟩
          rcases hO4 with ⟨hbad, _⟩ | ⟨_, rv, rfl, hrv, hfew, hrn⟩
          · exact absurd rfl hbad
          simp only [hrs] at hrv
          obtain ⟨va, vcap, rfl⟩ := owns_form hrv
          have HA := Lib.hid hrv
          clear hrv hrn CO hfew hrs
          go_wp2_with fail
          refine (CR.out _ f4).mono ?_
          rintro e w5 ⟨wv, rfl, hwv, f5⟩
          obtain ⟨xa, xcap, rfl⟩ := owns_form hwv
          have HA5 := Lib.hid (f5.owns HA.out)
          have HB5 := Lib.hid hwv
          clear hwv CR HA
          go_wp2_with fail
          obtain ⟨wo, rfl⟩ : ∃ wo : World, wo = w5 := ⟨_, rfl⟩
          clear hlt hgk
          go_loopw [112] (fun i wx => ∃ (k : Nat), k ≤ rs.length ∧ i = .int .i64 k ∧ Fr0 wo wx) (fun i _ => rs.length - (intOf i).toNat)
          case atStart => exact ⟨0, Nat.zero_le _, rfl, Fr0.refl _⟩
          case round =>
            obtain ⟨k, hk, rfl, hf6⟩ := hrel
            by_cases hltk : k < rs.length
            · obtain ⟨b1, k1, e1, y1⟩ := owned_row (hf6.owns HA5.out) (List.getElem?_eq_getElem hltk)
              obtain ⟨b2, k2, e2, y2⟩ := owned_rowE (hf6.owns HB5.out) (List.getElem?_eq_getElem hltk)
              simp only [Value.slice.injEq] at e1 e2
              obtain ⟨rfl, _, rfl⟩ := e1
              obtain ⟨rfl, _, rfl⟩ := e2
              have y10 := y1 0 _ rfl
              have y11 := y1 1 _ rfl
              have y12 := y1 2 _ rfl
              have y13 := y1 3 _ rfl
              have y20 := y2 0 _ rfl
              have y21 := y2 1 _ rfl
              have y22 := y2 2 _ rfl
              have y23 := y2 3 _ rfl
              rw [Nat.add_zero] at y10 y20
              have l1 := World.block_lt_of_cell? _ _ y10
              have l2 := World.block_lt_of_cell? _ _ y20
              clear y1 y2
              generalize rs[k] = r at *
              go_upto_region 32 with fail
              go_quiet (fail)
              go_wp2_with fail
              go_roundw
              case rel => exact ⟨k + 1, by omega, by go_num, (hf6.alloc _).drewN _⟩
              case measure => simp [intOf]; omega
            · go_wp2_with fail
              go_ret
              exact ⟨rfl, (((f1.trans hfr).trans f4).trans f5).trans hf6⟩
        · have hbz : (bn == 0) = false := by simpa using hb
          have hbz2 : (bn != 0) = true := by simpa using hb
          obtain ⟨R1, R2⟩ := R
          simp only at hof
          subst hof
          have CN := Lib.hid (fun W => base_Num R1 W)
          clear hP htk houts hps hko hq
          go_wp2_with fail
          refine CO.out.mono ?_
          rintro e w4 ⟨f4, hO4⟩
          rcases hO4 with ⟨_, rfl⟩ | ⟨hgood, _⟩
          · have z1 : (R1 == R1) = true := by simp
            clear hb
            go_wp2_with fail
            refine (CN.out _).mono ?_
            rintro e w5 ⟨rfl, rfl⟩
            go_wp2_with fail
            go_ret
            exact ⟨by simp, (f1.trans hfr).trans f4⟩
          · exact absurd hgood hb

end Go.Proofs.Ytbokcmkbnkncoaa

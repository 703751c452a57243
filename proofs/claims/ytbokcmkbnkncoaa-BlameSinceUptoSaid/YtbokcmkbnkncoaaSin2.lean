/- The walk of BlameSince. -/
import Derived.Test.YtbokcmkbnkncoaaSin
import Derived.Test.YtbokcmkbnkncoaaCov2
set_option linter.unusedSimpArgs false
set_option linter.unusedVariables false
namespace Go.Proofs.Ytbokcmkbnkncoaa
open Go.RowKit

set_option maxRecDepth 100000 in
set_option maxHeartbeats 2000000 in
theorem bl_Since_bad {w : World} {p mb : Nat} {most : Int} {sv : Value} {L : List Ent} (hS : St w p mb most sv L) (hO : SOk L) (length : Int) (n0 : Nat) (hn0 : length = n0) (h1 : length ≤ 1152921504606846976) (a : Option Addr) (cap : Nat) (pss : List (List Chg)) (hp : PsAt w a pss) (hb : ofB L 0 (run n0 0 0) pss) (hw : wsum pss ≤ 899999) (hpl : pss.length ≤ 1000000)
    (T : List Lt) (hT : ofR L 0 (run n0 0 0) pss = (0, T)) (version : Int) (hv : version < 0 ∨ (pss.length : Int) < version) :
    Calls Try.prog 21 #[.pointer (some ⟨p, 0, none⟩), .int .i64 length, .int .i64 version, .slice a pss.length cap] w fun e w' => e = .returned (.tuple #[.slice none 0 0, .iface 66 (.int .i64 1)]) ∧ Fr0 w w' := by
  have CO := Lib.hid (bl_Of hS hO length n0 hn0 h1 a cap pss hp hb hw hpl)
  rw [hT] at CO
  clear hS hO hp hb hT hn0 h1
  by_cases h0 : version < 0
  · clear hv
    go_enter Try.func21, Try.ntmps21
    go_wp2_with fail
    refine CO.out.mono ?_
    rintro e w3 ⟨f3, hO3⟩
    rcases hO3 with ⟨hbad, _⟩ | ⟨_, rv, rfl, hrv, hfew, hrn⟩
    · exact absurd rfl hbad
    clear hrv hrn CO hfew
    go_wp2_with fail
    go_ret2
    exact ⟨rfl, f3⟩
  · have d0 : decide (version < 0) = false := decide_eq_false h0
    have d1 : decide ((pss.length : Int) < version) = true := decide_eq_true (by omega)
    clear hv
    go_enter Try.func21, Try.ntmps21
    go_wp2_with fail
    refine CO.out.mono ?_
    rintro e w3 ⟨f3, hO3⟩
    rcases hO3 with ⟨hbad, _⟩ | ⟨_, rv, rfl, hrv, hfew, hrn⟩
    · exact absurd rfl hbad
    clear hrv hrn CO hfew
    go_wp2_with fail
    go_ret2
    exact ⟨rfl, f3⟩

set_option maxRecDepth 100000 in
set_option maxHeartbeats 2000000 in
theorem since_walk {w : World} (length version : Int) (a : Option Addr) (cap : Nat) (pss : List (List Chg)) (hp : PsAt w a pss) (ht : pss.length + tot pss ≤ 4611686018427387904) :
    Calls Try.prog 6 #[.int .i64 length, .int .i64 version, .slice a pss.length cap] w fun e w' => e = .returned (.bool true) ∧ Fr0 w w' := by
  have HP := Lib.hid hp
  by_cases h0 : length < 0
  · clear hp
    go_enter Try.func6, Try.ntmps6
    go_wp2_with fail
    go_ret
    exact ⟨rfl, Fr0.refl w⟩
  have d0 : decide (length < 0) = false := decide_eq_false h0
  by_cases h1 : 1152921504606846976 < length
  · clear hp h0
    go_enter Try.func6, Try.ntmps6
    go_wp2_with fail
    go_ret
    exact ⟨rfl, Fr0.refl w⟩
  have d1 : decide (1152921504606846976 < length) = false := decide_eq_false h1
  by_cases h2 : 60 < pss.length + tot pss
  · have CM := Lib.hid (law_many a cap pss hp ht true (by simpa using h2))
    clear hp h0 h1 h2
    go_enter Try.func6, Try.ntmps6
    go_wp2_with fail
    refine CM.out.mono ?_
    rintro e w' ⟨rfl, rfl⟩
    go_wp2_with fail
    go_ret
    exact ⟨rfl, Fr0.refl w⟩
  have CM := Lib.hid (law_many a cap pss hp ht false (by simpa using h2))
  obtain ⟨n0, rfl⟩ : ∃ n0 : Nat, length = n0 := ⟨length.toNat, by omega⟩
  clear hp ht
  go_enter Try.func6, Try.ntmps6
  go_wp2_with fail
  refine CM.out.mono ?_
  rintro e w' ⟨rfl, rfl⟩
  go_wp2_with fail
  refine (law_begun _).mono ?_
  rintro e w1 ⟨q, p, mb, ids, pw, L, rfl, hG⟩
  have f1 := hG.frame
  have CV := Lib.hid (law_valid hG (n0 : Int) (by omega) (by omega) a cap pss (HP.out.kept0 f1) (by omega))
  obtain ⟨sv, hS, hsv⟩ := hG.st
  have HS := Lib.hid hS
  have HSO := Lib.hid hG.sok
  obtain ⟨tv, hq, hT, htv⟩ := hG.wptr
  have HQ := Lib.hid hq
  clear hG hS hsv hq hT htv
  go_wp2_with fail
  refine CV.out.mono ?_
  rintro e w2 ⟨ov, lv, out, ls, rfl, hL, hV, hol, hto, hhd⟩
  have f2 := hL.frame
  obtain ⟨oa, ocap, rfl, hps⟩ := psAt_of_lists hL
  have hll := VOk.len out ls hV
  have hbd := VOk.bnd out ls hV
  obtain ⟨T, e1, e2, e3, e4⟩ := VOk.of HSO.out ls out ls 0 (run n0 0 0) hV (by rw [run_len]; exact hhd) (fun j => by rw [Nat.zero_add]) (LV.start hhd)
  have hws := wsum_le out
  have CO := Lib.hid (bl_Of (HS.out.kept0 f2) HSO.out (n0 : Int) n0 rfl (by omega) oa ocap out hps e2 (by omega) (by omega))
  have e1' : ofR L 0 (run n0 0 0) out = (0, T) := e1
  rw [e1'] at CO
  have hq2 := f2.kept HQ.out
  obtain ⟨c0, c1, c2, cf, cl⟩ := cells3 hq2
  have hlens := hL.lens
  have hTm : (T.length : Int) ∈ ls := List.mem_of_getLast? e4
  have hTl := (hbd _ hTm).2
  by_cases hver : version < 0 ∨ (out.length : Int) < version
  · have CS := Lib.hid (fun W (hW : Fr0 w2 W) => bl_Since_bad (HS.out.kept0 (f2.trans hW)) HSO.out (n0 : Int) n0 rfl (by omega) oa ocap out (hps.kept0 hW) e2 (by omega) (by omega) T e1' version hver)
    have HQ2 := Lib.hid hq2
    clear hol hL hV hto hhd hps hll hbd e1 e2 e3 e4 hws e1' hq2 CV CM hTm hlens
    go_wp2_with fail
    refine CO.out.mono ?_
    rintro e w3 ⟨f3, hO3⟩
    rcases hO3 with ⟨hbad, _⟩ | ⟨_, rv, rfl, hrv, hfew, hrn⟩
    · exact absurd rfl hbad
    clear hrv hrn CO hfew c0 c1 c2 cf cl
    obtain ⟨c0, c1, c2, cf, cl⟩ := cells3 (f3.kept HQ2.out)
    go_wp2_with fail
    refine (CS.out _ f3).mono ?_
    rintro e w4 ⟨rfl, f4⟩
    have CI := Lib.hid (fun W => base_Is 1 W (by omega))
    by_cases hv0 : version < 0
    · clear hver
      go_wp2_with fail
      refine (CI.out _).mono ?_
      rintro e w5 ⟨rfl, rfl⟩
      go_wp2_with fail
      go_ret
      exact ⟨by simp, ((f1.trans f2).trans f3).trans f4⟩
    · have d2 : decide (version < 0) = false := decide_eq_false hv0
      have d3 : decide ((out.length : Int) < version) = true := decide_eq_true (by omega)
      clear hver
      go_wp2_with fail
      refine (CI.out _).mono ?_
      rintro e w5 ⟨rfl, rfl⟩
      go_wp2_with fail
      go_ret
      exact ⟨by simp, ((f1.trans f2).trans f3).trans f4⟩
  · obtain ⟨hv0, hv1⟩ : 0 ≤ version ∧ version ≤ out.length := ⟨by omega, by omega⟩
    have CS := Lib.hid (fun W (hW : Fr0 w2 W) => bl_Since (HS.out.kept0 (f2.trans hW)) HSO.out (n0 : Int) n0 rfl (by omega) oa ocap out (hps.kept0 hW) e2 (by omega) (by omega) T e1' hTl version hv0 hv1)
    have HQ2 := Lib.hid hq2
    have hcv := Lib.hid (Cv.rows T)
    obtain ⟨i1, hi1, ha1, ha2, ha3⟩ := info_parts info_span
    have hu1 : Try.prog.underlying 62 = some (.slice 68) := Try.underlying62
    clear hol hL hV hto hhd hps hll hbd e1 e2 e3 e4 hws e1' hq2 CV CM hTm hlens hver
    go_wp2_with fail
    refine CO.out.mono ?_
    rintro e w3 ⟨f3, hO3⟩
    rcases hO3 with ⟨hbad, _⟩ | ⟨_, rv, rfl, hrv, hfew, hrn⟩
    · exact absurd rfl hbad
    obtain ⟨ra, rcap, rfl⟩ := owns_form hrv
    obtain ⟨_, hR3, _⟩ := rowsAt_of_owns hrv
    simp only at hfew
    clear hrv hrn CO c0 c1 c2 cf cl
    obtain ⟨c0, c1, c2, cf, cl⟩ := cells3 (f3.kept HQ2.out)
    go_wp2_with fail
    refine (CS.out _ f3).mono ?_
    rintro e w4 ⟨lv, rfl, f4, hlo, hln⟩
    have HR := Lib.hid (hR3.kept0 f4)
    have HF4 := Lib.hid (((f1.trans f2).trans f3).trans f4)
    have d0 : decide (version < 0) = false := decide_eq_false (by omega)
    have d1 : decide ((out.length : Int) < version) = false := decide_eq_false (by omega)
    clear CS hR3 f1 f2 f3 f4 c0 c1 c2 cf cl
    obtain ⟨rs, hrs⟩ : ∃ rs, rowsOf T = rs := ⟨_, rfl⟩
    simp only [hrs] at hfew HR hcv hlo ⊢
    clear hrs
    obtain ⟨la, lcap, hlv⟩ := owns_form hlo
    subst hlv
    have HLO := Lib.hid hlo
    have hsl : (sinceR version rs).length ≤ rs.length := by have := sinceR_len version rs rs.length (Nat.le_refl _); rw [List.take_length] at this; exact this
    clear hlo hln
    go_wp2_with fail
    clear d0 d1
    obtain ⟨w3', rfl⟩ : ∃ w3', w3' = w3 := ⟨_, rfl⟩
    go_loopw [15, 83] (fun v i wr => ∃ (k : Nat) (p : Int) (l : List Sp), k ≤ rs.length ∧ i = .int .i64 k ∧ Hid (sinceR version (rs.take k) = l) ∧ (∃ a cap, v = .slice a l.length cap) ∧ SRel w4 wr v l p ∧ Hid (Cv p (rs.drop k) (T.drop p.toNat)) ∧ 0 ≤ p ∧ p ≤ T.length) (fun _ i _ => rs.length - (intOf i).toNat)
    case atStart => exact ⟨0, 0, [], Nat.zero_le _, rfl, rfl, ⟨none, 0, rfl⟩, ⟨Fr0.refl _, World.ownsRow_nil _ _ _ _, fun k hk => by simp [Value.ownBlock] at hk, fun s hs => by simp at hs⟩, hcv.out, by omega, by omega⟩
    case round =>
      obtain ⟨k, p, l, hk, rfl, HL, ⟨va, vcap, rfl⟩, hS, HC, hp0, hp1⟩ := hrel
      have hfr := hS.frame
      by_cases hlt : k < rs.length
      · have hC := HC.out
        rw [List.drop_eq_getElem_cons hlt] at hC
        have hnx := Lib.hid (hC.next hp0)
        have hle := hC.le hp0
        obtain ⟨hpe, hn1, hjunk⟩ := hC
        clear hjunk
        subst hpe
        obtain ⟨b, off, hab, lb0, x0, x1, x2, x3⟩ := (HR.out.kept0 hfr) k hlt
        subst hab
        have hsn := sinceR_snoc version rs k hlt
        rw [HL.out] at hsn
        have HSN := Lib.hid hsn
        have hll : l.length ≤ k := by rw [← HL.out]; exact sinceR_len version rs k hk
        have HS := Lib.hid hS
        clear hsn hS
        generalize rs[k] = r at *
        by_cases hv : r.ver ≤ version
        · have HSN2 := Lib.hid (HSN.out.trans (if_pos hv))
          go_wp2_with fail
          go_roundw
          case rel => exact ⟨k + 1, r.fr + r.n, l, by omega, by go_num, HSN2, ⟨_, _, rfl⟩, HS.out.same ((Fr0.refl _).alloc _) (by omega), hnx, by omega, by omega⟩
          case measure => simp [intOf]; omega
        · have HSN2 := Lib.hid (HSN.out.trans (if_neg hv))
          clear HSN
          have hown := HS.out.own
          have hn63 : l.length + 1 ≤ maxLen := by unfold maxLen; omega
          have hby : (l.length + 1) * 16 ≤ 140737488355328 := by omega
          obtain ⟨W1, hW1⟩ : ∃ W1, wr.alloc (.cells #[.int .i64 r.fr, .int .i64 r.n, .int .i64 r.ver, .int .i64 r.org] 51 (0, 0)) = W1 := ⟨_, rfl⟩
          have hf1 : Fr0 wr W1 := by rw [← hW1]; exact (Fr0.refl _).alloc _
          have hrb : W1.heap[wr.heap.size]? = some (.cells #[.int .i64 r.fr, .int .i64 r.n, .int .i64 r.ver, .int .i64 r.org] 51 (0, 0)) := by rw [← hW1]; exact alloc_at _ _ _ rfl
          obtain ⟨q0, q1, q2, q3, qf, ql⟩ := cells4 hrb
          have hqv : (Value.slice va l.length vcap).ownBlock ≠ some wr.heap.size := by
            intro e
            obtain ⟨cur, hcur⟩ := owns_block hown e
            have := lt_of_block hcur
            omega
          have HS1 := Lib.hid (HS.out.same hf1 (Int.le_refl _))
          have HF1 := Lib.hid hf1
          clear hf1 hrb hown
          cases hg : l.getLast? with
          | none =>
            have hadd := addSp_none hg r.fr r.n
            obtain rfl : l = [] := List.getLast?_eq_none_iff.1 hg
            have HADD := Lib.hid hadd
            clear hg hadd
            go_upto_region 19 with fail
            try rw [hW1]
            clear hW1
            generalize wr.heap.size = sr at *
            go_cut [111] (fun s wx => s = .bool false ∧ Fr0 W1 wx)
            case first =>
              go_quiet (fail)
              go_wp2_with fail
              go_meet
              exact ⟨rfl, (Fr0.refl W1).drewN _⟩
            case rest =>
              obtain ⟨rfl, hf2⟩ := hcut
              have q0' := (hf2.cell sr 0 ql).trans q0
              have q1' := (hf2.cell sr 1 ql).trans q1
              have ql' : sr < wc.heap.size := Nat.lt_of_lt_of_le ql hf2.size'
              have hS2 := HS1.out.same hf2 (Int.le_refl _)
              have HS2 := Lib.hid hS2
              clear q0 q1 q2 q3 qf
              go_wp2_with (at_builtin; refine wpList_append_lies _ rfl _ _ _ rfl 0 68 i1 _ 2 16 hu1 hi1 ha1 ha2 ha3 rfl (by omega) _ ([] : List Sp).length (spCells ([] : List Sp)) rfl (hS2.own.alloc _) ⟨wc.heap.size, 0, none⟩ 1 1 [.int .i64 r.fr, .int .i64 r.n] rfl rfl (World.news_of_block (cs := #[.int .i64 r.fr, .int .i64 r.n]) (t := 68) (fr := (0, 0)) (heap_alloc_new wc _)) (by simp [Value.oneCell']) (by omega) hn63 hby (by omega) (wc.heap.size + 1) (by simp) ?_; intro g cap' w1 hown1 hgrow hat hlt2)
              obtain ⟨j1, j2⟩ := HS2.out.push HADD.out hp0 hn1 hown1 hgrow hat
              go_roundw
              case rel => exact ⟨k + 1, r.fr + r.n, addSp ([] : List Sp) r.fr r.n, by omega, by go_num, HSN2, ⟨some ⟨g, 0, none⟩, cap', by simp [j2]⟩, j1, hnx, by omega, by omega⟩
              case measure => simp [intOf]; omega
          | some s =>
            have hx : l[l.length - 1]? = some s := by rw [← List.getLast?_eq_getElem?]; exact hg
            have hpos : 0 < l.length := by have := (List.getElem?_eq_some_iff.1 hx).1; omega
            obtain ⟨lb, vcap', hrv2, hc⟩ := owned_sp HS1.out.own hx
            simp only [Value.slice.injEq] at hrv2
            obtain ⟨rfl, _, rfl⟩ := hrv2
            have y0 := hc 0 _ rfl
            have y1 := hc 1 _ rfl
            rw [Nat.add_zero] at y0
            have hso := HS1.out.ok s (List.mem_of_getLast? hg)
            have g1 : (0 : Int) ≤ (l.length : Int) - 1 := by omega
            have g2 : (l.length : Int) - 1 < (l.length : Int) := by omega
            have g3 : (1 : Int) ≤ (l.length : Int) := by omega
            have g5 := IntWalk.i64_in (s.fr + s.n) (by omega)
            have g6 := IntWalk.i64_in ((l.length : Int) - 1) (by omega)
            have hneb : ¬ lb = wr.heap.size := by simpa [Value.ownBlock] using hqv
            clear hc hx
            by_cases he : s.fr + s.n = r.fr
            · have e1 : (s.fr + s.n == r.fr) = true := by simpa using he
              have HG := Lib.hid hg
              have HE := Lib.hid he
              clear he hg
              go_upto_region 19 with fail
              try rw [hW1]
              clear hW1
              generalize wr.heap.size = sr at *
              go_cut [111] (fun s wx => s = .bool true ∧ Fr0 W1 wx)
              case first =>
                go_quiet (fail)
                go_wp2_with fail
                go_meet
                exact ⟨rfl, (Fr0.refl W1).drewN _⟩
              case rest =>
                obtain ⟨rfl, hf2⟩ := hcut
                have q0' := (hf2.cell sr 0 ql).trans q0
                have q1' := (hf2.cell sr 1 ql).trans q1
                have ql' : sr < wc.heap.size := Nat.lt_of_lt_of_le ql hf2.size'
                have hS2 := HS1.out.same hf2 (Int.le_refl _)
                have HS2 := Lib.hid hS2
                clear q0 q1 q2 q3 qf
                have y1' := (hf2.cell lb _ (World.block_lt_of_cell? W1 _ y1)).trans y1
                have hfz := owns_free hS2.own rfl
                have hlb' : lb < wc.heap.size := Nat.lt_of_lt_of_le (World.block_lt_of_cell? W1 _ y1) hf2.size'
                have g7 := IntWalk.i64_in (s.n + r.n) (by omega)
                have HJ2 := Lib.hid (hS2.join HG.out HE.out hp0 hn1)
                clear hS2 y0 y1
                go_upto_region 20 with fail
                go_region
                go_wp2_with fail
                obtain ⟨j1, j2⟩ := HJ2.out
                go_roundw
                case rel => exact ⟨k + 1, r.fr + r.n, addSp l r.fr r.n, by omega, by go_num, HSN2, ⟨some ⟨lb, 0, none⟩, vcap, by rw [j2]⟩, j1.same (Fr0.refl _).drew (Int.le_refl _), hnx, by omega, by omega⟩
                case measure => simp [intOf]; omega
            · have e1 : (s.fr + s.n == r.fr) = false := by simpa using he
              have HADD := Lib.hid (addSp_new hg r.n he)
              clear he hg
              go_upto_region 19 with fail
              try rw [hW1]
              clear hW1
              generalize wr.heap.size = sr at *
              go_cut [111] (fun s wx => s = .bool false ∧ Fr0 W1 wx)
              case first =>
                go_quiet (fail)
                go_wp2_with fail
                go_meet
                exact ⟨rfl, (Fr0.refl W1).drewN _⟩
              case rest =>
                obtain ⟨rfl, hf2⟩ := hcut
                have q0' := (hf2.cell sr 0 ql).trans q0
                have q1' := (hf2.cell sr 1 ql).trans q1
                have ql' : sr < wc.heap.size := Nat.lt_of_lt_of_le ql hf2.size'
                have hS2 := HS1.out.same hf2 (Int.le_refl _)
                have HS2 := Lib.hid hS2
                clear q0 q1 q2 q3 qf
                clear y0 y1
                go_wp2_with (at_builtin; refine wpList_append_lies _ rfl _ _ _ rfl 0 68 i1 _ 2 16 hu1 hi1 ha1 ha2 ha3 rfl (by omega) _ l.length (spCells l) rfl (hS2.own.alloc _) ⟨wc.heap.size, 0, none⟩ 1 1 [.int .i64 r.fr, .int .i64 r.n] rfl rfl (World.news_of_block (cs := #[.int .i64 r.fr, .int .i64 r.n]) (t := 68) (fr := (0, 0)) (heap_alloc_new wc _)) (by simp [Value.oneCell']) (by omega) hn63 hby (by omega) (wc.heap.size + 1) (by simp) ?_; intro g cap' w1 hown1 hgrow hat hlt2)
                obtain ⟨j1, j2⟩ := HS2.out.push HADD.out hp0 hn1 hown1 hgrow hat
                go_roundw
                case rel => exact ⟨k + 1, r.fr + r.n, addSp l r.fr r.n, by omega, by go_num, HSN2, ⟨some ⟨g, 0, none⟩, cap', by simp [j2]⟩, j1, hnx, by omega, by omega⟩
                case measure => simp [intOf]; omega
      · have hls : Hid (sinceR version rs = l) := by show _ = _; rw [← HL.out, List.take_of_length_le (by omega)]
        have hlo := HLO.out
        rw [hls.out] at hlo
        have hlo2 := hfr.owns hlo
        have hwo := hS.own
        have hlen : (sinceR version rs).length = l.length := by rw [hls.out]
        rw [hlen]
        have hl9 : l.length ≤ 900001 := by omega
        clear hlen hlo HLO hsl
        have HA := Lib.hid hlo2
        have HB := Lib.hid hwo
        clear hlo2 hwo hS HL HC
        go_wp2_with fail
        obtain ⟨wo, rfl⟩ : ∃ wo : World, wo = wr := ⟨_, rfl⟩
        clear hk hlt
        go_loopw [142] (fun i wx => ∃ (k : Nat), k ≤ l.length ∧ i = .int .i64 k ∧ Fr0 wo wx) (fun i _ => l.length - (intOf i).toNat)
        case atStart => exact ⟨0, Nat.zero_le _, rfl, Fr0.refl _⟩
        case round =>
          obtain ⟨k, hk, rfl, hf5⟩ := hrel
          by_cases hlt : k < l.length
          · obtain ⟨b1, k1, e1, y1⟩ := owned_sp (hf5.owns HA.out) (List.getElem?_eq_getElem hlt)
            obtain ⟨b2, k2, e2, y2⟩ := owned_sp (hf5.owns HB.out) (List.getElem?_eq_getElem hlt)
            simp only [Value.slice.injEq] at e1 e2
            obtain ⟨rfl, _, rfl⟩ := e1
            obtain ⟨rfl, _, rfl⟩ := e2
            have y10 := y1 0 _ rfl
            have y11 := y1 1 _ rfl
            have y20 := y2 0 _ rfl
            have y21 := y2 1 _ rfl
            rw [Nat.add_zero] at y10 y20
            clear y1 y2
            generalize l[k] = s at *
            go_upto_region 28 with fail
            go_quiet (fail)
            go_wp2_with fail
            go_roundw
            case rel => exact ⟨k + 1, by omega, by go_num, hf5.drewN _⟩
            case measure => simp [intOf]; omega
          · go_wp2_with fail
            go_ret
            exact ⟨rfl, (HF4.out.trans hfr).trans hf5⟩

end Go.Proofs.Ytbokcmkbnkncoaa

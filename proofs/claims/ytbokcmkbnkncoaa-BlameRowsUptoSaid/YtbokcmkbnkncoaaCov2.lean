/- The walk of BlameCovers. -/
import Derived.Test.YtbokcmkbnkncoaaVal2
import Derived.Test.YtbokcmkbnkncoaaCov
set_option linter.unusedSimpArgs false
set_option linter.unusedVariables false
namespace Go.Proofs.Ytbokcmkbnkncoaa
open Go.RowKit

theorem psAt_of_lists {w wr : World} {ov lv : Value} {out : List (List Chg)} {ls : List Int} (h : Lists w wr ov lv out ls) : ∃ a cap, ov = .slice a out.length cap ∧ PsAt wr a out := by
  obtain ⟨vs, h1, h2⟩ := h.own
  obtain ⟨a, cap, rfl⟩ := owns_form h1
  refine ⟨a, cap, rfl, ?_⟩
  intro i hi
  obtain ⟨lb, cap', hsv, _, _⟩ := h1.form (by omega)
  simp only [Value.slice.injEq] at hsv
  obtain ⟨rfl, _, _⟩ := hsv
  obtain ⟨v, k1, k2⟩ := h2 i hi
  obtain ⟨va, vc, rfl⟩ := owns_form k2
  have hc := owns_cell h1 i _ k1
  exact ⟨lb, 0, va, vc, rfl, World.block_lt_of_cell? wr _ hc, by simpa using hc, (chgsAt_of_owns k2).2⟩

/-- What BlameCovers looks at, of rows and lengths. -/
structure CovOk (rs : List Rw) (ls : List Int) (n : Nat) (tl : Int) (T : List Lt) : Prop where
  cv : Cv 0 rs T
  len : (T.length : Int) = tl
  good : ∀ r ∈ rs, 1 ≤ r.n ∧ 0 ≤ r.ver ∧ r.ver ≤ n ∧ 0 ≤ r.org ∧ r.org ≤ ls.getD r.ver.toNat 0 - r.n
  mx : Mx rs
  few : rs.length ≤ 900001
  small : tl ≤ 1152921504606846976
  lens : ls.length = n + 1
  last : ls.getD n 0 = tl
  bnd : ∀ x ∈ ls, 0 ≤ x ∧ x ≤ 1152921504606846976
  n60 : n ≤ 60

theorem VOk.bnd {L : List Ent} : ∀ (out : List (List Chg)) (ls : List Int), VOk L out ls → ∀ x ∈ ls, 0 ≤ x ∧ x ≤ 1152921504606846976
  | [], ls, h => by obtain ⟨l, rfl, g⟩ := h; intro x hx; simp at hx; subst hx; exact g
  | c :: r, ls, h => by
    obtain ⟨l, m, rfl, g1, g2, g3, g4, g5⟩ := h
    intro x hx
    rcases List.mem_cons.1 hx with rfl | hx
    · exact ⟨g1, g2⟩
    · exact VOk.bnd r m g5 x hx

theorem lt_of_lens {w : World} {e : TypeId} {n cap lb : Nat} {xs : List Value} (h : w.ownsRow 0 e 1 (.slice (some ⟨lb, 0, none⟩) (n + 1) cap) (n + 1) xs) : lb < w.heap.size := by
  obtain ⟨cur, hc⟩ := owns_block h (k := lb) rfl
  exact lt_of_block hc

theorem ls_bnd {ls : List Int} (h : ∀ x ∈ ls, 0 ≤ x ∧ x ≤ 1152921504606846976) (j : Nat) : 0 ≤ ls.getD j 0 ∧ ls.getD j 0 ≤ 1152921504606846976 := by
  rw [List.getD_eq_getElem?_getD]
  cases hj : ls[j]? with
  | none => simp
  | some x => exact h x (List.mem_of_getElem? hj)

set_option maxRecDepth 100000 in
set_option maxHeartbeats 2000000 in
theorem covers_walk {w : World} (length : Int) (a : Option Addr) (cap : Nat) (pss : List (List Chg)) (hp : PsAt w a pss) (ht : pss.length + tot pss ≤ 4611686018427387904) :
    Calls Try.prog 4 #[.int .i64 length, .slice a pss.length cap] w fun e w' => e = .returned (.bool true) ∧ Fr0 w w' := by
  have HP := Lib.hid hp
  by_cases h0 : length < 0
  · clear hp
    go_enter Try.func4, Try.ntmps4
    go_wp2_with fail
    go_ret
    exact ⟨rfl, Fr0.refl w⟩
  have d0 : decide (length < 0) = false := decide_eq_false h0
  by_cases h1 : 1152921504606846976 < length
  · clear hp h0
    go_enter Try.func4, Try.ntmps4
    go_wp2_with fail
    go_ret
    exact ⟨rfl, Fr0.refl w⟩
  have d1 : decide (1152921504606846976 < length) = false := decide_eq_false h1
  by_cases h2 : 60 < pss.length + tot pss
  · have CM := Lib.hid (law_many a cap pss hp ht true (by simpa using h2))
    clear hp h0 h1 h2
    go_enter Try.func4, Try.ntmps4
    go_wp2_with fail
    refine CM.out.mono ?_
    rintro e w' ⟨rfl, rfl⟩
    go_wp2_with fail
    go_ret
    exact ⟨rfl, Fr0.refl w⟩
  have CM := Lib.hid (law_many a cap pss hp ht false (by simpa using h2))
  obtain ⟨n0, rfl⟩ : ∃ n0 : Nat, length = n0 := ⟨length.toNat, by omega⟩
  clear hp ht
  go_enter Try.func4, Try.ntmps4
  go_wp2_with fail
  refine CM.out.mono ?_
  rintro e w' ⟨rfl, rfl⟩
  go_wp2_with fail
  refine (law_begun _).mono ?_
  rintro e w1 ⟨q, p, mb, ids, pw, L, rfl, hG⟩
  have f1 := hG.frame
  have CV := Lib.hid (law_valid hG (n0 : Int) (by omega) (by omega) a cap pss (HP.out.kept0 f1) (by omega))
  obtain ⟨sv, hS, hsv⟩ := hG.st
  have HS := Lib.hid hS
  have HSO := Lib.hid hG.sok
  obtain ⟨tv, hq, hT, htv⟩ := hG.wptr
  have HQ := Lib.hid hq
  clear hG hS hsv hq hT htv
  go_wp2_with fail
  refine CV.out.mono ?_
  rintro e w2 ⟨ov, lv, out, ls, rfl, hL, hV, hol, hto, hhd⟩
  have f2 := hL.frame
  obtain ⟨oa, ocap, rfl, hps⟩ := psAt_of_lists hL
  have hll := VOk.len out ls hV
  have hbd := VOk.bnd out ls hV
  obtain ⟨T, e1, e2, e3, e4⟩ := VOk.of HSO.out ls out ls 0 (run n0 0 0) hV (by rw [run_len]; exact hhd) (fun j => by rw [Nat.zero_add]) (LV.start hhd)
  have hws := wsum_le out
  have CO := Lib.hid (bl_Of (HS.out.kept0 f2) HSO.out (n0 : Int) n0 rfl (by omega) oa ocap out hps e2 (by omega) (by omega))
  have e1' : ofR L 0 (run n0 0 0) out = (0, T) := e1
  rw [e1'] at CO
  have hq2 := f2.kept HQ.out
  obtain ⟨c0, c1, c2, cf, cl⟩ := cells3 hq2
  have hlens := hL.lens
  have HCT : Hid ((rowsOf T).length ≤ 900001 → CovOk (rowsOf T) ls out.length T.length T) := by
    intro hfew
    have hlast : ls.getD out.length 0 = (T.length : Int) := by
      rw [List.getLast?_eq_getElem?, hll] at e4
      rw [List.getD_eq_getElem?_getD, show out.length + 1 - 1 = out.length by omega] at *
      rw [e4]; rfl
    have hmem : (T.length : Int) ∈ ls := List.mem_of_getLast? e4
    exact ⟨Cv.rows T, rfl, rows_good (by simpa using e3), Mx.rows T, hfew, (hbd _ hmem).2, hll, hlast, hbd, by omega⟩
  clear hL hV hol hto hhd hps hll hbd e1 e2 e3 e4 hws e1' hq2 CV CM
  go_wp2_with fail
  refine CO.out.mono ?_
  rintro e w3 ⟨f3, hO3⟩
  rcases hO3 with ⟨hbad, _⟩ | ⟨_, rv, rfl, hrv, hfew, hrn⟩
  · exact absurd rfl hbad
  obtain ⟨ra, rcap, rfl⟩ := owns_form hrv
  obtain ⟨_, hR, _⟩ := rowsAt_of_owns hrv
  have hl3 := f3.owns hlens
  have hCov := HCT.out hfew
  have HF3 := Lib.hid ((f1.trans f2).trans f3)
  have HR := Lib.hid hR
  have HLN := Lib.hid hl3
  simp only at hfew
  clear hrv hrn hlens HCT CO c0 c1 c2 cf cl f1 f2 f3 hR hl3
  generalize rowsOf T = rs at *
  generalize out.length = n at *
  have hgood := hCov.good
  have hlen := hCov.len
  have htl := hCov.small
  have hn60 := hCov.n60
  have hll := hCov.lens
  have HGOOD := Lib.hid hgood
  have HCV0 := Lib.hid hCov.cv
  have HMX := Lib.hid hCov.mx
  have HLAST := Lib.hid hCov.last
  have HBND := Lib.hid hCov.bnd
  have hsum := Cv.sum rs 0 T hCov.cv
  clear hgood hCov hlen
  obtain ⟨lb, lcap, hlv, _, _⟩ := HLN.out.form (by omega)
  subst hlv
  rw [hll] at HLN ⊢
  have HSUM := Lib.hid hsum
  have HRN : Hid (∀ r ∈ rs, 1 ≤ r.n) := fun r hr => (HGOOD.out r hr).1
  have hnn := fun v => uptoZ_nn (v := v) HRN.out
  have HNN := Lib.hid hnn
  have hcl : ∀ j : Nat, j < n + 1 → w3.cell? ⟨lb, j, none⟩ = some (.int .i64 (ls.getD j 0)) := by
    intro j hj
    have := owns_cell HLN.out j (.int .i64 (ls.getD j 0)) (by rw [List.getElem?_map, List.getElem?_eq_getElem (by omega)]; simp [List.getElem?_eq_getElem (show j < ls.length by omega)])
    exact this
  have HCL := Lib.hid hcl
  have HLL := Lib.hid hll
  clear hsum hnn hcl hll
  go_wp2_with fail
  go_loopw [11, 56] (fun t i wr => ∃ (k : Nat) (p : Int), k ≤ rs.length ∧ i = .int .i64 k ∧ t = .int .i64 p ∧ Hid (Cv p (rs.drop k) (T.drop p.toNat)) ∧ 0 ≤ p ∧ p ≤ T.length ∧ Fr0 w3 wr) (fun _ i _ => rs.length - (intOf i).toNat)
  case atStart => exact ⟨0, 0, Nat.zero_le _, rfl, rfl, HCV0.out, by omega, by omega, Fr0.refl _⟩
  case round =>
    obtain ⟨k, p, hk, rfl, rfl, HC, hp0, hp1, hfr⟩ := hrel
    by_cases hlt : k < rs.length
    · have hC := HC.out
      rw [List.drop_eq_getElem_cons hlt] at hC
      have hnx := Lib.hid (hC.next hp0)
      have hle := hC.le hp0
      obtain ⟨hpe, hn1, hjunk⟩ := hC
      clear hjunk
      subst hpe
      obtain ⟨_, gv0, gvn, go0, gol⟩ := HGOOD.out rs[k] (List.getElem_mem _)
      obtain ⟨b, off, hab, lb0, d0, d1, d2, d3⟩ := (HR.out.kept0 hfr) k hlt
      subst hab
      have hlc := (hfr.cell lb rs[k].ver.toNat (lt_of_lens HLN.out)).trans (HCL.out rs[k].ver.toNat (by omega))
      have hlb := Nat.lt_of_lt_of_le (lt_of_lens HLN.out) hfr.size'
      have hbb := ls_bnd HBND.out rs[k].ver.toNat
      have HPREV : Hid (∀ j, j + 1 = k → ∃ pr : Rw, wr.cell? ⟨b, off + j * 4 + 1, none⟩ = some (.int .i64 pr.n) ∧ wr.cell? ⟨b, off + j * 4 + 2, none⟩ = some (.int .i64 pr.ver) ∧ wr.cell? ⟨b, off + j * 4 + 3, none⟩ = some (.int .i64 pr.org) ∧ ¬ (pr.ver = rs[k].ver ∧ pr.org + pr.n = rs[k].org) ∧ 0 ≤ pr.org ∧ 1 ≤ pr.n ∧ pr.org + pr.n ≤ 1152921504606846976) := by
        intro j hj
        obtain ⟨b', off', hab', _, _, y1, y2, y3⟩ := (HR.out.kept0 hfr) j (by omega)
        simp only [Option.some.injEq, Addr.mk.injEq, and_true] at hab'
        obtain ⟨rfl, rfl⟩ := hab'
        have hm := Mx.get rs j (by omega) HMX.out
        have hg := HGOOD.out rs[j] (List.getElem_mem _)
        have hb2 := ls_bnd HBND.out rs[j].ver.toNat
        subst hj
        exact ⟨rs[j], y1, y2, y3, hm, by omega, by omega, by omega⟩
      generalize rs[k] = r at *
      generalize ls.getD r.ver.toNat 0 = lsv at *
      have t1 : (r.fr != r.fr) = false := by simp
      have t2 : decide (r.n < 1) = false := decide_eq_false (by omega)
      have t3 : decide (r.ver < 0) = false := decide_eq_false (by omega)
      have t4 : decide ((n : Int) < r.ver) = false := decide_eq_false (by omega)
      have t5 : decide (r.org < 0) = false := decide_eq_false (by omega)
      have t6 : decide (lsv - r.n < r.org) = false := decide_eq_false (by omega)
      have t7 := IntWalk.i64_in (lsv - r.n) (by omega)
      have t8 : r.ver < (n : Int) + 1 := by omega
      have hne : ¬ lb = wr.heap.size := by omega
      go_upto_region 14 with fail
      go_quiet (fail)
      clear t1 t2 t3 t4 t5 t6 t7 t8
      by_cases hk0 : k = 0
      · subst hk0
        go_upto_region 16 with fail
        go_quiet (fail)
        go_wp2_with fail
        go_roundw
        case rel => exact ⟨0 + 1, r.fr + r.n, by omega, by go_num, rfl, hnx.out, by omega, by omega, (hfr.alloc _).drewN _⟩
        case measure => simp [intOf]; omega
      · obtain ⟨pr, y1, y2, y3, ynm, yo, yn, ys⟩ := HPREV.out (k - 1) (by omega)
        have s1 : decide ((0 : Int) < (k : Int)) = true := decide_eq_true (by omega)
        have s2 : decide (0 < k) = true := decide_eq_true (by omega)
        have s3 := IntWalk.i64_in ((k : Int) - 1) (by omega)
        have s4 : (0 : Int) ≤ (k : Int) - 1 := by omega
        have s4' : (1 : Int) ≤ (k : Int) := by omega
        have s4'' : 1 ≤ k := by omega
        have s5 : (k : Int) - 1 < (rs.length : Int) := by omega
        have s6 := IntWalk.i64_in (pr.org + pr.n) (by omega)
        by_cases hv : pr.ver = r.ver
        · have v1 : (pr.ver == r.ver) = true := by simpa using hv
          have v2 : (pr.org + pr.n == r.org) = false := by simp; exact fun h => ynm ⟨hv, h⟩
          clear HPREV ynm hv hk0
          go_upto_region 16 with fail
          go_quiet (fail)
          clear s1 s2 s3 s6 v1 v2
          go_wp2_with fail
          go_roundw
          case rel => exact ⟨k + 1, r.fr + r.n, by omega, by go_num, rfl, hnx.out, by omega, by omega, (hfr.alloc _).drewN _⟩
          case measure => simp [intOf]; omega
        · have v1 : (pr.ver == r.ver) = false := by simpa using hv
          clear HPREV ynm hv hk0 s6
          go_upto_region 16 with fail
          go_quiet (fail)
          clear s1 s2 s3 v1
          go_wp2_with fail
          go_roundw
          case rel => exact ⟨k + 1, r.fr + r.n, by omega, by go_num, rfl, hnx.out, by omega, by omega, (hfr.alloc _).drewN _⟩
          case measure => simp [intOf]; omega
    · have hpe : p = T.length := by
        have hC := HC.out
        rw [List.drop_of_length_le (by omega)] at hC
        have := hC.done hp0
        omega
      have hR3 := Lib.hid (HR.out.kept0 hfr)
      have hlc := (hfr.cell lb n (lt_of_lens HLN.out)).trans (HCL.out n (by omega))
      rw [HLAST.out] at hlc
      have hlb := Nat.lt_of_lt_of_le (lt_of_lens HLN.out) hfr.size'
      subst hpe
      go_wp2_with fail
      obtain ⟨wo, rfl⟩ : ∃ wo : World, wo = wr := ⟨_, rfl⟩
      clear HC hp0 hp1 hk hlt
      go_loopw [15, 16] (fun al v wr => ∃ (u : Nat), u ≤ n + 1 ∧ v = .int .i64 u ∧ al = .int .i64 (uptoZ u rs) ∧ Fr0 wo wr) (fun _ v _ => n + 1 - (intOf v).toNat)
      case atStart => exact ⟨0, Nat.zero_le _, rfl, by rw [show ((0 : Nat) : Int) = 0 from rfl, uptoZ_zero (fun r hr => (HGOOD.out r hr).2.1)], Fr0.refl _⟩
      case round =>
        obtain ⟨u, hu, rfl, rfl, hf4⟩ := hrel
        have hn4 := HNN.out (u : Int)
        rw [HSUM.out] at hn4
        by_cases hlt : u ≤ n
        · have hsh := share_eq (u : Int) rs HRN.out (by rw [HSUM.out]; omega)
          have hup := uptoZ_succ (u : Int) rs
          have hn5 := HNN.out ((u : Int) + 1)
          rw [HSUM.out] at hn5
          have CS := Lib.hid (bl_Share ra rcap rs (u : Int) (hR3.out.kept0 hf4) (by omega))
          rw [hsh] at CS
          have HUP := Lib.hid hup
          have hsz := shareZ_nn (v := (u : Int)) HRN.out
          rw [HSUM.out] at hsz
          have hs5 : uptoZ (u : Int) rs + shareZ (u : Int) rs ≤ 1152921504606846976 := by omega
          clear hsh hup hn5
          generalize shareZ (u : Int) rs = sz at *
          generalize uptoZ (u : Int) rs = uz at *
          go_wp2_with fail
          refine CS.out.mono ?_
          rintro e w5 ⟨rfl, hf5⟩
          go_wp2_with fail
          go_roundw
          case rel => exact ⟨u + 1, by omega, by go_num, by rw [show ((u + 1 : Nat) : Int) = (u : Int) + 1 by omega, HUP.out], hf4.trans hf5⟩
          case measure => simp [intOf]; omega
        · have hue : (u : Int) = (n : Int) + 1 := by omega
          have hall : uptoZ (u : Int) rs = T.length := by rw [uptoZ_all (fun r hr => by have := (HGOOD.out r hr).2.2.1; omega)]; exact HSUM.out
          have hsh : share ((n : Int) + 1) rs = 0 := by rw [share_eq _ rs HRN.out (by rw [HSUM.out]; omega)]; exact shareZ_zero (fun r hr => by have := (HGOOD.out r hr).2.2.1; omega)
          have CS := Lib.hid (fun W (hf : Fr0 wo W) => bl_Share ra rcap rs ((n : Int) + 1) (hR3.out.kept0 hf) (by omega))
          rw [hsh] at CS
          rw [hall]
          have hlc4 := (hf4.cell lb n hlb).trans hlc
          clear hall hsh hn4 hue hlc
          generalize (T.length : Int) = tl at *
          go_wp2_with fail
          refine (CS.out _ hf4).mono ?_
          rintro e w5 ⟨rfl, hf5⟩
          go_wp2_with fail
          go_ret
          exact ⟨by simp, ((HF3.out.trans hfr).trans hf4).trans hf5⟩

end Go.Proofs.Ytbokcmkbnkncoaa

/- The walk of PatchChecks (ok). -/
import Derived.Test.YtclpndigmidjkaaGreatQChk1
set_option linter.unusedSimpArgs false
set_option linter.unusedVariables false
namespace Go.Proofs.YtclpndigmidjkaaGreat
open Go.RowKit

set_option maxRecDepth 100000 in
set_option maxHeartbeats 8000000 in
theorem checks_ok {w : World} {a ca : Option Addr} {cap ccap : Nat} {ms : List Mk} {cs : List Chg} (length : Int) (hA : RG Mk.vals 5 w.heap.size w a ms) (hm : ∀ m ∈ ms, m.Ok) (hC : ChgsAt w ca cs) (hl : ms.length ≤ 30) (hl2 : cs.length ≤ 20) (hlen : i64P length) (hcase : 0 ≤ length ∧ length ≤ 1152921504606846976) :
    Calls Tryz.prog 3 #[.slice a ms.length cap, .int .i64 length, .slice ca cs.length ccap] w fun e w' => e = .returned (.bool true) ∧ Fr0 w w' := by
  have HA := Lib.hid hA
  have HM := Lib.hid hm
  have HC := Lib.hid hC
  have CS := Lib.hid (law37_Store w)
  have CN := Lib.hid (fun W => st_New W)
  have hl3 := hlen.1
  have hl4 := hlen.2
  have q1 : decide ((30 : Int) < (ms.length : Int)) = false := decide_eq_false (by omega)
  have q2 : decide ((20 : Int) < (cs.length : Int)) = false := decide_eq_false (by omega)
  have g1 : decide (length < 0) = false := decide_eq_false (by omega)
  have g2 : decide (1152921504606846976 < length) = false := decide_eq_false (by omega)
  have hlo : lenOk length = true := decide_eq_true hcase
  have HLO := Lib.hid hlo
  clear hA hm hC hlen hlo
  go_enter Tryz.func3, Tryz.ntmps3
  go_wp2_with fail
  refine CS.out.mono ?_
  rintro e w1 ⟨p0, mb0, L0, rfl, _, _, hf1⟩
  have F1 := Lib.hid hf1
  clear CS hf1
  go_wp2_with fail
  refine (CN.out _).mono ?_
  rintro e w2 ⟨rfl, hf2, hS2, hz2⟩
  have F2 := Lib.hid (F1.out.trans hf2)
  have hsz : w.heap.size ≤ w1.heap.size := Fr.size F1.out
  have hSt2 : Sto w.heap.size w2 (w1.heap.size + 1) w1.heap.size 1048576 [] := ⟨_, hS2, by omega, by omega, fun k hk => by simp [Value.ownBlock] at hk⟩
  generalize w1.heap.size + 1 = p at *
  generalize w1.heap.size = mb at *
  have CB := Lib.hid (law12_Build (cap := cap) hSt2 (Nat.le_trans hsz (by have := Fr.size hf2; omega)) (by omega) (HA.out.kept0 F2.out) (by omega) HM.out)
  clear hf2 hS2 hz2 hSt2 CN
  go_wp2_with fail
  refine CB.out.mono ?_
  rintro e w3 ⟨vr, rfl, hS3, hK3, ho3⟩
  obtain ⟨ra3, rcap3, rfl⟩ := owns_form ho3
  have F3 : Hid (Fr0 w w3) := Lib.hid (Kp.all0 F2.out hK3)
  have HS3 := Lib.hid hS3
  have CR := Lib.hid (ref12_Build (B := w.heap.size) (cap := cap) (HA.out.kept0 F3.out) (by omega) HM.out)
  clear hS3 hK3 ho3 CB
  go_wp2_with fail
  refine CR.out.mono ?_
  rintro e w4 ⟨va, vb, v4, rfl, hf4, hst4, ho4⟩
  obtain ⟨ra4, rcap4, rfl⟩ := owns_form ho4
  have F4 := Lib.hid (F3.out.trans hf4)
  have HS4 := Lib.hid (HS3.out.kept0 hf4)
  obtain ⟨okS, okK, okL, okR⟩ := allL_ok ms HM.out ms.length (Nat.le_refl _)
  have okD := allL_dok ms HM.out ms.length (Nat.le_refl _)
  rw [List.take_length] at okS okK okL okR okD
  clear okK okR ho4 CR HS3 F3 F2 F1 hf4
  generalize (allL ms).1 = L at *
  have HT4 := Lib.hid hst4
  have HSO := Lib.hid okS
  have CBL := Lib.hid (fun W (hW : Fr0 w4 W) => ref13_Balanced (HT4.out.kept0 hW) okD okS (by omega))
  obtain ⟨⟨ra, rcap, rfl, _⟩, ⟨la, lcap, rfl, _⟩, _, _⟩ := hst4
  clear okD okS
  go_wp2_with fail
  refine (CBL.out _ ((Fr0.refl w4).alloc _)).mono ?_
  rintro e w5 ⟨v5, rfl, hf5, ho5⟩
  have hg5 := rg_of_own (xs := evL L (L.length + 1)) (vals := evv) (size := 1) (B := 0) (w := w5) (fun _ _ => rfl) (by rw [evv_map, evL_len]; exact ho5) (by decide) (by decide)
  rw [evL_len] at hg5
  obtain ⟨ea, ecap, rfl, her⟩ := hg5
  have hblk := hf5.kept (alloc_at w4 (.cells #[.slice ra L.length rcap, .slice la L.length lcap] 34 (0, 0)) _ rfl)
  have f45 : Fr0 w4 w5 := ((Fr0.refl w4).alloc _).trans hf5
  have HB5 := Lib.hid hblk
  have HE5 := Lib.hid her
  have HT5 := Lib.hid (HT4.out.kept0 f45)
  have HS5 := Lib.hid (HS4.out.kept0 f45)
  have F5 := Lib.hid (F4.out.trans f45)
  generalize w4.heap.size = Z at *
  clear hblk her f45 hf5 ho5 CBL HT4 HS4 F4
  have HC5 := Lib.hid (HC.out.kept0 F5.out)
  have CKN := Lib.hid (fun W (hW : Fr0 w5 W) id b hb => ref12_Known (HT5.out.kept0 hW) (by omega) id b hb)
  have CLN : Hid (∀ W, Fr0 w5 W → ∀ id, isKnown L id → Calls Tryz.prog 15 #[.agg #[.slice ra L.length rcap, .slice la L.length lcap], .int .i64 id] W fun e w' => e = .returned (.int .i64 (lnL L id)) ∧ Fr0 W w') := Lib.hid (fun W hW id hk => ref12_Length (HT5.out.kept0 hW) (by omega) id hk)
  clear HC HA HM
  obtain ⟨hsb0, hsb1⟩ := cells2q HB5.out
  go_wp2_with fail
  have HKN0 := Lib.hid (rfl : lenOk length = lenOk length)
  go_loopw [12, 62] (fun v i wr => ∃ (k : Nat) (n : Int), k ≤ cs.length ∧ i = .int .i64 k ∧ v = .int .i64 n ∧ Fr0 w5 wr ∧ Hid ((n = 0 ∧ allKnown L (cs.take k) = true) ∨ (n = 1 ∧ (lenOk length && allKnown L cs) = false))) (fun _ i _ => cs.length - (intOf i).toNat)
  case atStart => exact ⟨0, 0, Nat.zero_le _, rfl, rfl, Fr0.refl _, .inl ⟨rfl, rfl⟩⟩
  case round =>
    obtain ⟨k, n, hk, rfl, rfl, hfr, HN⟩ := hrel
    by_cases hlt : k < cs.length
    · obtain ⟨b, off, hab, lb, d0, d1, d2⟩ := (HC5.out.kept0 hfr) k hlt
      have CK := Lib.hid (fun W (hW : Fr0 wr W) => CKN.out W (hfr.trans hW) cs[k].text (knownB L cs[k].text) rfl)
      have HT : Hid (allKnown L (cs.take (k + 1)) = (allKnown L (cs.take k) && knownB L cs[k].text)) := by
        show _ = _
        rw [List.take_succ_eq_append_getElem hlt]; unfold allKnown; rw [List.all_append]; simp
      have HA : Hid (allKnown L cs = true → knownB L cs[k].text = true) := fun h => (knownB_iff _ _).2 ((allKnown_iff _ _).1 h _ (List.getElem_mem hlt))
      obtain ⟨z0, z1⟩ := cells2q (hfr.kept HB5.out)
      have lz := lt_of_block (hfr.kept HB5.out)
      have q0 : (0 : Int) ≤ (k : Int) := by omega
      have q1 : (k : Int) < (cs.length : Int) := by omega
      subst hab
      generalize cs[k] = c at *
      generalize knownB L c.text = kb at *
      cases kb with
      | false =>
        go_wp2_with fail
        refine (CK.out _ ((Fr0.refl wr).alloc _)).mono ?_
        rintro e wk ⟨rfl, hfk⟩
        have hfx : Fr0 w5 wk := hfr.trans (((Fr0.refl wr).alloc _).trans hfk)
        go_wp2_with fail
        go_roundw
        case rel => exact ⟨k + 1, 1, by omega, by go_num, rfl, hfx, .inr ⟨rfl, by cases hx : allKnown L cs with | false => simp | true => have := HA.out hx; cases this⟩⟩
        case measure => simp [intOf]; omega
      | true =>
        go_wp2_with fail
        refine (CK.out _ ((Fr0.refl wr).alloc _)).mono ?_
        rintro e wk ⟨rfl, hfk⟩
        have hfx : Fr0 w5 wk := hfr.trans (((Fr0.refl wr).alloc _).trans hfk)
        go_wp2_with fail
        go_roundw
        case rel => exact ⟨k + 1, n, by omega, by go_num, rfl, hfx, by rcases HN with ⟨h1, h2⟩ | h; exact .inl ⟨h1, by rw [HT.out, h2]; rfl⟩; exact .inr h⟩
        case measure => simp [intOf]; omega
    · have HN2 : Hid (WW L length cs n) := ww_of hk hlt HN
      clear HN
      have HN3 : Hid ((n = 0 ∧ (lenOk length && allKnown L cs) = true) ∨ (n = 1 ∧ (lenOk length && allKnown L cs) = false)) := by
        show _ ∨ _
        rcases HN2.out with ⟨h1, h2⟩ | h
        · exact .inl ⟨h1, by rw [h2, HLO.out]; rfl⟩
        · exact .inr h
      go_upto_block 2 with fail
      go_cut [12, 14, 15, 18] (fun s12 s14 s15 s18 wx => ∃ (n' size kept : Int) (lg : Bool), s12 = .int .i64 n' ∧ s14 = .int .i64 size ∧ s15 = .int .i64 kept ∧ s18 = .bool lg ∧ Fr0 w5 wx ∧ Hid (CkR L length cs n' size kept lg))
      case first =>
        rcases HN3.out with ⟨hn0, hbad⟩ | ⟨hn0, hbad⟩
        · subst hn0
          have HAK := Lib.hid hbad
          clear hbad HN2 HN3
          go_wp2_with fail
          obtain ⟨ws, rfl⟩ : ∃ ws : World, ws = wr := ⟨_, rfl⟩
          go_loopg [12, 13, 14, 15, 18, 88] cs.length (fun gk s12 s13 s14 s15 s18 i wx => ∃ (k : Nat) (e size kept : Int) (lg : Bool), k + gk = cs.length ∧ s12 = .int .i64 0 ∧ s13 = .int .i64 e ∧ s14 = .int .i64 size ∧ s15 = .int .i64 kept ∧ s18 = .bool lg ∧ i = .int .i64 k ∧ Hid (L2 w5 wx L length cs k e size kept lg))
          case atStart => exact ⟨0, -1, 0, length, false, by omega, rfl, rfl, rfl, rfl, rfl, rfl, L2.zero hfr hcase.1⟩
          case round =>
            obtain ⟨k2, e, size, kept, lg, hk2, rfl, rfl, rfl, rfl, rfl, rfl, HL⟩ := hrel
            have hf8 := HL.out.fr
            have b0 := HL.out.e0
            have b1 := HL.out.e1
            obtain ⟨b2, b3⟩ : -1 ≤ kept ∧ kept ≤ length := by have h1 := HL.out.kept; have h2 := HL.out.s0; have h3 := HL.out.s1; omega
            have hk3 : gk + k2 = cs.length := by omega
            clear hk2
            by_cases hlt2 : k2 < cs.length
            · have hkn := (allKnown_iff _ _).1 (by have := HAK.out; rw [Bool.and_eq_true] at this; exact this.2) cs[k2] (List.getElem_mem hlt2)
              obtain ⟨b4, off2, hab2, lb2, x0, x1, x2⟩ := (HC5.out.kept0 hf8) k2 hlt2
              obtain ⟨y0, y1⟩ := cells2q (hf8.kept HB5.out)
              have lz := lt_of_block (hf8.kept HB5.out)
              have q5 : (0 : Int) ≤ (k2 : Int) := by omega
              have q6 : (k2 : Int) < (cs.length : Int) := by omega
              have wl := (HSO.out.at _ hkn).1
              have wl0 : 0 ≤ lnL L cs[k2].text := wl.len0
              have wl1 : lnL L cs[k2].text ≤ 1152921504606846976 := wl.len1
              have CL := Lib.hid (fun W (hW : Fr0 wr W) => CLN.out W (hf8.trans hW) cs[k2].text hkn)
              have HSP : Hid (0 ≤ sumT (lnL L) (cs.take k2)) := sumT_nn (fun c hc => (HSO.out.at _ ((allKnown_iff _ _).1 (by have := HAK.out; rw [Bool.and_eq_true] at this; exact this.2) c (List.mem_of_mem_take hc))).1.len0)
              have sz0 : lg = false → 0 ≤ size ∧ size ≤ 1152921504606846976 := fun h => by obtain ⟨h1, h2⟩ := HL.out.sz h; have := HSP.out; exact ⟨by omega, h2⟩
              have HNX0 : Hid (fitB length e cs[k2] = true → (entAt L cs[k2].text).even = true → ∀ W, Fr0 w5 W → ∀ (size' : Int) (lg' : Bool), (lg = false → size' = size + lnL L cs[k2].text ∧ (lg' = false → size' ≤ 1152921504606846976) ∧ (lg' = true → 1152921504606846976 < size')) → (lg = true → lg' = true) → L2 w5 W L length cs (k2 + 1) (cs[k2].at_ + cs[k2].n) size' (kept - cs[k2].n) lg') := fun hfit hev W hf size' lg' h1 h2 => HL.out.next hlt2 hfit hev hf rfl wl0 HSP.out h1 h2
              subst hab2
              clear wl HSP
              generalize hcc : cs[k2] = c at *
              have HCC := Lib.hid hcc
              clear hcc
              obtain ⟨ca_, cn, ct⟩ := c
              dsimp only at *
              obtain ⟨t, rfl⟩ : ∃ t : Nat, ct = (t : Int) := ⟨ct.toNat, by have := hkn.1; omega⟩
              have ht : t < L.length + 1 := by have := hkn.2; omega
              have ht2 : (t : Int) < (L.length : Int) + 1 := by omega
              have ht3 : (0 : Int) ≤ (t : Int) := by omega
              obtain ⟨vb2, voff, hvab, lvb, hvc⟩ := BlR.idx (HE5.out.kept0 hf8) ht
              subst hvab
              clear hkn
              generalize lnL L (t : Int) = l0 at *
              generalize heb : (entAt L (t : Int)).even = eb at *
              have HEB := Lib.hid heb
              clear heb
              by_cases c1 : ca_ < 0
              · have e1 : decide (ca_ < 0) = true := decide_eq_true c1
                go_wp2_with fail
                go_meet
                case rel => exact ⟨4, _, _, _, rfl, rfl, rfl, rfl, hf8.alloc _, HL.out.bad hlt2 HAK.out (by rw [HCC.out]; exact .inl (fitB_false (.inl c1)))⟩
              have e1 : decide (ca_ < 0) = false := decide_eq_false c1
              by_cases c2 : cn < 0
              · have e2 : decide (cn < 0) = true := decide_eq_true c2
                go_wp2_with fail
                go_meet
                case rel => exact ⟨4, _, _, _, rfl, rfl, rfl, rfl, hf8.alloc _, HL.out.bad hlt2 HAK.out (by rw [HCC.out]; exact .inl (fitB_false (.inr (.inl c2))))⟩
              have e2 : decide (cn < 0) = false := decide_eq_false c2
              by_cases c3 : length < ca_
              · have e3 : decide (length < ca_) = true := decide_eq_true c3
                go_wp2_with fail
                go_meet
                case rel => exact ⟨4, _, _, _, rfl, rfl, rfl, rfl, hf8.alloc _, HL.out.bad hlt2 HAK.out (by rw [HCC.out]; exact .inl (fitB_false (.inr (.inr (.inl (by show length < ca_ + cn; omega))))))⟩
              have e3 : decide (length < ca_) = false := decide_eq_false c3
              by_cases c4 : length - ca_ < cn
              · have e4 : decide (length - ca_ < cn) = true := decide_eq_true c4
                go_wp2_with fail
                go_meet
                case rel => exact ⟨4, _, _, _, rfl, rfl, rfl, rfl, hf8.alloc _, HL.out.bad hlt2 HAK.out (by rw [HCC.out]; exact .inl (fitB_false (.inr (.inr (.inl (by show length < ca_ + cn; omega))))))⟩
              have e4 : decide (length - ca_ < cn) = false := decide_eq_false c4
              by_cases c5 : cn = 0
              · have e5 : (cn == 0) = true := beq_iff_eq.2 c5
                have HC5a := Lib.hid c5
                clear c5
                by_cases c6 : t = 0
                · have e6 : ((t : Int) == 0) = true := beq_iff_eq.2 (by omega)
                  have HC6 : Hid ((t : Int) = 0) := by show _ = _; omega
                  clear c6
                  go_wp2_with fail
                  go_meet
                  case rel => exact ⟨4, _, _, _, rfl, rfl, rfl, rfl, hf8.alloc _, HL.out.bad hlt2 HAK.out (by rw [HCC.out]; exact .inl (fitB_false (.inr (.inr (.inr (.inr ⟨HC5a.out, HC6.out⟩))))))⟩
                · have e6 : ((t : Int) == 0) = false := beq_eq_false_iff_ne.2 (by omega)
                  have H5 : Hid (¬ (cn = 0 ∧ (t : Int) = 0)) := by show ¬ _; omega
                  clear c6 HC5a
                  cases eb with
                  | false =>
                    go_wp2_with fail
                    go_meet
                    case rel => exact ⟨4, _, _, _, rfl, rfl, rfl, rfl, hf8.alloc _, HL.out.bad hlt2 HAK.out (by rw [HCC.out]; exact .inr HEB.out)⟩
                  | true =>
                    by_cases c7 : ca_ ≤ e
                    · have e7 : decide (ca_ ≤ e) = true := decide_eq_true c7
                      go_wp2_with fail
                      go_meet
                      case rel => exact ⟨4, _, _, _, rfl, rfl, rfl, rfl, hf8.alloc _, HL.out.bad hlt2 HAK.out (by rw [HCC.out]; exact .inl (fitB_false (.inr (.inr (.inr (.inl c7))))))⟩
                    · have e7 : decide (ca_ ≤ e) = false := decide_eq_false c7
                      have HNX := Lib.hid (HNX0.out (fitB_mk (c := ⟨ca_, cn, (t : Int)⟩) (by show 0 ≤ ca_; omega) (by show 0 ≤ cn; omega) (by show ca_ + cn ≤ length; omega) (by show e < ca_; omega) H5.out) rfl)
                      clear HNX0 H5 HEB HCC
                      cases lg with
                      | true =>
                        clear sz0
                        go_wp2_with fail
                        refine (CL.out _ ((Fr0.refl wr).alloc _)).mono ?_
                        rintro e9 w9 ⟨rfl, hf9⟩
                        have hfx : Fr0 w5 w9 := hf8.trans (((Fr0.refl wr).alloc _).trans hf9)
                        go_wp2_with fail
                        go_roundg (gk - 1)
                        case measure => omega
                        case rel => exact ⟨k2 + 1, _, _, _, true, by omega, rfl, rfl, rfl, rfl, rfl, by go_num, HNX.out _ hfx _ true (fun h => by cases h) (fun _ => rfl)⟩
                      | false =>
                        obtain ⟨z5, z6⟩ := sz0 rfl
                        clear sz0
                        by_cases c8 : 1152921504606846976 < size + l0
                        · have e8 : decide (1152921504606846976 < size + l0) = true := decide_eq_true c8
                          go_wp2_with fail
                          refine (CL.out _ ((Fr0.refl wr).alloc _)).mono ?_
                          rintro e9 w9 ⟨rfl, hf9⟩
                          have hfx : Fr0 w5 w9 := hf8.trans (((Fr0.refl wr).alloc _).trans hf9)
                          go_wp2_with fail
                          go_roundg (gk - 1)
                          case measure => omega
                          case rel => exact ⟨k2 + 1, _, _, _, true, by omega, rfl, rfl, rfl, rfl, rfl, by go_num, HNX.out _ hfx _ true (fun _ => ⟨rfl, (fun h => by cases h), fun _ => c8⟩) (fun h => by cases h)⟩
                        · have e8 : decide (1152921504606846976 < size + l0) = false := decide_eq_false c8
                          go_wp2_with fail
                          refine (CL.out _ ((Fr0.refl wr).alloc _)).mono ?_
                          rintro e9 w9 ⟨rfl, hf9⟩
                          have hfx : Fr0 w5 w9 := hf8.trans (((Fr0.refl wr).alloc _).trans hf9)
                          go_wp2_with fail
                          go_roundg (gk - 1)
                          case measure => omega
                          case rel => exact ⟨k2 + 1, _, _, _, false, by omega, rfl, rfl, rfl, rfl, rfl, by go_num, HNX.out _ hfx _ false (fun _ => ⟨rfl, (fun _ => by omega), fun h => by cases h⟩) (fun h => by cases h)⟩
              · have e5 : (cn == 0) = false := beq_eq_false_iff_ne.2 c5
                have H5 : Hid (¬ (cn = 0 ∧ (t : Int) = 0)) := by show ¬ _; omega
                clear c5
                cases eb with
                | false =>
                  go_wp2_with fail
                  go_meet
                  case rel => exact ⟨4, _, _, _, rfl, rfl, rfl, rfl, hf8.alloc _, HL.out.bad hlt2 HAK.out (by rw [HCC.out]; exact .inr HEB.out)⟩
                | true =>
                  by_cases c7 : ca_ ≤ e
                  · have e7 : decide (ca_ ≤ e) = true := decide_eq_true c7
                    go_wp2_with fail
                    go_meet
                    case rel => exact ⟨4, _, _, _, rfl, rfl, rfl, rfl, hf8.alloc _, HL.out.bad hlt2 HAK.out (by rw [HCC.out]; exact .inl (fitB_false (.inr (.inr (.inr (.inl c7))))))⟩
                  · have e7 : decide (ca_ ≤ e) = false := decide_eq_false c7
                    have HNX := Lib.hid (HNX0.out (fitB_mk (c := ⟨ca_, cn, (t : Int)⟩) (by show 0 ≤ ca_; omega) (by show 0 ≤ cn; omega) (by show ca_ + cn ≤ length; omega) (by show e < ca_; omega) H5.out) rfl)
                    clear HNX0 H5 HEB HCC
                    cases lg with
                    | true =>
                      clear sz0
                      go_wp2_with fail
                      refine (CL.out _ ((Fr0.refl wr).alloc _)).mono ?_
                      rintro e9 w9 ⟨rfl, hf9⟩
                      have hfx : Fr0 w5 w9 := hf8.trans (((Fr0.refl wr).alloc _).trans hf9)
                      go_wp2_with fail
                      go_roundg (gk - 1)
                      case measure => omega
                      case rel => exact ⟨k2 + 1, _, _, _, true, by omega, rfl, rfl, rfl, rfl, rfl, by go_num, HNX.out _ hfx _ true (fun h => by cases h) (fun _ => rfl)⟩
                    | false =>
                      obtain ⟨z5, z6⟩ := sz0 rfl
                      clear sz0
                      by_cases c8 : 1152921504606846976 < size + l0
                      · have e8 : decide (1152921504606846976 < size + l0) = true := decide_eq_true c8
                        go_wp2_with fail
                        refine (CL.out _ ((Fr0.refl wr).alloc _)).mono ?_
                        rintro e9 w9 ⟨rfl, hf9⟩
                        have hfx : Fr0 w5 w9 := hf8.trans (((Fr0.refl wr).alloc _).trans hf9)
                        go_wp2_with fail
                        go_roundg (gk - 1)
                        case measure => omega
                        case rel => exact ⟨k2 + 1, _, _, _, true, by omega, rfl, rfl, rfl, rfl, rfl, by go_num, HNX.out _ hfx _ true (fun _ => ⟨rfl, (fun h => by cases h), fun _ => c8⟩) (fun h => by cases h)⟩
                      · have e8 : decide (1152921504606846976 < size + l0) = false := decide_eq_false c8
                        go_wp2_with fail
                        refine (CL.out _ ((Fr0.refl wr).alloc _)).mono ?_
                        rintro e9 w9 ⟨rfl, hf9⟩
                        have hfx : Fr0 w5 w9 := hf8.trans (((Fr0.refl wr).alloc _).trans hf9)
                        go_wp2_with fail
                        go_roundg (gk - 1)
                        case measure => omega
                        case rel => exact ⟨k2 + 1, _, _, _, false, by omega, rfl, rfl, rfl, rfl, rfl, by go_num, HNX.out _ hfx _ false (fun _ => ⟨rfl, (fun _ => by omega), fun h => by cases h⟩) (fun h => by cases h)⟩
            · have y2 : decide ((k2 : Int) < (cs.length : Int)) = false := decide_eq_false (by omega)
              have y3 : decide (k2 < cs.length) = false := decide_eq_false hlt2
              go_wp2_with fail
              go_meet
              case rel => exact ⟨0, _, _, _, rfl, rfl, rfl, rfl, hf8, HL.out.done hlt2 HAK.out⟩
        · subst hn0
          have HB1 := Lib.hid hbad
          clear hbad HN2 HN3
          go_wp2_with fail
          obtain ⟨ws, rfl⟩ : ∃ ws : World, ws = wr := ⟨_, rfl⟩
          go_loopg [12, 14, 15, 18, 88] 1 (fun gk s12 s14 s15 s18 i wx => s12 = .int .i64 1 ∧ s14 = .int .i64 0 ∧ s15 = .int .i64 length ∧ s18 = .bool false ∧ i = .int .i64 0 ∧ Fr0 w5 wx)
          case atStart => exact ⟨rfl, rfl, rfl, rfl, rfl, hfr⟩
          case round =>
            obtain ⟨rfl, rfl, rfl, rfl, rfl, hf8⟩ := hrel
            by_cases hlt2 : 0 < cs.length
            · obtain ⟨b2, off2, hab2, lb2, x0, x1, x2⟩ := (HC5.out.kept0 hf8) 0 hlt2
              have y1 : (0 : Int) < (cs.length : Int) := by omega
              subst hab2
              generalize cs[0] = c at *
              rw [Nat.zero_mul, Nat.add_zero] at x0 x1 x2
              go_wp2_with fail
              go_meet
              case rel => exact ⟨1, _, _, _, rfl, rfl, rfl, rfl, hf8.alloc _, CkR.one HB1.out⟩
            · have y2 : decide ((0 : Int) < (cs.length : Int)) = false := decide_eq_false (by omega)
              have y3 : decide (0 < cs.length) = false := decide_eq_false (by omega)
              clear hlt2
              go_wp2_with fail
              go_meet
              case rel => exact ⟨1, _, _, _, rfl, rfl, rfl, rfl, hf8, CkR.one HB1.out⟩
      case rest =>
        obtain ⟨n', size, kept, lg, rfl, rfl, rfl, rfl, hf6, HR⟩ := hcut
        have HS6 := Lib.hid (HS5.out.kept0 hf6)
        have HC6 := Lib.hid (HC5.out.kept0 hf6)
        obtain ⟨sv6, hst6, -⟩ := HS6.out
        have HT6 := Lib.hid hst6
        have CLEN := Lib.hid (fun W (hW : Fr0 wc W) => sto_Len (HS6.out.kept0 hW))
        clear hst6 HS5 HC5 CKN CLN HB5 HE5 HT5 hsb0 hsb1 HN2
        by_cases hn : n' = 0
        · subst hn
          have HW := Lib.hid HR.out.1
          obtain ⟨hk1, hk2, hk3⟩ := HR.out.2 rfl
          have hsn := formed_sum (want_zero HW.out).1.1 cs (want_zero HW.out).2.2
          have hsn0 : 0 ≤ sumN cs := sumN_nn (fun c hc => (formed_nn cs _ (want_zero HW.out).2.2 c hc).1)
          have hst0 : 0 ≤ sumT (lnL L) cs := sumT_nn (fun c hc => (HSO.out.at _ ((want_zero HW.out).2.1 c hc).1).1.len0)
          have hw1 := (want_zero HW.out).1.2
          have CC := Lib.hid (fun W (hW : Fr0 wc W) => pat_Check_good (HT6.out.kept0 hW) length ca ccap cs (HC6.out.kept0 hW) (by omega) HW.out)
          cases lg with
          | true =>
            have hk4 := hk3 rfl
            have CE := Lib.hid (fun W (hW : Fr0 wc W) => pat_Length_over (HT6.out.kept0 hW) HSO.out length ca ccap cs (HC6.out.kept0 hW) (by omega) HW.out (by omega))
            clear hk1 hk2 hk3 hk4 hsn hsn0 hst0 HR HS6
            go_wp2_with fail
            refine (CLEN.out _ (Fr0.refl _)).mono ?_
            rintro e6 w6 ⟨rfl, rfl⟩
            go_wp2_with fail
            refine (CC.out _ (Fr0.refl _)).mono ?_
            rintro e7 w7 ⟨rfl, hf7⟩
            go_wp2_with fail
            refine (CE.out _ hf7).mono ?_
            rintro e8 w8 ⟨rfl, hf8⟩
            have hf9 := hf7.trans hf8
            clear hf8
            go_wp2_with fail
            refine (base_Num_nil _).mono ?_
            rintro e9 w9 ⟨rfl, rfl⟩
            go_wp2_with fail
            refine (CLEN.out _ hf9).mono ?_
            rintro e9 w9 ⟨rfl, rfl⟩
            go_wp2_with fail
            refine (base_Is 2 _ (by decide)).mono ?_
            rintro e9 w9 ⟨rfl, rfl⟩
            go_wp2_with fail
            go_ret
            exact ⟨by first | rfl | simp, F5.out.trans (hf6.trans hf9)⟩
          | false =>
            obtain ⟨hk4, hk5⟩ := hk2 rfl
            clear hk2 hk3
            by_cases c9 : 1152921504606846976 - size < kept
            · have e9 : decide (1152921504606846976 - size < kept) = true := decide_eq_true c9
              have s0 : 0 ≤ size := by omega
              have CE := Lib.hid (fun W (hW : Fr0 wc W) => pat_Length_over (HT6.out.kept0 hW) HSO.out length ca ccap cs (HC6.out.kept0 hW) (by omega) HW.out (by omega))
              clear hk1 hk4 hsn hsn0 hst0 HR HS6
              go_wp2_with fail
              refine (CLEN.out _ (Fr0.refl _)).mono ?_
              rintro e6 w6 ⟨rfl, rfl⟩
              go_wp2_with fail
              refine (CC.out _ (Fr0.refl _)).mono ?_
              rintro e7 w7 ⟨rfl, hf7⟩
              go_wp2_with fail
              refine (CE.out _ hf7).mono ?_
              rintro e8 w8 ⟨rfl, hf8⟩
              have hf9 := hf7.trans hf8
              clear hf8
              go_wp2_with fail
              refine (base_Num_nil _).mono ?_
              rintro e9 w9 ⟨rfl, rfl⟩
              go_wp2_with fail
              refine (CLEN.out _ hf9).mono ?_
              rintro e9 w9 ⟨rfl, rfl⟩
              go_wp2_with fail
              refine (base_Is 2 _ (by decide)).mono ?_
              rintro e9 w9 ⟨rfl, rfl⟩
              go_wp2_with fail
              go_ret
              exact ⟨by first | rfl | simp, F5.out.trans (hf6.trans hf9)⟩
            · have e9 : decide (1152921504606846976 - size < kept) = false := decide_eq_false c9
              have s0 : 0 ≤ size := by omega
              have s1 : 0 ≤ kept := by omega
              have s2 : length - sumN cs + sumT (lnL L) cs = kept + size := by omega
              have CE := Lib.hid (fun W (hW : Fr0 wc W) => pat_Length_good (HT6.out.kept0 hW) HSO.out length ca ccap cs (HC6.out.kept0 hW) (by omega) HW.out (by omega))
              rw [s2] at CE
              clear hk1 hk4 hsn hsn0 hst0 HR HS6 s2
              go_wp2_with fail
              refine (CLEN.out _ (Fr0.refl _)).mono ?_
              rintro e6 w6 ⟨rfl, rfl⟩
              go_wp2_with fail
              refine (CC.out _ (Fr0.refl _)).mono ?_
              rintro e7 w7 ⟨rfl, hf7⟩
              go_wp2_with fail
              refine (CE.out _ hf7).mono ?_
              rintro e8 w8 ⟨rfl, hf8⟩
              have hf9 := hf7.trans hf8
              clear hf8
              go_wp2_with fail
              refine (base_Num_nil _).mono ?_
              rintro e9 w9 ⟨rfl, rfl⟩
              go_wp2_with fail
              refine (CLEN.out _ hf9).mono ?_
              rintro e9 w9 ⟨rfl, rfl⟩
              go_wp2_with fail
              refine (base_Num_nil _).mono ?_
              rintro e9 w9 ⟨rfl, rfl⟩
              go_wp2_with fail
              go_ret
              exact ⟨by first | rfl | simp, F5.out.trans (hf6.trans hf9)⟩
        · have HN := Lib.hid hn
          have en : (n' == 0) = false := beq_eq_false_iff_ne.2 hn
          have CC := Lib.hid (fun W (hW : Fr0 wc W) => pat_Check_bad (HT6.out.kept0 hW) length ca ccap cs (HC6.out.kept0 hW) (by omega) HR.out.1 HN.out)
          have CE := Lib.hid (fun W (hW : Fr0 wc W) => pat_Length_bad (HT6.out.kept0 hW) length ca ccap cs (HC6.out.kept0 hW) (by omega) HR.out.1 HN.out)
          clear hn HR HS6
          go_wp2_with fail
          refine (CLEN.out _ (Fr0.refl _)).mono ?_
          rintro e6 w6 ⟨rfl, rfl⟩
          go_wp2_with fail
          refine (CC.out _ (Fr0.refl _)).mono ?_
          rintro e7 w7 ⟨rfl, hf7⟩
          go_wp2_with fail
          refine (CE.out _ hf7).mono ?_
          rintro e8 w8 ⟨rfl, hf8⟩
          have hf9 := hf7.trans hf8
          clear hf8
          go_wp2_with fail
          refine (base_Num _ _).mono ?_
          rintro e9 w9 ⟨rfl, rfl⟩
          go_wp2_with fail
          refine (CLEN.out _ hf9).mono ?_
          rintro e9 w9 ⟨rfl, rfl⟩
          go_wp2_with fail
          refine (base_Num _ _).mono ?_
          rintro e9 w9 ⟨rfl, rfl⟩
          go_wp2_with fail
          go_ret
          exact ⟨by first | rfl | simp, F5.out.trans (hf6.trans hf9)⟩


end Go.Proofs.YtclpndigmidjkaaGreat

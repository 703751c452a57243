/- The walk of patch.Length where the text would be too long. -/
import Derived.Test.YtclpndigmidjkaaGreatQe
import Derived.Test.YtclpndigmidjkaaGreatQLenM
set_option linter.unusedSimpArgs false
set_option linter.unusedVariables false
namespace Go.Proofs.YtclpndigmidjkaaGreat
open Go.RowKit

set_option maxRecDepth 100000 in
set_option maxHeartbeats 2000000 in
theorem pat_Length_long {w : World} {p mb : Nat} {most : Int} {sv : Value} {L : List Ent} (hS : St w p mb most sv L) (hO : SOk L) (length : Int) (h0 : 0 ≤ length) (h1 : length ≤ 1152921504606846976) (a : Option Addr) (cap : Nat) (cs : List Chg) (hc : ChgsAt w a cs) (hl : cs.length ≤ 1000000) (hk : ∀ c ∈ cs, isKnown L c.text ∧ (entAt L c.text).even = true)
    (hfm : formedFrom length (-1) cs = true) (ht : 1152921504606846976 < length - sumN cs + sumT (lnL L) cs) :
    Calls Tryz.prog 18 #[.pointer (some ⟨p, 0, none⟩), .int .i64 length, .slice a cs.length cap] w fun e w' => e = .returned (.tuple #[.int .i64 0, .iface 52 (.int .i64 2)]) ∧ Fr0 w w' := by
  have CK := Lib.hid (pat_Check_formed hS length h0 h1 a cap cs hc hl (fun c hc => (hk c hc).1) hfm .nilIface (fun W hW => pat_balanced_ok (hS.kept0 hW) a cap cs (hc.kept0 hW) hl hk))
  have HC := Lib.hid hc
  have HS := Lib.hid hS
  have HK := Lib.hid hk
  have HF := Lib.hid hfm
  have hnn : ∀ c ∈ cs, 0 ≤ lnL L c.text ∧ lnL L c.text ≤ 1152921504606846976 := fun c hc => ⟨(hO.at _ (hk c hc).1).1.len0, (hO.at _ (hk c hc).1).1.len1⟩
  have hN0 := formed_sum h0 cs hfm
  have hNN := Lib.hid (formed_nn cs _ hfm)
  have HNN := Lib.hid hnn
  have hsn := sumN_nn (fun c hc => (hNN.out c hc).1)
  clear hc hS hk hfm hO hnn
  obtain ⟨sN, hsN⟩ : ∃ s, sumN cs = s := ⟨_, rfl⟩
  obtain ⟨sT, hsT⟩ : ∃ s, sumT (lnL L) cs = s := ⟨_, rfl⟩
  rw [hsN] at hN0 hsn ht
  rw [hsT] at ht
  have HSN := Lib.hid hsN
  have HST := Lib.hid hsT
  clear hsN hsT
  go_enter Tryz.func18, Tryz.ntmps18
  go_wp2_with fail
  refine CK.out.mono ?_
  rintro e w1 ⟨rfl, hf1⟩
  go_wp2_with fail
  go_loopw [1, 24] (fun v i wr => ∃ (k : Nat), k ≤ cs.length ∧ i = .int .i64 k ∧ v = .int .i64 (length - sumN (cs.take k)) ∧ Fr0 w wr) (fun _ i _ => cs.length - (intOf i).toNat)
  case atStart => exact ⟨0, Nat.zero_le _, rfl, by simp [sumN], hf1⟩
  case round =>
    obtain ⟨k, hk, rfl, rfl, hfr⟩ := hrel
    have g1 := formed_sum h0 _ (formed_take cs _ k HF.out)
    have g2 : 0 ≤ sumN (cs.take k) := sumN_nn (fun c hc => (hNN.out c (List.mem_of_mem_take hc)).1)
    by_cases hlt : k < cs.length
    · obtain ⟨b, off, hab, lb, d0, d1, d2⟩ := (HC.out.kept0 hfr) k hlt
      have hcn := hNN.out cs[k] (List.getElem_mem _)
      have HT : Hid (sumN (cs.take (k + 1)) = sumN (cs.take k) + cs[k].n) := by show _ = _; rw [List.take_succ_eq_append_getElem hlt, sumN_snoc]
      subst hab
      generalize cs[k] = c at *
      generalize sumN (cs.take k) = s0 at *
      go_wp2_with fail
      go_roundw
      case rel => exact ⟨k + 1, by omega, by go_num, by rw [HT.out]; go_num, hfr.alloc _⟩
      case measure => simp [intOf]; omega
    · have hke : Hid (sumN (cs.take k) = sN) := by show _ = _; rw [List.take_of_length_le (by omega)]; exact HSN.out
      rw [hke.out]
      clear g1 g2 hke
      go_wp2_with fail
      clear hlt hk
      obtain ⟨wo, rfl⟩ : ∃ wo : World, wo = wr := ⟨_, rfl⟩
      go_loopw [1, 35] (fun v i wr => ∃ (k : Nat), k ≤ cs.length ∧ i = .int .i64 k ∧ v = .int .i64 (length - sN + sumT (lnL L) (cs.take k)) ∧ length - sN + sumT (lnL L) (cs.take k) ≤ 1152921504606846976 ∧ Fr0 w wr) (fun _ i _ => cs.length - (intOf i).toNat)
      case atStart => exact ⟨0, Nat.zero_le _, rfl, by simp [sumT], by simp only [List.take_zero, sumT]; omega, hfr⟩
      case round =>
        clear hfr
        obtain ⟨k, hk, rfl, rfl, hle, hfr⟩ := hrel
        have g2 : 0 ≤ sumT (lnL L) (cs.take k) := sumT_nn (fun c hc => (HNN.out c (List.mem_of_mem_take hc)).1)
        by_cases hlt : k < cs.length
        · obtain ⟨b, off, hab, lb, d0, d1, d2⟩ := (HC.out.kept0 hfr) k hlt
          obtain ⟨hln, hln2⟩ := HNN.out cs[k] (List.getElem_mem _)
          have g5 : sumT (lnL L) (cs.take (k + 1)) = sumT (lnL L) (cs.take k) + lnL L cs[k].text := by rw [List.take_succ_eq_append_getElem hlt, sumT_snoc]
          have HT := Lib.hid g5
          have CSZ := Lib.hid (fun W (hf : Fr0 wr W) => patch_sizeL (HS.out.kept0 (hfr.trans hf)) cs[k].text (HK.out cs[k] (List.getElem_mem _)).1)
          clear g5
          by_cases hfit : length - sN + sumT (lnL L) (cs.take k) + lnL L cs[k].text ≤ 1152921504606846976
          · have CAD := Lib.hid (fun W => len_Add_ok (length - sN + sumT (lnL L) (cs.take k)) (lnL L cs[k].text) W (by omega) hln (by omega))
            subst hab
            generalize cs[k] = c at *
            generalize sumT (lnL L) (cs.take k) = s0 at *
            generalize lnL L c.text = l0 at *
            go_wp2_with fail
            refine (CSZ.out _ ((Fr0.refl wr).alloc _)).mono ?_
            rintro e w3 ⟨rfl, hf3⟩
            go_wp2_with fail
            refine (CAD.out _).mono ?_
            rintro e w4 ⟨rfl, rfl⟩
            go_wp2_with fail
            go_roundw
            case rel => exact ⟨k + 1, by omega, by go_num, by rw [HT.out]; go_num, by rw [HT.out]; omega, hfr.trans (((Fr0.refl wr).alloc _).trans hf3)⟩
            case measure => simp [intOf]; omega
          · have CAD := Lib.hid (fun W => len_Add_long (length - sN + sumT (lnL L) (cs.take k)) (lnL L cs[k].text) W (by omega) hle hln hln2 (by omega))
            subst hab
            generalize cs[k] = c at *
            generalize sumT (lnL L) (cs.take k) = s0 at *
            generalize lnL L c.text = l0 at *
            go_wp2_with fail
            refine (CSZ.out _ ((Fr0.refl wr).alloc _)).mono ?_
            rintro e w3 ⟨rfl, hf3⟩
            go_wp2_with fail
            refine (CAD.out _).mono ?_
            rintro e w4 ⟨rfl, rfl⟩
            go_wp2_with fail
            go_ret2
            exact ⟨rfl, hfr.trans (((Fr0.refl wr).alloc _).trans hf3)⟩
        · have hke : sumT (lnL L) (cs.take k) = sT := by rw [List.take_of_length_le (by omega)]; exact HST.out
          exfalso
          rw [hke] at hle
          omega

end Go.Proofs.YtclpndigmidjkaaGreat

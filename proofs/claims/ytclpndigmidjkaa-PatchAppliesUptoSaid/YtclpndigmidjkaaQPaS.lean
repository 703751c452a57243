/- The walk of patch.Size. -/
import Derived.Test.YtclpndigmidjkaaQPaB
set_option linter.unusedSimpArgs false
set_option linter.unusedVariables false
namespace Go.Proofs.Ytclpndigmidjkaa
open Go.RowKit

theorem validP_mono {T T' : Int} (h : T ≤ T') : ∀ (ps : List PC) (last : Int), validP T last ps = true → validP T' last ps = true
  | [], _, _ => rfl
  | c :: r, last, hv => by
    unfold validP at hv ⊢
    rw [Bool.and_eq_true] at hv ⊢
    obtain ⟨t1, t2, t3, t4, t5⟩ := fitP_true hv.1
    exact ⟨decide_eq_true ⟨t1, t2, by omega, t4, t5⟩, validP_mono h r _ hv.2⟩

set_option maxRecDepth 100000 in
set_option maxHeartbeats 2000000 in
theorem pat_Size_ok {w : World} {p mb : Nat} {most : Int} {sv : Value} {L : List Ent} (hS : St w p mb most sv L) (hO : SOk L) (a : Option Addr) (cap : Nat) (cs : List Chg) (hc : ChgsAt w a cs) (hl : cs.length ≤ 1000000) (hk : ∀ c ∈ cs, isKnown L c.text ∧ (entAt L c.text).even = true)
    (hfm : formedFrom 1152921504606846976 (-1) cs = true) (ht : sumT (lnL L) cs ≤ 1152921504606846976) :
    Calls Try.prog 14 #[.pointer (some ⟨p, 0, none⟩), .slice a cs.length cap] w fun e w' => e = .returned (.tuple #[.int .i64 (sumN cs), .int .i64 (sumT (lnL L) cs), .nilIface]) ∧ Fr0 w w' := by
  have CK := Lib.hid (pat_Check_formed hS 1152921504606846976 (by omega) (by omega) a cap cs hc hl (fun c hc => (hk c hc).1) hfm .nilIface (fun W hW => pat_balanced_ok (hS.kept0 hW) a cap cs (hc.kept0 hW) hl hk))
  have HC := Lib.hid hc
  have HS := Lib.hid hS
  have HK := Lib.hid hk
  have HF := Lib.hid hfm
  have hnn : ∀ c ∈ cs, 0 ≤ lnL L c.text := fun c hc => (hO.at _ (hk c hc).1).1.len0
  have hNN := Lib.hid (formed_nn cs _ hfm)
  have HNN := Lib.hid hnn
  clear hc hS hk hfm hO hnn
  obtain ⟨sT, hsT⟩ : ∃ s, sumT (lnL L) cs = s := ⟨_, rfl⟩
  rw [hsT] at ht ⊢
  have HST := Lib.hid hsT
  clear hsT
  go_enter Try.func14, Try.ntmps14
  go_wp2_with fail
  refine CK.out.mono ?_
  rintro e w1 ⟨rfl, hf1⟩
  go_wp2_with fail
  go_loopw [4, 5, 20] (fun x y i wr => ∃ (k : Nat), k ≤ cs.length ∧ i = .int .i64 k ∧ x = .int .i64 (sumN (cs.take k)) ∧ y = .int .i64 (sumT (lnL L) (cs.take k)) ∧ Fr0 w wr) (fun _ _ i _ => cs.length - (intOf i).toNat)
  case atStart => exact ⟨0, Nat.zero_le _, rfl, by simp [sumN], by simp [sumT], hf1⟩
  case round =>
    obtain ⟨k, hk, rfl, rfl, rfl, hfr⟩ := hrel
    have g1 := formed_sum (by omega) _ (formed_take cs _ k HF.out)
    have g0 : 0 ≤ sumN (cs.take k) := sumN_nn (fun c hc => (hNN.out c (List.mem_of_mem_take hc)).1)
    have g2 : 0 ≤ sumT (lnL L) (cs.take k) := sumT_nn (fun c hc => HNN.out c (List.mem_of_mem_take hc))
    by_cases hlt : k < cs.length
    · obtain ⟨b, off, hab, lb, d0, d1, d2⟩ := (HC.out.kept0 hfr) k hlt
      have hcn := hNN.out cs[k] (List.getElem_mem _)
      have hln := HNN.out cs[k] (List.getElem_mem _)
      have g3 : 0 ≤ sumT (lnL L) (cs.drop (k + 1)) := sumT_nn (fun c hc => HNN.out c (List.mem_of_mem_drop hc))
      have g4 : sT = sumT (lnL L) (cs.take (k + 1)) + sumT (lnL L) (cs.drop (k + 1)) := by rw [← sumT_split, List.take_append_drop]; exact HST.out.symm
      have g5 : sumT (lnL L) (cs.take (k + 1)) = sumT (lnL L) (cs.take k) + lnL L cs[k].text := by rw [List.take_succ_eq_append_getElem hlt, sumT_snoc]
      have HT := Lib.hid g5
      have HTN : Hid (sumN (cs.take (k + 1)) = sumN (cs.take k) + cs[k].n) := by show _ = _; rw [List.take_succ_eq_append_getElem hlt, sumN_snoc]
      have CSZ := Lib.hid (fun W (hf : Fr0 wr W) => patch_sizeL (HS.out.kept0 (hfr.trans hf)) cs[k].text (HK.out cs[k] (List.getElem_mem _)).1)
      have CAD := Lib.hid (fun W => len_Add_ok (sumT (lnL L) (cs.take k)) (lnL L cs[k].text) W (by omega) hln (by omega))
      clear g3 g4 g5
      subst hab
      generalize cs[k] = c at *
      generalize sumN (cs.take k) = n0 at *
      generalize sumT (lnL L) (cs.take k) = s0 at *
      generalize lnL L c.text = l0 at *
      go_wp2_with fail
      refine (CSZ.out _ ((Fr0.refl wr).alloc _)).mono ?_
      rintro e w3 ⟨rfl, hf3⟩
      have hr3 := hf3.kept (b := wr.heap.size) (alloc_at wr _ _ rfl)
      obtain ⟨e0, e1, e2, _, le⟩ := cells3 hr3
      clear hr3
      go_wp2_with fail
      refine (CAD.out _).mono ?_
      rintro e w4 ⟨rfl, rfl⟩
      go_wp2_with fail
      go_roundw
      case rel => exact ⟨k + 1, by omega, by go_num, by rw [HTN.out], by rw [HT.out], hfr.trans (((Fr0.refl wr).alloc _).trans hf3)⟩
      case measure => simp [intOf]; omega
    · have hke : Hid (sumT (lnL L) (cs.take k) = sT ∧ sumN (cs.take k) = sumN cs) := by
        have : cs.take k = cs := List.take_of_length_le (by omega)
        rw [this]
        exact ⟨HST.out, rfl⟩
      rw [hke.out.1, hke.out.2]
      clear g1 g0 g2 hke
      go_wp2_with fail
      go_ret3
      exact ⟨rfl, hfr⟩

end Go.Proofs.Ytclpndigmidjkaa

/- The walk of patch.Check where every text is known. -/
import Derived.Test.YtbokcmkbnkncoaaPat2
set_option linter.unusedSimpArgs false
set_option linter.unusedVariables false
namespace Go.Proofs.Ytbokcmkbnkncoaa
open Go.RowKit

theorem fitB_true {length last : Int} {c : Chg} (h : fitB length last c = true) : 0 ≤ c.at_ ∧ 0 ≤ c.n ∧ c.at_ + c.n ≤ length ∧ last < c.at_ ∧ ¬ (c.n = 0 ∧ c.text = 0) := by
  exact of_decide_eq_true h

theorem formed_drop {length last : Int} {cs : List Chg} {k : Nat} (h : k < cs.length) {b : Bool} (hf : formedFrom length last (cs.drop k) = b) : (fitB length last cs[k] && formedFrom length (cs[k].at_ + cs[k].n) (cs.drop (k + 1))) = b := by
  rw [List.drop_eq_getElem_cons h] at hf
  exact hf

set_option maxRecDepth 100000 in
set_option maxHeartbeats 2000000 in
theorem pat_Check_formed {w : World} {p mb : Nat} {most : Int} {sv : Value} {L : List Ent} (hS : St w p mb most sv L) (length : Int) (h0 : 0 ≤ length) (h1 : length ≤ 1152921504606846976) (a : Option Addr) (cap : Nat) (cs : List Chg) (hc : ChgsAt w a cs) (hl : cs.length ≤ 1000000) (hk : ∀ c ∈ cs, isKnown L c.text)
    (hfm : formedFrom length (-1) cs = true) (R : Value) (hB : ∀ W, Fr0 w W → Calls Try.prog 51 #[.pointer (some ⟨p, 0, none⟩), .slice a cs.length cap] W fun e w' => e = .returned R ∧ Fr0 W w') :
    Calls Try.prog 40 #[.pointer (some ⟨p, 0, none⟩), .int .i64 length, .slice a cs.length cap] w fun e w' => e = .returned R ∧ Fr0 w w' := by
  have CV := Lib.hid (len_Valid_yes length w h0 h1)
  have HC := Lib.hid hc
  have HS := Lib.hid hS
  have HK := Lib.hid hk
  have HF := Lib.hid hfm
  have HB := Lib.hid hB
  clear hc hS hk hfm hB
  go_enter Try.func40, Try.ntmps40
  go_wp2_with fail
  refine CV.out.mono ?_
  rintro e w' ⟨rfl, rfl⟩
  go_wp2_with fail
  go_loopw [21] (fun i wr => ∃ (k : Nat), k ≤ cs.length ∧ i = .int .i64 k ∧ Fr0 w wr) (fun i _ => cs.length - (intOf i).toNat)
  case atStart => exact ⟨0, Nat.zero_le _, rfl, Fr0.refl w⟩
  case round =>
    obtain ⟨k, hk, rfl, hfr⟩ := hrel
    by_cases hlt : k < cs.length
    · obtain ⟨b, off, hab, lb, d0, d1, d2⟩ := (HC.out.kept0 hfr) k hlt
      have hkn := HK.out cs[k] (List.getElem_mem _)
      subst hab
      generalize cs[k] = c at *
      have CU := Lib.hid (fun W (hf : Fr0 wr W) => patch_unknown (HS.out.kept0 (hfr.trans hf)) c.text false (by obtain ⟨a1, a2⟩ := hkn; symm; simp; omega))
      clear hkn
      go_wp2_with fail
      refine (CU.out _ ((Fr0.refl wr).alloc _)).mono ?_
      rintro e w' ⟨rfl, rfl⟩
      go_wp2_with fail
      go_roundw
      case rel => exact ⟨k + 1, by omega, by go_num, hfr.alloc _⟩
      case measure => simp [intOf]; omega
    · go_wp2_with fail
      clear hlt hk
      obtain ⟨wo, rfl⟩ : ∃ wo : World, wo = wr := ⟨_, rfl⟩
      go_loopw [9, 33] (fun la i wr => ∃ (k : Nat) (last : Int), k ≤ cs.length ∧ i = .int .i64 k ∧ la = .int .i64 last ∧ Fr0 w wr ∧ Hid (formedFrom length last (cs.drop k) = true)) (fun _ i _ => cs.length - (intOf i).toNat)
      case atStart => exact ⟨0, -1, Nat.zero_le _, rfl, rfl, hfr, HF.out⟩
      case round =>
        clear hfr
        obtain ⟨k, last, hk, rfl, rfl, hfr, HFM⟩ := hrel
        by_cases hlt : k < cs.length
        · obtain ⟨b, off, hab, lb, d0, d1, d2⟩ := (HC.out.kept0 hfr) k hlt
          have hfd := formed_drop hlt HFM.out
          rw [Bool.and_eq_true] at hfd
          obtain ⟨hfit, hnx⟩ := hfd
          have HNX := Lib.hid hnx
          obtain ⟨t1, t2, t3, t4, t5⟩ := fitB_true hfit
          clear hnx hfit HFM
          subst hab
          generalize cs[k] = c at *
          have CR := Lib.hid (fun w => len_Range_ok c.at_ c.n length w t1 t2 t3 h1)
          have q1 : decide (c.at_ ≤ last) = false := decide_eq_false (by omega)
          by_cases hn : c.n = 0
          · have q2 : (c.text == 0) = false := by simp; exact fun h => t5 ⟨hn, h⟩
            have q3 : (c.n == 0) = true := by simpa using hn
            clear t5 hn
            go_wp2_with fail
            refine (CR.out _).mono ?_
            rintro e w' ⟨rfl, rfl⟩
            go_wp2_with fail
            go_roundw
            case rel => exact ⟨k + 1, c.at_ + c.n, by omega, by go_num, rfl, hfr.alloc _, HNX⟩
            case measure => simp [intOf]; omega
          · have q3 : (c.n == 0) = false := by simpa using hn
            clear t5 hn
            go_wp2_with fail
            refine (CR.out _).mono ?_
            rintro e w' ⟨rfl, rfl⟩
            go_wp2_with fail
            go_roundw
            case rel => exact ⟨k + 1, c.at_ + c.n, by omega, by go_num, rfl, hfr.alloc _, HNX⟩
            case measure => simp [intOf]; omega
        · go_wp2_with fail
          refine (HB.out _ hfr).mono ?_
          rintro e w2 ⟨rfl, hf2⟩
          go_wp2_with fail
          go_ret
          exact ⟨rfl, hfr.trans hf2⟩

set_option maxRecDepth 100000 in
set_option maxHeartbeats 2000000 in
theorem pat_Check_form {w : World} {p mb : Nat} {most : Int} {sv : Value} {L : List Ent} (hS : St w p mb most sv L) (length : Int) (h0 : 0 ≤ length) (h1 : length ≤ 1152921504606846976) (a : Option Addr) (cap : Nat) (cs : List Chg) (hc : ChgsAt w a cs) (hl : cs.length ≤ 1000000) (hk : ∀ c ∈ cs, isKnown L c.text)
    (hfm : formedFrom length (-1) cs = false) :
    Calls Try.prog 40 #[.pointer (some ⟨p, 0, none⟩), .int .i64 length, .slice a cs.length cap] w fun e w' => e = .returned (.iface 66 (.int .i64 4)) ∧ Fr0 w w' := by
  have CV := Lib.hid (len_Valid_yes length w h0 h1)
  have HC := Lib.hid hc
  have HS := Lib.hid hS
  have HK := Lib.hid hk
  have HF := Lib.hid hfm
  clear hc hS hk hfm
  go_enter Try.func40, Try.ntmps40
  go_wp2_with fail
  refine CV.out.mono ?_
  rintro e w' ⟨rfl, rfl⟩
  go_wp2_with fail
  go_loopw [21] (fun i wr => ∃ (k : Nat), k ≤ cs.length ∧ i = .int .i64 k ∧ Fr0 w wr) (fun i _ => cs.length - (intOf i).toNat)
  case atStart => exact ⟨0, Nat.zero_le _, rfl, Fr0.refl w⟩
  case round =>
    obtain ⟨k, hk, rfl, hfr⟩ := hrel
    by_cases hlt : k < cs.length
    · obtain ⟨b, off, hab, lb, d0, d1, d2⟩ := (HC.out.kept0 hfr) k hlt
      have hkn := HK.out cs[k] (List.getElem_mem _)
      subst hab
      generalize cs[k] = c at *
      have CU := Lib.hid (fun W (hf : Fr0 wr W) => patch_unknown (HS.out.kept0 (hfr.trans hf)) c.text false (by obtain ⟨a1, a2⟩ := hkn; symm; simp; omega))
      clear hkn
      go_wp2_with fail
      refine (CU.out _ ((Fr0.refl wr).alloc _)).mono ?_
      rintro e w' ⟨rfl, rfl⟩
      go_wp2_with fail
      go_roundw
      case rel => exact ⟨k + 1, by omega, by go_num, hfr.alloc _⟩
      case measure => simp [intOf]; omega
    · go_wp2_with fail
      clear hlt hk
      obtain ⟨wo, rfl⟩ : ∃ wo : World, wo = wr := ⟨_, rfl⟩
      go_loopw [9, 33] (fun la i wr => ∃ (k : Nat) (last : Int), k ≤ cs.length ∧ i = .int .i64 k ∧ la = .int .i64 last ∧ Fr0 w wr ∧ Hid (formedFrom length last (cs.drop k) = false)) (fun _ i _ => cs.length - (intOf i).toNat)
      case atStart => exact ⟨0, -1, Nat.zero_le _, rfl, rfl, hfr, HF.out⟩
      case round =>
        clear hfr
        obtain ⟨k, last, hk, rfl, rfl, hfr, HFM⟩ := hrel
        by_cases hlt : k < cs.length
        · obtain ⟨b, off, hab, lb, d0, d1, d2⟩ := (HC.out.kept0 hfr) k hlt
          have hfd := formed_drop hlt HFM.out
          subst hab
          cases hfit : fitB length last cs[k] with
          | true =>
            rw [hfit, Bool.true_and] at hfd
            have HNX := Lib.hid hfd
            obtain ⟨t1, t2, t3, t4, t5⟩ := fitB_true hfit
            clear hfit HFM hfd
            generalize cs[k] = c at *
            have CR := Lib.hid (fun w => len_Range_ok c.at_ c.n length w t1 t2 t3 h1)
            have q1 : decide (c.at_ ≤ last) = false := decide_eq_false (by omega)
            by_cases hn : c.n = 0
            · have q2 : (c.text == 0) = false := by simp; exact fun h => t5 ⟨hn, h⟩
              have q3 : (c.n == 0) = true := by simpa using hn
              clear t5 hn
              go_wp2_with fail
              refine (CR.out _).mono ?_
              rintro e w' ⟨rfl, rfl⟩
              go_wp2_with fail
              go_roundw
              case rel => exact ⟨k + 1, c.at_ + c.n, by omega, by go_num, rfl, hfr.alloc _, HNX⟩
              case measure => simp [intOf]; omega
            · have q3 : (c.n == 0) = false := by simpa using hn
              clear t5 hn
              go_wp2_with fail
              refine (CR.out _).mono ?_
              rintro e w' ⟨rfl, rfl⟩
              go_wp2_with fail
              go_roundw
              case rel => exact ⟨k + 1, c.at_ + c.n, by omega, by go_num, rfl, hfr.alloc _, HNX⟩
              case measure => simp [intOf]; omega
          | false =>
            clear HFM hfd
            generalize cs[k] = c at *
            by_cases hr : 0 ≤ c.at_ ∧ 0 ≤ c.n ∧ c.at_ + c.n ≤ length
            · obtain ⟨t1, t2, t3⟩ := hr
              have CR := Lib.hid (fun w => len_Range_ok c.at_ c.n length w t1 t2 t3 h1)
              by_cases ha : c.at_ ≤ last
              · have q1 : decide (c.at_ ≤ last) = true := decide_eq_true ha
                clear hfit
                go_wp2_with fail
                refine (CR.out _).mono ?_
                rintro e w' ⟨rfl, rfl⟩
                go_wp2_with fail
                go_ret
                exact ⟨rfl, hfr.alloc _⟩
              · have q1 : decide (c.at_ ≤ last) = false := decide_eq_false ha
                have hnt : c.n = 0 ∧ c.text = 0 := by
                  refine Classical.byContradiction fun hx => ?_
                  have : fitB length last c = true := by unfold fitB; exact decide_eq_true ⟨t1, t2, t3, by omega, hx⟩
                  rw [this] at hfit; cases hfit
                have q2 : (c.n == 0) = true := by simpa using hnt.1
                have q3 : (c.text == 0) = true := by simpa using hnt.2
                clear hfit hnt
                go_wp2_with fail
                refine (CR.out _).mono ?_
                rintro e w' ⟨rfl, rfl⟩
                go_wp2_with fail
                go_ret
                exact ⟨rfl, hfr.alloc _⟩
            · have CR := Lib.hid (fun w => len_Range_no c.at_ c.n length w (by omega) h0 h1)
              clear hfit hr
              go_wp2_with fail
              refine (CR.out _).mono ?_
              rintro e w' ⟨rfl, rfl⟩
              go_wp2_with fail
              go_ret
              exact ⟨rfl, hfr.alloc _⟩
        · exfalso
          have hf := HFM.out
          rw [List.drop_of_length_le (by omega)] at hf
          cases hf

end Go.Proofs.Ytbokcmkbnkncoaa

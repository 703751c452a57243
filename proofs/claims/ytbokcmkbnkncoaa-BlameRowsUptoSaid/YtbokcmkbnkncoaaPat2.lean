/- The walk of patch.Check. -/
import Derived.Test.YtbokcmkbnkncoaaPat1
set_option linter.unusedSimpArgs false
set_option linter.unusedVariables false
namespace Go.Proofs.Ytbokcmkbnkncoaa
open Go.RowKit

/-- One change fits behind the change before. -/
def fitB (length last : Int) (c : Chg) : Bool := decide (0 ≤ c.at_ ∧ 0 ≤ c.n ∧ c.at_ + c.n ≤ length ∧ last < c.at_ ∧ ¬ (c.n = 0 ∧ c.text = 0))

/-- The changes are a patch of a text of a length. -/
def formedFrom (length : Int) : Int → List Chg → Bool
  | _, [] => true
  | last, c :: r => fitB length last c && formedFrom length (c.at_ + c.n) r

set_option maxRecDepth 100000 in
set_option maxHeartbeats 1000000 in
theorem pat_Check_unknown {w : World} {p mb : Nat} {most : Int} {sv : Value} {L : List Ent} (hS : St w p mb most sv L) (length : Int) (h0 : 0 ≤ length) (h1 : length ≤ 1152921504606846976) (a : Option Addr) (cap : Nat) (cs : List Chg) (hc : ChgsAt w a cs) (hl : cs.length ≤ 1000000) (hbad : ∃ c ∈ cs, ¬ isKnown L c.text) :
    Calls Try.prog 40 #[.pointer (some ⟨p, 0, none⟩), .int .i64 length, .slice a cs.length cap] w fun e w' => e = .returned (.iface 66 (.int .i64 1)) ∧ Fr0 w w' := by
  have CV := Lib.hid (len_Valid_yes length w h0 h1)
  have HC := Lib.hid hc
  have HS := Lib.hid hS
  have HBAD := Lib.hid hbad
  clear hc hS hbad
  go_enter Try.func40, Try.ntmps40
  go_wp2_with fail
  refine CV.out.mono ?_
  rintro e w' ⟨rfl, rfl⟩
  go_wp2_with fail
  go_loopw [21] (fun i wr => ∃ (k : Nat), k ≤ cs.length ∧ i = .int .i64 k ∧ Fr0 w wr ∧ Hid (∀ c ∈ cs.take k, isKnown L c.text)) (fun i _ => cs.length - (intOf i).toNat)
  case atStart => exact ⟨0, Nat.zero_le _, rfl, Fr0.refl w, fun c hc => by simp at hc⟩
  case round =>
    obtain ⟨k, hk, rfl, hfr, HK⟩ := hrel
    by_cases hlt : k < cs.length
    · obtain ⟨b, off, hab, lb, d0, d1, d2⟩ := (HC.out.kept0 hfr) k hlt
      have HT := Lib.hid (List.take_succ_eq_append_getElem hlt)
      subst hab
      generalize cs[k] = c at *
      by_cases hkn : isKnown L c.text
      · have CU := Lib.hid (fun W (hf : Fr0 wr W) => patch_unknown (HS.out.kept0 (hfr.trans hf)) c.text false (by obtain ⟨a1, a2⟩ := hkn; symm; simp; omega))
        have HKN := Lib.hid hkn
        clear hkn
        go_wp2_with fail
        refine (CU.out _ ((Fr0.refl wr).alloc _)).mono ?_
        rintro e w' ⟨rfl, rfl⟩
        go_wp2_with fail
        go_roundw
        case rel => exact ⟨k + 1, by omega, by go_num, hfr.alloc _, fun c' hc' => by rw [HT.out] at hc'; rcases List.mem_append.1 hc' with h | h; exact HK.out c' h; simp at h; subst h; exact HKN.out⟩
        case measure => simp [intOf]; omega
      · have CU := Lib.hid (fun W (hf : Fr0 wr W) => patch_unknown (HS.out.kept0 (hfr.trans hf)) c.text true (by unfold isKnown at hkn; symm; simp; omega))
        clear hkn
        go_wp2_with fail
        refine (CU.out _ ((Fr0.refl wr).alloc _)).mono ?_
        rintro e w' ⟨rfl, rfl⟩
        go_wp2_with fail
        go_ret
        exact ⟨rfl, hfr.alloc _⟩
    · exfalso
      obtain ⟨c, hc1, hc2⟩ := HBAD.out
      exact hc2 (HK.out c (by rw [List.take_of_length_le (by omega)]; exact hc1))

end Go.Proofs.Ytbokcmkbnkncoaa

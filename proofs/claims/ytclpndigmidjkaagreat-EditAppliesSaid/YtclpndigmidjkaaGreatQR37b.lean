/- The walk of evergreenref37.Valid. -/
import Derived.Test.YtclpndigmidjkaaGreatQR37a
set_option linter.unusedSimpArgs false
set_option linter.unusedVariables false
namespace Go.Proofs.YtclpndigmidjkaaGreat
open Go.RowKit

theorem tl_inj {a b : ByteArray} : a.toList = b.toList ↔ a = b := by
  rw [ByteArray.toList_eq, ByteArray.toList_eq]
  constructor
  · intro h
    obtain ⟨x⟩ := a
    obtain ⟨y⟩ := b
    congr 1
    exact Array.toList_inj.1 h
  · rintro rfl
    rfl
theorem sbs_nil (s : ByteArray) : sbs s = [] ↔ s.toList = [] := by
  unfold sbs
  rw [ByteArray.toList_eq, List.map_eq_nil_iff]
theorem tl_some {s : ByteArray} (h : ¬ s.toList = []) : s.toList.isEmpty = false := by
  cases h' : s.toList with
  | nil => exact absurd h' h
  | cons a l => rfl

set_option maxRecDepth 100000 in
set_option maxHeartbeats 2000000 in
theorem ref37_Valid {B : Nat} {w : World} {a : Option Addr} {cap : Nat} {ps : List PS} (hA : RG PS.vals 3 B w a ps) (hl : ps.length ≤ 1000000) (length : Int) (h0 : 0 ≤ length) (h1 : length ≤ 1152921504606846976) (bb : Bool) (hb : validP length (-1) (ps.map PS.pc) = bb) :
    Calls Tryz.prog 24 #[.int .i64 length, .slice a ps.length cap] w fun e w' => e = .returned (.bool bb) ∧ Fr0 w w' := by
  have HA := Lib.hid hA
  have HB := Lib.hid hb
  clear hA hb
  go_enter Tryz.func24, Tryz.ntmps24
  go_wp2_with fail
  go_loopw [5, 10] (fun la i wr => ∃ (k : Nat) (last : Int), k ≤ ps.length ∧ i = .int .i64 k ∧ la = .int .i64 last ∧ Fr0 w wr ∧ Hid (validP length last ((ps.drop k).map PS.pc) = bb)) (fun _ i _ => ps.length - (intOf i).toNat)
  case atStart => exact ⟨0, -1, Nat.zero_le _, rfl, rfl, Fr0.refl w, HB.out⟩
  case round =>
    clear HB
    obtain ⟨k, last, hk, rfl, rfl, hfr, HV⟩ := hrel
    by_cases hlt : k < ps.length
    · obtain ⟨b, off, rfl, lb, _, hc⟩ := (HA.out.kept0 hfr) k hlt
      have c0 := hc 0 _ rfl
      have c1 := hc 1 _ rfl
      have c2 := hc 2 _ rfl
      rw [Nat.add_zero] at c0
      have hv := HV.out
      rw [List.drop_eq_getElem_cons hlt, List.map_cons] at hv
      unfold validP at hv
      clear hc HA HV
      generalize ps[k] = c at *
      cases hfit : fitP length last c.pc with
      | true =>
        rw [hfit, Bool.true_and] at hv
        have HNX := Lib.hid hv
        obtain ⟨t1, t2, t3, t4, t5⟩ := fitP_true hfit
        clear hv hfit
        obtain ⟨ca, cn, cs⟩ := c
        simp only [PS.pc] at t1 t2 t3 t4 t5 HNX c0 c1 c2
        have q1 : decide (ca ≤ last) = false := decide_eq_false (by omega)
        have q2 : decide (ca < 0) = false := decide_eq_false (by omega)
        have q3 : decide (cn < 0) = false := decide_eq_false (by omega)
        have q4 : decide (length < ca) = false := decide_eq_false (by omega)
        have q5 : decide (length - ca < cn) = false := decide_eq_false (by omega)
        by_cases hn : cn = 0
        · have q6 : (cn == 0) = true := by simpa using hn
          have hs : ¬ cs.toList = [] := fun h => t5 ⟨hn, (sbs_nil cs).2 h⟩
          have q7 := tl_some hs
          clear t5 hn
          go_wp2_with fail
          go_roundw
          case rel => exact ⟨k + 1, ca + cn, by omega, by go_num, rfl, hfr.alloc _, HNX⟩
          case measure => simp [intOf]; omega
        · have q6 : (cn == 0) = false := by simpa using hn
          clear t5 hn
          go_wp2_with fail
          go_roundw
          case rel => exact ⟨k + 1, ca + cn, by omega, by go_num, rfl, hfr.alloc _, HNX⟩
          case measure => simp [intOf]; omega
      | false =>
        rw [hfit, Bool.false_and] at hv
        subst hv
        obtain ⟨ca, cn, cs⟩ := c
        have hno : ¬ (0 ≤ ca ∧ 0 ≤ cn ∧ ca + cn ≤ length ∧ last < ca ∧ ¬ (cn = 0 ∧ sbs cs = [])) := by
          intro h
          have : fitP length last (PS.pc ⟨ca, cn, cs⟩) = true := decide_eq_true h
          rw [this] at hfit
          cases hfit
        simp only [PS.pc] at c0 c1 c2
        clear hfit
        have HD : Hid (∀ W, Fr0 w W → (Ending.returned (.bool false) = .returned (.bool false) ∧ Fr0 w W)) := fun W h => ⟨rfl, h⟩
        by_cases a1 : ca < 0
        · clear hno
          go_wp2_with fail
          go_ret
          exact ⟨rfl, hfr.alloc _⟩
        · by_cases a2 : cn < 0
          · clear hno
            go_wp2_with fail
            go_ret
            exact ⟨rfl, hfr.alloc _⟩
          · by_cases a3 : length < ca
            · clear hno
              go_wp2_with fail
              go_ret
              exact ⟨rfl, hfr.alloc _⟩
            · by_cases a4 : length - ca < cn
              · clear hno
                go_wp2_with fail
                go_ret
                exact ⟨rfl, hfr.alloc _⟩
              · by_cases a5 : cn = 0
                · by_cases a6 : cs.toList = []
                  · clear hno
                    have q6 : (cn == 0) = true := by simpa using a5
                    have q7 : cs.toList.isEmpty = true := by rw [a6]; rfl
                    clear a5 a6
                    go_wp2_with fail
                    go_ret
                    exact ⟨rfl, hfr.alloc _⟩
                  · have a7 : ca ≤ last := by
                      refine Classical.byContradiction fun h => hno ⟨by omega, by omega, by omega, by omega, fun h => a6 ((sbs_nil cs).1 h.2)⟩
                    have q7 := tl_some a6
                    have q6 : (cn == 0) = true := by simpa using a5
                    have q8 : decide (ca ≤ last) = true := decide_eq_true a7
                    clear hno a5
                    go_wp2_with fail
                    go_ret
                    exact ⟨rfl, hfr.alloc _⟩
                · have a7 : ca ≤ last := by
                    refine Classical.byContradiction fun h => hno ⟨by omega, by omega, by omega, by omega, fun h => a5 h.1⟩
                  have q6 : (cn == 0) = false := by simpa using a5
                  have q8 : decide (ca ≤ last) = true := decide_eq_true a7
                  clear hno a5
                  go_wp2_with fail
                  go_ret
                  exact ⟨rfl, hfr.alloc _⟩
    · have hv := HV.out
      rw [List.drop_of_length_le (by omega)] at hv
      have HE : Hid (true = bb) := hv
      clear hv HV HA
      go_wp2_with fail
      go_ret
      exact ⟨by rw [← HE.out]; rfl, hfr⟩

end Go.Proofs.YtclpndigmidjkaaGreat

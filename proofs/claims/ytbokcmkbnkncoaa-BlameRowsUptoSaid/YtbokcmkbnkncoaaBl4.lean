/- The walk of blame.Since without patches, version 0. -/
import Derived.Test.YtbokcmkbnkncoaaBl3
set_option linter.unusedSimpArgs false
set_option linter.unusedVariables false
namespace Go.Proofs.Ytbokcmkbnkncoaa
open Go.RowKit

theorem rows0_len (length : Int) : (rows0 length).length = if length = 0 then 0 else 1 := by
  unfold rows0 addRow
  split <;> simp

theorem rows0_ver (length : Int) (k : Nat) (h : k < (rows0 length).length) : (rows0 length)[k].ver = 0 := by
  have hl := rows0_len length
  by_cases h0 : length = 0
  · rw [if_pos h0] at hl; omega
  · rw [if_neg h0] at hl
    have hk : k = 0 := by omega
    subst hk
    unfold rows0 addRow
    simp [h0]

set_option maxRecDepth 100000 in
set_option maxHeartbeats 1000000 in
theorem bl_Since_zero (p : Nat) (length : Int) (w : World) (h0 : 0 ≤ length) (h1 : length ≤ 1152921504606846976) :
    Calls Try.prog 21 #[.pointer (some ⟨p, 0, none⟩), .int .i64 length, .int .i64 0, .slice none 0 0] w fun e w' => e = .returned (.tuple #[.slice none 0 0, .nilIface]) ∧ Fr0 w w' := by
  have C := Lib.hid (bl_Of_zero p length w h0 h1)
  have hv := rows0_ver length
  have hl : (rows0 length).length ≤ 1 := by rw [rows0_len]; split <;> omega
  generalize rows0 length = rs at *
  have HV := Lib.hid hv
  clear hv
  go_enter Try.func21, Try.ntmps21
  go_wp2_with fail
  refine C.out.mono ?_
  rintro e w1 ⟨rv, rfl, ho, hf, hr⟩
  obtain ⟨a, cap, rfl⟩ := owns_form ho
  go_wp2_with fail
  go_loopw [12, 37] (fun l i wr => ∃ k : Nat, k ≤ rs.length ∧ i = .int .i64 k ∧ l = .slice none 0 0 ∧ Fr0 w1 wr) (fun _ i _ => rs.length - (intOf i).toNat)
  case atStart => exact ⟨0, Nat.zero_le _, rfl, rfl, Fr0.refl _⟩
  case round =>
    obtain ⟨k, hk, rfl, rfl, hfr⟩ := hrel
    by_cases hlt : k < rs.length
    · obtain ⟨lb, cap', hrv, hc⟩ := owned_row (hfr.owns ho) (List.getElem?_eq_getElem hlt)
      simp only [Value.slice.injEq] at hrv
      obtain ⟨rfl, _, rfl⟩ := hrv
      have d0 := hc 0 _ rfl
      have d1 := hc 1 _ rfl
      have d2 := hc 2 _ rfl
      have d3 := hc 3 _ rfl
      rw [HV.out k hlt] at d2
      rw [Nat.add_zero] at d0
      have ll := World.block_lt_of_cell? wr _ d0
      clear hc ho hr
      generalize rs[k] = r at *
      go_wp2_with fail
      go_roundw
      case rel => exact ⟨k + 1, by omega, by go_num, rfl, hfr.alloc _⟩
      case measure => simp [intOf]; omega
    · clear ho hr
      go_wp2_with fail
      go_ret2
      exact ⟨rfl, hf.trans hfr⟩

@[go_sem] theorem assert_errno (n : Int) (w : World) : (Instr.typeAssert (.iface 66 (.int .i64 n)) 39 66 true).run Try.prog w = .ok (.tuple #[.int .i64 n, .bool true]) w := by kernel_rfl

set_option maxRecDepth 100000 in
set_option maxHeartbeats 400000 in
theorem base_Num (n : Int) (w : World) :
    Calls Try.prog 16 #[.iface 66 (.int .i64 n)] w fun e w' => e = .returned (.int .i64 n) ∧ w = w' := by
  go_enter Try.func16, Try.ntmps16
  go_wp2_with fail
  go_ret
  exact ⟨rfl, rfl⟩

set_option maxRecDepth 100000 in
set_option maxHeartbeats 400000 in
theorem base_Num_nil (w : World) :
    Calls Try.prog 16 #[.nilIface] w fun e w' => e = .returned (.int .i64 0) ∧ w = w' := by
  go_enter Try.func16, Try.ntmps16
  go_wp2_with fail
  go_ret
  exact ⟨rfl, rfl⟩

set_option maxRecDepth 100000 in
set_option maxHeartbeats 400000 in
theorem base_Is (n : Int) (w : World) (hn : n ≠ 0) :
    Calls Try.prog 22 #[.iface 66 (.int .i64 n), .int .i64 n] w fun e w' => e = .returned (.bool true) ∧ w = w' := by
  have h1 : (n == n) = true := by simp
  have h2 : (n != 0) = true := by simpa using hn
  go_enter Try.func22, Try.ntmps22
  go_wp2_with fail
  refine (base_Num _ _).mono ?_
  rintro e w' ⟨rfl, rfl⟩
  go_wp2_with fail
  go_ret
  exact ⟨by simp, rfl⟩

end Go.Proofs.Ytbokcmkbnkncoaa

/- The walks of evergreenref12.Pick, Length, Known. -/
import Derived.Test.YtclpndigmidjkaaGreatQMk1
set_option linter.unusedSimpArgs false
set_option linter.unusedVariables false
namespace Go.Proofs.YtclpndigmidjkaaGreat
open Go.RowKit

theorem pick_val (n m : Int) (hm : 0 < m) : (if n.tmod m < 0 then n.tmod m + m else n.tmod m) = n % m := by
  have h1 := Int.tmod_eq_emod (a := n) (b := m)
  have h2 := Int.emod_nonneg n (show m ≠ 0 by omega)
  have h3 := Int.emod_lt_of_pos n hm
  have h4 : (m.natAbs : Int) = m := by omega
  by_cases h : 0 ≤ n ∨ m ∣ n
  · rw [if_pos h] at h1
    rw [if_neg (by omega)]
    omega
  · rw [if_neg h] at h1
    rw [if_pos (by omega)]
    omega

set_option maxRecDepth 100000 in
set_option maxHeartbeats 1000000 in
theorem ref12_Pick (n m : Int) (w : World) (h0 : -9223372036854775808 ≤ n) (h1 : n ≤ 9223372036854775807) (hm : 0 < m) (hm2 : m ≤ 1000000) :
    Calls Tryz.prog 54 #[.int .i64 n, .int .i64 m] w fun e w' => e = .returned (.int .i64 (n % m)) ∧ w = w' := by
  have hv := pick_val n m hm
  have hb : -m < n.tmod m ∧ n.tmod m < m := ⟨by have := Int.lt_tmod_of_pos n hm; omega, Int.tmod_lt_of_pos n hm⟩
  have q0 : (m == 0) = false := beq_eq_false_iff_ne.2 (by omega)
  have q1 : (m == -1) = false := beq_eq_false_iff_ne.2 (by omega)
  have hw := IntWalk.i64_in (n.tmod m) (by omega)
  have hw2 := IntWalk.i64_in (n.tmod m + m) (by omega)
  by_cases hneg : n.tmod m < 0
  · rw [if_pos hneg] at hv
    have HV := Lib.hid hv
    have q2 : decide (n.tmod m < 0) = true := decide_eq_true hneg
    clear hv
    go_enter Tryz.func54, Tryz.ntmps54
    go_wp2_with fail
    go_ret
    exact ⟨by show Ending.returned (.int .i64 (n.tmod m + m)) = _; rw [HV.out], rfl⟩
  · rw [if_neg hneg] at hv
    have HV := Lib.hid hv
    have q2 : decide (n.tmod m < 0) = false := decide_eq_false hneg
    clear hv
    go_enter Tryz.func54, Tryz.ntmps54
    go_wp2_with fail
    go_ret
    exact ⟨by show Ending.returned (.int .i64 (n.tmod m)) = _; rw [HV.out], rfl⟩

set_option maxRecDepth 100000 in
set_option maxHeartbeats 1000000 in
theorem ref12_Length_zero (va vb : Value) (w : World) :
    Calls Tryz.prog 15 #[.agg #[va, vb], .int .i64 0] w fun e w' => e = .returned (.int .i64 0) ∧ Fr0 w w' := by
  go_enter Tryz.func15, Tryz.ntmps15
  go_wp2_with fail
  go_ret
  exact ⟨rfl, (Fr0.refl w).alloc _⟩

set_option maxRecDepth 100000 in
set_option maxHeartbeats 1000000 in
theorem ref12_Length_at (va : Value) (b off n cap k : Nat) (id x : Int) (w : World) (hid : id = (k : Int) + 1) (hk : k < n) (hn : n ≤ 1000) (hc : w.cell? ⟨b, off + k, none⟩ = some (.int .i64 x)) :
    Calls Tryz.prog 15 #[.agg #[va, .slice (some ⟨b, off, none⟩) n cap], .int .i64 id] w fun e w' => e = .returned (.int .i64 x) ∧ Fr0 w w' := by
  have hlb : b < w.heap.size := World.block_lt_of_cell? w _ hc
  have q0 : (id == 0) = false := beq_eq_false_iff_ne.2 (by omega)
  have h1 : id - 1 = (k : Int) := by omega
  have h2 : (0 : Int) ≤ (k : Int) := by omega
  have h3 : (k : Int) < (n : Int) := by omega
  have hb : id ≤ 1001 ∧ 1 ≤ id := by omega
  obtain ⟨hb1, hb2⟩ := hb
  clear hid
  go_enter Tryz.func15, Tryz.ntmps15
  go_wp2_with fail
  go_ret
  exact ⟨rfl, (Fr0.refl w).alloc _⟩

theorem ref12_Length {w : World} {va vb : Value} {L : List Ent} (hS : RSt w va vb L) (hl : L.length ≤ 1000) (id : Int) (hk : isKnown L id) :
    Calls Tryz.prog 15 #[.agg #[va, vb], .int .i64 id] w fun e w' => e = .returned (.int .i64 (entAt L id).wt.len) ∧ Fr0 w w' := by
  by_cases h0 : id = 0
  · subst h0
    exact ref12_Length_zero va vb w
  · obtain ⟨k, rfl⟩ : ∃ k : Nat, id = (k : Int) + 1 := ⟨(id - 1).toNat, by have := hk.1; omega⟩
    have hlt : k < L.length := by have := hk.2; omega
    obtain ⟨_, ⟨la, lcap, rfl, hle, _⟩, _, _⟩ := hS
    obtain ⟨b, off, rfl, _, _, hc⟩ := hle k hlt
    have c0 := hc 0 _ rfl
    rw [Nat.mul_one, Nat.add_zero] at c0
    rw [entAt_succ L k hlt]
    exact ref12_Length_at va b off L.length lcap k _ _ w rfl hlt hl c0

set_option maxRecDepth 100000 in
set_option maxHeartbeats 1000000 in
theorem ref12_Known {w : World} {va vb : Value} {L : List Ent} (hS : RSt w va vb L) (hl : L.length ≤ 1000) (id : Int) (b : Bool) (hb : decide (0 ≤ id ∧ id ≤ L.length) = b) :
    Calls Tryz.prog 14 #[.agg #[va, vb], .int .i64 id] w fun e w' => e = .returned (.bool b) ∧ Fr0 w w' := by
  obtain ⟨⟨ra, rcap, rfl, _⟩, _, _, _⟩ := hS
  by_cases h0 : 0 ≤ id
  · by_cases h1 : id ≤ (L.length : Int)
    · have q0 : decide (0 ≤ id) = true := decide_eq_true h0
      have q1 : decide (id ≤ (L.length : Int)) = true := decide_eq_true h1
      obtain rfl : b = true := by rw [← hb]; exact decide_eq_true ⟨h0, h1⟩
      clear hb
      go_enter Tryz.func14, Tryz.ntmps14
      go_wp2_with fail
      go_ret
      exact ⟨rfl, (Fr0.refl w).alloc _⟩
    · have q0 : decide (0 ≤ id) = true := decide_eq_true h0
      have q1 : decide (id ≤ (L.length : Int)) = false := decide_eq_false h1
      obtain rfl : b = false := by rw [← hb]; exact decide_eq_false (fun h => h1 h.2)
      clear hb
      go_enter Tryz.func14, Tryz.ntmps14
      go_wp2_with fail
      go_ret
      exact ⟨rfl, (Fr0.refl w).alloc _⟩
  · have q0 : decide (0 ≤ id) = false := decide_eq_false h0
    obtain rfl : b = false := by rw [← hb]; exact decide_eq_false (fun h => h0 h.1)
    clear hb
    go_enter Tryz.func14, Tryz.ntmps14
    go_wp2_with fail
    go_ret
    exact ⟨rfl, (Fr0.refl w).alloc _⟩

end Go.Proofs.YtclpndigmidjkaaGreat

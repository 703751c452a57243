/- The walks of math/bits.Mul64 (after the library's own worked proof) and of package modular. -/
import Derived.Test.YtclpndigmidjkaaGreatChecked
import Derived.Test.YtclpndigmidjkaaGreatQa
import Derived.Lib.Mul64
import Derived.Laws.Bits64b
import Derived.StillTailTactics
import Derived.Deep.QuietTactic
import Derived.BigQuiet
import Derived.Deep.RegionHeld3
import Derived.Deep.DeepCutAuto
set_option linter.unusedSimpArgs false
set_option linter.unusedVariables false
namespace Go.Proofs.YtclpndigmidjkaaGreat
open Go.RowKit Go.Lib

namespace M64
theorem maskN (a : Nat) (ha : a < 18446744073709551616) : bits .and .u64 (a : Int) 4294967295 = ((a % 4294967296 : Nat) : Int) := by
  have h := bits_and_u64_nat a 4294967295 ha (by omega)
  have e : a &&& 4294967295 = a % 4294967296 := Nat.and_two_pow_sub_one_eq_mod a 32
  rw [e] at h
  exact h
theorem maskP (a : Nat) (ha : a < 18446744073709551616) : bits .and .u64 (a : Int) 2305843009213693951 = ((a % 2305843009213693952 : Nat) : Int) := by
  have h := bits_and_u64_nat a 2305843009213693951 ha (by omega)
  have e : a &&& 2305843009213693951 = a % 2305843009213693952 := Nat.and_two_pow_sub_one_eq_mod a 61
  rw [e] at h
  exact h
theorem divN (a : Nat) : (a : Int) / 4294967296 = ((a / 4294967296 : Nat) : Int) := by omega
theorem mulN (a b : Nat) : (a : Int) * (b : Int) = ((a * b : Nat) : Int) := (Int.natCast_mul a b).symm
theorem addN (a b : Nat) : (a : Int) + (b : Int) = ((a + b : Nat) : Int) := (Int.natCast_add a b).symm
theorem wrapN (a : Nat) (ha : a < 18446744073709551616) : IntKind.u64.wrap (a : Int) = (a : Int) := by rw [IntKind.wrap_u64]; omega
theorem wrapM (a : Nat) : IntKind.u64.wrap (a : Int) = ((a % 18446744073709551616 : Nat) : Int) := by rw [IntKind.wrap_u64]; omega
end M64

set_option maxHeartbeats 1000000 in
theorem bits_Mul64 (x y : Nat) (hx : x < 18446744073709551616) (hy : y < 18446744073709551616) (w : World) :
    Calls Tryz.prog 148 #[.int .u64 x, .int .u64 y] w fun e w' => e = .returned (.tuple #[.int .u64 ((x * y / 18446744073709551616 : Nat) : Int), .int .u64 ((x * y % 18446744073709551616 : Nat) : Int)]) ∧ w = w' := by
  obtain ⟨bd, bt, bw, hhi⟩ := Lib.mul64_hi x y hx hy
  have ba := Lib.half_mul_le (a := x / 4294967296) (b := y / 4294967296) (by omega) (by omega)
  have bb := Lib.half_mul_le (a := x / 4294967296) (b := y % 4294967296) (by omega) (by omega)
  have bc := Lib.half_mul_le (a := x % 4294967296) (b := y / 4294967296) (by omega) (by omega)
  have ba' : x / 4294967296 * (y / 4294967296) < 18446744073709551616 := by omega
  have bb' : x / 4294967296 * (y % 4294967296) < 18446744073709551616 := by omega
  have bc' : x % 4294967296 * (y / 4294967296) < 18446744073709551616 := by omega
  have bh1 : x / 4294967296 * (y / 4294967296) + (x / 4294967296 * (y % 4294967296) + x % 4294967296 * (y % 4294967296) / 4294967296) / 4294967296 < 18446744073709551616 := by omega
  have bh : x / 4294967296 * (y / 4294967296) + (x / 4294967296 * (y % 4294967296) + x % 4294967296 * (y % 4294967296) / 4294967296) / 4294967296 + ((x / 4294967296 * (y % 4294967296) + x % 4294967296 * (y % 4294967296) / 4294967296) % 4294967296 + x % 4294967296 * (y / 4294967296)) / 4294967296 < 18446744073709551616 := by omega
  go_enter Tryz.func148, Tryz.ntmps148
  go_wp2
  simp only [M64.maskN x hx, M64.maskN y hy, M64.divN, M64.mulN, M64.addN, M64.wrapN _ bd, M64.wrapN _ bb', M64.wrapN _ bt, M64.maskN _ bt, M64.wrapN _ bc', M64.wrapN _ bw, M64.wrapN _ ba', M64.wrapN _ bh1, M64.wrapN _ bh, M64.wrapM (x * y)]
  rw [hhi]
  go_ret2
  exact ⟨rfl, rfl⟩

theorem ret_int {k : IntKind} {a b : Int} (h : a = b) : Ending.returned (.int k a) = .returned (.int k b) := by rw [h]

theorem maskI (x : Int) (h0 : 0 ≤ x) (hx : x < 18446744073709551616) : bits .and .u64 x 2305843009213693951 = x % 2305843009213693952 := by
  obtain ⟨n, rfl⟩ := Int.eq_ofNat_of_zero_le h0
  rw [M64.maskP n (by omega)]; omega

theorem red_lt {x s : Int} (h0 : 0 ≤ x) (hx : x < 18446744073709551616) (hs : x % 2305843009213693952 + x / 2305843009213693952 = s) (h : s < 2305843009213693951) : s = x % PP := by
  unfold PP; omega
theorem red_ge {x s : Int} (h0 : 0 ≤ x) (hx : x < 18446744073709551616) (hs : x % 2305843009213693952 + x / 2305843009213693952 = s) (h : 2305843009213693951 ≤ s) : s - 2305843009213693951 = x % PP := by
  unfold PP; omega

set_option maxRecDepth 100000 in
set_option maxHeartbeats 400000 in
theorem mod_Reduce (x : Int) (h0 : 0 ≤ x) (hx : x < 18446744073709551616) (w : World) :
    Calls Tryz.prog 147 #[.int .u64 x] w fun e w' => e = .returned (.int .u64 (x % PP)) ∧ w = w' := by
  obtain ⟨R, hR⟩ : ∃ R, x % PP = R := ⟨_, rfl⟩
  rw [hR]
  have HR := Lib.hid hR
  clear hR
  have hm := maskI x h0 hx
  go_enter Tryz.func147, Tryz.ntmps147
  iterate 30 go_step
  generalize hs : x % 2305843009213693952 + x / 2305843009213693952 = s
  have hb : s < 4611686018427387904 := by omega
  have hb0 : 0 ≤ s := by omega
  have HS := Lib.hid hs
  clear hs hm
  by_cases h : s < 2305843009213693951
  · have HE := Lib.hid (red_lt h0 hx HS.out h)
    go_wp2
    go_ret
    exact ⟨ret_int (HE.out.trans HR.out), rfl⟩
  · have HE := Lib.hid (red_ge h0 hx HS.out (by omega))
    go_wp2
    go_ret
    exact ⟨ret_int (HE.out.trans HR.out), rfl⟩

theorem pp_lt (x : Int) : 0 ≤ x % PP ∧ x % PP < 2305843009213693951 := by unfold PP; omega

theorem add_mod (a b : Int) : (a % PP + b % PP) % PP = (a + b) % PP := by rw [← Int.add_emod]

set_option maxHeartbeats 400000 in
theorem mod_Add (a b : Int) (ha : 0 ≤ a) (ha' : a < 18446744073709551616) (hb : 0 ≤ b) (hb' : b < 18446744073709551616) (w : World) :
    Calls Tryz.prog 139 #[.int .u64 a, .int .u64 b] w fun e w' => e = .returned (.int .u64 ((a + b) % PP)) ∧ w = w' := by
  obtain ⟨R, hR⟩ : ∃ R, (a + b) % PP = R := ⟨_, rfl⟩
  rw [hR]
  have h3 := add_mod a b
  have h4 := pp_lt a
  have h5 := pp_lt b
  rw [hR] at h3
  have H3 := Lib.hid h3
  clear h3 hR
  have c1 := mod_Reduce a ha ha'
  have c2 := mod_Reduce b hb hb'
  generalize a % PP = x at *
  generalize b % PP = y at *
  have C1 := Lib.hid c1
  have C2 := Lib.hid c2
  clear c1 c2
  go_enter Tryz.func139, Tryz.ntmps139
  go_wp2_with fail
  refine (C1.out _).mono ?_
  rintro e w' ⟨rfl, rfl⟩
  go_wp2_with fail
  refine (C2.out _).mono ?_
  rintro e w' ⟨rfl, rfl⟩
  go_wp2_with fail
  refine (mod_Reduce _ (by omega) (by omega) _).mono ?_
  rintro e w' ⟨rfl, rfl⟩
  go_wp2_with fail
  go_ret
  exact ⟨ret_int H3.out, rfl⟩

theorem mul_bound {a b : Int} (h1 : 0 ≤ a) (h2 : a < 2305843009213693951) (h3 : 0 ≤ b) (h4 : b < 2305843009213693951) : 0 ≤ a * b ∧ a * b < 5316911983139663487003542222693990400 := by
  refine ⟨Int.mul_nonneg h1 h3, ?_⟩
  have : a * b ≤ 2305843009213693950 * 2305843009213693950 := Int.mul_le_mul (by omega) (by omega) h3 (by omega)
  omega

theorem mul_fold {a b : Int} (h1 : 0 ≤ a) (h2 : a < 2305843009213693951) (h3 : 0 ≤ b) (h4 : b < 2305843009213693951) :
    (a * b / 18446744073709551616 * 8 + a * b % 18446744073709551616 / 2305843009213693952 + a * b % 18446744073709551616 % 2305843009213693952) % PP = a * b % PP := by
  obtain ⟨h5, h6⟩ := mul_bound h1 h2 h3 h4
  generalize a * b = x at *
  unfold PP
  omega

theorem bits_Mul64I (x y : Int) (hx0 : 0 ≤ x) (hx : x < 18446744073709551616) (hy0 : 0 ≤ y) (hy : y < 18446744073709551616) (w : World) :
    Calls Tryz.prog 148 #[.int .u64 x, .int .u64 y] w fun e w' => e = .returned (.tuple #[.int .u64 (x * y / 18446744073709551616), .int .u64 (x * y % 18446744073709551616)]) ∧ w = w' := by
  obtain ⟨n, rfl⟩ := Int.eq_ofNat_of_zero_le hx0
  obtain ⟨m, rfl⟩ := Int.eq_ofNat_of_zero_le hy0
  refine (bits_Mul64 n m (by omega) (by omega) w).mono ?_
  rintro e w' ⟨rfl, rfl⟩
  refine ⟨?_, rfl⟩
  simp only [Int.natCast_mul, Int.natCast_ediv, Int.natCast_emod]
  rfl

set_option maxRecDepth 100000 in
set_option maxHeartbeats 400000 in
theorem mod_Mul (a b : Int) (ha : 0 ≤ a) (ha' : a < 18446744073709551616) (hb : 0 ≤ b) (hb' : b < 18446744073709551616) (w : World) :
    Calls Tryz.prog 140 #[.int .u64 a, .int .u64 b] w fun e w' => e = .returned (.int .u64 (a * b % PP)) ∧ w = w' := by
  obtain ⟨R, hR⟩ : ∃ R, a * b % PP = R := ⟨_, rfl⟩
  rw [hR]
  have h4 := pp_lt a
  have h5 := pp_lt b
  have h3 := mul_fold h4.1 h4.2 h5.1 h5.2
  have h6 := mul_bound h4.1 h4.2 h5.1 h5.2
  rw [← Int.mul_emod, hR] at h3
  clear hR
  have c1 := mod_Reduce a ha ha'
  have c2 := mod_Reduce b hb hb'
  generalize a % PP = x at *
  generalize b % PP = y at *
  have c3 := bits_Mul64I x y h4.1 (by omega) h5.1 (by omega)
  generalize x * y = z at *
  have hi0 : 0 ≤ z / 18446744073709551616 := by omega
  have hi1 : z / 18446744073709551616 < 288230376151711744 := by omega
  have lo0 : 0 ≤ z % 18446744073709551616 := by omega
  have lo1 : z % 18446744073709551616 < 18446744073709551616 := by omega
  have hm := maskI (z % 18446744073709551616) lo0 lo1
  generalize z / 18446744073709551616 = hi at *
  generalize z % 18446744073709551616 = lo at *
  have H3 := Lib.hid h3
  clear h3
  have C1 := Lib.hid c1
  have C2 := Lib.hid c2
  have C3 := Lib.hid c3
  clear c1 c2 c3
  clear z h6
  go_enter Tryz.func140, Tryz.ntmps140
  go_wp2_with fail
  refine (C1.out _).mono ?_
  rintro e w' ⟨rfl, rfl⟩
  go_wp2_with fail
  refine (C2.out _).mono ?_
  rintro e w' ⟨rfl, rfl⟩
  go_wp2_with fail
  refine (C3.out _).mono ?_
  rintro e w' ⟨rfl, rfl⟩
  go_wp2_with fail
  refine (mod_Reduce _ (by omega) (by omega) _).mono ?_
  rintro e w' ⟨rfl, rfl⟩
  go_wp2_with fail
  go_ret
  exact ⟨ret_int H3.out, rfl⟩

theorem pow_odd (x y : Int) (k : Nat) (h : k % 2 = 1) : ((y * x % PP) * (x * x % PP) ^ (k / 2)) % PP = (y * x ^ k) % PP := by
  have e : x ^ k = x * (x * x) ^ (k / 2) := by
    have : k = 2 * (k / 2) + 1 := by omega
    conv => lhs; rw [this, Int.pow_succ, Int.pow_mul]
    rw [show x ^ 2 = x * x by rw [Int.pow_succ, Int.pow_succ, Int.pow_zero, Int.one_mul], Int.mul_comm]
  rw [e, Int.mul_emod, Int.emod_emod, powm, ← Int.mul_emod, Int.mul_assoc]

theorem pow_even (x y : Int) (k : Nat) (h : k % 2 = 0) : (y * (x * x % PP) ^ (k / 2)) % PP = (y * x ^ k) % PP := by
  have e : x ^ k = (x * x) ^ (k / 2) := by
    have : k = 2 * (k / 2) := by omega
    conv => lhs; rw [this, Int.pow_mul]
    rw [show x ^ 2 = x * x by rw [Int.pow_succ, Int.pow_succ, Int.pow_zero, Int.one_mul]]
  rw [e, Int.mul_emod, powm, ← Int.mul_emod]

set_option maxHeartbeats 800000 in
theorem mod_Pow (a : Int) (n : Nat) (ha : 0 ≤ a) (ha' : a < 18446744073709551616) (hn : n < 18446744073709551616) (w : World) :
    Calls Tryz.prog 138 #[.int .u64 a, .int .u64 n] w fun e w' => e = .returned (.int .u64 (a ^ n % PP)) ∧ w = w' := by
  obtain ⟨R, hR⟩ : ∃ R, a ^ n % PP = R := ⟨_, rfl⟩
  rw [hR]
  have h4 := pp_lt a
  have c1 := mod_Reduce a ha ha' w
  have hR2 : (1 * (a % PP) ^ n) % PP = R := by rw [Int.one_mul, powm, hR]
  clear hR
  generalize a % PP = x at *
  have HR := Lib.hid hR2
  have C1 := Lib.hid c1
  clear hR2 c1
  go_enter Tryz.func138, Tryz.ntmps138
  go_wp2_with fail
  refine C1.out.mono ?_
  rintro e w' ⟨rfl, rfl⟩
  clear C1
  go_wp2_with fail
  go_loop [0, 1, 5] (fun u v z => ∃ (p y : Int) (k : Nat), 0 ≤ p ∧ p < 2305843009213693951 ∧ 0 ≤ y ∧ y < 2305843009213693951 ∧ k ≤ n ∧ u = .int .u64 p ∧ v = .int .u64 k ∧ z = .int .u64 y ∧ Hid ((y * p ^ k) % PP = R)) (fun _ v _ => (intOf v).toNat)
  case atStart => exact ⟨x, 1, n, h4.1, h4.2, by omega, by omega, Nat.le_refl _, rfl, rfl, rfl, HR⟩
  case round =>
    obtain ⟨p, y, k, hp0, hp1, hy0, hy1, hk, rfl, rfl, rfl, HK⟩ := hrel
    by_cases hk0 : 0 < k
    · by_cases ho : k % 2 = 1
      · have e1 := pow_odd p y k ho
        have b1 := pp_lt (y * p)
        have b2 := pp_lt (p * p)
        have c2 := mod_Mul y p hy0 (by omega) hp0 (by omega) w
        have c3 := mod_Mul p p hp0 (by omega) hp0 (by omega) w
        generalize y * p % PP = y' at *
        generalize p * p % PP = p' at *
        rw [HK.out] at e1
        have E1 := Lib.hid e1
        have C2 := Lib.hid c2
        have C3 := Lib.hid c3
        clear e1 c2 c3 HK HR
        have ht : (((k : Int) % 2) == 1) = true := by simp; omega
        go_wp2_with fail
        refine C2.out.mono ?_
        rintro e w' ⟨rfl, rfl⟩
        go_wp2_with fail
        refine C3.out.mono ?_
        rintro e w' ⟨rfl, rfl⟩
        go_wp2_with fail
        go_round
        case rel => exact ⟨p', y', k / 2, b2.1, b2.2, b1.1, b1.2, by omega, rfl, by go_num, rfl, E1⟩
        case measure => simp [intOf]; omega
      · have e1 := pow_even p y k (by omega)
        have b2 := pp_lt (p * p)
        have c3 := mod_Mul p p hp0 (by omega) hp0 (by omega) w
        generalize p * p % PP = p' at *
        rw [HK.out] at e1
        have E1 := Lib.hid e1
        have C3 := Lib.hid c3
        clear e1 c3 HK HR
        have ht : (((k : Int) % 2) == 1) = false := by simp; omega
        go_wp2_with fail
        refine C3.out.mono ?_
        rintro e w' ⟨rfl, rfl⟩
        go_wp2_with fail
        go_round
        case rel => exact ⟨p', y, k / 2, b2.1, b2.2, hy0, hy1, by omega, rfl, by go_num, rfl, E1⟩
        case measure => simp [intOf]; omega
    · obtain rfl : k = 0 := by omega
      have e1 := HK.out
      rw [Int.pow_zero, Int.mul_one, Int.emod_eq_of_lt hy0 (by unfold PP; omega)] at e1
      have E1 := Lib.hid e1
      clear e1 HK HR
      go_wp2_with fail
      go_ret
      exact ⟨ret_int E1.out, rfl⟩

theorem mod_PowI (a n : Int) (ha : 0 ≤ a) (ha' : a < 18446744073709551616) (h0 : 0 ≤ n) (hn : n < 18446744073709551616) (w : World) :
    Calls Tryz.prog 138 #[.int .u64 a, .int .u64 n] w fun e w' => e = .returned (.int .u64 (a ^ n.toNat % PP)) ∧ w = w' := by
  obtain ⟨k, rfl⟩ := Int.eq_ofNat_of_zero_le h0
  exact mod_Pow a k ha ha' (by omega) w

end Go.Proofs.YtclpndigmidjkaaGreat

/- The walks of package length: each function returns what its plain function gives, the world unchanged. -/
set_option linter.unusedSimpArgs false
set_option linter.unusedVariables false
namespace Go.Proofs.YtclpndigmidjkaaGreat
open Go.RowKit

def validB (n : Int) : Bool := decide (0 ≤ n) && decide (n ≤ 1152921504606846976)

/-- The value of an error: nil for 0. -/
def errV (n : Int) : Value := if n = 0 then .nilIface else .iface 52 (.int .i64 n)

set_option maxHeartbeats 400000 in
theorem len_Valid (n : Int) (w : World) :
    Calls Tryz.prog 60 #[.int .i64 n] w fun e w' => e = .returned (.bool (validB n)) ∧ w = w' := by
  by_cases h0 : 0 ≤ n
  all_goals
    go_enter Tryz.func60, Tryz.ntmps60
    go_wp2
    go_ret
    exact ⟨by simp [validB]; try omega, rfl⟩

theorem len_Valid_yes (n : Int) (w : World) (h : 0 ≤ n) (h2 : n ≤ 1152921504606846976) :
    Calls Tryz.prog 60 #[.int .i64 n] w fun e w' => e = .returned (.bool true) ∧ w = w' := by
  refine (len_Valid n w).mono ?_
  rintro e w' ⟨rfl, rfl⟩
  exact ⟨by simp [validB, h, h2], rfl⟩

theorem len_Valid_no (n : Int) (w : World) (h : n < 0 ∨ 1152921504606846976 < n) :
    Calls Tryz.prog 60 #[.int .i64 n] w fun e w' => e = .returned (.bool false) ∧ w = w' := by
  refine (len_Valid n w).mono ?_
  rintro e w' ⟨rfl, rfl⟩
  refine ⟨?_, rfl⟩
  congr 2
  simp only [validB, Bool.and_eq_false_iff, decide_eq_false_iff_not]
  omega

set_option maxHeartbeats 400000 in
theorem len_Clip (n lo hi : Int) (w : World) :
    Calls Tryz.prog 53 #[.int .i64 n, .int .i64 lo, .int .i64 hi] w fun e w' => e = .returned (.int .i64 (if n < lo then lo else if hi < n then hi else n)) ∧ w = w' := by
  go_enter Tryz.func53, Tryz.ntmps53
  go_wp2
  all_goals (go_ret; exact ⟨by simp [*], rfl⟩)

set_option maxHeartbeats 400000 in
theorem len_Add_ok (a b : Int) (w : World) (ha : 0 ≤ a) (hb : 0 ≤ b) (h : a + b ≤ 1152921504606846976) :
    Calls Tryz.prog 65 #[.int .i64 a, .int .i64 b] w fun e w' => e = .returned (.tuple #[.int .i64 (a + b), .nilIface]) ∧ w = w' := by
  go_enter Tryz.func65, Tryz.ntmps65
  go_wp2_with (go_at_call 60; refine (len_Valid_yes _ _ (by omega) (by omega)).mono ?_; rintro e w' ⟨rfl, rfl⟩)
  go_ret2
  exact ⟨rfl, rfl⟩

set_option maxHeartbeats 400000 in
theorem len_Add_long (a b : Int) (w : World) (ha : 0 ≤ a) (ha2 : a ≤ 1152921504606846976) (hb : 0 ≤ b) (hb2 : b ≤ 1152921504606846976) (h : 1152921504606846976 < a + b) :
    Calls Tryz.prog 65 #[.int .i64 a, .int .i64 b] w fun e w' => e = .returned (.tuple #[.int .i64 0, .iface 52 (.int .i64 2)]) ∧ w = w' := by
  go_enter Tryz.func65, Tryz.ntmps65
  go_wp2_with (go_at_call 60; refine (len_Valid_yes _ _ (by omega) (by omega)).mono ?_; rintro e w' ⟨rfl, rfl⟩)
  go_ret2
  exact ⟨rfl, rfl⟩

set_option maxHeartbeats 400000 in
theorem len_Range_ok (f n l : Int) (w : World) (h0 : 0 ≤ f) (h1 : 0 ≤ n) (h2 : f + n ≤ l) (h3 : l ≤ 1152921504606846976) :
    Calls Tryz.prog 62 #[.int .i64 f, .int .i64 n, .int .i64 l] w fun e w' => e = .returned .nilIface ∧ w = w' := by
  go_enter Tryz.func62, Tryz.ntmps62
  go_wp2_with (go_at_call 60; refine (len_Valid_yes _ _ (by omega) (by omega)).mono ?_; rintro e w' ⟨rfl, rfl⟩)
  go_ret
  exact ⟨rfl, rfl⟩

set_option maxHeartbeats 800000 in
theorem len_Range_no (f n l : Int) (w : World) (h2 : f < 0 ∨ n < 0 ∨ l < f ∨ l - f < n) (h3 : 0 ≤ l) (h4 : l ≤ 1152921504606846976) :
    Calls Tryz.prog 62 #[.int .i64 f, .int .i64 n, .int .i64 l] w fun e w' => e = .returned (.iface 52 (.int .i64 1)) ∧ w = w' := by
  by_cases a1 : f < 0
  · go_enter Tryz.func62, Tryz.ntmps62
    go_wp2_with (go_at_call 60; refine (len_Valid_yes _ _ (by omega) (by omega)).mono ?_; rintro e w' ⟨rfl, rfl⟩)
    go_ret
    exact ⟨rfl, rfl⟩
  by_cases a2 : n < 0
  · go_enter Tryz.func62, Tryz.ntmps62
    go_wp2_with (go_at_call 60; refine (len_Valid_yes _ _ (by omega) (by omega)).mono ?_; rintro e w' ⟨rfl, rfl⟩)
    go_ret
    exact ⟨rfl, rfl⟩
  by_cases a3 : l < f
  · go_enter Tryz.func62, Tryz.ntmps62
    go_wp2_with (go_at_call 60; refine (len_Valid_yes _ _ (by omega) (by omega)).mono ?_; rintro e w' ⟨rfl, rfl⟩)
    go_ret
    exact ⟨rfl, rfl⟩
  have a4 : l - f < n := by omega
  clear h2
  go_enter Tryz.func62, Tryz.ntmps62
  go_wp2_with (go_at_call 60; refine (len_Valid_yes _ _ (by omega) (by omega)).mono ?_; rintro e w' ⟨rfl, rfl⟩)
  go_ret
  exact ⟨rfl, rfl⟩

end Go.Proofs.YtclpndigmidjkaaGreat

/- The walks of packages digest and weight. -/
set_option linter.unusedSimpArgs false
set_option linter.unusedVariables false
namespace Go.Proofs.YtclpndigmidjkaaGreat
open Go.RowKit

/-- Nothing that was there has changed. -/
def Fr0 (w w' : World) : Prop := Fr (fun _ => False) w w'

theorem Fr0.refl (w : World) : Fr0 w w := Fr.refl _ w
theorem Fr0.trans {a b c : World} (h : Fr0 a b) (k : Fr0 b c) : Fr0 a c := Fr.trans h k (fun _ h _ => h)
theorem Fr0.drew {a w : World} (h : Fr0 a w) : Fr0 a w.drew := Fr.drew h
theorem Fr0.drewN {a w : World} (h : Fr0 a w) (n : Nat) : Fr0 a (w.drewN n) := Fr.drewN h n
theorem Fr0.alloc {a w : World} (h : Fr0 a w) (o : Obj) : Fr0 a (w.alloc o) := Fr.alloc h o
theorem Fr0.setCell {a w : World} (h : Fr0 a w) (p : Addr) (u : Value) (hp : a.heap.size ≤ p.block) : Fr0 a (w.setCell p u) := Fr.setCell h p u (fun h => by omega)
theorem Fr0.kept {w w' : World} (h : Fr0 w w') {b : Nat} {o : Obj} (hb : w.heap[b]? = some o) : w'.heap[b]? = some o := Fr.kept h hb id
theorem Fr0.cell {w w' : World} (h : Fr0 w w') (b o : Nat) (hp : b < w.heap.size) : w'.cell? ⟨b, o, none⟩ = w.cell? ⟨b, o, none⟩ := Fr.cell h _ hp id
theorem Fr0.frozen {w w' : World} (h : Fr0 w w') (b o : Nat) (hp : b < w.heap.size) : w'.frozen? ⟨b, o, none⟩ = w.frozen? ⟨b, o, none⟩ := World.frozen?_of_block (Fr.block h _ hp id)
theorem Fr0.owns {w w' : World} (h : Fr0 w w') {base : Nat} {e : TypeId} {size : Nat} {v : Value} {n : Nat} {xs : List Value} (ho : w.ownsRow base e size v n xs) : w'.ownsRow base e size v n xs :=
  Fr.owns h ho (fun _ _ => id)
theorem Fr0.below {w w' : World} (h : Fr0 w w') : Below w.heap.size w w' := Fr.below h (Nat.le_refl _) (fun _ h => h.elim)
theorem Fr0.fr {S : Nat → Prop} {w w' : World} (h : Fr0 w w') : Fr S w w' := Fr.mono h (fun _ h _ => h.elim)

/-- What the walk may use of a call that only made new blocks. -/
theorem Fr0.cells {w w' : World} (h : Fr0 w w') : (∀ b o, b < w.heap.size → w'.cell? ⟨b, o, none⟩ = w.cell? ⟨b, o, none⟩) ∧ (∀ b o, b < w.heap.size → w'.frozen? ⟨b, o, none⟩ = w.frozen? ⟨b, o, none⟩) :=
  ⟨fun b o hb => h.cell b o hb, fun b o hb => h.frozen b o hb⟩

theorem calls_sym {P : Program} {f : FuncId} {args : Array Value} {w : World} {v : Value} (h : Calls P f args w fun e w' => e = .returned v ∧ w = w') : Calls P f args w fun e w' => e = .returned v ∧ w' = w :=
  h.mono fun _ _ ⟨a, b⟩ => ⟨a, b.symm⟩

theorem region_still_tail {P : Program} {id : Nat} {Q : Exit → Act → World → Prop} {a : Act} {w : World} {l : List Oper} (n : Nat) (hm : P.follows .mixedOrders = true) (hB : Region.lexTailB .any l.toArray n = true)
    (h : wpStill P l.toArray w.drew (fun a' => wpList P l.toArray Q (l.drop n) a' w.drew) (l.take n) a) : (Code.region id l.toArray true).wp P Q a w := wp_region_still_tail n hm hB h

set_option maxHeartbeats 400000 in
theorem dig_Unit (w : World) :
    Calls Tryz.prog 137 #[] w fun e w' => e = .returned (.agg #[.int .u64 0, .int .u64 1]) ∧ Fr0 w w' := by
  go_enter Tryz.func137, Tryz.ntmps137
  go_wp2
  exact bodyPost_ret (v := .agg #[.int .u64 0, .int .u64 1]) (by simp [results, Tryz.results137, go_sem]) rfl ⟨rfl, by repeat (first | exact Fr0.refl _ | refine Fr0.alloc ?_ _ | refine Fr0.drew ?_)⟩

set_option maxHeartbeats 400000 in
theorem dig_Letter (b : Int) (w : World) (h0 : 0 ≤ b) (h1 : b < 256) :
    Calls Tryz.prog 119 #[.int .u8 b] w fun e w' => e = .returned (.agg #[.int .u64 (b + 1), .int .u64 1103515245]) ∧ Fr0 w w' := by
  go_enter Tryz.func119, Tryz.ntmps119
  go_wp2
  exact bodyPost_ret (v := .agg #[.int .u64 (b + 1), .int .u64 1103515245]) (by simp [results, Tryz.results119, go_sem]) rfl ⟨rfl, by repeat (first | exact Fr0.refl _ | refine Fr0.alloc ?_ _ | refine Fr0.drew ?_)⟩

set_option maxRecDepth 100000 in
set_option maxHeartbeats 800000 in
theorem dig_Join (v1 s1 v2 s2 : Int) (w : World) (a1 : 0 ≤ v1) (a2 : v1 < 18446744073709551616) (a3 : 0 ≤ s1) (a4 : s1 < 18446744073709551616) (b1 : 0 ≤ v2) (b2 : v2 < 18446744073709551616) (b3 : 0 ≤ s2) (b4 : s2 < 18446744073709551616) :
    Calls Tryz.prog 123 #[.agg #[.int .u64 v1, .int .u64 s1], .agg #[.int .u64 v2, .int .u64 s2]] w fun e w' => e = .returned (.agg #[.int .u64 ((v1 * s2 % PP + v2) % PP), .int .u64 (s1 * s2 % PP)]) ∧ Fr0 w w' := by
  have h1 := pp_lt (v1 * s2)
  have c1 := fun w => calls_sym (mod_Mul v1 s2 a1 a2 b3 b4 w)
  have c3 := fun w => calls_sym (mod_Mul s1 s2 a3 a4 b3 b4 w)
  generalize v1 * s2 % PP = x at *
  generalize s1 * s2 % PP = y at *
  have c2 := fun w => calls_sym (mod_Add x v2 h1.1 (by omega) b1 b2 w)
  generalize (x + v2) % PP = z at *
  have C1 := Lib.hid c1
  have C2 := Lib.hid c2
  have C3 := Lib.hid c3
  clear c1 c2 c3 a1 a2 a3 a4 b1 b2 b3 b4 h1
  go_enter Tryz.func123, Tryz.ntmps123
  go_wp2_with fail
  refine region_still_tail 13 (by kernel_rfl) (by kernel_rfl) ?_
  simp only [List.take_succ_cons, List.take_zero, List.drop_succ_cons, List.drop_zero]
  iterate 4 still_step
  still_call (C1.out _)
  iterate 2 still_step
  still_call (C2.out _)
  iterate 4 still_step
  still_call (C3.out _)
  refine wpStill_nil ?_
  go_wp2_with fail
  exact bodyPost_ret (v := .agg #[.int .u64 z, .int .u64 y]) (by simp [results, Tryz.results123, go_sem]) rfl ⟨rfl, by repeat (first | exact Fr0.refl _ | refine Fr0.alloc ?_ _ | refine Fr0.drew ?_ | refine Fr0.setCell ?_ _ _ (by simp; try omega))⟩

end Go.Proofs.YtclpndigmidjkaaGreat

/- The walks of digest.Repeat and of package weight. -/
set_option linter.unusedSimpArgs false
set_option linter.unusedVariables false
namespace Go.Proofs.YtclpndigmidjkaaGreat
open Go.RowKit

theorem region_still {P : Program} {id : Nat} {Q : Exit → Act → World → Prop} {a : Act} {w : World} {l : List Oper} (hm : P.follows .mixedOrders = true) (hB : Region.lexB .any l.toArray = true)
    (h : wpStill P l.toArray w.drew (fun a' => Q .normal a' w.drew) l a) : (Code.region id l.toArray true).wp P Q a w := wp_region_still_lit hm hB h

theorem wrap_u64_id (x : Int) (h0 : 0 ≤ x) (h1 : x < 18446744073709551616) : IntKind.u64.wrap x = x := by rw [IntKind.wrap_u64]; omega

set_option maxHeartbeats 400000 in
theorem wt_Unit (w : World) :
    Calls Tryz.prog 120 #[] w fun e w' => e = .returned (.agg #[.int .i64 0, .int .i64 0, .int .i64 0, .int .i64 0, .int .u64 0, .int .u64 1]) ∧ Fr0 w w' := by
  go_enter Tryz.func120, Tryz.ntmps120
  go_wp2_with fail
  refine (dig_Unit _).mono ?_
  rintro e w1 ⟨rfl, hf⟩
  obtain ⟨hc, hz⟩ := hf.cells
  have hs := hf.size
  simp at hs
  go_wp2_with fail
  exact bodyPost_ret (v := .agg #[.int .i64 0, .int .i64 0, .int .i64 0, .int .i64 0, .int .u64 0, .int .u64 1]) (by simp [results, Tryz.results120, go_sem, hc, hz]) rfl
    ⟨rfl, by (repeat' (first | (with_reducible exact Fr0.refl _) | (with_reducible refine Fr0.setCell ?_ _ _ ?_) | (with_reducible refine Fr0.alloc ?_ _) | (with_reducible refine Fr0.drew ?_) | (with_reducible refine Fr0.trans ?_ hf))) <;> first | omega | (dsimp only; omega) | (simp; done) | (simp; omega)⟩

set_option maxHeartbeats 400000 in
theorem wt_Letter (b : Int) (w : World) (h0 : 0 ≤ b) (h1 : b < 256) :
    Calls Tryz.prog 93 #[.int .u8 b] w fun e w' => e = .returned (.agg (Wt.letter b).vals.toArray) ∧ Fr0 w w' := by
  by_cases hb : b = 10
  · subst hb
    go_enter Tryz.func93, Tryz.ntmps93
    go_wp2_with fail
    refine (dig_Letter _ _ (by omega) (by omega)).mono ?_
    rintro e w1 ⟨rfl, hf⟩
    obtain ⟨hc, hz⟩ := hf.cells
    have hs := hf.size
    simp at hs
    go_wp2_with fail
    exact bodyPost_ret (v := .agg (Wt.letter 10).vals.toArray) (by simp [results, Tryz.results93, go_sem, hc, hz, Wt.letter, Wt.vals]) rfl
      ⟨rfl, by (repeat' (first | (with_reducible exact Fr0.refl _) | (with_reducible refine Fr0.setCell ?_ _ _ ?_) | (with_reducible refine Fr0.alloc ?_ _) | (with_reducible refine Fr0.drew ?_) | (with_reducible refine Fr0.trans ?_ hf))) <;> first | omega | (dsimp only; omega) | (simp; done) | (simp; omega)⟩
  · have hb' : (b == 10) = false := by simpa using hb
    have HB := Lib.hid hb
    clear hb
    go_enter Tryz.func93, Tryz.ntmps93
    go_wp2_with fail
    refine (dig_Letter _ _ (by omega) (by omega)).mono ?_
    rintro e w1 ⟨rfl, hf⟩
    obtain ⟨hc, hz⟩ := hf.cells
    have hs := hf.size
    simp at hs
    go_wp2_with fail
    exact bodyPost_ret (v := .agg (Wt.letter b).vals.toArray) (by simp [results, Tryz.results93, go_sem, hc, hz, Wt.letter, Wt.vals, HB.out]) rfl
      ⟨rfl, by (repeat' (first | (with_reducible exact Fr0.refl _) | (with_reducible refine Fr0.setCell ?_ _ _ ?_) | (with_reducible refine Fr0.alloc ?_ _) | (with_reducible refine Fr0.drew ?_) | (with_reducible refine Fr0.trans ?_ hf))) <;> first | omega | (dsimp only; omega) | (simp; done) | (simp; omega)⟩

set_option maxRecDepth 100000 in
set_option maxHeartbeats 1000000 in
theorem wt_Valid_one (l v s : Int) (w : World) (h0 : 0 ≤ l) (h1 : l ≤ 1152921504606846976) (hv0 : 0 ≤ v) (hv1 : v < 2305843009213693951) (hl : l = 0 → v = 0) (hs : s = 1103515245 ^ l.toNat % PP) :
    Calls Tryz.prog 121 #[.agg #[.int .i64 l, .int .i64 0, .int .i64 l, .int .i64 l, .int .u64 v, .int .u64 s]] w fun e w' => e = .returned (.bool true) ∧ Fr0 w w' := by
  have cp := fun w => calls_sym (mod_PowI 1103515245 l (by omega) (by omega) h0 (by omega) w)
  rw [← hs] at cp
  have CP := Lib.hid cp
  clear cp hs
  by_cases hz : l = 0
  · obtain rfl := hl hz
    subst hz
    go_enter Tryz.func121, Tryz.ntmps121
    go_wp2_with (go_at_call 60; refine (len_Valid_yes _ _ (by omega) (by omega)).mono ?_; rintro e w' ⟨rfl, rfl⟩)
    refine region_still (by kernel_rfl) (by kernel_rfl) ?_
    iterate 6 still_step
    still_call (CP.out _)
    iterate 2 still_step
    refine wpStill_nil ?_
    go_wp2_with fail
    go_ret
    exact ⟨by simp, by repeat (first | exact Fr0.refl _ | refine Fr0.alloc ?_ _ | refine Fr0.drew ?_)⟩
  · have hz' : (l == 0) = false := by simpa using hz
    clear hl hz
    go_enter Tryz.func121, Tryz.ntmps121
    go_wp2_with (go_at_call 60; refine (len_Valid_yes _ _ (by omega) (by omega)).mono ?_; rintro e w' ⟨rfl, rfl⟩)
    have hwr := wrap_u64_id l h0 (by omega)
    refine region_still (by kernel_rfl) (by kernel_rfl) ?_
    iterate 6 still_step
    still_call (CP.out _)
    iterate 2 still_step
    refine wpStill_nil ?_
    clear hwr
    go_wp2_with fail
    go_ret
    exact ⟨by simp, by repeat (first | exact Fr0.refl _ | refine Fr0.alloc ?_ _ | refine Fr0.drew ?_)⟩

end Go.Proofs.YtclpndigmidjkaaGreat

/- The walks of weight.Valid, weight.Join. -/
set_option linter.unusedSimpArgs false
set_option linter.unusedVariables false
namespace Go.Proofs.YtclpndigmidjkaaGreat
open Go.RowKit

set_option maxRecDepth 100000 in
set_option maxHeartbeats 1000000 in
theorem wt_Valid_more (l n h t v s : Int) (w : World) (h0 : 0 ≤ l) (h1 : l ≤ 1152921504606846976) (hv0 : 0 ≤ v) (hv1 : v < 2305843009213693951)
    (hn : 1 ≤ n) (hh : 0 ≤ h) (ht : 0 ≤ t) (hb : n ≤ l - h - t) (hone : n = 1 → l - h - t = 1) (hs : s = 1103515245 ^ l.toNat % PP) :
    Calls Tryz.prog 121 #[.agg #[.int .i64 l, .int .i64 n, .int .i64 h, .int .i64 t, .int .u64 v, .int .u64 s]] w fun e w' => e = .returned (.bool true) ∧ Fr0 w w' := by
  have cp := fun w => calls_sym (mod_PowI 1103515245 l (by omega) (by omega) h0 (by omega) w)
  rw [← hs] at cp
  have CP := Lib.hid cp
  clear cp hs
  have hz' : (l == 0) = false := by simp; omega
  have hnz : (n == 0) = false := by simp; omega
  by_cases h1n : n = 1
  · have hone' := hone h1n
    have hn1 : (n == 1) = true := by simpa using h1n
    have hb1 : (l - h - t != 1) = false := by simp [hone']
    clear hone h1n hone'
    go_enter Tryz.func121, Tryz.ntmps121
    go_wp2_with (go_at_call 60; refine (len_Valid_yes _ _ (by omega) (by omega)).mono ?_; rintro e w' ⟨rfl, rfl⟩)
    have hwr := wrap_u64_id l h0 (by omega)
    refine region_still (by kernel_rfl) (by kernel_rfl) ?_
    iterate 6 still_step
    still_call (CP.out _)
    iterate 2 still_step
    refine wpStill_nil ?_
    clear hwr
    go_wp2_with fail
    go_ret
    exact ⟨by simp, by repeat (first | exact Fr0.refl _ | refine Fr0.alloc ?_ _ | refine Fr0.drew ?_)⟩
  · have hn1 : (n == 1) = false := by simpa using h1n
    clear hone h1n
    go_enter Tryz.func121, Tryz.ntmps121
    go_wp2_with (go_at_call 60; refine (len_Valid_yes _ _ (by omega) (by omega)).mono ?_; rintro e w' ⟨rfl, rfl⟩)
    have hwr := wrap_u64_id l h0 (by omega)
    refine region_still (by kernel_rfl) (by kernel_rfl) ?_
    iterate 6 still_step
    still_call (CP.out _)
    iterate 2 still_step
    refine wpStill_nil ?_
    clear hwr
    go_wp2_with fail
    go_ret
    exact ⟨by simp, by repeat (first | exact Fr0.refl _ | refine Fr0.alloc ?_ _ | refine Fr0.drew ?_)⟩

theorem wt_Valid (t : Wt) (w : World) (h : WOk t) :
    Calls Tryz.prog 121 #[.agg #[.int .i64 t.len, .int .i64 t.lines, .int .i64 t.head, .int .i64 t.tail, .int .u64 t.val, .int .u64 t.scale]] w fun e w' => e = .returned (.bool true) ∧ Fr0 w w' := by
  by_cases hl : t.lines = 0
  · obtain ⟨e1, e2⟩ := h.one hl
    rw [hl, e1, e2]
    exact wt_Valid_one _ _ _ w h.len0 h.len1 h.val0 h.val1 h.empty h.scale
  · obtain ⟨e1, e2, e3, e4⟩ := h.more hl
    have := h.lines0
    exact wt_Valid_more _ _ _ _ _ _ w h.len0 h.len1 h.val0 h.val1 (by omega) e1 e2 e3 e4 h.scale

end Go.Proofs.YtclpndigmidjkaaGreat

/- The walk of weight.Join. -/
set_option linter.unusedSimpArgs false
set_option linter.unusedVariables false
namespace Go.Proofs.YtclpndigmidjkaaGreat
open Go.RowKit

theorem Fr0.size' {w w' : World} (h : Fr0 w w') : w.heap.size ≤ w'.heap.size := Fr.size h

theorem cellS (w : World) (b c o k : Nat) (v : Value) (h : b ≠ c) : (w.setCell ⟨c, o, none⟩ v).cell? ⟨b, k, none⟩ = w.cell? ⟨b, k, none⟩ := World.cell?_of_block (Below.heap_setCell _ _ _ _ h)

theorem set6 {w : World} {b : Nat} {t : TypeId} {f : Nat × Nat} {a0 a1 a2 a3 a4 a5 v0 v1 v2 v3 v4 v5 : Value} (h : w.heap[b]? = some (.cells #[a0, a1, a2, a3, a4, a5] t f)) :
    ((((((w.setCell ⟨b, 0, none⟩ v0).setCell ⟨b, 1, none⟩ v1).setCell ⟨b, 2, none⟩ v2).setCell ⟨b, 3, none⟩ v3).setCell ⟨b, 4, none⟩ v4).setCell ⟨b, 5, none⟩ v5).heap[b]? = some (.cells #[v0, v1, v2, v3, v4, v5] t f) :=
  setCell_block (setCell_block (setCell_block (setCell_block (setCell_block (setCell_block h 0 v0) 1 v1) 2 v2) 3 v3) 4 v4) 5 v5

theorem cellA (w : World) (o : Obj) (b k : Nat) (h : b < w.heap.size) : (w.alloc o).cell? ⟨b, k, none⟩ = w.cell? ⟨b, k, none⟩ := World.cell?_of_block (alloc_lt w o b h)

set_option maxRecDepth 100000 in
set_option maxHeartbeats 2000000 in
theorem wt_Join (a b : Wt) (w : World) (ha : WOk a) (hb : WOk b) (hl : a.len + b.len ≤ 1152921504606846976) :
    Calls Tryz.prog 98 #[.agg #[.int .i64 a.len, .int .i64 a.lines, .int .i64 a.head, .int .i64 a.tail, .int .u64 a.val, .int .u64 a.scale],
      .agg #[.int .i64 b.len, .int .i64 b.lines, .int .i64 b.head, .int .i64 b.tail, .int .u64 b.val, .int .u64 b.scale]] w
      fun e w' => e = .returned (.tuple #[.agg (a.join b).vals.toArray, .nilIface]) ∧ Fr0 w w' := by
  have va := fun w => wt_Valid a w ha
  have vb := fun w => wt_Valid b w hb
  have hd1 := ha.dred
  have hd2 := hb.dred
  have cj := fun w => dig_Join a.val a.scale b.val b.scale w hd1.1.1 (by have := hd1.1.2; simp at this; omega) hd1.2.1 (by have := hd1.2.2; simp at this; omega) hd2.1.1 (by have := hd2.1.2; simp at this; omega) hd2.2.1 (by have := hd2.2.2; simp at this; omega)
  have q1 := ha.len0
  have q2 := hb.len0
  have q3 : 0 ≤ a.lines ∧ a.lines ≤ a.len ∧ 0 ≤ a.head ∧ a.head ≤ a.len ∧ 0 ≤ a.tail ∧ a.tail ≤ a.len := by
    have := ha.lines0
    by_cases e : a.lines = 0
    · have := ha.one e; omega
    · have := ha.more e; omega
  have q4 : 0 ≤ b.lines ∧ b.lines ≤ b.len ∧ 0 ≤ b.head ∧ b.head ≤ b.len ∧ 0 ≤ b.tail ∧ b.tail ≤ b.len := by
    have := hb.lines0
    by_cases e : b.lines = 0
    · have := hb.one e; omega
    · have := hb.more e; omega
  have hj : (a.join b).vals.toArray = #[.int .i64 (a.len + b.len), .int .i64 (a.lines + b.lines), .int .i64 (if a.lines = 0 then a.len + b.head else a.head), .int .i64 (if b.lines = 0 then b.len + a.tail else b.tail), .int .u64 ((a.val * b.scale % PP + b.val) % PP), .int .u64 (a.scale * b.scale % PP)] := rfl
  rw [hj]
  generalize (a.val * b.scale % PP + b.val) % PP = z1 at *
  generalize a.scale * b.scale % PP = z2 at *
  obtain ⟨al, an, ah, at', av, as'⟩ := a
  obtain ⟨bl, bn, bh, bt, bv, bs⟩ := b
  simp only at *
  obtain ⟨hd, hhd⟩ : ∃ x, (if an = 0 then al + bh else ah) = x := ⟨_, rfl⟩
  obtain ⟨tl, htl⟩ : ∃ x, (if bn = 0 then bl + at' else bt) = x := ⟨_, rfl⟩
  rw [hhd, htl]
  have VA := Lib.hid va
  have VB := Lib.hid vb
  have CJ := Lib.hid cj
  clear va vb cj hd1 hd2 ha hb hj
  obtain ⟨r1, r2, r3, r4, r5, r6⟩ := q3
  obtain ⟨s1, s2, s3, s4, s5, s6⟩ := q4
  have HHD := Lib.hid hhd
  have HTL := Lib.hid htl
  clear hhd htl
  go_enter Tryz.func98, Tryz.ntmps98
  go_wp2_with fail
  refine (VA.out _).mono ?_
  rintro e w1 ⟨rfl, hf1⟩
  have hs1 := hf1.size'
  have ha1 : w1.heap[w.heap.size]? = some (.cells #[.int .i64 al, .int .i64 an, .int .i64 ah, .int .i64 at', .int .u64 av, .int .u64 as'] 157 (0, 0)) := hf1.kept (alloc3_0 _ _ _ _)
  have hb1 : w1.heap[w.heap.size + 1]? = some (.cells #[.int .i64 bl, .int .i64 bn, .int .i64 bh, .int .i64 bt, .int .u64 bv, .int .u64 bs] 157 (0, 0)) := hf1.kept (alloc3_1 _ _ _ _)
  have hc1 : w1.heap[w.heap.size + 2]? = some (.cells #[.int .i64 0, .int .i64 0, .int .i64 0, .int .i64 0, .int .u64 0, .int .u64 0] 157 (0, 0)) := hf1.kept (alloc3_2 _ _ _ _)
  have cA : ∀ o, w1.cell? ⟨w.heap.size, o, none⟩ = #[Value.int .i64 al, .int .i64 an, .int .i64 ah, .int .i64 at', .int .u64 av, .int .u64 as'][o]? := cell_of_block ha1
  have cB : ∀ o, w1.cell? ⟨w.heap.size + 1, o, none⟩ = #[Value.int .i64 bl, .int .i64 bn, .int .i64 bh, .int .i64 bt, .int .u64 bv, .int .u64 bs][o]? := cell_of_block hb1
  go_wp2_with fail
  refine (VB.out _).mono ?_
  rintro e w2 ⟨rfl, hf2⟩
  have hs2 := hf2.size'
  have ha2 := hf2.kept ha1
  have hb2 := hf2.kept hb1
  have hc2 := hf2.kept hc1
  have hW2 : Fr0 w w2 := ((((Fr0.refl w).alloc _).alloc _).alloc _).trans (hf1.trans hf2)
  have hsz : w.heap.size + 3 ≤ w2.heap.size := by have := hs1; simp at this; omega
  clear hf1 hf2 hs1 hs2 cA cB ha1 hb1 hc1 VA VB
  have cA0 : w2.cell? ⟨w.heap.size, 0, none⟩ = some (.int .i64 al) := by rw [cell_of_block ha2]; rfl
  have cA1 : w2.cell? ⟨w.heap.size, 1, none⟩ = some (.int .i64 an) := by rw [cell_of_block ha2]; rfl
  have cA2 : w2.cell? ⟨w.heap.size, 2, none⟩ = some (.int .i64 ah) := by rw [cell_of_block ha2]; rfl
  have cA3 : w2.cell? ⟨w.heap.size, 3, none⟩ = some (.int .i64 at') := by rw [cell_of_block ha2]; rfl
  have cA4 : w2.cell? ⟨w.heap.size, 4, none⟩ = some (.int .u64 av) := by rw [cell_of_block ha2]; rfl
  have cA5 : w2.cell? ⟨w.heap.size, 5, none⟩ = some (.int .u64 as') := by rw [cell_of_block ha2]; rfl
  have cB0 : w2.cell? ⟨w.heap.size + 1, 0, none⟩ = some (.int .i64 bl) := by rw [cell_of_block hb2]; rfl
  have cB1 : w2.cell? ⟨w.heap.size + 1, 1, none⟩ = some (.int .i64 bn) := by rw [cell_of_block hb2]; rfl
  have cB2 : w2.cell? ⟨w.heap.size + 1, 2, none⟩ = some (.int .i64 bh) := by rw [cell_of_block hb2]; rfl
  have cB3 : w2.cell? ⟨w.heap.size + 1, 3, none⟩ = some (.int .i64 bt) := by rw [cell_of_block hb2]; rfl
  have cB4 : w2.cell? ⟨w.heap.size + 1, 4, none⟩ = some (.int .u64 bv) := by rw [cell_of_block hb2]; rfl
  have cB5 : w2.cell? ⟨w.heap.size + 1, 5, none⟩ = some (.int .u64 bs) := by rw [cell_of_block hb2]; rfl
  clear w1
  generalize hA : w.heap.size = A at *
  have HA := Lib.hid hA
  clear hA
  have hA2 : A < w2.heap.size := by omega
  have hB2 : A + 1 < w2.heap.size := by omega
  have hC2 : A + 2 < w2.heap.size := by omega
  go_wp2_with fail
  refine (len_Add_ok _ _ _ (by omega) (by omega) (by omega)).mono ?_
  rintro e w' ⟨rfl, rfl⟩
  go_upto_region 6 with fail
  have hneA : A ≠ w2.heap.size := by omega
  have hneB : A + 1 ≠ w2.heap.size := by omega
  have hwr := IntWalk.i64_in (an + bn) (by omega)
  go_cut [8] (fun s8 wx => ∃ D : Nat, s8 = .pointer (some ⟨D, 0, none⟩) ∧ A + 2 < D ∧ Fr0 w2 wx ∧ wx.heap[D]? = some (.cells #[.int .i64 (al + bl), .int .i64 (an + bn), .int .i64 ah, .int .i64 bt, .int .u64 z1, .int .u64 z2] 157 (0, 0)))
  case first =>
    go_region_held3 (fun w' => w'.cell? ⟨A, 1, none⟩ = some (.int .i64 an) ∧ w'.cell? ⟨A + 1, 1, none⟩ = some (.int .i64 bn) ∧ w'.cell? ⟨A, 2, none⟩ = some (.int .i64 ah) ∧ w'.cell? ⟨A + 1, 3, none⟩ = some (.int .i64 bt) ∧
        w'.cell? ⟨A, 4, none⟩ = some (.int .u64 av) ∧ w'.cell? ⟨A, 5, none⟩ = some (.int .u64 as') ∧ w'.cell? ⟨A + 1, 4, none⟩ = some (.int .u64 bv) ∧ w'.cell? ⟨A + 1, 5, none⟩ = some (.int .u64 bs))
      (first | (go_keep; done) | ((try dsimp only); (repeat' apply And.intro); all_goals (first | (go_keep; done) | (go_split_ands; rw [hf3.cell _ _ (by simp; omega)]; assumption) | (go_split_ands; (simp only [cellA _ _ _ _ hA3, cellA _ _ _ _ hB3] at *); assumption) | (go_split_ands; (simp only [cellS _ _ _ _ _ _ hneA, cellS _ _ _ _ _ _ hneB]); assumption))))
      (first | (go_at_call 123; refine (CJ.out _).mono ?_; rintro e w3 ⟨rfl, hf3⟩; obtain ⟨hcc, hcf⟩ := hf3.cells; have hA3 : A < w3.heap.size := (by have hq := hf3.size'; (try simp at hq); omega); have hB3 : A + 1 < w3.heap.size := (by have hq := hf3.size'; (try simp at hq); omega)))
    · go_wp2_with fail
      go_meet
      have hq := hf3.size'
      simp at hq
      exact ⟨_, rfl, by omega, ((Fr0.refl w2).drew.trans hf3).alloc _, alloc_at _ _ _ rfl⟩
    · go_wp2_with fail
      go_meet
      have hq := hf3.size'
      simp at hq
      refine ⟨_, rfl, by omega, ?_, set6 (hf3.kept (alloc_at _ _ _ rfl))⟩
      refine (((((((Fr0.refl w2).drew.alloc _).trans hf3).setCell _ _ ?_).setCell _ _ ?_).setCell _ _ ?_).setCell _ _ ?_ |>.setCell _ _ ?_).setCell _ _ ?_ <;> exact Nat.le_refl _
  case rest =>
    obtain ⟨D, rfl, hD, hfx, hDx⟩ := hcut
    have hax := hfx.kept ha2
    have hbx := hfx.kept hb2
    have hcx := hfx.kept hc2
    clear ha2 hb2 hc2 cA0 cA1 cA2 cA3 cA4 cA5 cB0 cB1 cB2 cB3 cB4 cB5 hwr hneA hneB CJ
    have hWx : Fr0 w wc := hW2.trans hfx
    have lD := lt_of_block hDx
    clear hfx hW2 hsz hA2 hB2 hC2
    clear w2
    have cA0 : wc.cell? ⟨A, 0, none⟩ = some (.int .i64 al) := by rw [cell_of_block hax]; rfl
    have cA1 : wc.cell? ⟨A, 1, none⟩ = some (.int .i64 an) := by rw [cell_of_block hax]; rfl
    have cA3 : wc.cell? ⟨A, 3, none⟩ = some (.int .i64 at') := by rw [cell_of_block hax]; rfl
    have cB0 : wc.cell? ⟨A + 1, 0, none⟩ = some (.int .i64 bl) := by rw [cell_of_block hbx]; rfl
    have cB1 : wc.cell? ⟨A + 1, 1, none⟩ = some (.int .i64 bn) := by rw [cell_of_block hbx]; rfl
    have cB2 : wc.cell? ⟨A + 1, 2, none⟩ = some (.int .i64 bh) := by rw [cell_of_block hbx]; rfl
    have cC0 : wc.cell? ⟨A + 2, 0, none⟩ = some (.int .i64 0) := by rw [cell_of_block hcx]; rfl
    have cC1 : wc.cell? ⟨A + 2, 1, none⟩ = some (.int .i64 0) := by rw [cell_of_block hcx]; rfl
    have cC2 : wc.cell? ⟨A + 2, 2, none⟩ = some (.int .i64 0) := by rw [cell_of_block hcx]; rfl
    have cC3 : wc.cell? ⟨A + 2, 3, none⟩ = some (.int .i64 0) := by rw [cell_of_block hcx]; rfl
    have cC4 : wc.cell? ⟨A + 2, 4, none⟩ = some (.int .u64 0) := by rw [cell_of_block hcx]; rfl
    have cC5 : wc.cell? ⟨A + 2, 5, none⟩ = some (.int .u64 0) := by rw [cell_of_block hcx]; rfl
    have fC : ∀ o, wc.frozen? ⟨A + 2, o, none⟩ = false := fun o => frozen_of_block hcx o
    have cD0 : wc.cell? ⟨D, 0, none⟩ = some (.int .i64 (al + bl)) := by rw [cell_of_block hDx]; rfl
    have cD1 : wc.cell? ⟨D, 1, none⟩ = some (.int .i64 (an + bn)) := by rw [cell_of_block hDx]; rfl
    have cD2 : wc.cell? ⟨D, 2, none⟩ = some (.int .i64 ah) := by rw [cell_of_block hDx]; rfl
    have cD3 : wc.cell? ⟨D, 3, none⟩ = some (.int .i64 bt) := by rw [cell_of_block hDx]; rfl
    have cD4 : wc.cell? ⟨D, 4, none⟩ = some (.int .u64 z1) := by rw [cell_of_block hDx]; rfl
    have cD5 : wc.cell? ⟨D, 5, none⟩ = some (.int .u64 z2) := by rw [cell_of_block hDx]; rfl
    have fD : ∀ o, wc.frozen? ⟨D, o, none⟩ = false := fun o => frozen_of_block hDx o
    have HX := Lib.hid hax
    clear hax hbx hcx hDx
    have n1 : ¬ A = D := by omega
    have n2 : ¬ A + 1 = D := by omega
    have n3 : ¬ A + 2 = D := by omega
    have n4 : ¬ D = A := by omega
    have n5 : ¬ D = A + 1 := by omega
    have n6 : ¬ D = A + 2 := by omega
    by_cases ea : an = 0 <;> by_cases eb : bn = 0
    · have e1 : al + bh = hd := (if_pos ea).symm.trans HHD.out
      have e2 : bl + at' = tl := (if_pos eb).symm.trans HTL.out
      have ga : (an == 0) = true := by simpa using ea
      have gb : (bn == 0) = true := by simpa using eb
      clear ea eb HHD HTL
      subst e1 e2
      go_wp2_with fail
      exact bodyPost_ret (v := .tuple #[.agg #[.int .i64 (al + bl), .int .i64 (an + bn), .int .i64 (al + bh), .int .i64 (bl + at'), .int .u64 z1, .int .u64 z2], .nilIface]) (by simp [results, Tryz.results98, go_sem, *]) rfl
        ⟨rfl, by
          (repeat' (first | (with_reducible exact hWx) | (with_reducible refine Fr0.setCell ?_ _ _ ?_))) <;> (rw [HA.out]; dsimp only; omega)⟩
    · have e1 : al + bh = hd := (if_pos ea).symm.trans HHD.out
      have e2 : bt = tl := (if_neg eb).symm.trans HTL.out
      have ga : (an == 0) = true := by simpa using ea
      have gb : (bn == 0) = false := by simpa using eb
      clear ea eb HHD HTL
      subst e1 e2
      go_wp2_with fail
      exact bodyPost_ret (v := .tuple #[.agg #[.int .i64 (al + bl), .int .i64 (an + bn), .int .i64 (al + bh), .int .i64 (bt), .int .u64 z1, .int .u64 z2], .nilIface]) (by simp [results, Tryz.results98, go_sem, *]) rfl
        ⟨rfl, by
          (repeat' (first | (with_reducible exact hWx) | (with_reducible refine Fr0.setCell ?_ _ _ ?_))) <;> (rw [HA.out]; dsimp only; omega)⟩
    · have e1 : ah = hd := (if_neg ea).symm.trans HHD.out
      have e2 : bl + at' = tl := (if_pos eb).symm.trans HTL.out
      have ga : (an == 0) = false := by simpa using ea
      have gb : (bn == 0) = true := by simpa using eb
      clear ea eb HHD HTL
      subst e1 e2
      go_wp2_with fail
      exact bodyPost_ret (v := .tuple #[.agg #[.int .i64 (al + bl), .int .i64 (an + bn), .int .i64 (ah), .int .i64 (bl + at'), .int .u64 z1, .int .u64 z2], .nilIface]) (by simp [results, Tryz.results98, go_sem, *]) rfl
        ⟨rfl, by
          (repeat' (first | (with_reducible exact hWx) | (with_reducible refine Fr0.setCell ?_ _ _ ?_))) <;> (rw [HA.out]; dsimp only; omega)⟩
    · have e1 : ah = hd := (if_neg ea).symm.trans HHD.out
      have e2 : bt = tl := (if_neg eb).symm.trans HTL.out
      have ga : (an == 0) = false := by simpa using ea
      have gb : (bn == 0) = false := by simpa using eb
      clear ea eb HHD HTL
      subst e1 e2
      go_wp2_with fail
      exact bodyPost_ret (v := .tuple #[.agg #[.int .i64 (al + bl), .int .i64 (an + bn), .int .i64 (ah), .int .i64 (bt), .int .u64 z1, .int .u64 z2], .nilIface]) (by simp [results, Tryz.results98, go_sem, *]) rfl
        ⟨rfl, by
          (repeat' (first | (with_reducible exact hWx) | (with_reducible refine Fr0.setCell ?_ _ _ ?_))) <;> (rw [HA.out]; dsimp only; omega)⟩

end Go.Proofs.YtclpndigmidjkaaGreat

/- The walks of digest.Repeat and weight.Repeat. -/
set_option linter.unusedSimpArgs false
set_option linter.unusedVariables false
namespace Go.Proofs.YtclpndigmidjkaaGreat
open Go.RowKit

theorem set2 {w : World} {b : Nat} {t : TypeId} {f : Nat × Nat} {a0 a1 v0 v1 : Value} (h : w.heap[b]? = some (.cells #[a0, a1] t f)) :
    ((w.setCell ⟨b, 0, none⟩ v0).setCell ⟨b, 1, none⟩ v1).heap[b]? = some (.cells #[v0, v1] t f) := setCell_block (setCell_block h 0 v0) 1 v1

theorem set2_other {w : World} {b c : Nat} {v0 v1 : Value} (h : c ≠ b) : ((w.setCell ⟨b, 0, none⟩ v0).setCell ⟨b, 1, none⟩ v1).heap[c]? = w.heap[c]? := by
  rw [setCell_other _ _ h, setCell_other _ _ h]

theorem cells2 {w : World} {b : Nat} {x y : Value} {t : TypeId} (h : w.heap[b]? = some (.cells #[x, y] t (0, 0))) :
    w.cell? ⟨b, 0, none⟩ = some x ∧ w.cell? ⟨b, 1, none⟩ = some y ∧ (∀ o, w.frozen? ⟨b, o, none⟩ = false) ∧ b < w.heap.size :=
  ⟨by rw [cell_of_block h]; rfl, by rw [cell_of_block h]; rfl, fun o => frozen_of_block h o, lt_of_block h⟩

theorem dig_JoinD (d e : Int × Int) (w : World) (hd : dred d) (he : dred e) :
    Calls Tryz.prog 123 #[.agg #[.int .u64 d.1, .int .u64 d.2], .agg #[.int .u64 e.1, .int .u64 e.2]] w fun x w' => x = .returned (.agg #[.int .u64 (djoin d e).1, .int .u64 (djoin d e).2]) ∧ Fr0 w w' := by
  obtain ⟨⟨a1, a2⟩, a3, a4⟩ := hd
  obtain ⟨⟨b1, b2⟩, b3, b4⟩ := he
  exact dig_Join d.1 d.2 e.1 e.2 w a1 (by omega) a3 (by omega) b1 (by omega) b3 (by omega)

theorem dstep_odd (e r : Int × Int) (he : dred e) (n : Nat) (h : n % 2 = 1) : djoin (djoin r e) (dpow (djoin e e) (n / 2)) = djoin r (dpow e n) := by
  rw [dpow_double e he, djoin_assoc]
  congr 1
  have h1 : dpow e 1 = e := djoin_unit_left he
  have h2 := dpow_add e he 1 (2 * (n / 2))
  rw [h1] at h2
  rw [← h2]
  congr 1
  omega

theorem dstep_even (e r : Int × Int) (he : dred e) (n : Nat) (h : n % 2 = 0) : djoin r (dpow (djoin e e) (n / 2)) = djoin r (dpow e n) := by
  rw [dpow_double e he]
  congr 2
  omega

end Go.Proofs.YtclpndigmidjkaaGreat

/- The walk of weight.Repeat. -/
set_option linter.unusedSimpArgs false
set_option linter.unusedVariables false
namespace Go.Proofs.YtclpndigmidjkaaGreat
open Go.RowKit

theorem cells6 {w : World} {b : Nat} {x0 x1 x2 x3 x4 x5 : Value} {t : TypeId} (h : w.heap[b]? = some (.cells #[x0, x1, x2, x3, x4, x5] t (0, 0))) :
    w.cell? ⟨b, 0, none⟩ = some x0 ∧ w.cell? ⟨b, 1, none⟩ = some x1 ∧ w.cell? ⟨b, 2, none⟩ = some x2 ∧ w.cell? ⟨b, 3, none⟩ = some x3 ∧ w.cell? ⟨b, 4, none⟩ = some x4 ∧ w.cell? ⟨b, 5, none⟩ = some x5 ∧
    (∀ o, w.frozen? ⟨b, o, none⟩ = false) ∧ b < w.heap.size :=
  ⟨by rw [cell_of_block h]; rfl, by rw [cell_of_block h]; rfl, by rw [cell_of_block h]; rfl, by rw [cell_of_block h]; rfl, by rw [cell_of_block h]; rfl, by rw [cell_of_block h]; rfl, fun o => frozen_of_block h o, lt_of_block h⟩

end Go.Proofs.YtclpndigmidjkaaGreat

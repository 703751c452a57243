/- The walk of Power. -/
import Derived.Test.YtclpndigmidjkaaGreatQc
import Derived.Test.YtclpndigmidjkaaGreatQWtR
set_option linter.unusedSimpArgs false
set_option linter.unusedVariables false
namespace Go.Proofs.YtclpndigmidjkaaGreat
open Go.RowKit

set_option maxRecDepth 100000 in
set_option maxHeartbeats 1000000 in
theorem st_Power_some {w : World} {p mb : Nat} {most : Int} {sv : Value} {L : List Ent} (hS : St w p mb most sv L) (hO : SOk L) (l : Int) (k : Nat) (hl : isKnown L l) (l0 : l ≠ 0) (hk : 2 ≤ k)
    (hlen : (entAt L l).wt.len * k ≤ 1152921504606846976) (j : Nat) (hj : ruleIdx ⟨3, 0, l, 0, k⟩ L = some j) :
    Calls Tryz.prog 56 #[.pointer (some ⟨p, 0, none⟩), .int .i64 l, .int .i64 k] w fun e w' => e = .returned (.tuple #[.int .i64 ((j : Int) + 1), .nilIface]) ∧ Fr0 w w' := by
  have CF := Lib.hid (fun w' (hf : Fr0 w w') => st_find_some (hS.kept0 hf) ⟨3, 0, l, 0, k⟩ j hj)
  have K1 := Lib.hid (fun w' (hf : Fr0 w w') => st_known_yes (hS.kept0 hf) l hl)
  have a1 := fun w' (hf : Fr0 w w') => st_at (hS.kept0 hf) l hl
  have q1 := (hO.at l hl).1.len1
  have q2 := ((hO.at l hl).2.2.2 l0).1
  generalize entAt L l = x at *
  have CM := Lib.hid (fun w' => len_Mul_ok x.wt.len k w' q2 (by omega) hlen q1)
  have A1 := Lib.hid a1
  have hl0 : (l == 0) = false := by simpa using l0
  have hk0 : ((k : Int) == 0) = false := by simp; omega
  have hk1 : ((k : Int) == 1) = false := by simp; omega
  have hk2 : (0 : Int) ≤ (k : Int) := by omega
  clear hS hj a1 hO l0 hl hlen
  go_enter Tryz.func56, Tryz.ntmps56
  go_wp2_with fail
  refine (K1.out _ (Fr0.refl w)).mono ?_
  rintro e w' ⟨rfl, rfl⟩
  go_wp2_with fail
  refine (A1.out _ (Fr0.refl w)).mono ?_
  rintro e w1 ⟨rfl, hf1⟩
  go_wp2_with fail
  refine (CM.out _).mono ?_
  rintro e w' ⟨rfl, rfl⟩
  go_wp2_with fail
  refine (CF.out _ ((hf1.alloc _).alloc _)).mono ?_
  rintro e w4 ⟨rfl, hf4⟩
  have hj1 : ((j : Int) + 1 != 0) = true := by simp; omega
  go_wp2_with fail
  go_ret2
  exact ⟨rfl, ((hf1.alloc _).alloc _).trans hf4⟩

set_option maxRecDepth 100000 in
set_option maxHeartbeats 2000000 in
theorem st_Power_none {w : World} {p mb : Nat} {most : Int} {sv : Value} {L : List Ent} (hS : St w p mb most sv L) (hO : SOk L) (l : Int) (k : Nat) (hl : isKnown L l) (l0 : l ≠ 0) (hk : 2 ≤ k)
    (hlen : (entAt L l).wt.len * k ≤ 1152921504606846976) (hj : ruleIdx (powEnt L l k).rule L = none) (hm : (L.length : Int) < most) (hL : L.length < 1048576) :
    Calls Tryz.prog 56 #[.pointer (some ⟨p, 0, none⟩), .int .i64 l, .int .i64 k] w fun e w' => e = .returned (.tuple #[.int .i64 ((L.length : Int) + 1), .nilIface]) ∧ Stepped w w' p mb most sv (L ++ [powEnt L l k]) := by
  have CF := Lib.hid (fun w' (hf : Fr0 w w') => st_find_none (hS.kept0 hf) ⟨3, 0, l, 0, k⟩ hj hm)
  have K1 := Lib.hid (fun w' (hf : Fr0 w w') => st_known_yes (hS.kept0 hf) l hl)
  have a1 := fun w' (hf : Fr0 w w') => st_at (hS.kept0 hf) l hl
  obtain ⟨v1, v2, v3, v4⟩ := hO.at l hl
  have q1 := v1.len1
  have q2 := (v4 l0).1
  have cj : ∀ w', Calls Tryz.prog 97 #[.agg #[.int .i64 (entAt L l).wt.len, .int .i64 (entAt L l).wt.lines, .int .i64 (entAt L l).wt.head, .int .i64 (entAt L l).wt.tail, .int .u64 (entAt L l).wt.val, .int .u64 (entAt L l).wt.scale], .int .i64 k] w'
      fun e w'' => e = .returned (.tuple #[.agg #[.int .i64 ((entAt L l).wt.rep k).len, .int .i64 ((entAt L l).wt.rep k).lines, .int .i64 ((entAt L l).wt.rep k).head, .int .i64 ((entAt L l).wt.rep k).tail, .int .u64 ((entAt L l).wt.rep k).val, .int .u64 ((entAt L l).wt.rep k).scale], .nilIface]) ∧ Fr0 w' w'' :=
    fun w' => wt_Repeat _ k w' v1 (by omega) q2 hlen
  have ca := fun (t : Wt) (d : Int) w' (hf : Fr0 w w') => st_add' (hS.kept0 hf) ⟨⟨3, 0, l, 0, k⟩, t, d, false⟩ hj hL
  have hx : powEnt L l k = ⟨⟨3, 0, l, 0, k⟩, (entAt L l).wt.rep k, 1 + (entAt L l).depth, false⟩ := rfl
  rw [hx]
  generalize (entAt L l).wt.rep k = t at *
  generalize entAt L l = x at *
  have CM := Lib.hid (fun w' => len_Mul_ok x.wt.len k w' q2 (by omega) hlen q1)
  have A1 := Lib.hid a1
  have CJ := Lib.hid cj
  have CA := Lib.hid ca
  have hl0 : (l == 0) = false := by simpa using l0
  have hk0 : ((k : Int) == 0) = false := by simp; omega
  have hk1 : ((k : Int) == 1) = false := by simp; omega
  have hk2 : (0 : Int) ≤ (k : Int) := by omega
  clear hS hj a1 hO l0 hl hlen cj ca hx v1 v4
  go_enter Tryz.func56, Tryz.ntmps56
  go_wp2_with fail
  refine (K1.out _ (Fr0.refl w)).mono ?_
  rintro e w' ⟨rfl, rfl⟩
  go_wp2_with fail
  refine (A1.out _ (Fr0.refl w)).mono ?_
  rintro e w1 ⟨rfl, hf1⟩
  go_wp2_with fail
  refine (CM.out _).mono ?_
  rintro e w' ⟨rfl, rfl⟩
  go_wp2_with fail
  refine (CF.out _ ((hf1.alloc _).alloc _)).mono ?_
  rintro e w4 ⟨rfl, hf4⟩
  have hx4 := hf4.kept (alloc2_0 _ _ _)
  have hr4 := hf4.kept (alloc2_1 _ _ _)
  have hW4 := ((hf1.alloc _).alloc _).trans hf4
  clear hf4 hf1 CF K1 A1 CM
  generalize w1.heap.size = N at *
  clear w1
  obtain ⟨x5, x6, x7, x8, x9, x10, x11, x12, lx⟩ := cells13 hx4
  obtain ⟨r1, r2, r3, r4, r5, lr⟩ := cells5 hr4
  go_wp2_with fail
  refine (CJ.out _).mono ?_
  rintro e w5 ⟨rfl, hf5⟩
  have hx5 := hf5.kept hx4
  have hr5 := hf5.kept hr4
  have hW5 := hW4.trans hf5
  clear hf5 hW4 x5 x6 x7 x8 x9 x10 x11 x12 lx r1 r2 r3 r4 r5 lr hx4 hr4 CJ
  clear w4
  obtain ⟨x5, x6, x7, x8, x9, x10, x11, x12, lx⟩ := cells13 hx5
  obtain ⟨r1, r2, r3, r4, r5, lr⟩ := cells5 hr5
  clear x5 x6 x7 x8 x9 x10 hx5 hr5
  have n1 : ¬ w5.heap.size = N := by omega
  have n2 : ¬ w5.heap.size = N + 1 := by omega
  go_wp2_with fail
  refine (CA.out _ _ _ (hW5.alloc _)).mono ?_
  rintro e w6 ⟨rfl, hst⟩
  go_wp2_with fail
  go_ret2
  exact ⟨rfl, hst.before (hW5.alloc _)⟩

theorem st_Power {w : World} {p mb : Nat} {most : Int} {sv : Value} {L : List Ent} (hS : St w p mb most sv L) (hO : SOk L) (l : Int) (k : Nat) (hl : isKnown L l) (l0 : l ≠ 0) (hk : 2 ≤ k)
    (hlen : (entAt L l).wt.len * k ≤ 1152921504606846976) (hm : (L.length : Int) < most) (hL : L.length < 1048576) :
    Calls Tryz.prog 56 #[.pointer (some ⟨p, 0, none⟩), .int .i64 l, .int .i64 k] w fun e w' => e = .returned (.tuple #[.int .i64 (addI L (powEnt L l k)), .nilIface]) ∧ Stepped w w' p mb most sv (addL L (powEnt L l k)) := by
  cases hj : ruleIdx (powEnt L l k).rule L with
  | some j =>
    rw [addI_some hj, addL_some hj]
    exact (st_Power_some hS hO l k hl l0 hk hlen j hj).mono fun e w' ⟨h1, h2⟩ => ⟨h1, Stepped.same hS h2⟩
  | none =>
    rw [addI_none hj, addL_none hj]
    exact st_Power_none hS hO l k hl l0 hk hlen hj hm hL

end Go.Proofs.YtclpndigmidjkaaGreat
